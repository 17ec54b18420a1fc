/- A part of a proof: see the last text of this claim. -/
import Derived.Test.YtachnphffnaacaaQ09c
set_option linter.unusedVariables false
open Go Go.GV
namespace Go.Proofs

abbrev Hd := Option Addr × Nat × Nat
def encSl : Enc Hd := ⟨fun h => [.slice h.1 h.2.1 h.2.2], 1, fun _ => rfl, by decide, fun _ v h => by simp at h; subst h; rfl⟩
theorem elem37 : elemB Try.prog 37 1 24 = true := by kernel_rfl
theorem slice42 : sliceB Try.prog 42 37 = true := by kernel_rfl

/-- Lists of texts, in a list: each in memory of its own. -/
structure Nest (base : Nat) (H : Heap) (oa : Option Addr) (on oc : Nat) (hs : List Hd) (xss : List (List ByteArray)) (S : List Nat) : Prop where
  out : Own encSl 37 base H oa on oc hs
  len : hs.length = xss.length
  ins : ∀ (i : Nat) (h : Hd) (xs : List ByteArray), hs[i]? = some h → xss[i]? = some xs → Own GV.encStr 9 base H h.1 h.2.1 h.2.2 xs
  foot : ∀ k ∈ blkL oa, k ∈ S
  feet : ∀ (i : Nat) (h : Hd), hs[i]? = some h → ∀ k ∈ blkL h.1, k ∈ S ∧ k ∉ blkL oa
  apart : ∀ (i j : Nat) (h g : Hd), i ≠ j → hs[i]? = some h → hs[j]? = some g → Dj (blkL h.1) (blkL g.1)
  inS : In H S
  low : ∀ k ∈ S, base ≤ k
theorem Nest.fr {base : Nat} {H H' : Heap} {oa : Option Addr} {on oc : Nat} {hs : List Hd} {xss : List (List ByteArray)} {S T : List Nat} (h : Nest base H oa on oc hs xss S) (hf : Fr T H H') (hn : Dj S T) : Nest base H' oa on oc hs xss S :=
  ⟨h.out.fr hf (fun ad ea => hn _ (h.foot _ (by simp [blkL, ea]))), h.len, fun i g xs hg hx => (h.ins i g xs hg hx).fr hf (fun ad ea => hn _ (h.feet i g hg ad.block (by simp [blkL, ea])).1), h.foot, h.feet, h.apart, h.inS.le hf.size, h.low⟩
theorem Nest.keep {base : Nat} {H H' : Heap} {oa : Option Addr} {on oc : Nat} {hs : List Hd} {xss : List (List ByteArray)} {S : List Nat} (h : Nest base H oa on oc hs xss S) (hf : Fr [] H H') : Nest base H' oa on oc hs xss S := h.fr hf (fun _ _ => by simp)

/-- A list is put anew: grown where it lay, or in new memory. -/
theorem Nest.put {base : Nat} {H H2 : Heap} {oa : Option Addr} {on oc : Nat} {hs : List Hd} {xss : List (List ByteArray)} {S : List Nat} {i : Nat} {z : Int} {hd : Hd} {a' : Option Addr} {n' c' : Nat} {xs' : List ByteArray} {b : Bool} {X : Heap → Prop}
    (h : Nest base H oa on oc hs xss S) (hz : z = i) (hh : hs[i]? = some hd) (hb : b = true) (hf : Fr (blkL hd.1) H H2) (ho : Own GV.encStr 9 base H2 a' n' c' xs') (hg : ∀ k ∈ blkL a', k ∈ blkL hd.1 ∨ H.size ≤ k)
    (k' : ∀ H3, Nest base H3 oa on oc (hs.set i (a', n', c')) (xss.set i xs') (S ++ blkL a') → Fr S H H3 → Grow H S (S ++ blkL a') → X H3) :
    exSome oa fun ad => chk b (∃ H3, St Try.prog 37 H2 (ad.add (z.toNat * 1)) (.slice a' n' c') H3 ∧ X H3) := by
  have hlt : i < hs.length := (List.getElem?_eq_some_iff.1 hh).1
  have hon := h.out.1
  have hoa2 : ∀ ad, oa = some ad → ad.block ∉ blkL hd.1 := fun ad ea hk => (h.feet i hd hh _ hk).2 (by simp [blkL, ea])
  refine own_put (E := encSl) (k := i) (a', n', c') (h.out.fr hf hoa2) hz (by omega) hb rfl (by kernel_rfl) (by kernel_rfl) fun H3 ho3 hf3 => ?_
  have hfS : Fr S H H3 := hf.trans' hf3 (fun k hk _ => (h.feet i hd hh k hk).1) (fun k hk _ => h.foot k hk)
  have hoaS : ∀ k ∈ blkL oa, k < H.size := fun k hk => h.inS k (h.foot k hk)
  have hout : ∀ k ∈ blkL a', k ∉ blkL oa := fun k hk hk2 => by
    rcases hg k hk with h1 | h1
    · exact (h.feet i hd hh k h1).2 hk2
    · have := hoaS k hk2; omega
  refine k' H3 ⟨ho3, by simp [h.len], fun j g xs hj hx => ?_, fun k hk => by simp [h.foot k hk], fun j g hj k hk => ?_, fun j l g g2 hjl hj hl => ?_, ?_, ?_⟩ hfS ?_
  · rw [List.getElem?_set] at hj hx
    by_cases hij : i = j
    · subst hij
      rw [if_pos rfl, if_pos hlt] at hj
      rw [if_pos rfl, if_pos (by rw [← h.len]; exact hlt)] at hx
      cases hj; cases hx
      exact ho.fr hf3 fun ad ea => hout _ (by simp [blkL, ea])
    · rw [if_neg hij] at hj hx
      refine ((h.ins j g xs hj hx).fr hf fun ad ea => ?_).fr hf3 fun ad ea => (h.feet j g hj _ (by simp [blkL, ea])).2
      exact h.apart j i g hd (Ne.symm hij) hj hh _ (by simp [blkL, ea])
  · rw [List.getElem?_set] at hj
    by_cases hij : i = j
    · subst hij
      rw [if_pos rfl, if_pos hlt] at hj
      cases hj
      exact ⟨by simp [hk], hout k hk⟩
    · rw [if_neg hij] at hj
      have := h.feet j g hj k hk
      exact ⟨by simp [this.1], this.2⟩
  · have other : ∀ (j : Nat) (g : Hd), i ≠ j → hs[j]? = some g → Dj (blkL a') (blkL g.1) := fun j g hij hj k hk hk2 => by
      rcases hg k hk with h1 | h1
      · exact h.apart i j hd g hij hh hj k h1 hk2
      · have := h.inS k (h.feet j g hj k hk2).1; omega
    rw [List.getElem?_set] at hj hl
    by_cases hij : i = j
    · subst hij
      rw [if_pos rfl, if_pos hlt] at hj
      rw [if_neg hjl] at hl
      cases hj
      exact other l g2 hjl hl
    · rw [if_neg hij] at hj
      by_cases hil : i = l
      · subst hil
        rw [if_pos rfl, if_pos hlt] at hl
        cases hl
        exact (other j g hij hj).symm
      · rw [if_neg hil] at hl
        exact h.apart j l g g2 hjl hj hl
  · refine In.app (h.inS.le hfS.size) fun k hk => ?_
    have := (ho.ge k hk).2
    have := hf3.size
    omega
  · intro k hk
    rcases List.mem_append.1 hk with h1 | h1
    · exact h.low k h1
    · exact (ho.ge k h1).1
  · intro k hk
    rcases List.mem_append.1 hk with h1 | h1
    · exact .inl h1
    · rcases hg k h1 with h2 | h2
      · exact .inl (h.feet i hd hh k h2).1
      · exact .inr h2
/-- The header of a list. -/
theorem Nest.get {base : Nat} {H : Heap} {oa : Option Addr} {on oc : Nat} {hs : List Hd} {xss : List (List ByteArray)} {S : List Nat} {i : Nat} {z : Int} {hd : Hd} {b : Bool} {X : Addr → Prop}
    (h : Nest base H oa on oc hs xss S) (hz : z = i) (hh : hs[i]? = some hd) (hb : b = true) (hk : ∀ ad, oa = some ad → Ld Try.prog 37 H (ad.add (z.toNat * 1)) (.slice hd.1 hd.2.1 hd.2.2) → X ad) : exSome oa fun ad => chk b (X ad) :=
  h.out.sl.get hz hh hb fun ad ea hc => hk ad ea (ld_one (by kernel_rfl) hc)
end Go.Proofs
