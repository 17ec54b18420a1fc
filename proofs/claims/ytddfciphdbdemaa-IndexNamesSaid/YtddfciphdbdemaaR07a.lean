/- A part of a proof: see the last text of this claim. -/
import Derived.Test.YtddfciphdbdemaaL07g
import Derived.Test.YtddfciphdbdemaaSh07
import Derived.Test.YtddfciphdbdemaaP07p
import Derived.Test.YtddfciphdbdemaaP07k
set_option linter.unusedVariables false
set_option maxRecDepth 100000
open Go Go.GV
namespace Go.Proofs

theorem rSameS_ok {a b : Option Addr} {n c m d : Nat} {xs ys : List ByteArray} {H : Heap} {K : Bool → Heap → Prop} (hx : Sl GV.encStr H a n c xs) (hy : Sl GV.encStr H b m d ys) (hn : n ≤ 1000000000) (hk : K (decide (xs = ys)) H) :
    CallH Try.prog fn_ref07_Same ⟨[.slice a n c, .slice b m d]⟩ H fun v H' => ∃ r, v = .bool r ∧ K r H' := by
  apply vc_ref07_Same
  have hlx := hx.len
  have hly := hy.len
  refine brB_of (fun h => ⟨_, rfl, ?_⟩) (fun h => ?_)
  · have : ¬ xs = ys := fun e => by subst e; simp at h; omega
    rwa [decide_eq_false this] at hk
  have hnm : n = m := by simp at h; omega
  refine ⟨fun vs H' => match vs with | [.int _ i] => ∃ k : Nat, i = k ∧ k ≤ n ∧ xs.take k = ys.take k ∧ H' = H | _ => False,
    fun vs _ => match vs with | [.int _ i] => n - i.toNat | _ => 0, ⟨0, rfl, by omega, by simp, rfl⟩, ?_⟩
  rintro J i H' ⟨k, rfl, hle, ht, rfl⟩
  refine brB_of (fun h0 => ?_) (fun h0 => ⟨_, rfl, ?_⟩)
  · have h0' : k < n := by simpa using h0
    have hx1 : xs[k]? = some (xs[k]'(by omega)) := by simp
    have hy1 : ys[k]? = some (ys[k]'(by omega)) := by simp
    generalize xs[k]'(by omega) = x at hx1
    generalize ys[k]'(by omega) = y at hy1
    refine hx.get rfl hx1 (decide_eq_true (by omega)) fun ad ea hc => ⟨_, ldS9 hc, ?_⟩
    refine hy.get rfl hy1 (decide_eq_true (by omega)) fun bd eb hd => ⟨_, ldS9 hd, ?_⟩
    rw [beqS]
    refine brB_of (fun h2 => ⟨_, rfl, ?_⟩) (fun h2 => ?_)
    · have : ¬ xs = ys := fun e => by subst e; rw [hx1] at hy1; cases hy1; simp at h2
      rwa [decide_eq_false this] at hk
    · rw [succ64 (by omega)]
      refine ⟨⟨k + 1, rfl, by omega, ?_, rfl⟩, mu_lt h0'⟩
      rw [List.take_add_one, List.take_add_one, hx1, hy1, ht]
      simp at h2
      rw [h2]
  · have e1 : xs.take k = xs := List.take_of_length_le (by simp at h0; omega)
    have e2 : ys.take k = ys := List.take_of_length_le (by simp at h0; omega)
    rw [e1, e2] at ht
    rwa [decide_eq_true ht] at hk

theorem put_ok {base : Nat} {a : Option Addr} {n c : Nat} {xs : List ByteArray} {s : ByteArray} {H : Heap} {K : Option Addr → Nat → Nat → Heap → Prop} (ho : Own GV.encStr 9 base H a n c xs) (hb : base ≤ H.size) (hn : n ≤ 100000000) (hr : RiS xs)
    (hk : ∀ a' n' c' H' ys, Own GV.encStr 9 base H' a' n' c' ys → SetS ys (fun z => z ∈ xs ∨ z = s) → Fr [] H H' → K a' n' c' H') :
    CallH Try.prog fn_ref07_put ⟨[.slice a n c, .string s]⟩ H fun v H' => ∃ a n c, v = .slice a n c ∧ K a n c H' := by
  apply vc_ref07_put
  have hx := ho.sl
  have hlx := hx.len
  intro b0 H1 hn1
  refine ⟨fun vs H' => match vs with
      | [.slice o p q, .bool d, .int _ i] => ∃ (k : Nat) (os : List ByteArray), i = k ∧ k ≤ n ∧ p ≤ k + 1 ∧ Own GV.encStr 9 H.size H' o p q os ∧ SetS os (fun z => z ∈ xs.take k ∨ (d = true ∧ z = s)) ∧ (d = false → ∀ z ∈ xs.take k, ltS z s = true) ∧ (d = true → ∀ j z, k ≤ j → xs[j]? = some z → ltS s z = true) ∧ Fr [] H H'
      | _ => False,
    fun vs _ => match vs with | [_, _, .int _ i] => n - i.toNat | _ => 0, ⟨0, [], rfl, by omega, by omega, Own.made GV.encStr 9 hn1 (Nat.le_refl _), ⟨by unfold RiS; simp, by simp⟩, by simp, by simp, hn1.fr⟩, ?_⟩
  rintro J o p q d i H2 ⟨k, os, rfl, hkn, hpk, ho2, hs, hd0, hd1, hf⟩
  refine brB_of (fun h0 => ?_) (fun h0 => ?_)
  · have h0' : k < n := by simpa using h0
    have hx1 : xs[k]? = some (xs[k]'(by omega)) := by simp
    generalize xs[k]'(by omega) = x at hx1
    have hx2 := hx.keep hf
    have hmt : ∀ z, z ∈ xs.take (k + 1) ↔ z ∈ xs.take k ∨ z = x := fun z => by rw [List.take_add_one, hx1]; simp
    have hlt : ∀ z ∈ xs.take k, ltS z x = true := fun z hz => by
      obtain ⟨j, hj⟩ := List.mem_iff_getElem?.1 hz
      rw [List.getElem?_take] at hj
      split at hj
      · exact ris_lt hr ‹_› hj hx1
      · cases hj
    refine ⟨fun vs H' => match vs with
        | [.slice o p q, .bool d] => ∃ (os : List ByteArray), p ≤ k + 2 ∧ Own GV.encStr 9 H.size H' o p q os ∧ SetS os (fun z => z ∈ xs.take (k + 1) ∨ (d = true ∧ z = s)) ∧ (d = false → ∀ z ∈ xs.take (k + 1), ltS z s = true) ∧ (d = true → ∀ j z, k + 1 ≤ j → xs[j]? = some z → ltS s z = true) ∧ Fr [] H H'
        | _ => False, ?_, ?_⟩
    rotate_left
    · rintro J o p q d H3 ⟨os, h1, h2, h3, h4, h5, h6⟩
      rw [succ64 (by omega)]
      exact ⟨⟨k + 1, os, rfl, by omega, by omega, h2, h3, h4, h5, h6⟩, mu_lt h0'⟩
    refine hx2.get rfl hx1 (decide_eq_true (by omega)) fun ad ea hc => ⟨_, ldS9 hc, ?_⟩
    rw [beqS]
    refine brB_of (fun h1 => ⟨_, _, _, rfl, hk a n c H2 xs (ho.keep hf) ⟨hr, fun z => ?_⟩ hf⟩) (fun h1 => ?_)
    · have := of_decide_eq_true h1
      subst this
      exact ⟨.inl, fun h => h.elim id fun h => h ▸ List.mem_of_getElem? hx1⟩
    have hxs : x ≠ s := of_decide_eq_false h1
    -- what was put, if it was, the next one behind it
    refine ⟨fun vs H' => match vs with
        | [.slice o p q, .bool d] => ∃ (os : List ByteArray), p ≤ k + 1 ∧ Own GV.encStr 9 H.size H' o p q os ∧ SetS os (fun z => z ∈ xs.take k ∨ (d = true ∧ z = s)) ∧ (d = false → ltS x s = true ∧ ∀ z ∈ xs.take k, ltS z s = true) ∧ (d = true → ltS s x = true) ∧ Fr [] H H'
        | _ => False, ?_, ?_⟩
    · refine ⟨fun vs H' => vs = [.bool (!d && ltS s x)] ∧ H' = H2, ?_, ?_⟩
      · refine brB_of (fun h => ?_) (fun h => ?_)
        · have : d = false := by simpa using h
          subst this
          exact hx2.get rfl hx1 (decide_eq_true (by omega)) fun ad ea hc => ⟨_, ldS9 hc, by rw [ltS_of]; simp, rfl⟩
        · have : d = true := by simpa using h
          subst this
          exact ⟨by simp, rfl⟩
      rintro J b1 H3 ⟨e, rfl⟩
      simp only [List.cons.injEq, Value.bool.injEq, and_true] at e
      subst e
      refine brB_of (fun h2 => ?_) (fun h2 => ?_)
      · simp only [Bool.and_eq_true, Bool.not_eq_true'] at h2
        obtain ⟨rfl, h2⟩ := h2
        have hs0 := hd0 rfl
        have hp0 : p ≤ k := by
          have e1 : SetS os (fun z => z ∈ xs.take k) := hs.iff fun z => by simp
          have e2 : os = xs.take k := e1.eq ⟨by unfold RiS; exact hr.sublist (List.take_sublist _ _), fun z => Iff.rfl⟩
          rw [ho2.1, e2, List.length_take]; omega
        refine ap_one (E := GV.encStr) s slice45 elem9 ho2 hf rfl (by omega) fun _ o6 p6 q6 H6 ho6 hf6 _ => ?_
        have := ho6.1
        have := ho2.1
        refine ⟨_, by rw [ho6.1, List.length_append, ← ho2.1]; simp; omega, ho6, ⟨hs.1.snoc fun z hz => ?_, fun z => ?_⟩, by simp, fun _ => h2, hf6⟩
        · rcases (hs.2 z).1 hz with h | h
          · exact hs0 z h
          · cases h.1
        · rw [List.mem_append, hs.2 z]; simp
      · refine ⟨os, hpk, ho2, hs, fun hd => ?_, fun hd => hd1 hd k x (Nat.le_refl _) hx1, hf⟩
        subst hd
        simp only [Bool.not_false, Bool.true_and] at h2
        refine ⟨?_, hd0 rfl⟩
        cases h3 : ltS x s with
        | true => rfl
        | false => exact absurd (ltS_tri h3 h2) hxs
    · rintro J o3 p3 q3 d3 H3 ⟨os3, h1, h2, h3, h4, h5, h6⟩
      refine (hx.keep h6).get rfl hx1 (decide_eq_true (by omega)) fun ad ea hc => ⟨_, ldS9 hc, ?_⟩
      refine ap_one (E := GV.encStr) x slice45 elem9 h2 h6 rfl (by omega) fun _ o6 p6 q6 H6 ho6 hf6 _ => ?_
      refine ⟨_, by rw [ho6.1, List.length_append, ← h2.1]; simp; omega, ho6, ⟨h3.1.snoc fun z hz => ?_, fun z => ?_⟩, fun hd z hz => ?_, fun hd j z hj hz => ?_, hf6⟩
      · rcases (h3.2 z).1 hz with h | h
        · exact hlt z h
        · rw [h.2]; exact h5 h.1
      · rw [List.mem_append, h3.2 z]
        show (z ∈ xs.take k ∨ (d3 = true ∧ z = s)) ∨ z ∈ [x] ↔ (z ∈ xs.take (k + 1) ∨ (d3 = true ∧ z = s))
        rw [hmt, List.mem_singleton]
        constructor
        · rintro ((h | h) | h)
          · exact .inl (.inl h)
          · exact .inr h
          · exact .inl (.inr h)
        · rintro ((h | h) | h)
          · exact .inl (.inl h)
          · exact .inr h
          · exact .inl (.inr h)
      · rcases (hmt z).1 hz with h | h
        · exact (h4 hd).2 z h
        · rw [h]; exact (h4 hd).1
      · exact ltS_trans (h5 hd) (ris_lt hr (by omega) hx1 hz)
  · have hkn' : xs.take k = xs := List.take_of_length_le (by simp at h0; omega)
    rw [hkn'] at hs hd0
    refine brB_of (fun h => ?_) (fun h => ⟨_, _, _, rfl, hk _ _ _ H2 os (ho2.base hb) (hs.iff fun z => ?_) hf⟩)
    · have : d = false := by simpa using h
      subst this
      refine ap_one (E := GV.encStr) s slice45 elem9 ho2 hf rfl (by omega) fun _ o6 p6 q6 H6 ho6 hf6 _ => ⟨_, _, _, rfl, hk _ _ _ H6 _ (ho6.base hb) ⟨hs.1.snoc fun z hz => ?_, fun z => ?_⟩ hf6⟩
      · rcases (hs.2 z).1 hz with h | h
        · exact hd0 rfl z h
        · cases h.1
      · rw [List.mem_append, hs.2 z]; simp
    · have : d = true := by simpa using h
      subst this
      simp
end Go.Proofs
