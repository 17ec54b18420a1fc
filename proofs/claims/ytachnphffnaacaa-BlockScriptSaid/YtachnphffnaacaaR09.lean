/- A part of a proof: see the last text of this claim. -/
import Derived.Test.YtachnphffnaacaaQ09e
set_option linter.unusedVariables false
open Go Go.GV
namespace Go.Proofs

def secL (f : Nat → ByteArray) (z : Nat) : List ByteArray := (List.range z).map f
def waitL (w : Int → List ByteArray) (z : Nat) : List (List ByteArray) := (List.range z).map fun i : Nat => w (i : Int)
theorem secL_len (f : Nat → ByteArray) (z : Nat) : (secL f z).length = z := by simp [secL]
theorem waitL_len (w : Int → List ByteArray) (z : Nat) : (waitL w z).length = z := by simp [waitL]
theorem secL_get (f : Nat → ByteArray) {z i : Nat} (h : i < z) : (secL f z)[i]? = some (f i) := by simp [secL, h]
theorem waitL_get (w : Int → List ByteArray) {z i : Nat} (h : i < z) : (waitL w z)[i]? = some (w (i : Int)) := by simp [waitL, h]
theorem secL_set (f : Nat → ByteArray) {z i : Nat} (h : i < z) (s : ByteArray) : (secL f z).set i s = secL (fun k => if k = i then s else f k) z := by
  apply List.ext_getElem?
  intro k
  rw [List.getElem?_set]
  by_cases hk : i = k
  · subst hk
    simp [secL, h]
  · by_cases hk2 : k < z
    · simp [secL, hk, hk2, Ne.symm hk]
    · simp [secL, hk, hk2]
theorem waitL_set (w : Int → List ByteArray) {z i : Nat} (h : i < z) (l : List ByteArray) : (waitL w z).set i l = waitL (setW w (i : Int) l) z := by
  apply List.ext_getElem?
  intro k
  rw [List.getElem?_set]
  by_cases hk : i = k
  · subst hk
    simp [waitL, setW, h]
  · by_cases hk2 : k < z
    · have hne : ¬ ((k : Int) = (i : Int)) := by omega
      simp [waitL, setW, hk, hk2, hne]
    · simp [waitL, hk, hk2]

/-- The reference's disk in memory. -/
structure RL (H : Heap) (q : Addr) (z : Nat) (ia : Option Addr) (ic : Nat) (wa : Option Addr) (wc : Nat) (hs : List Hd) (T S : List Nat) (m : Dk) : Prop where
  blk : Blk H q [.slice ia z ic, .slice wa z wc, .bool m.off, .int .i64 m.left, .int .u64 m.keep, .int .i64 m.calls]
  is : Own GV.encStr 9 0 H ia z ic (secL m.is z)
  wait : Nest 0 H wa z wc hs (waitL m.wait z) T
  qT : q.block ∉ T
  qi : q.block ∉ blkL ia
  iT : Dj (blkL ia) T
  foot : q.block ∈ S ∧ (∀ k ∈ blkL ia, k ∈ S) ∧ (∀ k ∈ T, k ∈ S)
  size : m.size = z ∧ 8 ≤ z ∧ z ≤ 512
  out : ∀ i : Int, i < 0 ∨ (z : Int) ≤ i → m.wait i = []
structure RRep (H : Heap) (q : Addr) (S : List Nat) (m : Dk) (N : Nat) : Prop where
  it : ∃ z ia ic wa wc hs T, RL H q z ia ic wa wc hs T S m
  left : 0 ≤ m.left ∧ m.left ≤ 9223372036854775807
  calls : 0 ≤ m.calls ∧ m.calls ≤ N
  wlen : ∀ k, (m.wait k).length ≤ N
  inS : In H S

theorem RL.fr {H H' : Heap} {q : Addr} {z : Nat} {ia : Option Addr} {ic : Nat} {wa : Option Addr} {wc : Nat} {hs : List Hd} {T S U : List Nat} {m : Dk} (h : RL H q z ia ic wa wc hs T S m) (hf : Fr U H H') (hn : Dj S U) : RL H' q z ia ic wa wc hs T S m :=
  ⟨h.blk.fr hf (hn _ h.foot.1), h.is.fr hf (fun ad ea => hn _ (h.foot.2.1 _ (by simp [blkL, ea]))), h.wait.fr hf (fun k hk => hn _ (h.foot.2.2 k hk)), h.qT, h.qi, h.iT, h.foot, h.size, h.out⟩
theorem RRep.fr {H H' : Heap} {q : Addr} {S U : List Nat} {m : Dk} {N : Nat} (h : RRep H q S m N) (hf : Fr U H H') (hn : Dj S U) : RRep H' q S m N := by
  obtain ⟨z, ia, ic, wa, wc, hs, T, hd⟩ := h.it
  exact ⟨⟨z, ia, ic, wa, wc, hs, T, hd.fr hf hn⟩, h.left, h.calls, h.wlen, h.inS.le hf.size⟩
theorem RRep.keep {H H' : Heap} {q : Addr} {S : List Nat} {m : Dk} {N : Nat} (h : RRep H q S m N) (hf : Fr [] H H') : RRep H' q S m N := h.fr hf (fun _ _ => by simp)
theorem RRep.mono {H : Heap} {q : Addr} {S : List Nat} {m : Dk} {N N' : Nat} (h : RRep H q S m N) (hN : N ≤ N') : RRep H q S m N' := ⟨h.it, h.left, ⟨h.calls.1, by have := h.calls.2; omega⟩, fun k => Nat.le_trans (h.wlen k) hN, h.inS⟩

theorem RL.ldI {H : Heap} {q : Addr} {z : Nat} {ia : Option Addr} {ic : Nat} {wa : Option Addr} {wc : Nat} {hs : List Hd} {T S : List Nat} {m : Dk} (h : RL H q z ia ic wa wc hs T S m) : Ld Try.prog 37 H q (.slice ia z ic) := h.blk.ld0 (by kernel_rfl) rfl
theorem RL.ldW {H : Heap} {q : Addr} {z : Nat} {ia : Option Addr} {ic : Nat} {wa : Option Addr} {wc : Nat} {hs : List Hd} {T S : List Nat} {m : Dk} (h : RL H q z ia ic wa wc hs T S m) : Ld Try.prog 42 H (q.add 1) (.slice wa z wc) := h.blk.ld (by kernel_rfl) rfl
theorem RL.ldOff {H : Heap} {q : Addr} {z : Nat} {ia : Option Addr} {ic : Nat} {wa : Option Addr} {wc : Nat} {hs : List Hd} {T S : List Nat} {m : Dk} (h : RL H q z ia ic wa wc hs T S m) : Ld Try.prog 4 H (q.add 2) (.bool m.off) := h.blk.ld (by kernel_rfl) rfl
theorem RL.ldLeft {H : Heap} {q : Addr} {z : Nat} {ia : Option Addr} {ic : Nat} {wa : Option Addr} {wc : Nat} {hs : List Hd} {T S : List Nat} {m : Dk} (h : RL H q z ia ic wa wc hs T S m) : Ld Try.prog 3 H (q.add 3) (.int .i64 m.left) := h.blk.ld (by kernel_rfl) rfl
theorem RL.ldKeep {H : Heap} {q : Addr} {z : Nat} {ia : Option Addr} {ic : Nat} {wa : Option Addr} {wc : Nat} {hs : List Hd} {T S : List Nat} {m : Dk} (h : RL H q z ia ic wa wc hs T S m) : Ld Try.prog 22 H (q.add 4) (.int .u64 m.keep) := h.blk.ld (by kernel_rfl) rfl
theorem RL.ldCalls {H : Heap} {q : Addr} {z : Nat} {ia : Option Addr} {ic : Nat} {wa : Option Addr} {wc : Nat} {hs : List Hd} {T S : List Nat} {m : Dk} (h : RL H q z ia ic wa wc hs T S m) : Ld Try.prog 3 H (q.add 5) (.int .i64 m.calls) := h.blk.ld (by kernel_rfl) rfl

/-- A field of the struct is set. -/
theorem RL.stF {H : Heap} {q : Addr} {z : Nat} {ia : Option Addr} {ic : Nat} {wa : Option Addr} {wc : Nat} {hs : List Hd} {T S : List Nat} {m : Dk} (m' : Dk) {t : TypeId} {j : Nat} {v : Value} {X : Heap → Prop} (h : RL H q z ia ic wa wc hs T S m) (hs1 : szOf Try.prog t = 1) (hi : (Try.prog.info? t).isSome = true) (hv : v.cells = #[v]) (h1 : v.oneCell' = true) (hj : j < 6)
    (e1 : m'.size = m.size) (e2 : m'.is = m.is) (e3 : m'.wait = m.wait) (e4 : ([.slice ia z ic, .slice wa z wc, .bool m.off, .int .i64 m.left, .int .u64 m.keep, .int .i64 m.calls] : List Value).set j v = [.slice ia z ic, .slice wa z wc, .bool m'.off, .int .i64 m'.left, .int .u64 m'.keep, .int .i64 m'.calls])
    (k : ∀ H', RL H' q z ia ic wa wc hs T S m' → Fr [q.block] H H' → X H') : ∃ H', St Try.prog t H (q.add j) v H' ∧ X H' := by
  refine Blk.set h.blk hs1 hi hv h1 (by simpa using hj) fun H' hb hf => k H' ⟨?_, ?_, ?_, h.qT, h.qi, h.iT, h.foot, by rw [e1]; exact h.size, by rw [e3]; exact h.out⟩ hf
  · rwa [e4] at hb
  · rw [e2]; exact h.is.fr hf fun ad ea => by simp only [List.mem_singleton]; intro e; exact h.qi (by simp [blkL, ea, e])
  · rw [e3]; exact h.wait.fr hf fun k hk => by simp only [List.mem_singleton]; intro e; exact h.qT (e ▸ hk)
/-- What lasts in a sector is set. -/
theorem RL.setIs {H : Heap} {q : Addr} {z : Nat} {ia : Option Addr} {ic : Nat} {wa : Option Addr} {wc : Nat} {hs : List Hd} {T S : List Nat} {m : Dk} {i : Nat} {zi : Int} {s : ByteArray} {b : Bool} {X : Heap → Prop} (h : RL H q z ia ic wa wc hs T S m) (hz : zi = i) (hi : i < z) (hb : b = true)
    (k : ∀ H', RL H' q z ia ic wa wc hs T S { m with is := fun k => if k = i then s else m.is k } → Fr S H H' → X H') : exSome ia fun ad => chk b (∃ H', St Try.prog 9 H (ad.add (zi.toNat * 1)) (.string s) H' ∧ X H') := by
  refine own_put (E := GV.encStr) s h.is hz hi hb rfl (by kernel_rfl) (by kernel_rfl) fun H' ho hf => k H' ⟨h.blk.fr hf h.qi, ?_, h.wait.fr hf h.iT.symm, h.qT, h.qi, h.iT, h.foot, h.size, h.out⟩ (hf.mono h.foot.2.1)
  rwa [secL_set _ hi] at ho
/-- What waits for a sector is put anew. -/
theorem RL.setWait {H H2 : Heap} {q : Addr} {z : Nat} {ia : Option Addr} {ic : Nat} {wa : Option Addr} {wc : Nat} {hs : List Hd} {T S : List Nat} {m : Dk} {i : Nat} {zi : Int} {a' : Option Addr} {n' c' : Nat} {xs' : List ByteArray} {b : Bool} {X : Heap → Prop} (h : RL H q z ia ic wa wc hs T S m) (hin : In H S) (hz : zi = i) (hi : i < z) (hb : b = true)
    (hf : Fr [] H H2) (ho : Own GV.encStr 9 0 H2 a' n' c' xs') (hg : ∀ k ∈ blkL a', H.size ≤ k)
    (k' : ∀ H3 hs3, RL H3 q z ia ic wa wc hs3 (T ++ blkL a') (S ++ blkL a') { m with wait := setW m.wait (i : Int) xs' } → Fr S H H3 → Grow H S (S ++ blkL a') → In H3 (S ++ blkL a') → X H3) :
    exSome wa fun ad => chk b (∃ H3, St Try.prog 37 H2 (ad.add (zi.toNat * 1)) (.slice a' n' c') H3 ∧ X H3) := by
  have hlen := h.wait.len
  rw [waitL_len] at hlen
  have hh : hs[i]? = some (hs[i]'(by omega)) := by simp
  refine h.wait.put hz hh hb (hf.mono (by simp)) ho (fun k hk => .inr (hg k hk)) fun H3 hN3 hf3 hg3 => ?_
  rw [waitL_set _ hi] at hN3
  have hfS : Fr S H H3 := hf3.mono h.foot.2.2
  have fresh : ∀ k ∈ blkL a', ∀ y ∈ S, k ≠ y := fun k hk y hy e => by have := hg k hk; have := hin y hy; omega
  refine k' H3 _ ⟨h.blk.fr hf3 h.qT, h.is.fr hf3 (fun ad ea => h.iT _ (by simp [blkL, ea])), hN3, ?_, h.qi, ?_, ?_, h.size, ?_⟩ hfS ?_ ?_
  · intro hk
    rcases List.mem_append.1 hk with h1 | h1
    · exact h.qT h1
    · exact fresh _ h1 _ h.foot.1 rfl
  · intro k hk hk2
    rcases List.mem_append.1 hk2 with h1 | h1
    · exact h.iT k hk h1
    · exact fresh _ h1 _ (h.foot.2.1 k hk) rfl
  · refine ⟨by simp [h.foot.1], fun k hk => by simp [h.foot.2.1 k hk], fun k hk => ?_⟩
    rcases List.mem_append.1 hk with h1 | h1
    · simp [h.foot.2.2 k h1]
    · simp [h1]
  · intro j hj
    simp only [setW]
    rw [if_neg (by omega)]
    exact h.out j hj
  · intro k hk
    rcases List.mem_append.1 hk with h1 | h1
    · exact .inl h1
    · exact .inr (hg k h1)
  · refine In.app (hin.le hfS.size) fun k hk => hN3.inS k (by simp [hk])

/-- The list that waits, its header loaded. -/
theorem RL.getW {H : Heap} {q : Addr} {z : Nat} {ia : Option Addr} {ic : Nat} {wa : Option Addr} {wc : Nat} {hs : List Hd} {T S : List Nat} {m : Dk} {i : Nat} {zi : Int} {b : Bool} {X : Addr → Prop} (h : RL H q z ia ic wa wc hs T S m) (hz : zi = i) (hi : i < z) (hb : b = true)
    (hk : ∀ ad a n c, Ld Try.prog 37 H (ad.add (zi.toNat * 1)) (.slice a n c) → Own GV.encStr 9 0 H a n c (m.wait (i : Int)) → X ad) : exSome wa fun ad => chk b (X ad) := by
  have hlen := h.wait.len
  rw [waitL_len] at hlen
  have hh : hs[i]? = some (hs[i]'(by omega)) := by simp
  exact h.wait.get hz hh hb fun ad ea hld => hk ad _ _ _ hld (h.wait.ins i _ _ hh (waitL_get _ hi))

/-- Amid a settling of the reference's. -/
def midR (pk : Nat → Nat → Nat) (m : Dk) (i : Nat) : Dk := { m with is := fun k => if k < i then setl pk m k else m.is k, wait := fun k => if 0 ≤ k ∧ k < (i : Int) then [] else m.wait k }
theorem midR_zero (pk : Nat → Nat → Nat) (m : Dk) : midR pk m 0 = m := by
  have h1 : (midR pk m 0).is = m.is := funext fun k => by simp [midR]
  have h2 : (midR pk m 0).wait = m.wait := funext fun k => by simp only [midR]; rw [if_neg (by omega)]
  simp only [midR] at h1 h2 ⊢
  rw [h1, h2]
theorem midR_step {pk : Nat → Nat → Nat} {m : Dk} {i : Nat} : { ({ midR pk m i with is := fun k => if k = i then setl pk m i else (midR pk m i).is k } : Dk) with wait := setW (midR pk m i).wait (i : Int) [] } = midR pk m (i + 1) := by
  have h1 : (fun k => if k = i then setl pk m i else (midR pk m i).is k) = (midR pk m (i + 1)).is := funext fun k => by
    simp only [midR]
    by_cases hk : k = i
    · subst hk; simp
    · rw [if_neg hk]
      by_cases h : k < i
      · rw [if_pos h, if_pos (by omega)]
      · rw [if_neg h, if_neg (by omega)]
  have h2 : setW (midR pk m i).wait (i : Int) [] = (midR pk m (i + 1)).wait := funext fun k => by
    simp only [midR, setW]
    by_cases hk : k = (i : Int)
    · subst hk; rw [if_pos rfl, if_pos (by omega)]
    · rw [if_neg hk]
      by_cases h : 0 ≤ k ∧ k < (i : Int)
      · rw [if_pos h, if_pos (by omega)]
      · rw [if_neg h, if_neg (by omega)]
  rw [h2]
  simp only [h1]
  rfl
theorem midR_skip {pk : Nat → Nat → Nat} {m : Dk} {i : Nat} (h : setl pk m i = m.is i) : { midR pk m i with wait := setW (midR pk m i).wait (i : Int) [] } = midR pk m (i + 1) := by
  rw [← midR_step]
  have : (fun k => if k = i then setl pk m i else (midR pk m i).is k) = (midR pk m i).is := funext fun k => by
    by_cases hk : k = i
    · subst hk; rw [if_pos rfl, h]; simp [midR]
    · rw [if_neg hk]
  rw [this]
theorem midR_wait {pk : Nat → Nat → Nat} {m : Dk} {i : Nat} : (midR pk m i).wait (i : Int) = m.wait (i : Int) := by
  simp only [midR]
  rw [if_neg (by omega)]
theorem RL.done {H : Heap} {q : Addr} {z : Nat} {ia : Option Addr} {ic : Nat} {wa : Option Addr} {wc : Nat} {hs : List Hd} {T S : List Nat} {m : Dk} {pk : Nat → Nat → Nat} (h : RL H q z ia ic wa wc hs T S (midR pk m z)) (hout : ∀ i : Int, i < 0 ∨ (z : Int) ≤ i → m.wait i = []) : RL H q z ia ic wa wc hs T S (settleM pk m) := by
  have e1 : secL (midR pk m z).is z = secL (settleM pk m).is z := List.map_congr_left fun k hk => by
    have := List.mem_range.1 hk
    simp only [midR, settleM]
    rw [if_pos this]
  have e2 : (midR pk m z).wait = (settleM pk m).wait := funext fun k => by
    simp only [midR, settleM]
    split
    · rfl
    · exact hout k (by omega)
  exact ⟨h.blk, by rw [← e1]; exact h.is, by rw [← e2]; exact h.wait, h.qT, h.qi, h.iT, h.foot, h.size, fun _ _ => rfl⟩
end Go.Proofs
