/- A part of a proof: see the last text of this claim. -/
import Derived.Test.YtddfciphdbdemaaP07e
set_option linter.unusedVariables false
set_option maxRecDepth 100000
open Go Go.GV
namespace Go.Proofs

theorem u69 : Try.prog.underlying 69 = some (.map 9 3) := Try.underlying69
theorem u70 : Try.prog.underlying 70 = some (.map 9 76) := Try.underlying70
theorem u76 : Try.prog.underlying 76 = some (.map 9 40) := Try.underlying76
theorem z3 : zeroOf Try.prog 3 = some (.int .i64 0) := by kernel_rfl
theorem z76 : zeroOf Try.prog 76 = some (.map none) := by kernel_rfl
theorem z40 : zeroOf Try.prog 40 = some (.slice none 0 0) := by kernel_rfl

theorem sl_not {α : Type} {E : Enc α} {H0 : Heap} {a : Option Addr} {n c : Nat} {xs : List α} {U : List Nat} (h : Sl E H0 a n c xs) (hU : ∀ k ∈ U, H0.size ≤ k) : xs ≠ [] → ∀ ad, a = some ad → ad.block ∉ U := fun hx ad e hk => by
  obtain ⟨b, off, e2, hb⟩ := h.arr.lt hx
  rw [e] at e2; cases e2
  have := hU _ hk
  simp at this; omega
theorem sl_fr {α : Type} {E : Enc α} {H H' : Heap} {a : Option Addr} {n c : Nat} {xs : List α} {S : List Nat} (h : Sl E H a n c xs) (hf : Fr S H H') (hn : xs ≠ [] → ∀ ad, a = some ad → ad.block ∉ S) : Sl E H' a n c xs := by
  by_cases hx : xs = []
  · subst hx; exact ⟨h.len, h.cap, .inl rfl⟩
  · exact h.fr hf (hn hx)

theorem New_ok {H : Heap} {K : Option Addr → Heap → Prop} (hk : ∀ H' xb U, IdxH H' xb U [] → (∀ k ∈ U, H.size ≤ k) → Fr [] H H' → K (some ⟨xb, 0, none⟩) H') :
    CallH Try.prog fn_index_New ⟨[]⟩ H fun v H' => ∃ a, v = .pointer a ∧ K a H' := by
  apply vc_index_New
  intro b H1 h1 b1 H2 h2 b2 H3 h3
  have e1 := h1.eq
  have e2 := h2.eq
  have e3 := h3.eq
  have s1 := h1.size
  have s2 := h2.size
  have s3 := h3.size
  have m1 : MapF H3 b (keyF []) := ((MapF.new h1).fr h2.fr (by simp)).fr h3.fr (by simp)
  have m2 : MapF H3 b1 (fun _ => none) := (MapF.new h2).fr h3.fr (by simp)
  refine ⟨_, rfl, hk H3 b2 [b2, b, b1] ⟨WfI.nil, none, 0, 0, [], b, b1, fun _ => none, fun _ _ => none, ?_, fun nm h => absurd rfl h⟩ ?_ ((h1.fr.keep0 h2.fr).keep0 h3.fr)⟩
  · refine ⟨h3.get, Own.nil _ _ _ _, ⟨rfl, by simp⟩, m1, ⟨m2, by simp, by simp, by simp, by simp [idsL_nil], by simp, by simp, by simp, by simp, by simp, by simp⟩, by omega, by simp, by simp, by simp, by simp [blkL], ?_⟩
    intro k hk
    simp at hk
    omega
  · intro k hk
    simp at hk
    omega

theorem Clone_ok {H : Heap} {a : Option Addr} {n c : Nat} {l : Lbls} {K : Option Addr → Nat → Nat → Heap → Prop} (hx : Sl encL H a n c l) (hn : n ≤ 1000000000)
    (hk : ∀ a' n' c' H', Own encL 64 H.size H' a' n' c' l → Fr [] H H' → K a' n' c' H') :
    CallH Try.prog fn_slices_Clone___api_Label_api_Label_ ⟨[.slice a n c]⟩ H fun v H' => ∃ a n c, v = .slice a n c ∧ K a n c H' := by
  apply vc_slices_Clone___api_Label_api_Label_
  refine brB_of (fun h => ?_) (fun h => ?_)
  · have : a = none := by simpa using h
    subst this
    have hl : l = [] := by
      rcases hx.arr with h | ⟨b, off, e, _⟩
      · exact h
      · cases e
    subst hl
    exact ⟨_, _, _, rfl, hk none 0 0 H (Own.nil _ _ _ _) (Fr.refl _ _)⟩
  · intro b H1 h1
    have ho0 : Own encL 64 H.size H1 (some ⟨b, 0, none⟩) 0 0 [] := Own.made encL 64 h1 (Nat.le_refl _)
    exact ap_own (E := encL) slice23 elem64 ho0 h1.fr (hx.keep h1.fr) (by omega) fun a' n' c' H2 h2 hf2 _ => ⟨_, _, _, rfl, hk _ _ _ _ (by simpa using h2) hf2⟩

theorem lookKey {H : Heap} {xb : Nat} {U : List Nat} {L : List Lbls} {idF : ByteArray → ByteArray → List Int} {a : Option Addr} {n c : Nat} {hs : List Hd} {rk rh : Nat} {mF : ByteArray → Option Nat} {vF : ByteArray → ByteArray → Option Hd}
    (h : IdxP H xb U L idF a n c hs rk rh mF vF) : Blk H ⟨xb, 0, none⟩ [.slice a n c, .map (some rk), .map (some rh)] := ⟨xb, _, rfl, h.cell⟩

theorem Find_ok {H : Heap} {xb : Nat} {U : List Nat} {L : List Lbls} {a : Option Addr} {n c : Nat} {l : Lbls} {K : Int → Bool → Heap → Prop} (h : IdxH H xb U L) (hx : Sl encL H a n c l) (hn : n ≤ 1000000000)
    (hk : ∀ H', Fr [] H H' → K (posI L l) (posL L l).isSome H') :
    CallH Try.prog fn_index_Index_Find ⟨[.pointer (some ⟨xb, 0, none⟩), .slice a n c]⟩ H fun v H' => ∃ i b, v = .tuple ⟨[.int .i64 i, .bool b]⟩ ∧ K i b H' := by
  apply vc_index_Index_Find
  obtain ⟨hw, a0, n0, c0, hs, rk, rh, mF, vF, hp, hnv⟩ := h
  refine Key_ok hx hn (fun hC H1 hf1 => ?_) (fun hC H1 hf1 => ?_)
  · have hp1 := hp.fr hf1 (by simp)
    refine ⟨_, (lookKey hp1).ld (by kernel_rfl) (j := 1) rfl, ?_⟩
    have hno : posL L l = none := by rw [posL_none]; exact fun hm => hC (hw.chk l hm)
    have hK := hk H1 hf1
    unfold posI at hK
    rw [hno] at hK
    cases hv : fidx L ⟨#[]⟩ with
    | none => exact ⟨0, false, hp1.keys.lookOk u69 z3 _ (by unfold keyF; rw [hv]; rfl) (by unfold keyF; rw [hv]; rfl), _, _, rfl, hK⟩
    | some i => exact ⟨i, true, hp1.keys.lookOk u69 z3 _ (by unfold keyF; rw [hv]; rfl) (by unfold keyF; rw [hv]; rfl), _, _, rfl, hK⟩
  · have hp1 := hp.fr hf1 (by simp)
    refine ⟨_, (lookKey hp1).ld (by kernel_rfl) (j := 1) rfl, ?_⟩
    have hv : fidx L ⟨(keyL l).toArray⟩ = posL L l := fidx_key hw hC
    have hK := hk H1 hf1
    unfold posI at hK
    cases hpos : posL L l with
    | none =>
      rw [hpos] at hv hK
      exact ⟨0, false, hp1.keys.lookOk u69 z3 _ (by unfold keyF; rw [hv]; rfl) (by unfold keyF; rw [hv]; rfl), _, _, rfl, hK⟩
    | some i =>
      rw [hpos] at hv hK
      exact ⟨i, true, hp1.keys.lookOk u69 z3 _ (by unfold keyF; rw [hv]; rfl) (by unfold keyF; rw [hv]; rfl), _, _, rfl, hK⟩
theorem Len_ok {H : Heap} {xb : Nat} {U : List Nat} {L : List Lbls} {K : Int → Heap → Prop} (h : IdxH H xb U L) (hk : K L.length H) :
    CallH Try.prog fn_index_Index_Len ⟨[.pointer (some ⟨xb, 0, none⟩)]⟩ H fun v H' => ∃ i, v = .int .i64 i ∧ K i H' := by
  apply vc_index_Index_Len
  obtain ⟨hw, a0, n0, c0, hs, rk, rh, mF, vF, hp, hnv⟩ := h
  have e : n0 = L.length := by rw [hp.all.1, hp.lls.1]
  exact ⟨_, _, _, (lookKey hp).ld0 (by kernel_rfl) rfl, _, rfl, by rw [e]; exact hk⟩
theorem Labels_ok {H : Heap} {xb : Nat} {U : List Nat} {L : List Lbls} {id : Int} {K : Option Addr → Nat → Nat → Heap → Prop} (h : IdxH H xb U L)
    (hk : ∀ a' n' c' H', Own encL 64 H.size H' a' n' c' (if 0 ≤ id then L.getD id.toNat [] else []) → Fr [] H H' → K a' n' c' H') :
    CallH Try.prog fn_index_Index_Labels ⟨[.pointer (some ⟨xb, 0, none⟩), .int .i64 id]⟩ H fun v H' => ∃ a n c, v = .slice a n c ∧ K a n c H' := by
  apply vc_index_Index_Labels
  obtain ⟨hw, a0, n0, c0, hs, rk, rh, mF, vF, hp, hnv⟩ := h
  have e : n0 = L.length := by rw [hp.all.1, hp.lls.1]
  have nil : ¬ (0 ≤ id ∧ id < L.length) → ∃ a n c, Value.slice none 0 0 = .slice a n c ∧ K a n c H := fun hno => ⟨_, _, _, rfl, hk none 0 0 H (by
    have : (if 0 ≤ id then L.getD id.toNat [] else []) = ([] : Lbls) := by
      split
      · rw [List.getD_eq_getElem?_getD, List.getElem?_eq_none (by omega)]; rfl
      · rfl
    rw [this]; exact Own.nil _ _ _ _) (Fr.refl _ _)⟩
  refine ⟨fun _ H' => H' = H ∧ 0 ≤ id ∧ id < L.length, ?_, ?_⟩
  · refine brB_of (fun h => nil ?_) (fun h => ⟨_, _, _, (lookKey hp).ld0 (by kernel_rfl) rfl, brB_of (fun h2 => nil ?_) (fun h2 => ⟨rfl, ?_, ?_⟩)⟩)
    · simp at h; omega
    · simp at h2; omega
    · simp at h; omega
    · simp at h2; omega
  rintro J H1 ⟨rfl, h0, h1⟩
  refine ⟨_, _, _, (lookKey hp).ld0 (by kernel_rfl) rfl, ?_⟩
  have hi : id.toNat < hs.length := by rw [hp.lls.1]; omega
  have hx1 : hs[id.toNat]? = some (hs[id.toNat]'hi) := by simp
  have hl1 : L[id.toNat]? = some (L[id.toNat]'(by omega)) := by simp
  generalize hs[id.toNat]'hi = hd at hx1
  have e2 : (if 0 ≤ id then L.getD id.toNat [] else []) = L[id.toNat]'(by omega) := by rw [if_pos h0, List.getD_eq_getElem?_getD, hl1]; rfl
  rw [e2] at hk
  generalize L[id.toNat]'(by omega) = l at hl1 hk
  have hl := (hp.lls.2 _ _ _ hx1 hl1).1
  refine hp.all.sl.get (k := id.toNat) (by omega) hx1 (decide_eq_true (by omega)) fun ad ea hc => ⟨_, _, _, ldH hc, ?_⟩
  have hc8 := (hw.chk l (List.mem_of_getElem? hl1)).1
  exact Clone_ok hl.sl (by have := hl.1; omega) fun a' n' c' H2 h2 hf2 => ⟨_, _, _, rfl, hk a' n' c' H2 h2 hf2⟩
end Go.Proofs
