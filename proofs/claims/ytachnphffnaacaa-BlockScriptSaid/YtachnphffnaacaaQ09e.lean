/- A part of a proof: see the last text of this claim. -/
import Derived.Test.YtachnphffnaacaaQ09d
set_option linter.unusedVariables false
open Go Go.GV
namespace Go.Proofs

theorem own_one {α : Type} {E : Enc α} {t : TypeId} {base : Nat} {H H' : Heap} {b : Nat} {vs : List Value} (x : α) (h : New H b (.cells ⟨vs⟩ t) H') (hv : vs = E.cells x) (hb : base ≤ H.size) : Own E t base H' (some ⟨b, 0, none⟩) 1 1 [x] := by
  subst hv
  refine ⟨rfl, .inr ⟨b, ⟨E.cells x⟩, rfl, by rw [h.eq]; exact hb, h.get, Nat.le_refl _, by simp [maxLen], ?_, ?_⟩⟩
  · simp [E.len x, Nat.one_mul]
  · rw [Nat.one_mul]
    simp only [List.flatMap_cons, List.flatMap_nil, List.append_nil]
    exact List.take_of_length_le (Nat.le_of_eq (E.len x))
theorem pkC_zero (j n : Nat) : pkC 0 j n = 0 := by simp [pkC]
theorem setl_mem (pk : Nat → Nat → Nat) (m : Dk) (k : Nat) : setl pk m k = m.is k ∨ setl pk m k ∈ m.wait (k : Int) := by
  unfold setl
  split
  · exact .inl rfl
  · simp only
    split
    · cases h : (m.wait (k : Int))[pk (rank m k) (m.wait (k : Int)).length - 1]? with
      | none => exact .inl rfl
      | some s => exact .inr (List.mem_of_getElem? h)
    · exact .inl rfl
theorem setl_zero (m : Dk) (k : Nat) : setl (pkC 0) m k = m.is k := by
  unfold setl
  split
  · rfl
  · simp [pkC_zero]

/-- May: what may be there. -/
def May (m : Dk) (xss : List (List ByteArray)) : Prop := xss.length = 12 ∧ ∀ k : Nat, k < 12 → xss[k]? = some (m.is k :: m.wait (k : Int))

theorem One_ok {la : Option Addr} {ln lc : Nat} {l : List Step9} {keep : Int} {H : Heap} (hl : Sl encStep H la ln lc l) (hkp : 0 ≤ keep ∧ keep < 18446744073709551616) :
    CallH Try.prog fn_law09_BlockOne ⟨[.slice la ln lc, .int .u64 keep]⟩ H fun v H' => v = .bool true ∧ Fr [] H H' := by
  apply vc_law09_BlockOne
  refine heavy_ok hl fun hb hbn => brB_of (fun _ => ⟨rfl, Fr.refl _ _⟩) (fun hbf => ?_)
  have hn := hbn hbf
  have hlen := hl.len
  have ld0 : ∀ {Hx : Heap} {ad : Addr} {o : Step9}, CellsAt Hx ad (encStep.cells o) → Ld Try.prog 3 Hx ad (.int .i64 o.1) := fun hc => ld_cell (by kernel_rfl) (by have := hc 0 _ rfl; rwa [addr_add0] at this)
  refine New_ok fun b H1 S hS h1 hf1 => ?_
  have hfoot : ∀ {m : Dk} {N : Nat} {Hx : Heap} {Sx : List Nat}, DRep Hx ⟨b, 0, none⟩ Sx m N → b ∈ Sx := fun h => by obtain ⟨_, _, _, hd⟩ := h.it; exact hd.foot.1
  refine mk_full (E := encSl) (t := 37) (bytes := 24) (n := 12) (u := .slice none 0 0) (none, 0, 0) slice42 elem37 (by kernel_rfl) rfl rfl rfl (by decide) fun wb H2 hwb hout2 hf2 => ?_
  have hN2 : Nest H1.size H2 (some ⟨wb, 0, none⟩) 12 12 (List.replicate 12 (none, 0, 0)) (List.replicate 12 []) [wb] := by
    refine ⟨hout2, by simp, fun i h xs hh hx => ?_, by simp [blkL], fun i h hh k hk => ?_, fun i j h g _ hh hg k hk => ?_, ?_, by simpa using hwb⟩
    · have e1 : h = (none, 0, 0) := List.eq_of_mem_replicate (List.mem_of_getElem? hh)
      have e2 : xs = [] := List.eq_of_mem_replicate (List.mem_of_getElem? hx)
      subst e1 e2
      exact Own.nil _ _ _ _
    · have e1 : h = (none, 0, 0) := List.eq_of_mem_replicate (List.mem_of_getElem? hh)
      subst e1
      cases hk
    · have e1 : h = (none, 0, 0) := List.eq_of_mem_replicate (List.mem_of_getElem? hh)
      subst e1
      cases hk
    · intro k hk
      simp at hk
      subst hk
      exact (hout2.ge k (by simp [blkL])).2
  have h2 := h1.keep hf2
  have hf02 := hf1.keep0 hf2
  have hdj2 : Dj [wb] S := fun k hk hk2 => by
    simp at hk; subst hk
    have := h1.inS k hk2; omega
  -- the lists are laid
  refine ⟨fun vs H' => match vs with | [.int _ i] => ∃ (i' : Nat) (hs : List Hd) (xss : List (List ByteArray)) (T : List Nat), i = i' ∧ i' ≤ 12 ∧ Nest H1.size H' (some ⟨wb, 0, none⟩) 12 12 hs xss T ∧ (∀ k, k < i' → xss[k]? = some [⟨#[]⟩]) ∧ DRep H' ⟨b, 0, none⟩ S (newM 12) 0 ∧ Dj T S ∧ Fr [] H H' | _ => False,
    fun vs _ => match vs with | [.int _ i] => 12 - i.toNat | _ => 0, ⟨0, _, _, _, rfl, by omega, hN2, fun k hk => by omega, h2, hdj2, hf02⟩, ?_⟩
  rintro J i H3 ⟨i', hs, xss, T, rfl, hi, hN3, hx3, h3, hdj3, hf3⟩
  have h12 := hN3.out.1
  have hxl := hN3.len
  refine brB_of (fun g => ?_) (fun g => ?_)
  · have g' : i' < 12 := by have : (i' : Int) < 12 := by simpa using g
                            omega
    intro b1 H4 hn4
    rw [succ64 (by omega)]
    have hh : hs[i']? = some (hs[i']'(by omega)) := by simp
    refine hN3.put rfl hh (decide_eq_true (by omega)) (hn4.fr.mono (by simp)) (own_one (E := GV.encStr) ⟨#[]⟩ hn4 rfl (by have := hN3.out.ge wb (by simp [blkL]); omega)) (fun k hk => .inr (by simp [blkL] at hk; subst hk; exact Nat.le_of_eq hn4.eq.symm)) fun H5 hN5 hf5 hg5 => ?_
    refine ⟨⟨i' + 1, _, _, _, rfl, by omega, hN5, fun k hk => ?_, h3.fr hf5 hdj3.symm, hdj3.grow hg5 h3.inS, hf3.keep hf5 fun k hk => Nat.le_trans hf1.size (hN3.low k hk)⟩, mu_lt g'⟩
    rw [List.getElem?_set]
    split
    · rename_i e; subst e; rw [if_pos (by omega)]
    · exact hx3 k (by omega)
  have hi12 : i' = 12 := by have : ¬ (i' : Int) < 12 := by simpa using g
                            omega
  subst hi12
  have hM3 : May (newM 12) xss := ⟨by omega, fun k hk => by rw [hx3 k hk]; rfl⟩
  -- the steps
  refine ⟨fun vs H' => match vs with | [.int _ i] => ∃ (i' : Nat) (hs : List Hd) (xss : List (List ByteArray)) (T S' : List Nat) (m : Dk), i = i' ∧ i' ≤ ln ∧ Nest H1.size H' (some ⟨wb, 0, none⟩) 12 12 hs xss T ∧ May m xss ∧ DRep H' ⟨b, 0, none⟩ S' m (2 * i') ∧ Calm m 12 ∧ (∀ k ∈ S', H.size ≤ k) ∧ Dj T S' ∧ Fr [] H H' | _ => False,
    fun vs _ => match vs with | [.int _ i] => ln - i.toNat | _ => 0, ⟨0, hs, xss, T, S, newM 12, rfl, by omega, hN3, hM3, h3, calm_new (by decide), hS, hdj3, hf3⟩, ?_⟩
  clear hx3 hM3 hN3 h3 hdj3 hf3 hi g h12 hxl
  clear hs xss T
  rintro J i H4 ⟨i', hs, xss, T, S4, m, rfl, hi, hN4, hM4, h4, hc4, hS4, hdj4, hf4⟩
  have h12 := hN4.out.1
  have hxl := hN4.len
  have hT4 : ∀ k ∈ T, H.size ≤ k := fun k hk => Nat.le_trans hf1.size (hN4.low k hk)
  refine brB_of (fun g => ?_) (fun g => ?_)
  · have g' : i' < ln := by simpa using g
    have hx : l[i']? = some (l[i']'(by omega)) := by simp
    generalize l[i']'(by omega) = o at hx
    have at' : ∀ {Hx : Heap} {X : Addr → Prop}, Fr [] H Hx → (∀ ad, la = some ad → CellsAt Hx (ad.add ((i' : Int).toNat * encStep.sz)) (encStep.cells o) → X ad) → exSome la fun ad => chk (decide ((0 : Int) ≤ i' ∧ (i' : Int) < ln)) (X ad) :=
      fun hf hk => (hl.keep hf).get rfl hx (decide_eq_true (by omega)) hk
    obtain ⟨IM, hIM⟩ : ∃ M : List Value → Heap → Prop, M = fun _ H' => ∃ (hs : List Hd) (xss : List (List ByteArray)) (T S' : List Nat) (m : Dk), Nest H1.size H' (some ⟨wb, 0, none⟩) 12 12 hs xss T ∧ May m xss ∧ DRep H' ⟨b, 0, none⟩ S' m (2 * i' + 2) ∧ Calm m 12 ∧ (∀ k ∈ S', H.size ≤ k) ∧ Dj T S' ∧ Fr [] H H' := ⟨_, rfl⟩
    obtain ⟨IW, hIW⟩ : ∃ M : List Value → Heap → Prop, M = fun _ H' => ∃ (hs : List Hd) (xss : List (List ByteArray)) (T S' : List Nat) (m : Dk), Nest H1.size H' (some ⟨wb, 0, none⟩) 12 12 hs xss T ∧ May m xss ∧ DRep H' ⟨b, 0, none⟩ S' m (2 * i' + 2) ∧ (o.1 = 1 → DRep H' ⟨b, 0, none⟩ S' m (2 * i')) ∧ Calm m 12 ∧ (∀ k ∈ S', H.size ≤ k) ∧ Dj T S' ∧ Fr [] H H' := ⟨_, rfl⟩
    refine ⟨IM, ⟨IW, ⟨fun vs H' => ∃ (S' : List Nat) (m' : Dk) (ok : Bool), vs = [.bool ok] ∧ Nest H1.size H' (some ⟨wb, 0, none⟩) 12 12 hs xss T ∧ DRep H' ⟨b, 0, none⟩ S' m' (2 * i' + 2) ∧ (o.1 = 1 → DRep H' ⟨b, 0, none⟩ S' m' (2 * i')) ∧ Calm m' 12 ∧ (∀ k ∈ S', H.size ≤ k) ∧ Dj T S' ∧ Fr [] H H' ∧ (ok = true → 0 ≤ o.2.1 ∧ o.2.1 < 12 ∧ m'.is = m.is ∧ m'.wait = setW m.wait o.2.1 (m.wait o.2.1 ++ [o.2.2.1])) ∧ (ok = false → m'.is = m.is ∧ m'.wait = m.wait), ?_, ?_⟩, ?_⟩, ?_⟩
    · -- the condition
      refine at' hf4 fun ad ea hc => ⟨_, ld0 hc, brB_of (fun hk0 => ?_) (fun _ => ⟨S4, m, false, rfl, hN4, h4.mono (by omega), fun _ => h4, hc4, hS4, hdj4, hf4, fun h => (by cases h), fun _ => ⟨rfl, rfl⟩⟩)⟩
      refine at' hf4 fun ad ea hc => ⟨_, ld_part (j := 1) (by kernel_rfl) hc rfl, ?_⟩
      refine at' hf4 fun ad ea hc => ⟨_, ld_part (j := 2) (by kernel_rfl) hc rfl, ?_⟩
      refine Write_ok h4 (by omega) hc4.keep fun H5 S5 h5 hf5 hg5 => ?_
      refine ⟨S5, _, _, rfl, hN4.fr hf5 hdj4, h5, fun h => by simp [h] at hk0, hc4.write _ _, fun k hk => ?_, (hdj4.symm.grow hg5 hN4.inS).symm, hf4.keep hf5 hS4, fun hok => ?_, fun hok => ?_⟩
      · rcases hg5 k hk with h | h
        · exact hS4 k h
        · exact Nat.le_trans hf4.size h
      · rw [write_calm hc4] at hok ⊢
        split at hok
        · simp at hok
        · rename_i hv
          rw [if_neg hv]
          exact ⟨by omega, by omega, rfl, rfl⟩
      · rw [write_calm hc4] at hok ⊢
        split at hok
        · rename_i hv; rw [if_pos hv]; exact ⟨rfl, rfl⟩
        · simp at hok
    · rintro J2 b2 H5 ⟨S5, m5, ok, hok, hN5, h5, h5', hc5, hS5, hdj5, hf5, hyes, hno⟩
      have hok : b2 = ok := by simpa using hok
      subst hok
      refine brB_of (fun hb2 => ?_) (fun hb2 => ?_)
      · obtain ⟨hv1, hv2, his, hwt⟩ := hyes hb2
        refine ⟨fun _ H' => H' = H5, ?_, ?_⟩
        · refine at' hf5 fun ad ea hc => ⟨_, ld_part (j := 1) (by kernel_rfl) hc rfl, brB_of (fun h => by simp at h; omega) (fun _ => ?_)⟩
          refine at' hf5 fun ad ea hc => ⟨_, ld_part (j := 1) (by kernel_rfl) hc rfl, brB_of (fun h => by simp at h; omega) (fun _ => rfl)⟩
        · rintro J3 H6 rfl
          obtain ⟨q, hq⟩ : ∃ q : Nat, o.2.1 = q := ⟨o.2.1.toNat, by omega⟩
          have hq12 : q < 12 := by omega
          have hh : hs[q]? = some (hs[q]'(by omega)) := by simp
          generalize hs[q]'(by omega) = hd at hh
          have hxq := hM4.2 q hq12
          have hown := hN5.ins q hd _ hh hxq
          have hnl := hown.1
          have hwl := h4.wlen (q : Int)
          refine at' hf5 fun ad ea hc => ⟨_, ld_part (j := 1) (by kernel_rfl) hc rfl, ?_⟩
          refine at' hf5 fun ad1 ea1 hc1 => ⟨_, ld_part (j := 1) (by kernel_rfl) hc1 rfl, ?_⟩
          refine hN5.get hq hh (decide_eq_true (by omega)) fun ad2 ea2 hld => ⟨_, _, _, hld, ?_⟩
          refine at' hf5 fun ad3 ea3 hc3 => ⟨_, ld_part (j := 2) (by kernel_rfl) hc3 rfl, fun b3 H7 hn7 => ?_⟩
          have hld7 : Ld Try.prog 37 H7 (ad2.add ((o.2.1).toNat * 1)) (.slice hd.1 hd.2.1 hd.2.2) := by
            have hN7 := hN5.keep hn7.fr
            have := hN7.out.sl.get (X := fun ad => Ld Try.prog 37 H7 (ad.add ((o.2.1).toNat * 1)) (.slice hd.1 hd.2.1 hd.2.2)) hq hh (decide_eq_true (by omega) : decide ((0 : Int) ≤ o.2.1 ∧ o.2.1 < (12 : Nat)) = true) fun ad ea hc => ld_one (by kernel_rfl) hc
            cases ea2
            exact (chk_out this).2
          refine ⟨hld7, ld_part (j := 1) (by kernel_rfl) (hc1.keep hn7.fr) rfl, ld_part (j := 1) (by kernel_rfl) (hc.keep hn7.fr) rfl, ?_⟩
          refine ap_grow (E := GV.encStr) (t := 9) (bytes := 16) (base := H1.size) slice37 elem9 (hown.keep hn7.fr) (sl_one GV.encStr o.2.2.1 hn7 rfl) (Nat.le_trans (by have := hN5.out.ge wb (by simp [blkL]); omega) hn7.fr.size) (by simp at hnl; omega) fun a8 n8 c8 H8 ho8 hf8 hg8 => ?_
          have hf68 : Fr (blkL hd.1) H6 H8 := hn7.fr.trans' hf8 (by simp) (fun k hk _ => hk)
          have hf08 : Fr [] H H8 := hf5.keep hf68 fun k hk => hT4 k ((hN5.feet q hd hh k hk).1)
          refine ⟨ld_part (j := 1) (by kernel_rfl) ((hl.keep hf08).get (X := fun ad => CellsAt H8 (ad.add ((i' : Int).toNat * encStep.sz)) (encStep.cells o)) rfl hx (decide_eq_true (by omega) : decide ((0 : Int) ≤ i' ∧ (i' : Int) < ln) = true) (fun ad ea hc => hc) |> fun h => by rw [ea] at h; exact (chk_out h).2) rfl, ?_⟩
          refine hN5.put hq hh (decide_eq_true (by omega)) hf68 ho8 (fun k hk => ?_) fun H9 hN9 hf9 hg9 => ?_
          · rcases hg8 k hk with h | h
            · exact .inl h
            · exact .inr (Nat.le_trans hn7.fr.size h)
          · rw [hIW]
            refine ⟨_, _, _, S5, m5, hN9, ⟨by simp [hM4.1], fun k hk => ?_⟩, h5.fr hf9 hdj5.symm, fun h => (h5' h).fr hf9 hdj5.symm, hc5, hS5, hdj5.grow hg9 h5.inS, hf5.keep hf9 hT4⟩
            rw [List.getElem?_set, his, hwt]
            by_cases hqk : q = k
            · subst hqk
              rw [if_pos rfl, if_pos (by have := hM4.1; omega)]
              simp only [setW, hq, if_true]
              rfl
            · rw [if_neg hqk]
              simp only [setW]
              rw [if_neg (by omega)]
              exact hM4.2 k hk
      · obtain ⟨his, hwt⟩ := hno hb2
        rw [hIW]
        exact ⟨hs, xss, T, S5, m5, hN5, ⟨hM4.1, fun k hk => by rw [his, hwt]; exact hM4.2 k hk⟩, h5, h5', hc5, hS5, hdj5, hf5⟩
    · intro J2 H5 hh5
      rw [hIW] at hh5
      obtain ⟨hs5, xss5, T5, S5, m5, hN5, hM5, h5, h5', hc5, hS5, hdj5, hf5⟩ := hh5
      have hT5 : ∀ k ∈ T5, H.size ≤ k := fun k hk => Nat.le_trans hf1.size (hN5.low k hk)
      refine at' hf5 fun ad ea hc => ⟨_, ld0 hc, brB_of (fun hk1 => ?_) (fun _ => by rw [hIM]; exact ⟨hs5, xss5, T5, S5, m5, hN5, hM5, h5, hc5, hS5, hdj5, hf5⟩)⟩
      have hk1 : o.1 = 1 := by simpa using hk1
      refine Flush_ok (h5' hk1) (by omega) hc5.keep fun H6 h6 hf6 => ?_
      have hN6 := hN5.fr hf6 hdj5
      have hf06 := hf5.keep hf6 hS5
      have hc6 := hc5.flush
      have hcu := cur_flush hc5
      have hwf := wait_flush hc5
      have hisf : ∀ k : Nat, (flushM m5).1.is k = cur m5 k := fun k => by
        have := hcu k
        unfold cur at this
        rw [hwf] at this
        exact this
      generalize (flushM m5).1 = m6 at h6 hc6 hcu hwf hisf
      -- each list is what was written last
      refine ⟨fun vs H' => match vs with | [.int _ k] => ∃ (k' : Nat) (hs : List Hd) (xss : List (List ByteArray)) (T : List Nat), k = k' ∧ k' ≤ 12 ∧ Nest H1.size H' (some ⟨wb, 0, none⟩) 12 12 hs xss T ∧ xss.length = 12 ∧ (∀ j : Nat, j < 12 → xss[j]? = some (if j < k' then [cur m5 j] else m5.is j :: m5.wait (j : Int))) ∧ DRep H' ⟨b, 0, none⟩ S5 m6 (2 * i' + 1) ∧ Dj T S5 ∧ Fr [] H H' | _ => False,
        fun vs _ => match vs with | [.int _ k] => 12 - k.toNat | _ => 0, ⟨0, hs5, xss5, T5, rfl, by omega, hN6, hM5.1, fun j hj => by rw [if_neg (by omega)]; exact hM5.2 j hj, h6, hdj5, hf06⟩, ?_⟩
      rintro J3 k H7 ⟨k', hs7, xss7, T7, rfl, hk7, hN7, hl7, hx7, h7, hdj7, hf7⟩
      have h127 := hN7.out.1
      refine brB_of (fun gk => ?_) (fun gk => ?_)
      · have gk' : k' < 12 := by have : (k' : Int) < 12 := by simpa using gk
                                 omega
        have hh : hs7[k']? = some (hs7[k']'(by omega)) := by simp
        generalize hs7[k']'(by omega) = hd at hh
        have hxk := hx7 k' gk'
        rw [if_neg (by omega)] at hxk
        have hown := hN7.ins k' hd _ hh hxk
        have hnl := hown.1
        have hnl0 : hd.2.1 = (m5.wait (k' : Int)).length + 1 := by simpa using hnl
        have hwl := h5.wlen (k' : Int)
        rw [succ64 (by omega)]
        refine hN7.get rfl hh (decide_eq_true (by omega)) fun ad1 ea1 hld1 => ⟨_, _, _, hld1, ?_⟩
        refine hN7.get rfl hh (decide_eq_true (by omega)) fun ad2 ea2 hld2 => ⟨_, _, _, hld2, ?_⟩
        rw [pred64 (by omega) (by omega)]
        have hlast : (m5.is k' :: m5.wait (k' : Int))[hd.2.1 - 1]? = some (cur m5 k') := by
          rw [show hd.2.1 - 1 = (m5.is k' :: m5.wait (k' : Int)).length - 1 by rw [hnl], ← List.getLast?_eq_getElem?]
          unfold cur
          rw [List.getLast?_cons]
        refine hown.sl.get rfl hlast (decide_eq_true (by omega)) fun ad3 ea3 hc3 => ⟨_, ld_one (by kernel_rfl) hc3, fun b3 H8 hn8 => ?_⟩
        refine hN7.put rfl hh (decide_eq_true (by omega)) (hn8.fr.mono (by simp)) (own_one (E := GV.encStr) (cur m5 k') hn8 rfl (by have := hN7.out.ge wb (by simp [blkL]); omega)) (fun k hk => .inr (by simp [blkL] at hk; subst hk; exact Nat.le_of_eq hn8.eq.symm)) fun H9 hN9 hf9 hg9 => ?_
        refine ⟨⟨k' + 1, _, _, _, rfl, by omega, hN9, by simp [hl7], fun j hj => ?_, h7.fr hf9 hdj7.symm, hdj7.grow hg9 h7.inS, hf7.keep hf9 fun k hk => Nat.le_trans hf1.size (hN7.low k hk)⟩, mu_lt gk'⟩
        rw [List.getElem?_set]
        by_cases hkj : k' = j
        · subst hkj
          rw [if_pos rfl, if_pos (by omega), if_pos (by omega)]
        · rw [if_neg hkj, hx7 j hj]
          by_cases h : j < k'
          · rw [if_pos h, if_pos (by omega)]
          · rw [if_neg h, if_neg (by omega)]
      · have gk' : k' = 12 := by have : ¬ (k' : Int) < 12 := by simpa using gk
                                 omega
        subst gk'
        rw [hIM]
        exact ⟨hs7, xss7, T7, S5, m6, hN7, ⟨hl7, fun j hj => by rw [hx7 j hj, if_pos hj, hwf, hisf]⟩, h7.mono (by omega), hc6, hS5, hdj7, hf7⟩
    · intro J2 H5 hh5
      rw [hIM] at hh5
      obtain ⟨hs5, xss5, T5, S5, m5, hN5, hM5, h5, hc5, hS5, hdj5, hf5⟩ := hh5
      rw [succ64 (by omega)]
      exact ⟨⟨i' + 1, hs5, xss5, T5, S5, m5, rfl, by omega, hN5, hM5, h5.mono (by omega), hc5, hS5, hdj5, hf5⟩, mu_lt g'⟩
  -- the power goes
  refine Crash_ok h4 (by omega) hkp fun H5 h5 hf5 => ?_
  have hoff := crash_off keep m
  have hN5 := hN4.fr hf5 hdj4
  have hf05 := hf4.keep hf5 hS4
  refine ⟨fun _ H' => ∃ (S6 : List Nat), DRep H' ⟨b, 0, none⟩ S6 (crashM keep m) (2 * i' + 2) ∧ Nest H1.size H' (some ⟨wb, 0, none⟩) 12 12 hs xss T ∧ Dj T S6 ∧ Fr [] H H' ∧ (∀ k ∈ S6, H.size ≤ k), Dead_ok h5 ?_, ?_⟩
  · rw [hoff]
    refine brB_of (fun h => by cases h) (fun _ => ?_)
    have hkeep : 0 ≤ (crashM keep m).keep ∧ (crashM keep m).keep < 18446744073709551616 := by
      simp only [crashM]; split <;> exact hc4.keep
    refine Write_ok h5 (by omega) hkeep fun H6 S6 h6 hf6 hg6 => ?_
    have hwr : writeM (crashM keep m) 0 ⟨#[]⟩ = (crashM keep m, 90) := by unfold writeM; rw [if_pos hoff]
    rw [hwr] at h6 ⊢
    refine brB_of (fun h => by simp at h) (fun _ => ⟨S6, h6, hN5.fr hf6 hdj4, (hdj4.symm.grow hg6 hN5.inS).symm, hf05.keep hf6 hS4, fun k hk => ?_⟩)
    rcases hg6 k hk with h | h
    · exact hS4 k h
    · exact Nat.le_trans hf05.size h
  rintro J H6 ⟨S6, h6, hN6, hdj6, hf6, hS6⟩
  refine Power_ok h6 fun H7 h7 hf7 => ?_
  have hb6 := hfoot h6
  have hN7 := hN6.fr hf7 (fun k hk hk2 => by simp at hk2; subst hk2; exact hdj6 _ hk hb6)
  have hf07 : Fr [] H H7 := hf6.keep hf7 (by simpa using hS6 b hb6)
  obtain ⟨hc7, hw7, his7⟩ := again hc4 keep
  refine ⟨fun vs H' => match vs with | [.int _ i] => ∃ (i' : Nat), i = i' ∧ i' ≤ 12 ∧ H' = H7 | _ => False,
    fun vs _ => match vs with | [.int _ i] => 12 - i.toNat | _ => 0, ⟨0, rfl, by omega, rfl⟩, ?_⟩
  rintro J2 i HA ⟨q, rfl, hq, rfl⟩
  refine brB_of (fun gq => ?_) (fun _ => ⟨rfl, hf07⟩)
  have gq' : q < 12 := by have : (q : Int) < 12 := by simpa using gq
                          omega
  refine ⟨fun _ H' => H' = HA, ?_, ?_⟩
  · refine Read_ok h7 (by omega) ?_
    rw [read_calm hc7 (by omega)]
    have hcur : cur (powerM (crashM keep m)) q = setl (pkC keep) m q := by
      unfold cur
      rw [hw7, his7]
      rfl
    rw [hcur]
    have hh : hs[q]? = some (hs[q]'(by omega)) := by simp
    generalize hs[q]'(by omega) = hd at hh
    have hxq := hM4.2 q gq'
    have hown := hN7.ins q hd _ hh hxq
    have hnl := hown.1
    have hwl := h4.wlen (q : Int)
    have hnl0 : hd.2.1 = (m.wait (q : Int)).length + 1 := by simpa using hnl
    have hmem : setl (pkC keep) m q ∈ m.is q :: m.wait (q : Int) := by
      rcases setl_mem (pkC keep) m q with h | h
      · rw [h]; simp
      · simp [h]
    have hzero : keep = 0 → setl (pkC keep) m q = m.is q := fun h => by rw [h, setl_zero]
    generalize setl (pkC keep) m q = s at hmem hzero
    generalize hxs : m.is q :: m.wait (q : Int) = xs at hown hnl hmem
    refine ⟨fun vs H' => match vs with | [.bool bb, .int _ j] => ∃ (j' : Nat), j = j' ∧ j' ≤ hd.2.1 ∧ (s ∈ xs.take j' → bb = true) ∧ H' = HA | _ => False,
      fun vs _ => match vs with | [_, .int _ j] => hd.2.1 - j.toNat | _ => 0, ⟨0, rfl, by omega, by simp, rfl⟩, ?_⟩
    rintro J3 bb j HB ⟨j', rfl, hj, hany, rfl⟩
    refine hN7.get rfl hh (decide_eq_true (by omega)) fun ad1 ea1 hld1 => ⟨_, _, _, hld1, brB_of (fun gj => ?_) (fun gj => ?_)⟩
    · have gj' : j' < hd.2.1 := by simpa using gj
      have hxj : xs[j']? = some (xs[j']'(by omega)) := by simp
      have htk : xs.take (j' + 1) = xs.take j' ++ [xs[j']'(by omega)] := by rw [List.take_add_one, hxj]; rfl
      generalize xs[j']'(by omega) = y at hxj htk
      rw [succ64 (by omega)]
      refine brB_of (fun hbb => ⟨⟨j' + 1, rfl, by omega, fun _ => rfl, rfl⟩, mu_lt gj'⟩) (fun hbb => ?_)
      refine hN7.get rfl hh (decide_eq_true (by omega)) fun ad2 ea2 hld2 => ⟨_, _, _, hld2, ?_⟩
      refine hown.sl.get rfl hxj (decide_eq_true (by omega)) fun ad3 ea3 hc3 => ⟨_, ld_one (by kernel_rfl) hc3, ⟨j' + 1, rfl, by omega, fun hm => ?_, rfl⟩, mu_lt gj'⟩
      rw [htk] at hm
      rcases List.mem_append.1 hm with h | h
      · rw [hany h] at hbb; cases hbb
      · have : s = y := by simpa using h
        exact same_bytes this
    · have : xs.take j' = xs := List.take_of_length_le (by simp at gj; omega)
      rw [this] at hany
      have hbb := hany hmem
      subst hbb
      refine brB_of (fun h => by cases h) (fun _ => brB_of (fun hk0 => ?_) (fun _ => rfl))
      refine hN7.get rfl hh (decide_eq_true (by omega)) fun ad2 ea2 hld2 => ⟨_, _, _, hld2, ?_⟩
      subst hxs
      refine (hown.sl).head (decide_eq_true (by omega)) fun ad3 ea3 hc3 => ⟨_, ld_one (by kernel_rfl) hc3, brB_of (fun h => ?_) (fun _ => rfl)⟩
      rw [same_bytes (hzero (by simpa using hk0))] at h
      cases h
  · rintro J3 HB rfl
    rw [succ64 (by omega)]
    exact ⟨⟨q + 1, rfl, by omega, rfl⟩, mu_lt gq'⟩
end Go.Proofs
