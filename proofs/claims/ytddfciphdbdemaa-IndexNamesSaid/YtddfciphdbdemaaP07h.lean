/- A part of a proof: see the last text of this claim. -/
import Derived.Test.YtddfciphdbdemaaP07g
set_option linter.unusedVariables false
set_option maxRecDepth 100000
open Go Go.GV
namespace Go.Proofs

theorem lbl_eq (x y : Lbl) : (!(x.1 == y.1 && (x.2 == y.2 && true))) = !decide (x = y) := by
  rw [bytes_beq, bytes_beq]
  congr 1
  rw [Bool.and_true, ← Bool.decide_and]
  exact decide_eq_decide.2 ⟨fun h => Prod.ext h.1 h.2, fun h => by subst h; exact ⟨rfl, rfl⟩⟩
theorem Same_ok {a b : Option Addr} {n c m d : Nat} {xs ys : Lbls} {H : Heap} {K : Bool → Heap → Prop} (hx : Sl encL H a n c xs) (hy : Sl encL H b m d ys) (hn : n ≤ 1000000000) (hk : K (decide (xs = ys)) H) :
    CallH Try.prog fn_ref04_Same ⟨[.slice a n c, .slice b m d]⟩ H fun v H' => ∃ r, v = .bool r ∧ K r H' := by
  apply vc_ref04_Same
  have hlx := hx.len
  have hly := hy.len
  refine brB_of (fun h => ⟨_, rfl, ?_⟩) (fun h => ?_)
  · have : ¬ xs = ys := fun e => by subst e; simp at h; omega
    rwa [decide_eq_false this] at hk
  have hnm : n = m := by simp at h; omega
  refine ⟨fun vs H' => match vs with | [.int _ i] => ∃ k : Nat, i = k ∧ k ≤ n ∧ xs.take k = ys.take k ∧ H' = H | _ => False,
    fun vs _ => match vs with | [.int _ i] => n - i.toNat | _ => 0, ⟨0, rfl, by omega, by simp, rfl⟩, ?_⟩
  rintro J i H' ⟨k, rfl, hle, ht, rfl⟩
  refine brB_of (fun h0 => ?_) (fun h0 => ⟨_, rfl, ?_⟩)
  · have h0' : k < n := by simpa using h0
    have hx1 : xs[k]? = some (xs[k]'(by omega)) := by simp
    have hy1 : ys[k]? = some (ys[k]'(by omega)) := by simp
    generalize xs[k]'(by omega) = x at hx1
    generalize ys[k]'(by omega) = y at hy1
    refine hx.get rfl hx1 (decide_eq_true (by omega)) fun ad ea hc => ⟨_, _, ldL hc, ?_⟩
    refine hy.get rfl hy1 (decide_eq_true (by omega)) fun bd eb hd => ⟨_, _, ldL hd, ?_⟩
    rw [lbl_eq]
    refine brB_of (fun h2 => ⟨_, rfl, ?_⟩) (fun h2 => ?_)
    · have : ¬ xs = ys := fun e => by subst e; rw [hx1] at hy1; cases hy1; simp at h2
      rwa [decide_eq_false this] at hk
    · rw [succ64 (by omega)]
      refine ⟨⟨k + 1, rfl, by omega, ?_, rfl⟩, mu_lt h0'⟩
      rw [List.take_add_one, List.take_add_one, hx1, hy1, ht]
      simp at h2
      rw [h2]
  · have e1 : xs.take k = xs := List.take_of_length_le (by simp at h0; omega)
    have e2 : ys.take k = ys := List.take_of_length_le (by simp at h0; omega)
    rw [e1, e2] at ht
    rwa [decide_eq_true ht] at hk

theorem rNew_ok {H : Heap} {K : Option Addr → Heap → Prop} (hk : ∀ H' yb U, RefH H' yb U [] → (∀ k ∈ U, H.size ≤ k) → Fr [] H H' → K (some ⟨yb, 0, none⟩) H') :
    CallH Try.prog fn_ref07_New ⟨[]⟩ H fun v H' => ∃ a, v = .pointer a ∧ K a H' := by
  apply vc_ref07_New
  intro b H1 h1
  have e := h1.eq
  have s := h1.size
  exact ⟨_, rfl, hk H1 b [b] ⟨none, 0, 0, [], h1.get, Own.nil _ _ _ _, ⟨rfl, by simp⟩, by simp, by simp [blkL], fun k hk => by simp at hk; omega⟩ (fun k hk => by simp at hk; omega) h1.fr⟩
theorem rLen_ok {H : Heap} {yb : Nat} {U : List Nat} {L : List Lbls} {K : Int → Heap → Prop} (h : RefH H yb U L) (hk : K L.length H) :
    CallH Try.prog fn_ref07_Index_Len ⟨[.pointer (some ⟨yb, 0, none⟩)]⟩ H fun v H' => ∃ i, v = .int .i64 i ∧ K i H' := by
  apply vc_ref07_Index_Len
  obtain ⟨a0, n0, c0, hs, h1, h2, h3, _⟩ := h
  have e : n0 = L.length := by rw [h2.1, h3.1]
  have hb : Blk H ⟨yb, 0, none⟩ [.slice a0 n0 c0] := ⟨yb, _, rfl, h1⟩
  exact ⟨_, _, _, hb.ld0 (by kernel_rfl) rfl, _, rfl, by rw [e]; exact hk⟩
theorem rLabels_ok {H : Heap} {yb : Nat} {U : List Nat} {L : List Lbls} {id : Int} {K : Option Addr → Nat → Nat → Heap → Prop} (h : RefH H yb U L) (hw : WfI L)
    (hk : ∀ a' n' c' H', Own encL 64 H.size H' a' n' c' (if 0 ≤ id then L.getD id.toNat [] else []) → Fr [] H H' → K a' n' c' H') :
    CallH Try.prog fn_ref07_Index_Labels ⟨[.pointer (some ⟨yb, 0, none⟩), .int .i64 id]⟩ H fun v H' => ∃ a n c, v = .slice a n c ∧ K a n c H' := by
  apply vc_ref07_Index_Labels
  obtain ⟨a0, n0, c0, hs, h1, h2, h3, _⟩ := h
  have e : n0 = L.length := by rw [h2.1, h3.1]
  have hb : Blk H ⟨yb, 0, none⟩ [.slice a0 n0 c0] := ⟨yb, _, rfl, h1⟩
  have nil : ¬ (0 ≤ id ∧ id < L.length) → ∃ a n c, Value.slice none 0 0 = .slice a n c ∧ K a n c H := fun hno => ⟨_, _, _, rfl, hk none 0 0 H (by
    have : (if 0 ≤ id then L.getD id.toNat [] else []) = ([] : Lbls) := by
      split
      · rw [List.getD_eq_getElem?_getD, List.getElem?_eq_none (by omega)]; rfl
      · rfl
    rw [this]; exact Own.nil _ _ _ _) (Fr.refl _ _)⟩
  refine ⟨fun _ H' => H' = H ∧ 0 ≤ id ∧ id < L.length, ?_, ?_⟩
  · refine brB_of (fun h => nil ?_) (fun h => ⟨_, _, _, hb.ld0 (by kernel_rfl) rfl, brB_of (fun h2 => nil ?_) (fun h2 => ⟨rfl, ?_, ?_⟩)⟩)
    · simp at h; omega
    · simp at h2; omega
    · simp at h; omega
    · simp at h2; omega
  rintro J H1 ⟨rfl, h0, h01⟩
  intro b H2 hn2
  have hb2 := hb.keep hn2.fr
  refine ⟨_, _, _, hb2.ld0 (by kernel_rfl) rfl, ?_⟩
  have hi : id.toNat < hs.length := by rw [h3.1]; omega
  have hx1 : hs[id.toNat]? = some (hs[id.toNat]'hi) := by simp
  have hl1 : L[id.toNat]? = some (L[id.toNat]'(by omega)) := by simp
  generalize hs[id.toNat]'hi = hd at hx1
  have e2 : (if 0 ≤ id then L.getD id.toNat [] else []) = L[id.toNat]'(by omega) := by rw [if_pos h0, List.getD_eq_getElem?_getD, hl1]; rfl
  rw [e2] at hk
  generalize L[id.toNat]'(by omega) = l at hl1 hk
  have hl := (h3.2 _ _ _ hx1 hl1).1
  have ho0 : Own encL 64 H1.size H2 (some ⟨b, 0, none⟩) 0 0 [] := Own.made encL 64 hn2 (Nat.le_refl _)
  refine (h2.sl.keep hn2.fr).get (k := id.toNat) (by omega) hx1 (decide_eq_true (by omega)) fun ad ea hc => ⟨_, _, _, ldH hc, ?_⟩
  have hc8 := (hw.chk l (List.mem_of_getElem? hl1)).1
  exact ap_own (E := encL) slice23 elem64 ho0 hn2.fr (hl.sl.keep hn2.fr) (by have := hl.1; omega) fun a' n' c' H3 h3 hf3 _ => ⟨_, _, _, rfl, hk a' n' c' H3 (by simpa using h3) hf3⟩

theorem rFind_ok {H : Heap} {yb : Nat} {U : List Nat} {L : List Lbls} {a : Option Addr} {n c : Nat} {l : Lbls} {K : Int → Bool → Heap → Prop} (h : RefH H yb U L) (hw : WfI L) (hx : Sl encL H a n c l)
    (hk : K (posI L l) (posL L l).isSome H) :
    CallH Try.prog fn_ref07_Index_Find ⟨[.pointer (some ⟨yb, 0, none⟩), .slice a n c]⟩ H fun v H' => ∃ i b, v = .tuple ⟨[.int .i64 i, .bool b]⟩ ∧ K i b H' := by
  apply vc_ref07_Index_Find
  obtain ⟨a0, n0, c0, hs, h1, h2, h3, _⟩ := h
  have e : n0 = L.length := by rw [h2.1, h3.1]
  have hlen := hw.len
  have hb : Blk H ⟨yb, 0, none⟩ [.slice a0 n0 c0] := ⟨yb, _, rfl, h1⟩
  refine ⟨fun vs H' => match vs with | [.int _ i] => ∃ k : Nat, i = k ∧ k ≤ n0 ∧ (∀ j m, j < k → L[j]? = some m → m ≠ l) ∧ H' = H | _ => False,
    fun vs _ => match vs with | [.int _ i] => n0 - i.toNat | _ => 0, ⟨0, rfl, by omega, fun j m h => by omega, rfl⟩, ?_⟩
  rintro J i H1 ⟨k, rfl, hle, hall, rfl⟩
  refine ⟨_, _, _, hb.ld0 (by kernel_rfl) rfl, brB_of (fun h0 => ?_) (fun h0 => ⟨_, _, rfl, ?_⟩)⟩
  · have h0' : k < n0 := by simpa using h0
    have hx1 : hs[k]? = some (hs[k]'(by have := h2.1; omega)) := by simp
    have hl1 : L[k]? = some (L[k]'(by omega)) := by simp
    generalize hs[k]'(by have := h2.1; omega) = hd at hx1
    generalize L[k]'(by omega) = m at hl1
    have hl := (h3.2 _ _ _ hx1 hl1).1
    refine ⟨_, _, _, hb.ld0 (by kernel_rfl) rfl, ?_⟩
    refine h2.sl.get rfl hx1 (decide_eq_true (by omega)) fun ad ea hc => ⟨_, _, _, ldH hc, ?_⟩
    have hc8 := (hw.chk m (List.mem_of_getElem? hl1)).1
    refine Same_ok hl.sl hx (by have := hl.1; omega) (brB_of (fun h4 => ⟨_, _, rfl, ?_⟩) (fun h4 => ?_))
    · have : m = l := of_decide_eq_true h4
      subst this
      unfold posI at hk
      rw [posL_get hw.nodup hl1] at hk
      exact hk
    · rw [succ64 (by omega)]
      refine ⟨⟨k + 1, rfl, by omega, fun j w hj hw' => ?_, rfl⟩, mu_lt h0'⟩
      rcases Nat.lt_or_ge j k with h | h
      · exact hall j w h hw'
      · have : j = k := by omega
        subst this
        rw [hl1] at hw'; cases hw'
        exact of_decide_eq_false h4
  · have : posL L l = none := by
      rw [posL_none]
      intro hm
      obtain ⟨j, hj⟩ := List.mem_iff_getElem?.1 hm
      have hjl := (List.getElem?_eq_some_iff.1 hj).1
      exact hall j l (by simp at h0; omega) hj rfl
    unfold posI at hk
    rw [this] at hk
    exact hk

theorem rAdd_ok {H : Heap} {yb : Nat} {U : List Nat} {L : List Lbls} {a : Option Addr} {n c : Nat} {l : Lbls} {K : Int → Int → Heap → Prop} (h : RefH H yb U L) (hw : WfI L) (hx : Sl encL H a n c l)
    (hk : ∀ H' U', RefH H' yb U' (addL L l) → Fr U H H' → Grow H U U' → K (addI L l) (addE L l) H') :
    CallH Try.prog fn_ref07_Index_Add ⟨[.pointer (some ⟨yb, 0, none⟩), .slice a n c]⟩ H fun v H' => ∃ i e, v = .tuple ⟨[.int .i64 i, .int .i64 e]⟩ ∧ K i e H' := by
  apply vc_ref07_Index_Add
  have same : ¬ (ChkP l ∧ l ∉ L ∧ L.length < 200) → K (addI L l) (addE L l) H := fun hno => hk H U (by
    have : addL L l = L := if_neg hno
    rw [this]; exact h) (Fr.refl _ _) (Grow.refl _ _)
  refine rCheck_ok hx ?_
  by_cases hC : ¬ ChkP l
  · have hK := same (fun hh => hC hh.1)
    unfold addI addE at hK
    rw [if_neg hC, if_neg hC] at hK
    rw [chkI_no hC]
    exact ⟨_, _, rfl, hK⟩
  have hC := Classical.not_not.1 hC
  rw [chkI_yes hC]
  refine brB_of (fun h => by simp at h) (fun _ => rFind_ok h hw hx ?_)
  unfold posI
  cases hpos : posL L l with
  | some i =>
    have hK := same (fun hh => hh.2.1 (List.mem_of_getElem? (posL_some hpos)))
    unfold addI addE at hK
    rw [if_pos hC, if_pos hC, hpos] at hK
    exact ⟨_, _, rfl, hK⟩
  | none =>
  obtain ⟨a0, n0, c0, hs, h1, h2, h3, hy, hA, hin⟩ := id h
  have e0 : n0 = L.length := by rw [h2.1, h3.1]
  have hb : Blk H ⟨yb, 0, none⟩ [.slice a0 n0 c0] := ⟨yb, _, rfl, h1⟩
  refine ⟨_, _, _, hb.ld0 (by kernel_rfl) rfl, brB_of (fun h4 => ?_) (fun h4 => ?_)⟩
  · have hfull : ¬ L.length < 200 := by simp at h4; omega
    have hK := same (fun hh => hfull hh.2.2)
    unfold addI addE at hK
    rw [if_pos hC, if_pos hC, hpos] at hK
    simp only [if_neg hfull] at hK
    exact ⟨_, _, rfl, hK⟩
  have hnew : l ∉ L := posL_none.1 hpos
  have hroom : L.length < 200 := by simp at h4; omega
  have eL : addL L l = L ++ [l] := if_pos ⟨hC, hnew, hroom⟩
  have eI : addI L l = L.length := by unfold addI; rw [if_pos hC, hpos]; simp only [if_pos hroom]
  have eE : addE L l = 0 := by unfold addE; rw [if_pos hC, hpos]; simp only [if_pos hroom]
  rw [eL, eI, eE] at hk
  have hn8 := hC.1
  have hlx := hx.len
  intro b H1 hn1
  have ho0 : Own encL 64 H.size H1 (some ⟨b, 0, none⟩) 0 0 [] := Own.made encL 64 hn1 (Nat.le_refl _)
  refine ⟨_, _, _, (hb.keep hn1.fr).ld0 (by kernel_rfl) rfl, ?_⟩
  refine ap_own (E := encL) slice23 elem64 ho0 hn1.fr (hx.keep hn1.fr) (by omega) fun a1 n1 c1 H2 ho2 hf2 _ => ?_
  simp only [List.nil_append] at ho2
  refine ⟨(hb.keep hf2).ld0 (by kernel_rfl) rfl, ?_⟩
  intro b3 H3 hn3
  have hf3 : Fr [] H H3 := hf2.keep0 hn3.fr
  have ho3 := ho2.keep hn3.fr
  refine ⟨(hb.keep hf3).ld0 (by kernel_rfl) rfl, ?_⟩
  have hs1 : Sl encH H3 (some ⟨b3, 0, none⟩) 1 1 [((a1, n1, c1) : Hd)] := sl_one encH (a1, n1, c1) hn3 rfl
  have hall3 := h2.keep hf3
  have hcell3 := hf3.get0 h1
  refine ap_grow (E := encH) slice22 elem23 hall3 hs1 (Nat.zero_le _) (by omega) fun a' n' c' H4 ho4 hf4 hg4 => ?_
  have hyb4 : yb ∉ blkL a0 := own_ne_cells (by decide) hall3 hcell3
  have hcell4 := hf4.get hcell3 hyb4
  have hylt : yb < H3.size := lt_of_get hcell3
  refine st_blk (off := 0) (v := .slice a' n' c') hcell4 (by kernel_rfl) (by kernel_rfl) (fun x hx => by simp [Value.cells] at hx; subst hx; rfl) (by simp [Value.cells]) fun H5 hcell5 hf5 => ?_
  have hcell5 : H5[yb]? = some (.cells ⟨[.slice a' n' c']⟩ 68 (0, 0)) := hcell5
  have hya' : yb ∉ blkL a' := fun hk => by
    rcases hg4 yb hk with h5 | h5
    · exact hyb4 h5
    · omega
  have hb5 : Blk H5 ⟨yb, 0, none⟩ [.slice a' n' c'] := ⟨yb, _, rfl, hcell5⟩
  have hf35 : Fr (yb :: blkL a0) H3 H5 := hf4.trans' hf5 (fun k hk _ => by simp [hk]) (fun k hk _ => by simp at hk; simp [hk])
  have hall5 : Own encH 23 0 H5 a' n' c' (hs ++ [(a1, n1, c1)]) := own_fr ho4 hf5 (fun k hk => by simp; exact fun e => hya' (e ▸ hk))
  refine ⟨_, _, _, hb5.ld0 (by kernel_rfl) rfl, _, _, rfl, ?_⟩
  have en : IntKind.i64.wrap ((n' : Int) - 1) = L.length := by
    have := ho4.1
    rw [List.length_append] at this
    have hl := h3.1
    simp only [List.length_cons, List.length_nil] at this
    rw [wrap64_of (by omega) (by omega)]; omega
  rw [en]
  have lls3 := h3.fr hf3 (by simp)
  refine hk H5 (blkL a1 ++ (blkL a' ++ U)) ⟨a', n', c', hs ++ [(a1, n1, c1)], hcell5, hall5, LLO.snoc ?_ ?_ (fun k hk => by simp [hk]), by simp [hy], fun k hk => by simp [hk], ?_⟩ ?_ ?_
  · refine (lls3.fr hf35 fun i x m hx hm k hk => ?_).mono (fun k hk => by simp [hk])
    have hox := (lls3.2 i x m hx hm).1
    simp only [List.mem_cons, not_or]
    exact ⟨fun e => own_ne_cells (by decide) hox hcell3 (e ▸ hk), own_ne_own (by decide) hox hall3 k hk⟩
  · refine (own_fr ho3 hf35 fun k hk => ?_).base (Nat.zero_le _)
    simp only [List.mem_cons, not_or]
    exact ⟨fun e => own_ne_cells (by decide) ho3 hcell3 (e ▸ hk), own_ne_own (by decide) ho3 hall3 k hk⟩
  · intro k hk
    have s5 := hf35.size
    have s3 := hf3.size
    rcases List.mem_append.1 hk with hk | hk
    · have := (ho3.ge k hk).2; omega
    rcases List.mem_append.1 hk with hk | hk
    · have := (hall5.ge k hk).2; omega
    · have := hin k hk; omega
  · exact hf3.trans' hf35 (by simp) (fun k hk _ => by
      rcases List.mem_cons.1 hk with rfl | hk
      · exact hy
      · exact hA k hk)
  · intro k hk
    have s3 := hf3.size
    rcases List.mem_append.1 hk with hk | hk
    · exact .inr (ho2.ge k hk).1
    rcases List.mem_append.1 hk with hk | hk
    · rcases hg4 k hk with h5 | h5
      · exact .inl (hA k h5)
      · exact .inr (by omega)
    · exact .inl hk

/-- Lists of labels that came in. -/
def LLs (H : Heap) (hs : List Hd) (L : List Lbls) : Prop := hs.length = L.length ∧ ∀ (i : Nat) (h : Hd) (l : Lbls), hs[i]? = some h → L[i]? = some l → Sl encL H h.1 h.2.1 h.2.2 l
theorem LLs.keep {H H' : Heap} {hs : List Hd} {L : List Lbls} (h : LLs H hs L) (hf : Fr [] H H') : LLs H' hs L := ⟨h.1, fun i x l hx hl => (h.2 i x l hx hl).keep hf⟩
def Light (L : List Lbls) : Prop := L.length ≤ 4096 ∧ ∀ l ∈ L, l.length ≤ 4096 ∧ ∀ x ∈ l, x.1.size ≤ 4096 ∧ x.2.size ≤ 4096
theorem min20 (n : Nat) : (if 1048576 < (n : Int) then (1048576 : Int) else (n : Int)) = ((min n 1048576 : Nat) : Int) := by split <;> omega
theorem heavy_ok {H : Heap} {a : Option Addr} {n c : Nat} {hs : List Hd} {L : List Lbls} {K : Bool → Heap → Prop} (hx : Sl encH H a n c hs) (hl : LLs H hs L) (hyes : K true H) (hno : Light L → K false H) :
    CallH Try.prog fn_law07_heavy ⟨[.slice a n c]⟩ H fun v H' => ∃ b, v = .bool b ∧ K b H' := by
  apply vc_law07_heavy
  have e0 : n = L.length := by rw [hx.len, hl.1]
  rw [min20]
  refine ⟨fun vs H' => match vs with
      | [.int _ m, .int _ i] => ∃ (m' k : Nat), m = m' ∧ i = k ∧ k ≤ n ∧ m' ≤ 4000000 ∧ min n 1048576 ≤ m' ∧ (m' ≤ 4096 → ∀ l ∈ L.take k, l.length ≤ 4096 ∧ ∀ x ∈ l, x.1.size ≤ 4096 ∧ x.2.size ≤ 4096) ∧ H' = H
      | _ => False,
    fun vs _ => match vs with | [_, .int _ i] => n - i.toNat | _ => 0, ⟨min n 1048576, 0, rfl, rfl, by omega, by omega, by omega, by simp, rfl⟩, ?_⟩
  rintro J m i H1 ⟨m', k, rfl, rfl, hle, hm4, hmn, hall, rfl⟩
  have done : (n ≤ k ∨ 4096 < m') → ∃ b, Value.bool (decide ((m' : Int) > 4096)) = .bool b ∧ K b H1 := fun hd => ⟨_, rfl, by
    by_cases hb : 4096 < m'
    · rw [decide_eq_true (by omega)]; exact hyes
    · rw [decide_eq_false (by omega)]
      refine hno ⟨by omega, ?_⟩
      have hk : L.take k = L := List.take_of_length_le (by omega)
      have := hall (by omega)
      rwa [hk] at this⟩
  refine ⟨fun _ H' => H' = H1 ∧ k < n ∧ m' ≤ 4096, ?_, ?_⟩
  · refine brB_of (fun h0 => brB_of (fun h1 => ⟨rfl, by simpa using h0, by simp at h1; omega⟩) (fun h1 => done (.inr (by simp at h1; omega)))) (fun h0 => done (.inl (by simp at h0; omega)))
  rintro J H2 ⟨rfl, h0', h1'⟩
  have hx1 : hs[k]? = some (hs[k]'(by have := hx.len; omega)) := by simp
  have hl1 : L[k]? = some (L[k]'(by omega)) := by simp
  generalize hs[k]'(by have := hx.len; omega) = hd at hx1
  generalize L[k]'(by omega) = l at hl1
  have hs1 := hl.2 _ _ _ hx1 hl1
  have hsl := hs1.len
  refine hx.get rfl hx1 (decide_eq_true (by omega)) fun ad ea hc => ⟨_, _, _, ldH hc, ?_⟩
  rw [min20, wrap64_of (by omega) (by omega)]
  refine ⟨fun vs H' => match vs with
      | [.int _ m, .int _ i] => ∃ (p j : Nat), m = p ∧ i = j ∧ j ≤ hd.2.1 ∧ p ≤ 4000000 ∧ m' ≤ p ∧ min hd.2.1 1048576 ≤ p ∧ (p ≤ 4096 → ∀ x ∈ l.take j, x.1.size ≤ 4096 ∧ x.2.size ≤ 4096) ∧ H' = H2
      | _ => False,
    fun vs _ => match vs with | [_, .int _ i] => hd.2.1 - i.toNat | _ => 0, ⟨m' + min hd.2.1 1048576, 0, by omega, rfl, by omega, by omega, by omega, by omega, by simp, rfl⟩, ?_⟩
  rintro J p' j' H3 ⟨p, j, rfl, rfl, hjl, hp4, hmp, hdp, hx2, rfl⟩
  have next : (hd.2.1 ≤ j ∨ 4096 < p) → (∃ (m' k_1 : Nat), (p : Int) = m' ∧ IntKind.i64.wrap ((k : Int) + 1) = k_1 ∧ k_1 ≤ n ∧ m' ≤ 4000000 ∧ min n 1048576 ≤ m' ∧ (m' ≤ 4096 → ∀ l ∈ L.take k_1, l.length ≤ 4096 ∧ ∀ x ∈ l, x.1.size ≤ 4096 ∧ x.2.size ≤ 4096) ∧ H3 = H3) ∧ n - (IntKind.i64.wrap ((k : Int) + 1)).toNat < n - (k : Int).toNat := fun hd' => by
    have hn4 : n ≤ 4096 := by omega
    rw [succ64 (by omega)]
    refine ⟨⟨p, k + 1, rfl, rfl, by omega, hp4, by omega, fun hp => ?_, rfl⟩, mu_lt h0'⟩
    intro l' hl'
    rw [List.take_add_one, hl1] at hl'
    rcases List.mem_append.1 hl' with h | h
    · exact hall (by omega) l' h
    · simp at h; subst h
      refine ⟨by omega, ?_⟩
      have hk : l'.take j = l' := List.take_of_length_le (by omega)
      have := hx2 hp
      rwa [hk] at this
  refine ⟨fun _ H' => H' = H3 ∧ j < hd.2.1 ∧ p ≤ 4096, ?_, ?_⟩
  · refine hx.get rfl hx1 (decide_eq_true (by omega)) fun ad ea hc => ⟨_, _, _, ldH hc, ?_⟩
    exact brB_of (fun h0 => brB_of (fun h1 => ⟨rfl, by simpa using h0, by simp at h1; omega⟩) (fun h1 => next (.inr (by simp at h1; omega)))) (fun h0 => next (.inl (by simp at h0; omega)))
  rintro J H4 ⟨rfl, hj', hp'⟩
  clear next done
  have hy1 : l[j]? = some (l[j]'(by omega)) := by simp
  generalize l[j]'(by omega) = x at hy1
  refine hx.get rfl hx1 (decide_eq_true (by omega)) fun ad ea hc => ⟨_, _, _, ldH hc, ?_⟩
  refine hs1.get rfl hy1 (decide_eq_true (by omega)) fun ad1 ea1 hc1 => ⟨_, ldN hc1, ?_⟩
  refine hx.get rfl hx1 (decide_eq_true (by omega)) fun ad ea hc => ⟨_, _, _, ldH hc, ?_⟩
  refine hs1.get rfl hy1 (decide_eq_true (by omega)) fun ad1 ea1 hc1 => ⟨_, ldV hc1, ?_⟩
  rw [min20, min20]
  have ew : IntKind.i64.wrap ((p : Int) + IntKind.i64.wrap (((min x.1.size 1048576 : Nat) : Int) + ((min x.2.size 1048576 : Nat) : Int))) = ((p + (min x.1.size 1048576 + min x.2.size 1048576) : Nat) : Int) := by
    rw [wrap64_of (n := ((min x.1.size 1048576 : Nat) : Int) + ((min x.2.size 1048576 : Nat) : Int)) (by omega) (by omega), wrap64_of (by omega) (by omega)]
    omega
  have hd4 : hd.2.1 ≤ 1048576 := by omega
  rw [ew, succ64 (by omega)]
  refine ⟨⟨_, j + 1, rfl, rfl, by omega, by omega, by omega, by omega, fun hp y hy => ?_, rfl⟩, mu_lt hj'⟩
  rw [List.take_add_one, hy1] at hy
  rcases List.mem_append.1 hy with h | h
  · exact hx2 (by omega) y h
  · simp at h; subst h; omega
end Go.Proofs
