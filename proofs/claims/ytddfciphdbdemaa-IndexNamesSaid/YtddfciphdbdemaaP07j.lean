/- A part of a proof: see the last text of this claim. -/
import Derived.Test.YtddfciphdbdemaaP07i
set_option linter.unusedVariables false
set_option maxRecDepth 100000
open Go Go.GV
namespace Go.Proofs

theorem ldS9 {H : Heap} {ad : Addr} {x : ByteArray} (h : CellsAt H ad (encStr.cells x)) : Ld Try.prog 9 H ad (.string x) := ld_one (by kernel_rfl) h

theorem getV_take {l : Lbls} {nm : ByteArray} {k : Nat} {x : Lbl} (hx : l[k]? = some x) (hno : ∀ y ∈ l.take k, y.1 ≠ nm) (he : x.1 = nm) : getV l nm = x.2 := by
  have e : l.find? (fun x => decide (x.1 = nm)) = some x := by
    have hk := (List.getElem?_eq_some_iff.1 hx).1
    have h2 : l = l.take k ++ x :: l.drop (k + 1) := by
      have h3 := List.drop_eq_getElem_cons hk
      have h4 : l[k] = x := by have := (List.getElem?_eq_some_iff.1 hx).2; exact this
      rw [h4] at h3
      rw [← h3, List.take_append_drop]
    rw [h2, List.find?_append]
    have h5 : (l.take k).find? (fun x => decide (x.1 = nm)) = none := List.find?_eq_none.2 fun y hy => by simp [hno y hy]
    rw [h5]
    simp [he]
  unfold getV
  rw [e]
theorem getV_none {l : Lbls} {nm : ByteArray} (hno : ∀ y ∈ l, y.1 ≠ nm) : getV l nm = ⟨#[]⟩ := getV_miss fun v hv => hno _ hv rfl
theorem Get_ok {a : Option Addr} {n c : Nat} {l : Lbls} {nm : ByteArray} {H : Heap} {K : ByteArray → Heap → Prop} (hx : Sl encL H a n c l) (hn : n ≤ 1000000000) (hk : ∀ H', Fr [] H H' → K (getV l nm) H') :
    CallH Try.prog fn_label_Get ⟨[.slice a n c, .string nm]⟩ H fun v H' => ∃ s, v = .string s ∧ K s H' := by
  apply vc_label_Get
  have hlx := hx.len
  refine ⟨fun vs H' => match vs with | [.int _ i] => ∃ k : Nat, i = k ∧ k ≤ n ∧ (∀ y ∈ l.take k, y.1 ≠ nm) ∧ Fr [] H H' | _ => False,
    fun vs _ => match vs with | [.int _ i] => n - i.toNat | _ => 0, ⟨0, rfl, by omega, by simp, Fr.refl _ _⟩, ?_⟩
  rintro J i H1 ⟨k, rfl, hle, hall, hf⟩
  refine brB_of (fun h0 => ?_) (fun h0 => ⟨_, rfl, ?_⟩)
  · have h0' : k < n := by simpa using h0
    have hx1 : l[k]? = some (l[k]'(by omega)) := by simp
    generalize l[k]'(by omega) = x at hx1
    refine (hx.keep hf).get rfl hx1 (decide_eq_true (by omega)) fun ad ea hc => ⟨_, _, ldL hc, ?_⟩
    refine var_lbl rfl fun b H2 hb hv hf2 => ⟨_, hv.s0, ?_⟩
    have hf2' := hf.keep0 hf2
    rw [beqS]
    refine brB_of (fun h => ⟨_, hv.s1, _, rfl, ?_⟩) (fun h => ?_)
    · have := hk H2 hf2'
      rwa [getV_take hx1 hall (of_decide_eq_true h)] at this
    · rw [succ64 (by omega)]
      refine ⟨⟨k + 1, rfl, by omega, fun y hy => ?_, hf2'⟩, mu_lt h0'⟩
      rw [List.take_add_one, hx1] at hy
      rcases List.mem_append.1 hy with h1 | h1
      · exact hall y h1
      · simp at h1; subst h1; exact of_decide_eq_false h
  · have hkn : l.take k = l := List.take_of_length_le (by simp at h0; omega)
    rw [hkn] at hall
    have := hk H1 hf
    rwa [getV_none hall] at this
theorem rGet_ok {a : Option Addr} {n c : Nat} {l : Lbls} {nm : ByteArray} {H : Heap} {K : ByteArray → Heap → Prop} (hx : Sl encL H a n c l) (hn : n ≤ 1000000000) (hk : K (getV l nm) H) :
    CallH Try.prog fn_ref04_Get ⟨[.slice a n c, .string nm]⟩ H fun v H' => ∃ s, v = .string s ∧ K s H' := by
  apply vc_ref04_Get
  have hlx := hx.len
  refine ⟨fun vs H' => match vs with | [.int _ i] => ∃ k : Nat, i = k ∧ k ≤ n ∧ (∀ y ∈ l.take k, y.1 ≠ nm) ∧ H' = H | _ => False,
    fun vs _ => match vs with | [.int _ i] => n - i.toNat | _ => 0, ⟨0, rfl, by omega, by simp, rfl⟩, ?_⟩
  rintro J i H1 ⟨k, rfl, hle, hall, rfl⟩
  refine brB_of (fun h0 => ?_) (fun h0 => ⟨_, rfl, ?_⟩)
  · have h0' : k < n := by simpa using h0
    have hx1 : l[k]? = some (l[k]'(by omega)) := by simp
    generalize l[k]'(by omega) = x at hx1
    refine hx.get rfl hx1 (decide_eq_true (by omega)) fun ad ea hc => ⟨_, ldN hc, ?_⟩
    rw [beqS]
    refine brB_of (fun h => ?_) (fun h => ?_)
    · refine hx.get rfl hx1 (decide_eq_true (by omega)) fun ad ea hc => ⟨_, ldV hc, _, rfl, ?_⟩
      rwa [getV_take hx1 hall (of_decide_eq_true h)] at hk
    · rw [succ64 (by omega)]
      refine ⟨⟨k + 1, rfl, by omega, fun y hy => ?_, rfl⟩, mu_lt h0'⟩
      rw [List.take_add_one, hx1] at hy
      rcases List.mem_append.1 hy with h1 | h1
      · exact hall y h1
      · simp at h1; subst h1; exact of_decide_eq_false h
  · have hkn : l.take k = l := List.take_of_length_le (by simp at h0; omega)
    rw [hkn] at hall
    rwa [getV_none hall] at hk

theorem prefix_eq (s p : ByteArray) (h : p.size ≤ s.size) : (ByteArray.toList (s.extract 0 p.size) == ByteArray.toList p) = decide (p.size ≤ s.size ∧ (bl s).take p.size = bl p) := by
  rw [beqS]
  refine decide_eq_decide.2 ⟨fun e => ⟨h, ?_⟩, fun e => ?_⟩
  · rw [← e, bl_ext]; rw [e]; rfl
  · apply bl_inj
    rw [bl_ext, List.drop_zero]; exact e.2
theorem HasPrefix_ok {s p : ByteArray} {H : Heap} {K : Bool → Heap → Prop} (hk : K (decide (p.size ≤ s.size ∧ (bl s).take p.size = bl p)) H) :
    CallH Try.prog fn_strings_HasPrefix ⟨[.string s, .string p]⟩ H fun v H' => ∃ b, v = .bool b ∧ K b H' := by
  apply vc_strings_HasPrefix
  apply vc_internal_stringslite_HasPrefix
  refine brB_of (fun h => ?_) (fun h => ⟨_, rfl, _, rfl, ?_⟩)
  · have h' : p.size ≤ s.size := by simp at h; omega
    refine chk_of ⟨by omega, by omega, by omega⟩ ⟨_, rfl, _, rfl, ?_⟩
    rw [Int.toNat_natCast, prefix_eq s p h']
    exact hk
  · have h' : ¬ p.size ≤ s.size := by simp at h; omega
    rwa [decide_eq_false fun hh => h' hh.1] at hk
open Classical in
theorem Contains_ok {a : Option Addr} {n c : Nat} {S : List ByteArray} {s : ByteArray} {H : Heap} {K : Bool → Heap → Prop} (hx : Sl encStr H a n c S) (hn : n ≤ 1000000000) (hk : K (decide (s ∈ S)) H) :
    CallH Try.prog fn_slices_Contains___string_string_ ⟨[.slice a n c, .string s]⟩ H fun v H' => ∃ b, v = .bool b ∧ K b H' := by
  apply vc_slices_Contains___string_string_
  apply vc_slices_Index___string_string_
  have hlx := hx.len
  refine ⟨fun vs H' => match vs with | [.int _ i] => ∃ k : Nat, i = k ∧ k ≤ n ∧ (∀ y ∈ S.take k, s ≠ y) ∧ H' = H | _ => False,
    fun vs _ => match vs with | [.int _ i] => n - i.toNat | _ => 0, ⟨0, rfl, by omega, by simp, rfl⟩, ?_⟩
  rintro J i H1 ⟨k, rfl, hle, hall, rfl⟩
  refine brB_of (fun h0 => ?_) (fun h0 => ⟨_, rfl, _, rfl, ?_⟩)
  · have h0' : k < n := by simpa using h0
    have hx1 : S[k]? = some (S[k]'(by omega)) := by simp
    generalize S[k]'(by omega) = x at hx1
    refine hx.get rfl hx1 (decide_eq_true (by omega)) fun ad ea hc => ⟨_, ldS9 hc, ?_⟩
    rw [beqS]
    refine brB_of (fun h => ⟨_, rfl, _, rfl, ?_⟩) (fun h => ?_)
    · have : s ∈ S := by rw [of_decide_eq_true h]; exact List.mem_of_getElem? hx1
      rw [decide_eq_true this] at hk
      rwa [decide_eq_true (show ((k : Int) ≥ 0) by omega)]
    · rw [succ64 (by omega)]
      refine ⟨⟨k + 1, rfl, by omega, fun y hy => ?_, rfl⟩, mu_lt h0'⟩
      rw [List.take_add_one, hx1] at hy
      rcases List.mem_append.1 hy with h1 | h1
      · exact hall y h1
      · simp at h1; subst h1; exact of_decide_eq_false h
  · have hkn : S.take k = S := List.take_of_length_le (by simp at h0; omega)
    rw [hkn] at hall
    have : ¬ s ∈ S := fun h => hall s h rfl
    rwa [decide_eq_false this] at hk

/-! matchers in memory -/
abbrev Mat := Int × ByteArray × ByteArray × Hd
def encM : Enc Mat := ⟨fun x => [.int .i64 x.1, .string x.2.1, .string x.2.2.1, .slice x.2.2.2.1 x.2.2.2.2.1 x.2.2.2.2.2], 4, fun _ => rfl, by decide, fun _ v h => by simp at h; rcases h with rfl | rfl | rfl | rfl <;> rfl⟩
theorem elem47 : elemB Try.prog 47 4 64 = true := by kernel_rfl
abbrev vM (x : Mat) : Value := .agg ⟨[.int .i64 x.1, .string x.2.1, .string x.2.2.1, .slice x.2.2.2.1 x.2.2.2.2.1 x.2.2.2.2.2]⟩
theorem ldM {H : Heap} {ad : Addr} {x : Mat} (h : CellsAt H ad (encM.cells x)) : Ld Try.prog 47 H ad (vM x) := ld_many (by kernel_rfl) (by kernel_rfl) h
/-- A matcher, and its set's memory. -/
structure MatH (H : Heap) (x : Mat) (m : Mch) : Prop where
  kind : m.1 = x.1
  name : m.2.1 = x.2.1
  val : m.2.2.1 = x.2.2.1
  set : Sl encStr H x.2.2.2.1 x.2.2.2.2.1 x.2.2.2.2.2 m.2.2.2
  len : x.2.2.2.2.1 ≤ 1000000000
theorem MatH.keep {H H' : Heap} {x : Mat} {m : Mch} (h : MatH H x m) (hf : Fr [] H H') : MatH H' x m := { h with set := h.set.keep hf }
def MatB (H : Heap) (b : Nat) (x : Mat) : Prop := Blk H ⟨b, 0, none⟩ (encM.cells x)
theorem MatB.keep {H H' : Heap} {b : Nat} {x : Mat} (h : MatB H b x) (hf : Fr [] H H') : MatB H' b x := Blk.keep h hf
theorem MatB.l0 {H : Heap} {b : Nat} {x : Mat} (h : MatB H b x) : Ld Try.prog 3 H ⟨b, 0, none⟩ (.int .i64 x.1) := Blk.ld0 (by kernel_rfl) h rfl
theorem MatB.l1 {H : Heap} {b : Nat} {x : Mat} (h : MatB H b x) : Ld Try.prog 9 H ⟨b, 1, none⟩ (.string x.2.1) := Blk.ldK (j := 1) (by kernel_rfl) h rfl
theorem MatB.l2 {H : Heap} {b : Nat} {x : Mat} (h : MatB H b x) : Ld Try.prog 9 H ⟨b, 2, none⟩ (.string x.2.2.1) := Blk.ldK (j := 2) (by kernel_rfl) h rfl
theorem MatB.l3 {H : Heap} {b : Nat} {x : Mat} (h : MatB H b x) : Ld Try.prog 45 H ⟨b, 3, none⟩ (.slice x.2.2.2.1 x.2.2.2.2.1 x.2.2.2.2.2) := Blk.ldK (j := 3) (by kernel_rfl) h rfl
theorem MatB.lA {H : Heap} {b : Nat} {x : Mat} (h : MatB H b x) : Ld Try.prog 47 H ⟨b, 0, none⟩ (vM x) := Blk.ldA0 (by kernel_rfl) (by kernel_rfl) h rfl

abbrev kindsV : Value := .agg ⟨[.string ⟨#[61]⟩, .func (.func 114) ⟨[]⟩ ⟨[]⟩, .string ⟨#[33, 61]⟩, .func (.func 115) ⟨[]⟩ ⟨[]⟩, .string ⟨#[94, 61]⟩, .func (.func 116) ⟨[]⟩ ⟨[]⟩, .string ⟨#[64, 61]⟩, .func (.func 118) ⟨[]⟩ ⟨[]⟩]⟩
theorem kinds_ok {H : Heap} {R : Value → Heap → Prop} (hk : ∀ H', Fr [] H H' → R kindsV H') : CallH Try.prog fn_match_kinds ⟨[]⟩ H R := by
  apply vc_match_kinds
  refine var_blk (by kernel_rfl) (by kernel_rfl) (fun v h => by simp [Value.cells] at h; rcases h with rfl | rfl | rfl | rfl | rfl | rfl | rfl | rfl <;> rfl) rfl fun b H' hb hv hf => ?_
  exact ⟨_, _, _, _, _, _, _, _, hv.ldA0 (by kernel_rfl) (by kernel_rfl) rfl, hk H' hf⟩

theorem oneV_0 {m : Mch} {v : ByteArray} (h : m.1 = 0) : oneV m v = decide (v = m.2.2.1) := by unfold oneV; rw [if_pos h]
theorem oneV_1 {m : Mch} {v : ByteArray} (h : m.1 = 1) : oneV m v = !decide (v = m.2.2.1) := by unfold oneV; rw [if_neg (by omega), if_pos h]
theorem oneV_2 {m : Mch} {v : ByteArray} (h : m.1 = 2) : oneV m v = decide (m.2.2.1.size ≤ v.size ∧ (bl v).take m.2.2.1.size = bl m.2.2.1) := by unfold oneV; rw [if_neg (by omega), if_neg (by omega), if_pos h]
open Classical in
theorem oneV_3 {m : Mch} {v : ByteArray} (h : m.1 = 3) : oneV m v = decide (v ∈ m.2.2.2) := by unfold oneV; rw [if_neg (by omega), if_neg (by omega), if_neg (by omega), if_pos h]
theorem oneV_no {m : Mch} {v : ByteArray} (h : m.1 < 0 ∨ 3 < m.1) : oneV m v = false := by unfold oneV; rw [if_neg (by omega), if_neg (by omega), if_neg (by omega), if_neg (by omega)]

theorem One_ok {x : Mat} {m : Mch} {a : Option Addr} {n c : Nat} {l : Lbls} {H : Heap} {K : Bool → Heap → Prop} (hm : MatH H x m) (hl : Sl encL H a n c l) (hn : n ≤ 1000000000)
    (hk : ∀ H', Fr [] H H' → K (oneV m (getV l m.2.1)) H') :
    CallH Try.prog fn_match_One ⟨[vM x, .slice a n c]⟩ H fun v H' => ∃ b, v = .bool b ∧ K b H' := by
  apply vc_match_One
  intro b H1 hn1
  have hb : MatB H1 b x := hn1.blk
  have no : ¬ (0 ≤ x.1 ∧ x.1 ≤ 3) → ∃ b, Value.bool false = .bool b ∧ K b H1 := fun h => ⟨_, rfl, by
    have := hk H1 hn1.fr
    rwa [oneV_no (by rw [hm.kind]; omega)] at this⟩
  refine ⟨fun _ H' => H' = H1 ∧ 0 ≤ x.1 ∧ x.1 ≤ 3, ?_, ?_⟩
  · refine ⟨_, hb.l0, brB_of (fun h => no ?_) (fun h => ⟨_, hb.l0, brB_of (fun h2 => no ?_) (fun h2 => ⟨rfl, ?_, ?_⟩)⟩)⟩
    · simp at h; omega
    · simp at h2; omega
    · simp at h; omega
    · simp at h2; omega
  rintro J H2 ⟨rfl, g0, g3⟩
  refine ⟨_, hb.l0, _, _, _, _, _, _, hb.lA, _, hb.l1, kinds_ok fun H3 hf3 => ⟨_, _, _, _, _, _, _, _, rfl, ?_⟩⟩
  have hb3 := hb.keep hf3
  refine ⟨hb3.l1, hb3.lA, hb3.l0, chk_of ⟨by omega, by omega⟩ ?_⟩
  have hf13 := hn1.fr.keep0 hf3
  -- each kind's function, at any text
  have go : ∀ (v : Value) (s7 : ByteArray), Pt Try.prog 125 [.string ⟨#[61]⟩, .func (.func 114) ⟨[]⟩ ⟨[]⟩, .string ⟨#[33, 61]⟩, .func (.func 115) ⟨[]⟩ ⟨[]⟩, .string ⟨#[94, 61]⟩, .func (.func 116) ⟨[]⟩ ⟨[]⟩, .string ⟨#[64, 61]⟩, .func (.func 118) ⟨[]⟩ ⟨[]⟩] (x.1.toNat * 2) (.agg ⟨[.string s7, v]⟩) →
      (∀ (s : ByteArray) (H' : Heap) (K' : Bool → Heap → Prop), Fr [] H H' → (∀ H'', Fr [] H' H'' → K' (oneV m s) H'') → CallV Try.prog v [vM x, .string s] H' fun v H' => ∃ b, v = .bool b ∧ K' b H') →
      ∃ s_7 v, Pt Try.prog 125 [.string ⟨#[61]⟩, .func (.func 114) ⟨[]⟩ ⟨[]⟩, .string ⟨#[33, 61]⟩, .func (.func 115) ⟨[]⟩ ⟨[]⟩, .string ⟨#[94, 61]⟩, .func (.func 116) ⟨[]⟩ ⟨[]⟩, .string ⟨#[64, 61]⟩, .func (.func 118) ⟨[]⟩ ⟨[]⟩] (x.1.toNat * 2) (.agg ⟨[.string s_7, v]⟩) ∧
        CallH Try.prog 93 ⟨[.slice a n c, .string x.2.1]⟩ H3 fun v_5 H' => ∃ s_8, v_5 = .string s_8 ∧ Ld Try.prog 47 H' ⟨b, 0, none⟩ (vM x) ∧ Ld Try.prog 3 H' ⟨b, 0, none⟩ (.int .i64 x.1) ∧ CallV Try.prog v [vM x, .string s_8] H' fun v H' => ∃ b, v = .bool b ∧ ∃ b_1, Value.bool b = .bool b_1 ∧ K b_1 H' := by
    intro v s7 hp hv
    refine ⟨s7, v, hp, ?_⟩
    refine Get_ok (hl.keep hf13) hn fun H4 hf4 => ?_
    have hb4 := hb3.keep hf4
    refine ⟨hb4.lA, hb4.l0, hv _ H4 _ (hf13.keep0 hf4) fun H5 hf5 => ⟨_, rfl, ?_⟩⟩
    have := hk H5 ((hf13.keep0 hf4).keep0 hf5)
    rwa [hm.name] at this
  have hcases : x.1 = 0 ∨ x.1 = 1 ∨ x.1 = 2 ∨ x.1 = 3 := by omega
  rcases hcases with h | h | h | h
  · refine go (.func (.func 114) ⟨[]⟩ ⟨[]⟩) ⟨#[61]⟩ (by rw [h]; unfold Pt; kernel_rfl) fun s H' K' hf hK => ⟨114, ⟨[]⟩, ⟨[]⟩, rfl, by kernel_rfl, ?_⟩
    apply vc_match_kinds_1
    intro b1 H4 hn4
    have hb4 : MatB H4 b1 x := hn4.blk
    refine ⟨_, hb4.l2, _, rfl, ?_⟩
    have := hK H4 hn4.fr
    rwa [oneV_0 (by rw [hm.kind]; exact h), hm.val, ← beqS] at this
  · refine go (.func (.func 115) ⟨[]⟩ ⟨[]⟩) ⟨#[33, 61]⟩ (by rw [h]; unfold Pt; kernel_rfl) fun s H' K' hf hK => ⟨115, ⟨[]⟩, ⟨[]⟩, rfl, by kernel_rfl, ?_⟩
    apply vc_match_kinds_2
    intro b1 H4 hn4
    have hb4 : MatB H4 b1 x := hn4.blk
    refine ⟨_, hb4.l2, _, rfl, ?_⟩
    have := hK H4 hn4.fr
    rwa [oneV_1 (by rw [hm.kind]; exact h), hm.val, ← beqS] at this
  · refine go (.func (.func 116) ⟨[]⟩ ⟨[]⟩) ⟨#[94, 61]⟩ (by rw [h]; unfold Pt; kernel_rfl) fun s H' K' hf hK => ⟨116, ⟨[]⟩, ⟨[]⟩, rfl, by kernel_rfl, ?_⟩
    apply vc_match_kinds_3
    intro b1 H4 hn4
    have hb4 : MatB H4 b1 x := hn4.blk
    refine ⟨_, hb4.l2, HasPrefix_ok ⟨_, rfl, ?_⟩⟩
    have := hK H4 hn4.fr
    rwa [oneV_2 (by rw [hm.kind]; exact h), hm.val] at this
  · refine go (.func (.func 118) ⟨[]⟩ ⟨[]⟩) ⟨#[64, 61]⟩ (by rw [h]; unfold Pt; kernel_rfl) fun s H' K' hf hK => ⟨118, ⟨[]⟩, ⟨[]⟩, rfl, by kernel_rfl, ?_⟩
    apply vc_match_kinds_4
    intro b1 H4 hn4
    have hb4 : MatB H4 b1 x := hn4.blk
    refine ⟨_, _, _, hb4.l3, Contains_ok ((hm.keep hf).keep hn4.fr).set hm.len ⟨_, rfl, ?_⟩⟩
    have := hK H4 hn4.fr
    rwa [oneV_3 (by rw [hm.kind]; exact h)] at this

open Classical in
theorem rOne_ok {x : Mat} {m : Mch} {a : Option Addr} {n c : Nat} {l : Lbls} {H : Heap} {K : Bool → Heap → Prop} (hm : MatH H x m) (hl : Sl encL H a n c l) (hn : n ≤ 1000000000)
    (hk : ∀ H', Fr [] H H' → K (oneV m (getV l m.2.1)) H') :
    CallH Try.prog fn_ref05_One ⟨[vM x, .slice a n c]⟩ H fun v H' => ∃ b, v = .bool b ∧ K b H' := by
  apply vc_ref05_One
  intro b H1 hn1
  have hb : MatB H1 b x := hn1.blk
  have hK := hk H1 hn1.fr
  rw [hm.name] at hK
  refine ⟨_, hb.l1, rGet_ok (hl.keep hn1.fr) hn ⟨_, hb.l0, ?_⟩⟩
  generalize getV l x.2.1 = s at hK
  refine brB_of (fun h => ⟨_, hb.l2, _, rfl, ?_⟩) (fun h => ?_)
  · have h : x.1 = 0 := by simpa using h
    rwa [oneV_0 (by rw [hm.kind]; exact h), hm.val, ← beqS] at hK
  have n0 : x.1 ≠ 0 := by simpa using h
  refine brB_of (fun h => ⟨_, hb.l2, _, rfl, ?_⟩) (fun h => ?_)
  · have h : x.1 = 1 := by simpa using h
    rwa [oneV_1 (by rw [hm.kind]; exact h), hm.val, ← beqS] at hK
  have n1 : x.1 ≠ 1 := by simpa using h
  refine brB_of (fun h => ⟨_, hb.l2, ?_⟩) (fun h => ?_)
  · have h : x.1 = 2 := by simpa using h
    rw [oneV_2 (by rw [hm.kind]; exact h), hm.val] at hK
    refine brB_of (fun h2 => ⟨_, hb.l2, ?_⟩) (fun h2 => ⟨_, rfl, ?_⟩)
    · have h' : x.2.2.1.size ≤ s.size := by simp at h2; omega
      refine chk_of ⟨by omega, by omega, by omega⟩ ⟨_, hb.l2, _, rfl, ?_⟩
      rw [Int.toNat_natCast, prefix_eq s _ h']
      exact hK
    · have h' : ¬ x.2.2.1.size ≤ s.size := by simp at h2; omega
      rwa [decide_eq_false fun hh => h' hh.1] at hK
  have n2 : x.1 ≠ 2 := by simpa using h
  refine brB_of (fun h => ?_) (fun h => ⟨_, rfl, ?_⟩)
  · have h : x.1 = 3 := by simpa using h
    rw [oneV_3 (by rw [hm.kind]; exact h)] at hK
    have hx := hm.set.keep hn1.fr
    have hlx := hx.len
    have hln := hm.len
    refine ⟨fun vs H' => match vs with | [.int _ i] => ∃ k : Nat, i = k ∧ k ≤ x.2.2.2.2.1 ∧ (∀ y ∈ m.2.2.2.take k, s ≠ y) ∧ H' = H1 | _ => False,
      fun vs _ => match vs with | [.int _ i] => x.2.2.2.2.1 - i.toNat | _ => 0, ⟨0, rfl, by omega, by simp, rfl⟩, ?_⟩
    rintro J i H2 ⟨k, rfl, hle, hall, rfl⟩
    refine ⟨_, _, _, hb.l3, brB_of (fun h0 => ?_) (fun h0 => ⟨_, rfl, ?_⟩)⟩
    · have h0' : k < x.2.2.2.2.1 := by simpa using h0
      have hx1 : m.2.2.2[k]? = some (m.2.2.2[k]'(by omega)) := by simp
      generalize m.2.2.2[k]'(by omega) = y at hx1
      refine ⟨_, _, _, hb.l3, hx.get rfl hx1 (decide_eq_true (by omega)) fun ad ea hc => ⟨_, ldS9 hc, ?_⟩⟩
      rw [beqS]
      refine brB_of (fun h => ⟨_, rfl, ?_⟩) (fun h => ?_)
      · have : s ∈ m.2.2.2 := by rw [← of_decide_eq_true h]; exact List.mem_of_getElem? hx1
        rwa [decide_eq_true this] at hK
      · rw [succ64 (by omega)]
        refine ⟨⟨k + 1, rfl, by omega, fun z hz => ?_, rfl⟩, mu_lt h0'⟩
        rw [List.take_add_one, hx1] at hz
        rcases List.mem_append.1 hz with h1 | h1
        · exact hall z h1
        · simp at h1; subst h1; exact fun e => of_decide_eq_false h e.symm
    · have hkn : m.2.2.2.take k = m.2.2.2 := List.take_of_length_le (by simp at h0; omega)
      rw [hkn] at hall
      have : ¬ s ∈ m.2.2.2 := fun h => hall s h rfl
      rwa [decide_eq_false this] at hK
  · have n3 : x.1 ≠ 3 := by simpa using h
    have : oneV m s = false := by
      unfold oneV
      rw [hm.kind, if_neg n0, if_neg n1, if_neg n2, if_neg n3]
    rwa [this] at hK
end Go.Proofs
