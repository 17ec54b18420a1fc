/- A part of a proof: see the last text of this claim. -/
import Derived.Test.YtjclcccjdnllgaaGreatC03b
import Derived.Test.YtjclcccjdnllgaaGreatC16j
import Derived.Test.YtjclcccjdnllgaaGreatC13j
set_option linter.unusedVariables false
set_option maxRecDepth 100000
open Go Go.GV
namespace Go.Proofs



theorem Split_ok {H : Heap} {a : Option Addr} {n c : Nat} {rows : List Rw} {K : Option Addr → Nat → Nat → Heap → Prop} (hx : Sl encRw H a n c rows) (hn : n ≤ 1000000)
    (hk : ∀ a' n' c' H' hs', Sl encSr H' a' n' c' hs' → SerH H' hs' (putR [] rows) → Fr [] H H' → K a' n' c' H') :
    CallH Tryz.prog fn_series_Split ⟨[.slice a n c]⟩ H fun v H' => ∃ a n c, v = .slice a n c ∧ K a n c H' := by
  apply vc_series_Split
  exact Put_ok Sl.zero .nil RightS.nil hx (by omega) hn (fun s h => by cases h) fun a' n' c' H' hs' h1 h2 _ hf => ⟨_, _, _, rfl, hk _ _ _ _ _ h1.sl h2 hf⟩
theorem rSplit_ok {H : Heap} {a : Option Addr} {n c : Nat} {rows : List Rw} {K : Option Addr → Nat → Nat → Heap → Prop} (hx : Sl encRw H a n c rows) (hn : n ≤ 1000000)
    (hk : ∀ a' n' c' H' hs', Sl encSr H' a' n' c' hs' → SerH H' hs' (putR [] rows) → Fr [] H H' → K a' n' c' H') :
    CallH Tryz.prog fn_ref13_Split ⟨[.slice a n c]⟩ H fun v H' => ∃ a n c, v = .slice a n c ∧ K a n c H' := by
  apply vc_ref13_Split
  exact rPut_ok Sl.zero .nil RightS.nil hx (by omega) hn (fun s h => by cases h) fun a' n' c' H' hs' h1 h2 hf => ⟨_, _, _, rfl, hk _ _ _ _ _ h1 h2 hf⟩
theorem MajP.small {ss : List Srs} (h : MajP ss) : ∀ s ∈ ss, s.2.length ≤ 10000 := fun s hs => by have := (h.lo s hs).2.len; omega
theorem RowsOf.no {rows : List Rw} (h : RowsOf [] rows) : rows = [] := h.eq RowsOf.nil
theorem Read_ok {lay : Int} {s : ByteArray} {H : Heap} {K : Option Addr → Nat → Nat → Int → Heap → Prop} (hs : s.size ≤ 1000000000)
    (hk : ∀ rows a n c e H', ReadR lay s rows e → Sl encRw H' a n c rows → n ≤ 2000000 → Fr [] H H' → K a n c e H') :
    CallH Tryz.prog fn_convert_Read ⟨[.int .i64 lay, .string s]⟩ H fun v H' => ∃ a n c e, v = .tuple ⟨[.slice a n c, .int .i64 e]⟩ ∧ K a n c e H' := by
  apply vc_convert_Read
  refine brB_of (fun h => ?_) fun h => brB_of (fun h1 => ?_) fun h1 => ?_
  · have h0 : lay = 0 := by simpa using h
    refine majDecode_ok hs (fun hno H1 f1 => ?_) fun ss hs' a n c H1 hM hb hx hS f1 => ?_
    · refine Rows_ok (hs := []) (ss := []) Sl.zero .nil RightS.nil (by omega) (fun s h => by cases h) fun a' n' c' H2 rows o2 hro hn f2 => ⟨_, _, _, _, rfl, hk rows _ _ _ _ _ (.inr ⟨hro.no, .inl ⟨h0, rfl, hno⟩⟩) o2.sl (by omega) (f1.keep0 f2)⟩
    · have hl := hM.len
      have hnl : n = ss.length := hx.len.trans hS.len
      refine Rows_ok hx hS hM.right (by omega) hM.small fun a' n' c' H2 rows o2 hro hn f2 => ⟨_, _, _, _, rfl, hk rows _ _ _ _ _ (.inl ⟨rfl, .inl ⟨h0, ss, hM, hb, hro⟩⟩) o2.sl (by omega) (f1.keep0 f2)⟩
  · have h1 : lay = 1 := by simpa using h1
    refine runsDecode_ok hs (fun hno H1 f1 => ⟨_, _, _, _, rfl, hk [] _ _ _ _ _ (.inr ⟨rfl, .inr (.inl ⟨h1, rfl, hno⟩)⟩) Sl.zero (by omega) f1⟩) fun L a n c H1 hP hb o1 f1 => ⟨_, _, _, _, rfl, hk L _ _ _ _ _ (.inl ⟨rfl, .inr ⟨h1, hP, hb⟩⟩) o1.sl (by have := hP.len; have := o1.1; omega) f1⟩
  · exact ⟨_, _, _, _, rfl, hk [] _ _ _ _ _ (.inr ⟨rfl, .inr (.inr ⟨by simpa using h, by simpa using h1, rfl⟩)⟩) Sl.zero (by omega) (Fr.refl _ _)⟩
open Classical in
theorem writeF0 {rows : List Rw} (hF : FineR rows) (hM : MajP (putR [] rows)) : writeF 0 rows = (⟨(encM (putR [] rows)).toArray⟩, 0) := by unfold writeF; rw [if_pos rfl, if_pos ⟨hF, hM⟩]
open Classical in
theorem writeF0' {rows : List Rw} (h : ¬ (FineR rows ∧ MajP (putR [] rows))) : writeF 0 rows = (⟨#[]⟩, 30) := by unfold writeF; rw [if_pos rfl, if_neg h]
open Classical in
theorem writeF1 {rows : List Rw} (h : RowsP rows) : writeF 1 rows = (⟨(encR rows).toArray⟩, 0) := by unfold writeF; rw [if_neg (by decide), if_pos rfl, if_pos h]
open Classical in
theorem writeF1' {rows : List Rw} (h : ¬ RowsP rows) : writeF 1 rows = (⟨#[]⟩, 30) := by unfold writeF; rw [if_neg (by decide), if_pos rfl, if_neg h]
open Classical in
theorem writeF2 {lay : Int} {rows : List Rw} (h0 : lay ≠ 0) (h1 : lay ≠ 1) : writeF lay rows = (⟨#[]⟩, 1) := by unfold writeF; rw [if_neg h0, if_neg h1]
theorem Write_ok {lay : Int} {H : Heap} {a : Option Addr} {n c : Nat} {rows : List Rw} {K : ByteArray → Int → Heap → Prop} (hx : Sl encRw H a n c rows) (hv : ∀ x ∈ rows, I64 x.2.2) (hn : n ≤ 1000000000) (h0n : lay = 0 → n ≤ 1000000)
    (hk : ∀ H', Fr [] H H' → K (writeF lay rows).1 (writeF lay rows).2 H') :
    CallH Tryz.prog fn_convert_Write ⟨[.int .i64 lay, .slice a n c]⟩ H fun v H' => ∃ s e, v = .tuple ⟨[.string s, .int .i64 e]⟩ ∧ K s e H' := by
  apply vc_convert_Write
  refine ⟨fun vs H' => ∃ b : Bool, vs = [.bool b] ∧ (b = true ↔ lay = 0 ∧ ¬ FineR rows) ∧ Fr [] H H', ?_, ?_⟩
  · refine brB_of (fun h => ?_) fun h => ⟨false, rfl, by simp at h; simp [h], Fr.refl _ _⟩
    have h0 : lay = 0 := by simpa using h
    refine cright_ok hx hn fun b H1 hb f1 => ⟨!b, rfl, ?_, f1⟩
    rw [← hb]; simp [h0]
  · rintro J b H1 ⟨b', hvs, hb, f1⟩
    cases hvs
    have hx1 := hx.keep f1
    have hl := hx.len
    refine brB_of (fun h => ?_) fun h => brB_of (fun h0 => ?_) fun h0 => brB_of (fun h1 => ?_) fun h1 => ?_
    · obtain ⟨rfl, hF⟩ := hb.1 h
      have := hk H1 f1
      rw [writeF0' fun hh => hF hh.1] at this
      exact ⟨_, _, rfl, this⟩
    · have h0 : lay = 0 := by simpa using h0
      subst h0
      have hn0 := h0n rfl
      have hF : FineR rows := Classical.byContradiction fun hh => by rw [hb.2 ⟨rfl, hh⟩] at h; cases h
      have hbd := putR_bound rows
      refine Split_ok hx1 hn0 fun a' n' c' H2 hs' hx2 hS2 f2 => ?_
      have hnl := hx2.len
      have hsl := hS2.len
      refine majEncode_ok hx2 hS2 (right_putR RightS.nil).1 (by omega) (fun s hs => by have := hbd.2 s hs; omega) (putR_I64 hF hv) (fun hM H3 f3 => ?_) fun hM H3 f3 => ?_
      · have := hk H3 ((f1.keep0 f2).keep0 f3)
        rw [writeF0' fun hh => hM hh.2] at this
        exact ⟨_, _, rfl, this⟩
      · have := hk H3 ((f1.keep0 f2).keep0 f3)
        rw [writeF0 hF hM] at this
        exact ⟨_, _, rfl, this⟩
    · have h1 : lay = 1 := by simpa using h1
      subst h1
      refine runsEncode_ok hx1 hv hn (fun hM H3 f3 => ?_) fun hM H3 f3 => ?_
      · have := hk H3 (f1.keep0 f3)
        rw [writeF1' hM] at this
        exact ⟨_, _, rfl, this⟩
      · have := hk H3 (f1.keep0 f3)
        rw [writeF1 hM] at this
        exact ⟨_, _, rfl, this⟩
    · have := hk H1 f1
      rw [writeF2 (by simpa using h0) (by simpa using h1)] at this
      exact ⟨_, _, rfl, this⟩
theorem rWrite19_ok {lay : Int} {H : Heap} {a : Option Addr} {n c : Nat} {rows : List Rw} {K : ByteArray → Int → Heap → Prop} (hx : Sl encRw H a n c rows) (hv : ∀ x ∈ rows, I64 x.2.2) (hn : n ≤ 1000000000) (h0n : lay = 0 → n ≤ 1000000)
    (hk : ∀ H', Fr [] H H' → K (writeF lay rows).1 (writeF lay rows).2 H') :
    CallH Tryz.prog fn_ref19_Write ⟨[.int .i64 lay, .slice a n c]⟩ H fun v H' => ∃ s e, v = .tuple ⟨[.string s, .int .i64 e]⟩ ∧ K s e H' := by
  apply vc_ref19_Write
  refine brB_of (fun h0 => ?_) fun h0 => brB_of (fun h1 => ?_) fun h1 => ?_
  · have h0 : lay = 0 := by simpa using h0
    subst h0
    have hn0 := h0n rfl
    refine rFine_ok hx hn fun b H1 hb f1 => brB_of (fun h => ?_) fun h => ?_
    · have hF : ¬ FineR rows := fun hh => by rw [hb.2 hh] at h; cases h
      have := hk H1 f1
      rw [writeF0' fun hh => hF hh.1] at this
      exact ⟨_, _, rfl, this⟩
    · have hF : FineR rows := hb.1 (by simpa using h)
      have hbd := putR_bound rows
      have hl := hx.len
      refine rSplit_ok (hx.keep f1) hn0 fun a' n' c' H2 hs' hx2 hS2 f2 => ?_
      have hnl := hx2.len
      have hsl := hS2.len
      refine r15Encode_ok hx2 hS2 (right_putR RightS.nil).1 (by omega) (fun s hs => by have := hbd.2 s hs; omega) (putR_I64 hF hv) (fun hM H3 f3 => ?_) fun hM H3 f3 => ?_
      · have := hk H3 ((f1.keep0 f2).keep0 f3)
        rw [writeF0' fun hh => hM hh.2] at this
        exact ⟨_, _, rfl, this⟩
      · have := hk H3 ((f1.keep0 f2).keep0 f3)
        rw [writeF0 hF hM] at this
        exact ⟨_, _, rfl, this⟩
  · have h1 : lay = 1 := by simpa using h1
    subst h1
    refine r16Encode_ok hx hv hn (fun hM H3 f3 => ?_) fun hM H3 f3 => ?_
    · have := hk H3 f3
      rw [writeF1' hM] at this
      exact ⟨_, _, rfl, this⟩
    · have := hk H3 f3
      rw [writeF1 hM] at this
      exact ⟨_, _, rfl, this⟩
  · have := hk H (Fr.refl _ _)
    rw [writeF2 (by simpa using h0) (by simpa using h1)] at this
    exact ⟨_, _, rfl, this⟩

theorem rowsOf_ex {ss : List Srs} (h : RightS ss) : ∃ rows, RowsOf ss rows := by
  have key : ∀ k, k ≤ ss.length → ∃ rows, RowsOf (ss.take k) rows := by
    intro k
    induction k with
    | zero => exact fun _ => ⟨[], RowsOf.nil⟩
    | succ k ih =>
      intro hk
      obtain ⟨rows, hr⟩ := ih (by omega)
      exact ⟨_, RowsOf.step h (List.getElem?_eq_getElem hk) hr⟩
  obtain ⟨rows, hr⟩ := key ss.length (Nat.le_refl _)
  rw [List.take_length] at hr
  exact ⟨rows, hr⟩
theorem nC64 {n : Nat} (h : n ≤ 1000000000) : IntKind.i64.wrap (Int.tdiv (IntKind.i64.wrap ((n : Int) + 15)) 16) = ((nC n : Nat) : Int) := by
  rw [wrap64_of (n := (n : Int) + 15) (by omega) (by omega), Int.tdiv_eq_ediv_of_nonneg (by omega)]
  unfold nC
  rw [wrap64_of (by omega) (by omega)]
  omega
def EachI (H : Heap) (v : Value) (us : List (List Rw)) : Prop :=
  (∃ b a n c hs ss, v = .func (.func 52) ⟨[]⟩ ⟨[.pointer (some ⟨b, 0, none⟩)]⟩ ∧ Blk H ⟨b, 0, none⟩ [.slice a n c] ∧ Sl encSr H a n c hs ∧ SerH H hs ss ∧ MajP ss ∧ us = ss.map ownR) ∨
  (∃ b b1 a n c rows, v = .func (.func 53) ⟨[]⟩ ⟨[.pointer (some ⟨b1, 0, none⟩), .pointer (some ⟨b, 0, none⟩)]⟩ ∧ Blk H ⟨b, 0, none⟩ [.slice a n c] ∧ Blk H ⟨b1, 0, none⟩ [.int .i64 ((nC rows.length : Nat) : Int)] ∧ Sl encRw H a n c rows ∧ RowsP rows ∧ us = chsR rows)
theorem EachI.keep {H H' : Heap} {v : Value} {us : List (List Rw)} (h : EachI H v us) (hf : Fr [] H H') : EachI H' v us := by
  rcases h with ⟨b, a, n, c, hs, ss, h1, h2, h3, h4, h5, h6⟩ | ⟨b, b1, a, n, c, rows, h1, h2, h3, h4, h5, h6⟩
  · exact .inl ⟨b, a, n, c, hs, ss, h1, h2.keep hf, h3.keep hf, h4.keep hf, h5, h6⟩
  · exact .inr ⟨b, b1, a, n, c, rows, h1, h2.keep hf, h3.keep hf, h4.keep hf, h5, h6⟩
theorem units_ok {lay : Int} {s : ByteArray} {H : Heap} {K : Int → Value → Int → Heap → Prop} (hs : s.size ≤ 1000000000)
    (hno : ∀ e v H', e ≠ 0 → UnitsR lay s 0 e → Fr [] H H' → K 0 v e H')
    (hyes : ∀ us rows v H', UnitsU lay s us rows → EachI H' v us → Fr [] H H' → K us.length v 0 H') :
    CallH Tryz.prog fn_convert_units ⟨[.int .i64 lay, .string s]⟩ H fun v H' => ∃ n f e, v = .tuple ⟨[.int .i64 n, f, .int .i64 e]⟩ ∧ K n f e H' := by
  apply vc_convert_units
  refine brB_of (fun h => ?_) fun h => brB_of (fun h1 => ?_) fun h1 => ?_
  · have h0 : lay = 0 := by simpa using h
    refine majDecode_ok hs (fun hn H1 f1 => ?_) fun ss hs' a n c H1 hM hb hx hS f1 => ?_
    · refine var_blk (v := .slice none 0 0) (by kernel_rfl) (by kernel_rfl) one_slice rfl fun b H2 hbl hB f2 => ⟨_, _, _, hB.ld0 (by kernel_rfl) rfl, ?_⟩
      exact ⟨_, _, _, rfl, hno 11 _ _ (by decide) (.inr ⟨rfl, .inl ⟨h0, rfl, hn⟩⟩) (f1.keep0 f2)⟩
    · refine var_blk (v := .slice a n c) (by kernel_rfl) (by kernel_rfl) one_slice rfl fun b H2 hbl hB f2 => ⟨_, _, _, hB.ld0 (by kernel_rfl) rfl, ?_⟩
      obtain ⟨rows, hr⟩ := rowsOf_ex hM.right
      have := hyes (ss.map ownR) rows (.func (.func 52) ⟨[]⟩ ⟨[.pointer (some ⟨b, 0, none⟩)]⟩) H2 (.inl ⟨h0, ss, hM, hb, hr, rfl⟩) (.inl ⟨b, a, n, c, hs', ss, rfl, hB, hx.keep f2, hS.keep f2, hM, rfl⟩) (f1.keep0 f2)
      have hnl : n = (ss.map ownR).length := by rw [List.length_map]; exact hx.len.trans hS.len
      rw [← hnl] at this
      exact ⟨_, _, _, rfl, this⟩
  · have h1 : lay = 1 := by simpa using h1
    refine runsDecode_ok hs (fun hn H1 f1 => ?_) fun L a n c H1 hP hb o1 f1 => ?_
    · refine var_blk (v := .slice none 0 0) (by kernel_rfl) (by kernel_rfl) one_slice rfl fun b H2 hbl hB f2 => ⟨_, _, _, hB.ld0 (by kernel_rfl) rfl, ?_⟩
      refine var_blk (v := .int .i64 _) (by kernel_rfl) (by kernel_rfl) (fun x hx => by simp [Value.cells] at hx; subst hx; rfl) rfl fun b1 H3 hbl1 hB1 f3 => ⟨_, hB1.ld0 (by kernel_rfl) rfl, ?_⟩
      exact ⟨_, _, _, rfl, hno 11 _ _ (by decide) (.inr ⟨rfl, .inr (.inl ⟨h1, rfl, hn⟩)⟩) ((f1.keep0 f2).keep0 f3)⟩
    · refine var_blk (v := .slice a n c) (by kernel_rfl) (by kernel_rfl) one_slice rfl fun b H2 hbl hB f2 => ⟨_, _, _, hB.ld0 (by kernel_rfl) rfl, ?_⟩
      have hl := hP.len
      have hn := o1.1
      rw [nC64 (by omega)]
      refine var_blk (v := .int .i64 _) (by kernel_rfl) (by kernel_rfl) (fun x hx => by simp [Value.cells] at hx; subst hx; rfl) rfl fun b1 H3 hbl1 hB1 f3 => ⟨_, hB1.ld0 (by kernel_rfl) rfl, ?_⟩
      subst hn
      have := hyes (chsR L) L (.func (.func 53) ⟨[]⟩ ⟨[.pointer (some ⟨b1, 0, none⟩), .pointer (some ⟨b, 0, none⟩)]⟩) H3 (.inr ⟨h1, hP, hb, rfl⟩) (.inr ⟨b, b1, a, _, c, L, rfl, hB.keep f3, hB1, (o1.sl.keep f2).keep f3, hP, rfl⟩) ((f1.keep0 f2).keep0 f3)
      rw [chsR_len] at this
      exact ⟨_, _, _, rfl, this⟩
  · exact ⟨_, _, _, rfl, hno 1 _ _ (by decide) (.inr ⟨rfl, .inr (.inr ⟨by simpa using h, by simpa using h1, rfl⟩)⟩) (Fr.refl _ _)⟩
theorem Units_ok {lay : Int} {s : ByteArray} {H : Heap} {K : Int → Int → Heap → Prop} (hs : s.size ≤ 1000000000) (hk : ∀ n e H', UnitsR lay s n e → Fr [] H H' → K n e H') :
    CallH Tryz.prog fn_convert_Units ⟨[.int .i64 lay, .string s]⟩ H fun v H' => ∃ n e, v = .tuple ⟨[.int .i64 n, .int .i64 e]⟩ ∧ K n e H' := by
  apply vc_convert_Units
  exact units_ok hs (fun e v H' he hU hf => ⟨_, _, rfl, hk _ _ _ hU hf⟩) fun us rows v H' hU _ hf => ⟨_, _, rfl, hk _ _ _ (.inl ⟨rfl, us, rows, hU, rfl⟩) hf⟩

def encHd : Enc Hd := ⟨fun x => [.slice x.1 x.2.1 x.2.2], 1, fun _ => rfl, by decide, fun _ v h => by simp at h; subst h; rfl⟩
theorem elem22 : elemB Tryz.prog 22 1 24 = true := by kernel_rfl
theorem slice73 : sliceB Tryz.prog 73 22 = true := by kernel_rfl
def ChU (H : Heap) (m : Hd) (u : List Rw) : Prop := Sl encRw H m.1 m.2.1 m.2.2 u
structure BegI (us : List (List Rw)) (l D b : Nat) (R0 : Loop) (H0 : Heap) (i : Nat) (S : List Nat) (H : Heap) : Prop where
  fr : Fr [] H0 H
  lp : Lp H l R0 .ready none
  dq : Dq H D
  it : ∃ a n c hd, Blk H ⟨b, 0, none⟩ [.slice a n c] ∧ Own encHd 22 H0.size H a n c hd ∧ All2 (ChU H) hd (us.take i) ∧ S = b :: l :: D :: blkL a ∧ S.Nodup ∧ (∀ m ∈ hd, ∀ k ∈ blkL m.1, k ∉ S ∧ k < H.size)
  lo : ∀ k ∈ S, H0.size ≤ k ∧ k < H.size
theorem BegI.keep {us : List (List Rw)} {l D b : Nat} {R0 : Loop} {H0 H H' : Heap} {i : Nat} {S : List Nat} (h : BegI us l D b R0 H0 i S H) (hf : Fr [] H H') : BegI us l D b R0 H0 i S H' := by
  obtain ⟨h1, h2, h3, ⟨a, n, c, hd, q1, q2, q3, q4, q5, q6⟩, h5⟩ := h
  have sz := hf.size
  exact ⟨h1.keep0 hf, h2.fr hf (by simp), h3.fr hf (by simp), ⟨a, n, c, hd, q1.keep hf, q2.keep hf, q3.mono fun m u _ _ hr => Sl.keep hr hf, q4, q5, fun m hm k hk => ⟨(q6 m hm k hk).1, by have := (q6 m hm k hk).2; omega⟩⟩, fun k hk => ⟨(h5 k hk).1, by have := (h5 k hk).2; omega⟩⟩
theorem cut_ch {rows : List Rw} {j n : Nat} (hn : n = rows.length) (hj : j < nC n) : (rows.take (min (16 * j + 16) n)).drop (16 * j) = chR rows j := by
  unfold chR
  rw [List.drop_take]
  have hl : (rows.drop (16 * j)).length = n - 16 * j := by rw [List.length_drop, hn]
  by_cases h : 16 * j + 16 ≤ n
  · rw [Nat.min_eq_left h, show 16 * j + 16 - 16 * j = 16 by omega]
  · rw [Nat.min_eq_right (by omega), List.take_of_length_le (by omega), List.take_of_length_le (by omega)]
theorem each_ok {us : List (List Rw)} {l D b : Nat} {R0 : Loop} {H0 H : Heap} {S : List Nat} {v : Value} {K : Heap → Prop} (hE : EachI H0 v us) (h0 : BegI us l D b R0 H0 0 S H)
    (step : ∀ i S H1 u a n c, us[i]? = some u → BegI us l D b R0 H0 i S H1 → Sl encRw H1 a n c u → u ≠ [] → (∀ k ∈ blkL a, k ∉ S) → YieldH Tryz.prog l [.slice a n c] H1 fun v H2 => v = .bool true ∧ ∃ S2, BegI us l D b R0 H0 (i + 1) S2 H2)
    (fin : ∀ S1 H1, BegI us l D b R0 H0 us.length S1 H1 → K H1) :
    CallV Tryz.prog v [.func (.yield l) ⟨[]⟩ ⟨[]⟩] H fun x H' => K H' := by
  rcases hE with ⟨b1, a, n, c, hs, ss, rfl, hB, hx, hS, hM, rfl⟩ | ⟨b1, b2, a, n, c, rows, rfl, hB, hB2, hx, hP, rfl⟩
  · refine ⟨52, ⟨[]⟩, _, rfl, by kernel_rfl, ?_⟩
    apply vc_convert_units_1
    have hn : n = ss.length := hx.len.trans hS.len
    have hl := hM.len
    refine ⟨_, _, _, (hB.keep h0.fr).ld0 (by kernel_rfl) rfl, ?_⟩
    refine ⟨fun vs H' => match vs with | [.int _ i] => ∃ (j : Nat) (S2 : List Nat), i = j ∧ j ≤ n ∧ BegI (ss.map ownR) l D b R0 H0 j S2 H' | _ => False, fun vs _ => match vs with | [.int _ i] => n - i.toNat | _ => 0,
      ⟨0, S, rfl, by omega, h0⟩, ?_⟩
    rintro J i H1 ⟨j, S2, rfl, hj, hI⟩
    refine brB_of (fun hlt => ?_) (fun hge => ?_)
    · have hlt : j < n := by simp at hlt; omega
      obtain ⟨s, hs0⟩ := getElem_ex (l := ss) (i := j) (by omega)
      obtain ⟨y, hy0, hyr⟩ := All2.get' (hS.keep hI.fr) hs0
      have hsm := List.mem_of_getElem? hs0
      have hu : (ss.map ownR)[j]? = some (ownR s) := by rw [List.getElem?_map, hs0]; rfl
      have hne : ownR s ≠ [] := fun e => (hM.right.2 s hsm).1 (by unfold ownR at e; exact List.map_eq_nil_iff.1 e)
      refine (hx.keep hI.fr).get rfl hy0 (decide_eq_true (by omega)) fun ad ea hc => ⟨_, _, _, _, ldSr hc, ?_⟩
      refine var_blk (v := vSr y) (by kernel_rfl) (by kernel_rfl) (by simp [Value.cells, Value.oneCell']) rfl fun b3 H2 hb3 hB3 hf2 => ?_
      have hB3 : Blk H2 ⟨b3, 0, none⟩ (encSr.cells y) := hB3
      refine ⟨_, _, _, _, hB3.ldA0 (us := encSr.cells y) (by kernel_rfl) (by kernel_rfl) rfl, ?_⟩
      intro b4 H3 hn3
      have f13 := hf2.keep0 hn3.fr
      refine Rows_ok (ss := [s]) (sl_one encSr y hn3 rfl) (.cons ⟨hyr.1, hyr.2.keep f13⟩ .nil) ⟨List.pairwise_singleton _ _, fun x hx => by simp at hx; subst hx; exact hM.right.2 _ hsm⟩ (by omega) (fun x hx => by simp at hx; subst hx; exact hM.small _ hsm) fun a5 n5 c5 H4 rows o4 hro hn4 f4 => ?_
      have hrows : rows = ownR s := hro.eq ⟨ownR_fine (hM.right.2 s hsm).2, fun x => by simp⟩
      subst hrows
      have f14 := f13.keep0 f4
      refine .inr ⟨l, rfl, (step j S2 H4 _ _ _ _ hu (hI.keep f14) o4.sl hne fun k hk hk2 => ?_).mono fun v H5 => ?_⟩
      · have := (o4.ge k hk).1
        have := (hI.lo k hk2).2
        have := f13.size
        omega
      · rintro ⟨rfl, S3, hI3⟩
        rw [succ64 (by omega)]
        have hmu : n - ((j + 1 : Nat) : Int).toNat < n - ((j : Nat) : Int).toNat := by omega
        exact ⟨true, rfl, brB_of (fun h => by simp at h) fun _ => ⟨⟨j + 1, S3, rfl, by omega, hI3⟩, hmu⟩⟩
    · have : j = n := by simp at hge; omega
      subst this
      exact fin S2 H1 (by rw [List.length_map, ← hn]; exact hI)
  · refine ⟨53, ⟨[]⟩, _, rfl, by kernel_rfl, ?_⟩
    apply vc_convert_units_2
    have hn : n = rows.length := hx.len
    have hl := hP.len
    refine ⟨_, (hB2.keep h0.fr).ld0 (by kernel_rfl) rfl, ?_⟩
    have hnc := nC_le hl
    refine ⟨fun vs H' => match vs with | [.int _ i] => ∃ (j : Nat) (S2 : List Nat), i = j ∧ j ≤ nC rows.length ∧ BegI (chsR rows) l D b R0 H0 j S2 H' | _ => False, fun vs _ => match vs with | [.int _ i] => nC rows.length - i.toNat | _ => 0,
      ⟨0, S, rfl, by omega, h0⟩, ?_⟩
    rintro J i H1 ⟨j, S2, rfl, hj, hI⟩
    refine brB_of (fun hlt => ?_) (fun hge => ?_)
    · have hlt : j < nC rows.length := by simp at hlt; omega
      have hcap := hx.cap
      have hjn : 16 * j < n := by unfold nC at hlt; omega
      have w1 : IntKind.i64.wrap (16 * (j : Int)) = ((16 * j : Nat) : Int) := by rw [wrap64_of (by omega) (by omega)]; omega
      have w2 : IntKind.i64.wrap (((16 * j : Nat) : Int) + 16) = ((16 * j + 16 : Nat) : Int) := by rw [wrap64_of (by omega) (by omega)]; omega
      refine ⟨_, _, _, (hB.keep hI.fr).ld0 (by kernel_rfl) rfl, _, _, _, (hB.keep hI.fr).ld0 (by kernel_rfl) rfl, ?_⟩
      rw [w1, w2]
      have w3 : (if (n : Int) < ((16 * j + 16 : Nat) : Int) then (n : Int) else ((16 * j + 16 : Nat) : Int)) = ((min (16 * j + 16) n : Nat) : Int) := by split <;> omega
      rw [w3]
      refine chk_true (decide_eq_true ⟨by omega, by omega, by omega⟩) ?_
      rw [Int.toNat_natCast, Int.toNat_natCast]
      have hcut := Sl.cut (hx.keep hI.fr) (k := 16 * j) (m := min (16 * j + 16) n) (by omega) (by omega)
      rw [cut_ch hn (by rw [hn]; exact hlt)] at hcut
      refine .inr ⟨l, rfl, (step j S2 H1 _ _ _ _ (chsR_get hlt) hI hcut (ch_ne (by omega)) fun k hk hk2 => ?_).mono fun v H5 => ?_⟩
      · have h1 := slA_blk hk
        have := sl_lt hx (fun e => by rw [e] at hn; simp at hn; omega) k h1
        have := (hI.lo k hk2).1
        omega
      · rintro ⟨rfl, S3, hI3⟩
        rw [succ64 (by omega)]
        have hmu : nC rows.length - ((j + 1 : Nat) : Int).toNat < nC rows.length - ((j : Nat) : Int).toNat := by omega
        exact ⟨true, rfl, brB_of (fun h => by simp at h) fun _ => ⟨⟨j + 1, S3, rfl, by omega, hI3⟩, hmu⟩⟩
    · have : j = nC rows.length := by simp at hge; omega
      subst this
      exact fin S2 H1 (by rw [chsR_len]; exact hI)
structure WorkI (H : Heap) (w b : Nat) (X : List Nat) (lay : Int) (us : List (List Rw)) (ss : List Srs) : Prop where
  ne : w ≠ b
  wX : w ∈ X ∧ b ∈ X
  lX : ∀ k ∈ X, k < H.size
  it : ∃ la ln lc hs al an ac hd, Blk H ⟨w, 0, none⟩ [.int .i64 lay, .int .i64 us.length, .func (.func 42) ⟨[]⟩ ⟨[.pointer (some ⟨b, 0, none⟩)]⟩, .slice la ln lc] ∧ Blk H ⟨b, 0, none⟩ [.slice al an ac] ∧
    Sl encSr H la ln lc hs ∧ SerH H hs ss ∧ (∀ k ∈ blkL la, k ∉ X ∧ k < H.size) ∧ (∀ m ∈ hs, ∀ k ∈ blkL m.2.1, k ∉ X ∧ k < H.size) ∧
    Sl encHd H al an ac hd ∧ All2 (ChU H) hd us ∧ (∀ k ∈ blkL al, k ∉ X ∧ k < H.size) ∧ (∀ m ∈ hd, ∀ k ∈ blkL m.1, k ∉ X ∧ k < H.size)
theorem WorkI.keep {H H' : Heap} {w b : Nat} {X : List Nat} {lay : Int} {us : List (List Rw)} {ss : List Srs} (h : WorkI H w b X lay us ss) (hf : Fr [] H H') : WorkI H' w b X lay us ss := by
  obtain ⟨h1, h2, h3, la, ln, lc, hs, al, an, ac, hd, q1, q2, q3, q4, q5, q6, q7, q8, q9, q10⟩ := h
  have sz := hf.size
  have up : ∀ {k : Nat}, k ∉ X ∧ k < H.size → k ∉ X ∧ k < H'.size := fun h => ⟨h.1, by omega⟩
  exact ⟨h1, h2, fun k hk => by have := h3 k hk; omega, la, ln, lc, hs, al, an, ac, hd, q1.keep hf, q2.keep hf, q3.keep hf, q4.keep hf, fun k hk => up (q5 k hk), fun m hm k hk => up (q6 m hm k hk), q7.keep hf, q8.mono fun m u _ _ hr => Sl.keep hr hf, fun k hk => up (q9 k hk), fun m hm k hk => up (q10 m hm k hk)⟩
theorem WorkI.more {H H' : Heap} {w b r : Nat} {X : List Nat} {lay : Int} {us : List (List Rw)} {ss : List Srs} (h : WorkI H w b X lay us ss) (hf : Fr [] H H') (h1 : H.size ≤ r) (h2 : r < H'.size) : WorkI H' w b (r :: X) lay us ss := by
  obtain ⟨g1, g2, g3, la, ln, lc, hs, al, an, ac, hd, q1, q2, q3, q4, q5, q6, q7, q8, q9, q10⟩ := h
  have sz := hf.size
  have up : ∀ {k : Nat}, k ∉ X ∧ k < H.size → k ∉ r :: X ∧ k < H'.size := fun {k} h => ⟨fun hk => by rcases List.mem_cons.1 hk with e | e; omega; exact h.1 e, by omega⟩
  exact ⟨g1, ⟨by simp [g2.1], by simp [g2.2]⟩, fun k hk => by rcases List.mem_cons.1 hk with e | e; omega; have := g3 k e; omega, la, ln, lc, hs, al, an, ac, hd, q1.keep hf, q2.keep hf, q3.keep hf, q4.keep hf, fun k hk => up (q5 k hk), fun m hm k hk => up (q6 m hm k hk), q7.keep hf, q8.mono fun m u _ _ hr => Sl.keep hr hf, fun k hk => up (q9 k hk), fun m hm k hk => up (q10 m hm k hk)⟩
theorem WorkI.fr {H H' : Heap} {w b : Nat} {X S : List Nat} {lay : Int} {us : List (List Rw)} {ss : List Srs} (h : WorkI H w b X lay us ss) (hf : Fr S H H') (hS : ∀ k ∈ S, k ∈ X ∧ k ≠ w ∧ k ≠ b) : WorkI H' w b X lay us ss := by
  obtain ⟨h1, h2, h3, la, ln, lc, hs, al, an, ac, hd, q1, q2, q3, q4, q5, q6, q7, q8, q9, q10⟩ := h
  have sz := hf.size
  have up : ∀ {k : Nat}, k ∉ X ∧ k < H.size → k ∉ X ∧ k < H'.size := fun h => ⟨h.1, by omega⟩
  have no : ∀ {p : Option Addr}, (∀ k ∈ blkL p, k ∉ X ∧ k < H.size) → ∀ ad, p = some ad → ad.block ∉ S := fun {p} h => blk_of_ne fun k kk hm => (h k kk).1 (hS k hm).1
  exact ⟨h1, h2, fun k hk => by have := h3 k hk; omega, la, ln, lc, hs, al, an, ac, hd, q1.fr hf fun hm => (hS w hm).2.1 rfl, q2.fr hf fun hm => (hS b hm).2.2 rfl, q3.fr hf (no q5), SerH.fr q4 hf fun m hm k hk hm2 => (q6 m hm k hk).1 (hS k hm2).1, fun k hk => up (q5 k hk), fun m hm k hk => up (q6 m hm k hk), q7.fr hf (no q9), q8.mono fun m u hm _ hr => Sl.fr hr hf (no (q10 m hm)), fun k hk => up (q9 k hk), fun m hm k hk => up (q10 m hm k hk)⟩
theorem Begin_ok {lay : Int} {s : ByteArray} {H : Heap} {K : Option Addr → Int → Heap → Prop} (hs : s.size ≤ 1000000000)
    (hno : ∀ e H', e ≠ 0 → UnitsR lay s 0 e → Fr [] H H' → K none e H')
    (hyes : ∀ us rows w b H', UnitsU lay s us rows → WorkI H' w b [w, b] lay us [] → H.size ≤ w → H.size ≤ b → Fr [] H H' → K (some ⟨w, 0, none⟩) 0 H') :
    CallH Tryz.prog fn_convert_Begin ⟨[.int .i64 lay, .string s]⟩ H fun v H' => ∃ p e, v = .tuple ⟨[.pointer p, .int .i64 e]⟩ ∧ K p e H' := by
  apply vc_convert_Begin
  refine units_ok hs (fun e v H1 he hU f1 => brB_of (fun _ => ⟨_, _, rfl, hno e H1 he hU f1⟩) fun h => absurd (by simpa using h) he) fun us rows v H1 hU hE f1 => brB_of (fun h => by cases h) fun _ => ?_
  have hbd := hU.bound.1
  intro b H2 hn2 D l R0 H3 hnl hY
  obtain ⟨f23, lp3, dq3, eD, el, z3⟩ := hnl.out
  have e2 := hn2.eq
  have z2 := hn2.size
  have s1 := f1.size
  have nd : (b :: l :: D :: blkL (none : Option Addr)).Nodup := by
    simp only [List.nodup_cons, List.mem_cons, blkL, List.not_mem_nil, or_false, not_or]
    refine ⟨⟨by omega, by omega⟩, by omega, by simp, List.nodup_nil⟩
  refine each_ok (l := l) (D := D) (b := b) (R0 := R0) (S := [b, l, D]) hE ?_ ?_ ?_
  · exact ⟨hn2.fr.keep0 f23, lp3, dq3, ⟨none, 0, 0, [], hn2.blk.keep f23, Own.nil .., .nil, rfl, nd, fun m hm => by cases hm⟩, fun k hk => by simp only [List.mem_cons, List.mem_nil_iff, or_false] at hk; omega⟩
  · rintro i S H9 u a n c hu ⟨h1, h2, h3, ⟨p, m, d, hd, q1, q2, q3, q4, q5, q6⟩, h5⟩ hx hne hk
    have fL := setLp_fr H9 l R0 .busy none
    have sL := setLp_size H9 l R0 .busy none
    have nd := q5
    rw [q4] at nd
    simp only [List.nodup_cons, List.mem_cons, not_or] at nd
    obtain ⟨⟨nbl, nbD, nbp⟩, ⟨nlD, nlp⟩, nDp, _⟩ := nd
    have inS : ∀ k ∈ [b, l, D], k ∈ S := fun k hk => by rw [q4]; exact List.mem_append_left (blkL p) hk
    have lpS : ∀ k ∈ blkL p, k ∈ S := fun k hk => by rw [q4]; simp [hk]
    have lS : l ∈ S := inS l (by simp)
    have hbL := q1.fr fL (by simpa using nbl)
    have hDL := h3.fr fL (by simpa using fun e => nlD e.symm)
    have lpL : Lp (setLp H9 l R0 .busy none) l R0 .busy none := setLp_get h2.lt
    refine hY a n c H9 (fun v H2 => v = .bool true ∧ ∃ S2, BegI us l D b R0 H1 (i + 1) S2 H2) h2 ⟨h2, p, m, d, hbL.ld0 (by kernel_rfl) rfl, fun b9 H10 hn10 => ?_⟩
    have qL := q2.fr fL (blk_of_ne fun k kk hm => nlp (by simp at hm; subst hm; exact kk))
    have o10 := qL.keep hn10.fr
    have z10 := hn10.size
    have s9 := h1.size
    have hil := (List.getElem?_eq_some_iff.1 hu).1
    have hml := q2.1
    have hq3 := q3.len
    rw [List.length_take] at hq3
    refine ap_grow slice73 elem22 o10 (sl_one encHd ((a, n, c) : Hd) hn10 rfl) (by omega) (by omega) fun q m2 d2 H11 o11 f11 g11 => ?_
    have hb11 := (hbL.keep hn10.fr).fr f11 nbp
    refine hb11.st0 (v := .slice q m2 d2) (by kernel_rfl) (by kernel_rfl) one_slice (by simp [Value.cells]) fun H12 hb12 f12 => ?_
    have lp12 : Lp H12 l R0 .busy none := ((lpL.fr hn10.fr (by simp)).fr f11 nlp).fr f12 (by simpa using fun e => nbl e.symm)
    have fE := setLp_fr H12 l R0 .ready none
    have sE := setLp_size H12 l R0 .ready none
    have z11 := f11.size
    have z12 := f12.size
    have hq : ∀ k ∈ blkL q, k ∈ blkL p ∨ H9.size < k := fun k hk => (g11 k hk).imp id fun h => by omega
    have hin : ∀ k ∈ S, k < H9.size := fun k hk => (h5 k hk).2
    have key : ∀ x ∈ [b, l, D], x ∉ blkL p → x ∉ blkL q := fun x hx hnp hxq => (hq x hxq).elim hnp fun h => by have := hin x (inS x hx); omega
    have ndq : (b :: l :: D :: blkL q).Nodup := by
      simp only [List.nodup_cons, List.mem_cons, not_or]
      exact ⟨⟨nbl, nbD, key b (by simp) nbp⟩, ⟨nlD, key l (by simp) nlp⟩, key D (by simp) nDp, blkL_nodup _⟩
    have F : Fr S H9 (setLp H12 l R0 .ready none) := (((fL.trans' hn10.fr (T := S) (fun k hk _ => by simp at hk; subst hk; exact lS) (by simp)).trans' f11 (fun k hk _ => hk) fun k hk _ => lpS k hk).trans' f12 (fun k hk _ => hk) fun k hk _ => by simp at hk; subst hk; exact inS _ (by simp)).trans' fE (fun k hk _ => hk) fun k hk _ => by simp at hk; subst hk; exact lS
    have hlt := sl_lt hx hne
    have dn : ∀ m ∈ hd ++ [((a, n, c) : Hd)], ∀ k ∈ blkL m.1, k ∉ S ∧ k < H9.size := fun m hm k hk2 => by
      rcases List.mem_append.1 hm with h | h
      · exact q6 m h k hk2
      · simp at h; subst h
        exact ⟨hk k hk2, hlt k hk2⟩
    refine ⟨lp12, rfl, b :: l :: D :: blkL q, h1.keep F fun k hk => (h5 k hk).1, setLp_get lp12.lt, ?_, ⟨q, m2, d2, hd ++ [((a, n, c) : Hd)], ?_, ?_, ?_, rfl, ndq, fun m hm k hk => ?_⟩, fun k hk => ?_⟩
    · exact (((hDL.fr hn10.fr (by simp)).fr f11 nDp).fr f12 (by simpa using fun e => nbD e.symm)).fr fE (by simpa using fun e => nlD e.symm)
    · simpa [Value.cells] using hb12.fr fE (by simpa using nbl)
    · exact (o11.fr f12 (blk_of_ne fun k kk hm => key b (by simp) nbp (by simp at hm; subst hm; exact kk))).fr fE (blk_of_ne fun k kk hm => key l (by simp) nlp (by simp at hm; subst hm; exact kk))
    · rw [List.take_add_one, hu]
      refine All2.app (q3.mono fun m u hm _ hr => Sl.fr hr F (blk_of_ne fun k kk => (q6 m hm k kk).1)) (.cons (Sl.fr hx F (blk_of_ne hk)) .nil)
    · have h := dn m hm k hk
      refine ⟨fun hk2 => ?_, by omega⟩
      have hk2' : k ∈ [b, l, D] ∨ k ∈ blkL q := by simpa [or_assoc] using hk2
      rcases hk2' with h4 | h4
      · exact h.1 (inS k h4)
      · rcases hq k h4 with h6 | h6
        · exact h.1 (lpS k h6)
        · omega
    · have hk' : k ∈ [b, l, D] ∨ k ∈ blkL q := by simpa [or_assoc] using hk
      rcases hk' with h | h
      · have := h5 k (inS k h); omega
      · have := (o11.ge k h); omega
  · rintro S H9 ⟨h1, h2, h3, ⟨p, m, d, hd, q1, q2, q3, q4, q5, q6⟩, h5⟩
    have nd := q5
    rw [q4] at nd
    simp only [List.nodup_cons, List.mem_cons, not_or] at nd
    obtain ⟨⟨nbl, nbD, nbp⟩, ⟨nlD, nlp⟩, nDp, _⟩ := nd
    have inS : ∀ k ∈ [b, l, D], k ∈ S := fun k hk => by rw [q4]; exact List.mem_append_left (blkL p) hk
    have lpS : ∀ k ∈ blkL p, k ∈ S := fun k hk => by rw [q4]; simp [hk]
    have fE := setLp_fr H9 l R0 .exhausted none
    have sE := setLp_size H9 l R0 .exhausted none
    refine .inl ⟨h2, fun w H10 hn10 => ?_⟩
    have ew := hn10.eq
    have sw := hn10.size
    have s9 := h1.size
    have hbw : b < H9.size := (h5 b (inS b (by simp))).2
    have hDw : D < H9.size := (h5 D (inS D (by simp))).2
    refine hn10.blk.st (j := 2) (v := .func (.func 42) ⟨[]⟩ ⟨[.pointer (some ⟨b, 0, none⟩)]⟩) (by kernel_rfl) (by kernel_rfl) (fun x hx => by simp [Value.cells] at hx; subst hx; rfl) (by simp [Value.cells]) fun H11 hB11 f11 => ?_
    have hD11 : Dq H11 D := ((h3.fr fE (by simpa using fun e => nlD e.symm)).fr hn10.fr (by simp)).fr f11 (by simp; omega)
    have fD := shutD_fr H11 D
    have F : Fr [l, w, D] H9 (shutD H11 D) := ((fE.trans' hn10.fr (T := [l, w, D]) (fun k hk _ => by simp at hk; subst hk; simp) (by simp)).trans' f11 (fun k hk _ => hk) (fun k hk _ => by simp at hk; subst hk; simp)).trans' fD (fun k hk _ => hk) (fun k hk _ => by simp at hk; subst hk; simp)
    rw [List.take_length] at q3
    have f19 := f1.keep0 h1
    refine ⟨hD11, _, _, rfl, hyes us rows w b _ hU ⟨by omega, ⟨by simp, by simp⟩, ?_, none, 0, 0, [], p, m, d, hd, ?_, ?_, Sl.zero, .nil, (fun k hk => by cases hk), (fun m hm => by cases hm), ?_, ?_, fun k hk => ?_, fun m hm k hk => ?_⟩ (by omega) (by have := (h5 b (inS b (by simp))).1; omega) ?_⟩
    · intro k hk
      have := F.size
      have := f11.size
      have := fD.size
      simp only [List.mem_cons, List.mem_nil_iff, or_false] at hk
      omega
    · have := hB11.fr fD (by simp; omega)
      simpa [Value.cells] using this
    · refine q1.fr F ?_
      simp only [List.mem_cons, List.mem_nil_iff, or_false, not_or]
      exact ⟨nbl, by omega, nbD⟩
    · refine q2.sl.fr F (blk_of_ne fun k kk hm => ?_)
      have := (q2.ge k kk).2
      simp only [List.mem_cons, List.mem_nil_iff, or_false] at hm
      rcases hm with rfl | rfl | rfl
      · exact nlp kk
      · omega
      · exact nDp kk
    · refine q3.mono fun m u hm _ hr => Sl.fr hr F (blk_of_ne fun k kk hm2 => ?_)
      have h := q6 m hm k kk
      simp only [List.mem_cons, List.mem_nil_iff, or_false] at hm2
      rcases hm2 with rfl | rfl | rfl
      · exact h.1 (inS _ (by simp))
      · omega
      · exact h.1 (inS _ (by simp))
    · have := (q2.ge k hk).2
      have sF := F.size
      refine ⟨fun e => ?_, by omega⟩
      simp only [List.mem_cons, List.mem_nil_iff, or_false] at e
      rcases e with e | e
      · omega
      · exact nbp (by rw [← e]; exact hk)
    · have h := q6 m hm k hk
      have sF := F.size
      refine ⟨fun e => ?_, by omega⟩
      simp only [List.mem_cons, List.mem_nil_iff, or_false] at e
      rcases e with e | e
      · omega
      · exact h.1 (by rw [e]; exact inS _ (by simp))
    · refine f19.keep F fun k hk => ?_
      simp only [List.mem_cons, List.mem_nil_iff, or_false] at hk
      by_cases e : k = w
      · omega
      · have hkS : k ∈ S := inS k (by simp only [List.mem_cons, List.mem_nil_iff, or_false]; omega)
        have := (h5 k hkS).1
        omega
end Go.Proofs
