/- A part of a proof: see the last text of this claim. -/
import Derived.Test.YtjclcccjdnllgaaGreatC03i
import Derived.Test.YtjclcccjdnllgaaGreatGvOpen
set_option linter.unusedVariables false
set_option maxRecDepth 100000
open Go Go.GV
namespace Go.Proofs

theorem MajP.vals {ss : List Srs} {rows : List Rw} (h : MajP ss) (hr : RowsOf ss rows) : ∀ x ∈ rows, I64 x.2.2 := fun x hx => by
  obtain ⟨s, hs, hxs⟩ := (hr.2 x).1 hx
  exact (h.lo s hs).2.v (x.1, x.2.2) (ownR_mem.1 hxs).2
theorem ReadR.vals {lay : Int} {s : ByteArray} {rows : List Rw} {e : Int} (h : ReadR lay s rows e) : ∀ x ∈ rows, I64 x.2.2 := by
  rcases h with ⟨rfl, ⟨hl, ss, h1, h2, h3⟩ | ⟨hl, h1, h2⟩⟩ | ⟨rfl, _⟩
  · exact h1.vals h3
  · exact fun x hx => (h1.lo x hx).2.2
  · exact fun x hx => by cases hx
theorem UnitsU.len1 {s : ByteArray} {us : List (List Rw)} {rows : List Rw} {lay : Int} (h : UnitsU lay s us rows) (hl : 1 - lay = 0) : rows.length ≤ 5000 := by
  rcases h with ⟨h0, _⟩ | ⟨h1, hP, _⟩
  · omega
  · exact hP.len
theorem UnitsU.lay {s : ByteArray} {us : List (List Rw)} {rows : List Rw} {lay : Int} (h : UnitsU lay s us rows) : lay = 0 ∨ lay = 1 := by
  rcases h with ⟨h0, _⟩ | ⟨h1, _⟩
  · exact .inl h0
  · exact .inr h1
theorem flip64 {lay : Int} (h : lay = 0 ∨ lay = 1) : IntKind.i64.wrap (1 - lay) = 1 - lay := wrap64_of (by omega) (by omega)
def WorkS (H : Heap) (w b : Nat) (X : List Nat) (lay : Int) (us : List (List Rw)) (i : Nat) : Prop := i ≤ us.length ∧ WorkI H w b X lay (us.drop i) (foldU (us.take i))
theorem WorkS.keep {H H' : Heap} {w b : Nat} {X : List Nat} {lay : Int} {us : List (List Rw)} {i : Nat} (h : WorkS H w b X lay us i) (hf : Fr [] H H') : WorkS H' w b X lay us i := ⟨h.1, h.2.keep hf⟩
theorem WorkS.more {H H' : Heap} {w b r : Nat} {X : List Nat} {lay : Int} {us : List (List Rw)} {i : Nat} (h : WorkS H w b X lay us i) (hf : Fr [] H H') (h1 : H.size ≤ r) (h2 : r < H'.size) : WorkS H' w b (r :: X) lay us i := ⟨h.1, h.2.more hf h1 h2⟩
theorem WorkS.fr {H H' : Heap} {w b : Nat} {X S : List Nat} {lay : Int} {us : List (List Rw)} {i : Nat} (h : WorkS H w b X lay us i) (hf : Fr S H H') (hS : ∀ k ∈ S, k ∈ X ∧ k ≠ w ∧ k ≠ b) : WorkS H' w b X lay us i := ⟨h.1, h.2.fr hf hS⟩
theorem Left_ok {H : Heap} {w b : Nat} {X : List Nat} {lay : Int} {us : List (List Rw)} {i : Nat} {K : Int → Heap → Prop} (hW : WorkS H w b X lay us i) (hk : K ((us.length - i : Nat) : Int) H) :
    CallH Tryz.prog fn_convert_Work_Left ⟨[.pointer (some ⟨w, 0, none⟩)]⟩ H fun v H' => ∃ n, v = .int .i64 n ∧ K n H' := by
  apply vc_convert_Work_Left
  obtain ⟨hi, h1, wX, lX, la, ln, lc, hs, al, an, ac, hd, q1, _⟩ := hW
  rw [List.length_drop] at q1
  exact ⟨_, q1.ld (j := 1) (by kernel_rfl) rfl, _, rfl, hk⟩
theorem Step_ok {H : Heap} {w b : Nat} {X : List Nat} {lay : Int} {s : ByteArray} {us : List (List Rw)} {rows : List Rw} {i : Nat} {K : Bool → Heap → Prop} (hU : UnitsU lay s us rows) (hW : WorkS H w b X lay us i)
    (h0 : i = us.length → K false H) (h1 : ∀ H', i < us.length → WorkS H' w b X lay us (i + 1) → Fr [w, b] H H' → K true H') :
    CallH Tryz.prog fn_convert_Work_Step ⟨[.pointer (some ⟨w, 0, none⟩)]⟩ H fun v H' => ∃ r, v = .bool r ∧ K r H' := by
  apply vc_convert_Work_Step
  obtain ⟨hi, hne, wX, lX, la, ln, lc, hs, al, an, ac, hd, q1, q2, q3, q4, q5, q6, q7, q8, q9, q10⟩ := hW
  obtain ⟨bd1, bd2, bd3⟩ := hU.bound
  refine ⟨_, q1.ld (j := 1) (by kernel_rfl) rfl, ?_⟩
  rw [List.length_drop]
  refine brB_of (fun h => ⟨_, rfl, h0 (by simp at h; omega)⟩) fun h => ?_
  have hlt : i < us.length := by simp at h; omega
  obtain ⟨u, hu⟩ := getElem_ex (l := us) (i := i) hlt
  have hdu : us.drop i = u :: us.drop (i + 1) := by
    rw [List.drop_eq_getElem_cons hlt]
    have := (List.getElem?_eq_some_iff.1 hu).2
    rw [this]
  have hus : us.take (i + 1) = us.take i ++ [u] := by rw [List.take_add_one, hu]; rfl
  have hum := bd2 u (List.mem_of_getElem? hu)
  rw [hdu] at q8
  obtain ⟨m, hd', rfl⟩ : ∃ m hd', hd = m :: hd' := by
    cases q8 with
    | cons h1 h2 => exact ⟨_, _, rfl⟩
  have q8' : ChU H m u ∧ All2 (ChU H) hd' (us.drop (i + 1)) := by
    cases q8 with
    | cons h1 h2 => exact ⟨h1, h2⟩
  have hmd := q10 m (by simp)
  refine ⟨_, _, _, q1.ld (j := 3) (by kernel_rfl) rfl, _, q1.ld (j := 2) (by kernel_rfl) rfl, 42, ⟨[]⟩, _, rfl, by kernel_rfl, ?_⟩
  apply vc_convert_Begin_1
  have hanl := q7.len
  have hcap := q7.cap
  simp only [List.length_cons] at hanl
  refine ⟨_, _, _, q2.ld0 (by kernel_rfl) rfl, ?_⟩
  refine q7.head (decide_eq_true (by omega)) fun ad ea hc => ⟨_, _, _, ld_cell (by kernel_rfl) (by have := hc 0 _ rfl; simpa [Addr.add] using this), _, _, _, q2.ld0 (by kernel_rfl) rfl, ?_⟩
  refine chk_true (decide_eq_true ⟨by omega, by omega, by omega⟩) ?_
  refine q2.st0 (v := .slice (slA ac 1 1 al) (Int.toNat (an : Int) - 1) (ac - 1)) (by kernel_rfl) (by kernel_rfl) one_slice (by simp [Value.cells]) fun H1 hB1 f1 => ?_
  have notb : ∀ {p : Option Addr}, (∀ k ∈ blkL p, k ∉ X) → ∀ ad, p = some ad → ad.block ∉ [b] := fun {p} h => blk_of_ne fun k kk hm => h k kk (by simp at hm; rw [hm]; exact wX.2)
  have notw : ∀ {p : Option Addr}, (∀ k ∈ blkL p, k ∉ X) → ∀ ad, p = some ad → ad.block ∉ [w] := fun {p} h => blk_of_ne fun k kk hm => h k kk (by simp at hm; rw [hm]; exact wX.1)
  have w1 := q1.fr f1 (by simpa using hne)
  refine ⟨_, _, _, rfl, w1.ld (j := 3) (by kernel_rfl) rfl, ?_⟩
  have x1 := Sl.fr q3 f1 (notb fun k hk => (q5 k hk).1)
  have s1 : SerH H1 hs (foldU (us.take i)) := SerH.fr q4 f1 fun m hm k hk hm2 => (q6 m hm k hk).1 (by simp at hm2; rw [hm2]; exact wX.2)
  have u1 : Sl encRw H1 m.1 m.2.1 m.2.2 u := Sl.fr q8'.1 f1 (notb fun k hk => (hmd k hk).1)
  have hR := foldU_right (us.take i)
  have bdi := bd3 i
  have hln : ln = (foldU (us.take i)).length := x1.len.trans s1.len
  have hul := u1.len
  refine Put_ok x1 s1 hR u1 (by omega) (by omega) (fun s hs => by have := bdi.2 s hs; omega) fun a2 n2 c2 H2 hs2 o2 s2 el2 f2 => ?_
  have w2 := w1.keep f2
  have z1 := f1.size
  have z2 := f2.size
  have szw := w1.lt
  have szb := hB1.lt
  simp only at szw szb
  refine w2.st (j := 3) (v := .slice a2 n2 c2) (by kernel_rfl) (by kernel_rfl) one_slice (by simp [Value.cells]) fun H3 w3 f3 => ?_
  have z3 := f3.size
  have w3' : Blk H3 ⟨w, 0, none⟩ [.int .i64 lay, .int .i64 ((us.length - i : Nat) : Int), .func (.func 42) ⟨[]⟩ ⟨[.pointer (some ⟨b, 0, none⟩)]⟩, .slice a2 n2 c2] := by simpa [Value.cells, List.length_drop] using w3
  refine ⟨_, w3'.ld (j := 1) (by kernel_rfl) rfl, ?_⟩
  have ew : IntKind.i64.wrap (((us.length - i : Nat) : Int) - 1) = (((us.drop (i + 1)).length : Nat) : Int) := by
    rw [List.length_drop, wrap64_of (by omega) (by omega)]; omega
  rw [ew]
  refine w3'.st (j := 1) (v := .int .i64 _) (by kernel_rfl) (by kernel_rfl) (fun x hx => by simp [Value.cells] at hx; subst hx; rfl) (by simp [Value.cells]) fun H4 w4 f4 => ?_
  have z4 := f4.size
  refine ⟨_, rfl, h1 H4 hlt ⟨by omega, hne, wX, fun k hk => by have := lX k hk; omega, a2, n2, c2, hs2, slA ac 1 1 al, an - 1, ac - 1, hd', ?_, ?_, ?_, ?_, fun k hk => ?_, fun m hm k hk => ?_, ?_, ?_, fun k hk => ⟨(q9 k (slA_blk hk)).1, by have := (q9 k (slA_blk hk)).2; omega⟩, fun m hm k hk => ⟨(q10 m (by simp [hm]) k hk).1, by have := (q10 m (by simp [hm]) k hk).2; omega⟩⟩ ?_⟩
  · simpa [Value.cells] using w4
  · have := ((hB1.keep f2).fr f3 (by simpa using fun e => hne e.symm)).fr f4 (by simpa using fun e => hne e.symm)
    simpa [Value.cells] using this
  · have ge : ∀ k ∈ blkL a2, k ∉ X := fun k hk hX => by have := (o2.ge k hk).1; have := lX k hX; omega
    exact Sl.fr (Sl.fr o2.sl f3 (notw ge)) f4 (notw ge)
  · rw [hus, foldU_snoc]
    have nw : ∀ m ∈ hs2, ∀ k ∈ blkL m.2.1, k ∉ [w] := fun m hm k hk hm2 => by have := el2 m hm k hk; simp at hm2; omega
    exact SerH.fr (SerH.fr s2 f3 nw) f4 nw
  · have := o2.ge k hk
    exact ⟨fun hX => by have := lX k hX; omega, by omega⟩
  · have := el2 m hm k hk
    obtain ⟨x, hx, hr⟩ := All2.mem s2 hm
    have := sl_lt hr.2 (((right_putR hR).1).2 x hx).1 k hk
    exact ⟨fun hX => by have := lX k hX; omega, by omega⟩
  · have hx7 := Sl.drop (k := 1) q7 (by omega)
    have g : ∀ k ∈ blkL (slA ac 1 1 al), k ∉ X := fun k hk => (q9 k (slA_blk hk)).1
    have hx7' : Sl encHd H (slA ac 1 1 al) (an - 1) (ac - 1) hd' := hx7
    exact Sl.fr (Sl.fr ((Sl.fr hx7' f1 (notb g)).keep f2) f3 (notw g)) f4 (notw g)
  · refine q8'.2.mono fun m' u' hm _ hr => ?_
    have g : ∀ k ∈ blkL m'.1, k ∉ X := fun k hk => (q10 m' (by simp [hm]) k hk).1
    exact Sl.fr (Sl.fr ((Sl.fr hr f1 (notb g)).keep f2) f3 (notw g)) f4 (notw g)
  · exact ((f1.trans' f2 (T := [w, b]) (fun k hk _ => by simp at hk; subst hk; simp) (by simp)).trans' f3 (fun k hk _ => hk) (fun k hk _ => by simp at hk; subst hk; simp)).trans' f4 (fun k hk _ => hk) (fun k hk _ => by simp at hk; subst hk; simp)
theorem Data_ok {H : Heap} {w b : Nat} {X : List Nat} {lay : Int} {s : ByteArray} {us : List (List Rw)} {rows : List Rw} {i : Nat} {K : ByteArray → Int → Heap → Prop} (hU : UnitsU lay s us rows) (hW : WorkS H w b X lay us i)
    (h0 : i < us.length → K ⟨#[]⟩ 212 H) (h1 : ∀ H', i = us.length → Fr [] H H' → K (writeF (1 - lay) rows).1 (writeF (1 - lay) rows).2 H') :
    CallH Tryz.prog fn_convert_Work_Data ⟨[.pointer (some ⟨w, 0, none⟩)]⟩ H fun v H' => ∃ s e, v = .tuple ⟨[.string s, .int .i64 e]⟩ ∧ K s e H' := by
  apply vc_convert_Work_Data
  obtain ⟨hi, hne, wX, lX, la, ln, lc, hs, al, an, ac, hd, q1, q2, q3, q4, q5, q6, q7, q8, q9, q10⟩ := hW
  obtain ⟨bd1, bd2, bd3⟩ := hU.bound
  refine ⟨_, q1.ld (j := 1) (by kernel_rfl) rfl, ?_⟩
  rw [List.length_drop]
  refine brB_of (fun h => ⟨_, _, rfl, h0 (by simp at h; omega)⟩) fun h => ?_
  have hie : i = us.length := by simp at h; omega
  have hfin := hU.fin
  have bdi := bd3 i
  have hln : ln = (foldU (us.take i)).length := q3.len.trans q4.len
  refine ⟨_, q1.ld0 (by kernel_rfl) rfl, _, _, _, q1.ld (j := 3) (by kernel_rfl) rfl, ?_⟩
  refine Rows_ok q3 q4 (foldU_right _) (by omega) (fun s hs => by have := bdi.2 s hs; omega) fun a2 n2 c2 H1 rows' o1 hro hn2 f1 => ⟨(q1.keep f1).ld0 (by kernel_rfl) rfl, ?_⟩
  rw [List.take_of_length_le (by omega)] at hro
  have hrows := hro.eq hfin
  subst hrows
  rw [flip64 hU.lay]
  have ho := o1.1
  refine Write_ok o1.sl hU.read.vals (by omega) (fun hl => by have := hU.len1 hl; omega) fun H2 f2 => ⟨_, _, rfl, h1 H2 hie (f1.keep0 f2)⟩

theorem self_beq (s : ByteArray) : (s.toList == s.toList) = true := beq_self_eq_true _
theorem noU {lay : Int} {s : ByteArray} {us : List (List Rw)} {rows : List Rw} {e : Int} (hU : UnitsU lay s us rows) (he : e ≠ 0) (h : UnitsR lay s 0 e) : False := he (h.uniq (.inl ⟨rfl, us, rows, hU, rfl⟩)).2

theorem fine_snoc {l : List Rw} {x : Rw} (h : FineR l) (hx : ∀ y, l[l.length - 1]? = some y → kLt y x) : FineR (l ++ [x]) := by
  refine List.pairwise_append.2 ⟨h, List.pairwise_singleton _ _, fun y hy z hz => ?_⟩
  simp only [List.mem_singleton] at hz
  subst hz
  obtain ⟨i, hi⟩ := List.mem_iff_getElem?.1 hy
  have hil := (List.getElem?_eq_some_iff.1 hi).1
  have hl := rAt_get (l := l) (i := l.length - 1) (by omega)
  by_cases e : i = l.length - 1
  · subst e; exact hx _ hi
  · refine kLt_trans ?_ (hx _ hl)
    have := h.at (i := i) (j := l.length - 1) (by omega) (by omega)
    rwa [rAt_of hi] at this
def goodR (x : Rw) : Prop := (0 ≤ x.1 ∧ x.1 < 1099511627776) ∧ (0 ≤ x.2.1 ∧ x.2.1 < 200)
theorem fine_ok {H : Heap} {a : Option Addr} {n c : Nat} {rows : List Rw} {K : Option Addr → Nat → Nat → Heap → Prop} (hx : Sl encRw H a n c rows) (hv : ∀ x ∈ rows, I64 x.2.2) (hn : n ≤ 1000000)
    (hk : ∀ L a' n' c' H', Sl encRw H' a' n' c' L → RowsP L → n' ≤ 100 → Fr [] H H' → K a' n' c' H') :
    CallH Tryz.prog fn_law19_fine ⟨[.slice a n c]⟩ H fun v H' => ∃ a n c, v = .slice a n c ∧ K a n c H' := by
  apply vc_law19_fine
  have hl := hx.len
  intro b0 H0 hn0
  refine ⟨fun vs H' => match vs with
      | [.slice o l d, .int _ i] => ∃ (k : Nat) (L : List Rw), i = k ∧ k ≤ n ∧ Own encRw 26 H.size H' o l d L ∧ RowsP L ∧ l ≤ 100 ∧ Fr [] H H'
      | _ => False,
    fun vs _ => match vs with | [_, .int _ i] => n - i.toNat | _ => 0, ⟨0, [], rfl, by omega, Own.made encRw 26 hn0 (Nat.le_refl _), ⟨by simp, FineR.nil, fun x h => by cases h⟩, by omega, hn0.fr⟩, ?_⟩
  rintro J o l d i H1 ⟨k, L, rfl, hkn, ho, hP, hl1, hf⟩
  have hol := ho.1
  refine ⟨fun _ H' => H' = H1 ∧ k < n ∧ l < 100, brB_of (fun h => brB_of (fun h2 => ⟨rfl, by simpa using h, by simp at h2; omega⟩) fun _ => ⟨_, _, _, rfl, hk L _ _ _ _ ho.sl hP hl1 hf⟩) fun _ => ⟨_, _, _, rfl, hk L _ _ _ _ ho.sl hP hl1 hf⟩, ?_⟩
  rintro J H2 ⟨rfl, hkl, hl100⟩
  refine ⟨fun vs H' => match vs with
      | [.slice o l d] => ∃ L : List Rw, Own encRw 26 H.size H' o l d L ∧ RowsP L ∧ l ≤ 100 ∧ Fr [] H H'
      | _ => False, ?_, ?_⟩
  · obtain ⟨x, hx0⟩ := getElem_ex (l := rows) (i := k) (by omega)
    refine (hx.keep hf).get rfl hx0 (decide_eq_true (by omega)) fun ad ea hc => ⟨_, _, _, ldRw hc, ?_⟩
    refine var_blk (v := vRw x) (by kernel_rfl) (by kernel_rfl) (by simp [Value.cells, Value.oneCell']) rfl fun b H3 hb hB hf3 => ?_
    have hB : Blk H3 ⟨b, 0, none⟩ (encRw.cells x) := hB
    have fno : ∀ {p q : Prop}, ¬ p → ((false : Bool) = true ↔ p ∧ q) := fun {p q} h => ⟨fun h => (by cases h), fun h' => absurd h'.1 h⟩
    refine ⟨fun vs H' => ∃ t : Bool, vs = [.bool t] ∧ (t = true ↔ goodR x ∧ ∀ y, L[L.length - 1]? = some y → kLt y x) ∧ Fr [] H3 H', ?_, ?_⟩
    · refine ⟨_, hB.ld0 (by kernel_rfl) rfl, brB_of (fun h1 => ⟨_, hB.ld0 (by kernel_rfl) rfl, brB_of (fun h2 => ⟨_, hB.ldK (j := 1) (by kernel_rfl) rfl, brB_of (fun h3 => ⟨_, hB.ldK (j := 1) (by kernel_rfl) rfl, brB_of (fun h4 => ?_) fun h4 => ⟨_, rfl, fno ?_, Fr.refl _ _⟩⟩) fun h3 => ⟨_, rfl, fno ?_, Fr.refl _ _⟩⟩) fun h2 => ⟨_, rfl, fno ?_, Fr.refl _ _⟩⟩) fun h1 => ⟨_, rfl, fno ?_, Fr.refl _ _⟩⟩
      · have hg : goodR x := ⟨⟨of_decide_eq_true h1, of_decide_eq_true h2⟩, of_decide_eq_true h3, of_decide_eq_true h4⟩
        refine brB_of (fun h5 => ⟨_, rfl, ⟨fun _ => ⟨hg, fun y hy => ?_⟩, fun _ => rfl⟩, Fr.refl _ _⟩) fun h5 => ?_
        · have : l = 0 := by simpa using h5
          have hy' := (List.getElem?_eq_some_iff.1 hy).1
          omega
        · have hl0 : 0 < l := by simp at h5; omega
          obtain ⟨y, hy⟩ := getElem_ex (l := L) (i := L.length - 1) (by omega)
          refine ⟨_, _, _, hB.ldA0 (us := encRw.cells x) (by kernel_rfl) (by kernel_rfl) rfl, ?_⟩
          rw [pred64 (by omega) hl0]
          have hy2 : L[l - 1]? = some y := by rw [hol]; exact hy
          refine (ho.sl.keep hf3).get rfl hy2 (decide_eq_true (by omega)) fun ad2 ea2 hc2 => ⟨_, _, _, ldRw hc2, ?_⟩
          refine Behind_ok (x := x) (y := y) fun H4 hf4 => ⟨_, rfl, ?_, hf4⟩
          rw [decide_eq_true_iff]
          exact ⟨fun h => ⟨hg, fun y' hy' => by rw [hy] at hy'; cases hy'; exact h⟩, fun h => h.2 y hy⟩
      · exact fun h => by have := h.2.2; simp at h4; omega
      · exact fun h => by have := h.2.1; simp at h3; omega
      · exact fun h => by have := h.1.2; simp at h2; omega
      · exact fun h => by have := h.1.1; simp at h1; omega
    · rintro J t H4 ⟨t', et, ht, hf4⟩
      cases et
      have hf04 := (hf.keep0 hf3).keep0 hf4
      refine brB_of (fun h => ?_) fun h => ⟨L, (ho.keep hf3).keep hf4, hP, by omega, hf04⟩
      obtain ⟨hg, hlast⟩ := ht.1 h
      refine ⟨_, _, _, (hB.keep hf4).ldA0 (us := encRw.cells x) (by kernel_rfl) (by kernel_rfl) rfl, ?_⟩
      refine ap_one (E := encRw) x slice34 elem45 ((ho.keep hf3).keep hf4) hf04 rfl (by omega) fun _ o' l' d' H5 ho5 hf5 _ => ?_
      have h5l := ho5.1
      simp only [List.length_append, List.length_cons, List.length_nil] at h5l
      refine ⟨L ++ [x], ho5, ⟨by simp; omega, fine_snoc hP.fine hlast, fun z hz => ?_⟩, by omega, hf5⟩
      rcases List.mem_append.1 hz with hz | hz
      · exact hP.lo z hz
      · simp only [List.mem_singleton] at hz
        subst hz
        exact ⟨hg.1, hg.2, hv z (List.mem_of_getElem? hx0)⟩
  · rintro J o2 l2 d2 H3 ⟨L2, ho2, hP2, hl2, hf2⟩
    rw [succ64 (by omega)]
    exact ⟨⟨k + 1, L2, rfl, by omega, ho2, hP2, hl2, hf2⟩, mu_lt hkl⟩
theorem turned_ok {lay : Int} {s : ByteArray} {H : Heap} {us : List (List Rw)} {rows : List Rw} {K : ByteArray → Bool → Heap → Prop} (hs : s.size ≤ 1000000000) (hU : UnitsU lay s us rows)
    (hk : ∀ H', Fr [] H H' → K (writeF (1 - lay) rows).1 ((writeF (1 - lay) rows).2 == 0) H') :
    CallH Tryz.prog fn_law19_turned ⟨[.int .i64 lay, .string s]⟩ H fun v H' => ∃ s b, v = .tuple ⟨[.string s, .bool b]⟩ ∧ K s b H' := by
  apply vc_law19_turned
  have hbd := hU.bound.1
  refine Begin_ok hs (fun e H1 he hR f1 => (noU hU he hR).elim) fun us2 rows2 w b H1 hU2 hW hw hb f1 => ?_
  obtain ⟨rfl, rfl⟩ := hU2.uniq hU
  refine Units_ok hs fun n e H2 hR f2 => ?_
  obtain ⟨rfl, rfl⟩ := hR.uniq (.inl ⟨rfl, us2, rows2, hU, rfl⟩)
  refine ⟨fun _ H' => H' = H2, brB_of (fun h => by simp at h) fun _ => brB_of (fun h => by simp at h) fun _ => brB_of (fun h => by simp at h) fun _ => rfl, ?_⟩
  rintro J H3 rfl
  refine ⟨fun vs H' => match vs with | [.int _ i] => ∃ k : Nat, i = k ∧ k ≤ us2.length ∧ WorkS H' w b [w, b] lay us2 k ∧ Fr [] H H' | _ => False,
    fun vs _ => match vs with | [.int _ i] => us2.length - i.toNat | _ => 0, ⟨0, rfl, by omega, ⟨Nat.zero_le _, hW.keep f2⟩, f1.keep0 f2⟩, ?_⟩
  rintro J i H4 ⟨k, rfl, hkl, hW4, f4⟩
  refine brB_of (fun hlt => ?_) fun hge => ?_
  · have hlt : k < us2.length := by simp at hlt; omega
    refine Data_ok hU hW4 (fun _ => ?_) fun H' h => by omega
    refine Left_ok hW4 ?_
    rw [wrap64_of (by omega) (by omega)]
    refine brB_of (fun h => by simp at h; omega) fun _ => brB_of (fun h => by simp at h) fun _ => ?_
    refine Step_ok hU hW4 (fun h => by omega) fun H5 _ hW5 f5 => ?_
    rw [succ64 (by omega)]
    exact brB_of (fun h => by cases h) fun _ => ⟨⟨k + 1, rfl, by omega, hW5, f4.keep f5 fun k hk => by simp at hk; omega⟩, mu_lt hlt⟩
  · have hk' : k = us2.length := by simp at hge; omega
    subst hk'
    refine Left_ok hW4 ?_
    refine brB_of (fun h => by simp at h) fun _ => ?_
    refine Step_ok hU hW4 (fun _ => ?_) fun H5 h => by omega
    refine brB_of (fun h => by cases h) fun _ => ?_
    exact Data_ok hU hW4 (fun h => by omega) fun H5 _ f5 => ⟨_, _, rfl, hk H5 (f4.keep0 f5)⟩
theorem ReadR.units {lay : Int} {s : ByteArray} {rows : List Rw} (h : ReadR lay s rows 0) : ∃ us, UnitsU lay s us rows := by
  rcases h with ⟨_, ⟨hl, ss, h1, h2, h3⟩ | ⟨hl, h1, h2⟩⟩ | ⟨_, ⟨_, h, _⟩ | ⟨_, h, _⟩ | ⟨_, _, h⟩⟩
  · exact ⟨_, .inl ⟨hl, ss, h1, h2, h3, rfl⟩⟩
  · exact ⟨_, .inr ⟨hl, h1, h2, rfl⟩⟩
  all_goals omega
theorem MajP.size {ss : List Srs} (h : MajP ss) : (encM ss).length ≤ 1000000000 := by
  have h1 := tblM_len h.lo
  have h2 := bdyM_len fun s hs => (h.lo s hs).2
  have h3 := h.len
  have h4 : (uintL ss.length).length ≤ 10 := uintL_len10 (by omega)
  unfold encM
  rw [List.length_append, List.length_append]
  omega
theorem RowsP.size {l : List Rw} (h : RowsP l) : (encR l).length ≤ 1000000000 := by
  have hl := h.len
  have hn := nC_le hl
  have h1 := hdsR_len h (m := nC l.length) (by unfold nC; omega)
  have h2 := bdsR_len h (nC l.length)
  have h4 : (uintL l.length).length ≤ 10 := uintL_len10 (by omega)
  unfold encR
  rw [List.length_append, List.length_append]
  omega
theorem write_size {l : Int} {L : List Rw} (hP : RowsP L) (hl : l = 0 ∨ l = 1) : (writeF l L).1.size ≤ 1000000000 := by
  rcases hl with rfl | rfl
  · rw [writeF0 hP.fine hP.maj]; exact hP.maj.size
  · rw [writeF1 hP]; exact hP.size
theorem Turns_ok {H : Heap} {a : Option Addr} {n c : Nat} {rows : List Rw} {first : Bool} (hx : Sl encRw H a n c rows) (hv : ∀ x ∈ rows, I64 x.2.2) :
    CallH Tryz.prog fn_law19_ConvertTurns ⟨[.slice a n c, .bool first]⟩ H fun v H' => v = .bool true ∧ Fr [] H H' := by
  apply vc_law19_ConvertTurns
  refine brB_of (fun _ => ⟨rfl, Fr.refl _ _⟩) fun h => ?_
  have hn : n ≤ 4096 := by simp at h; omega
  refine fine_ok hx hv (by omega) fun L a1 n1 c1 H1 hx1 hP hn1 f1 => ?_
  have hvL : ∀ x ∈ L, I64 x.2.2 := fun x hx => (hP.lo x hx).2.2
  refine ⟨fun vs H' => ∃ lay : Int, vs = [.int .i64 lay] ∧ (lay = 0 ∨ lay = 1) ∧ H' = H1, brB_of (fun _ => ⟨1, rfl, .inr rfl, rfl⟩) fun _ => ⟨0, rfl, .inl rfl, rfl⟩, ?_⟩
  rintro J lay H2 ⟨lay', el, hlay, rfl⟩
  cases el
  have hlay2 : 1 - lay = 0 ∨ 1 - lay = 1 := by omega
  have hw1 := write_read (rows' := L) hP hlay
  have hw2 := write_read (rows' := L) hP hlay2
  obtain ⟨us1, hU1⟩ := hw1.2.units
  obtain ⟨us2, hU2⟩ := hw2.2.units
  have sz : ∀ {l : Int} (hl : l = 0 ∨ l = 1), (writeF l L).1.size ≤ 1000000000 := fun hl => write_size hP hl
  refine Write_ok hx1 hvL (by omega) (fun _ => by omega) fun H3 f3 => ?_
  refine rWrite19_ok (hx1.keep f3) hvL (by omega) (fun _ => by omega) fun H4 f4 => ?_
  refine ⟨fun _ H' => H' = H4, brB_of (fun h => by rw [hw1.1] at h; simp at h) fun _ => brB_of (fun h => by rw [hw1.1] at h; simp at h) fun _ => brB_of (fun h => by rw [self_beq] at h; cases h) fun _ => rfl, ?_⟩
  rintro J H5 rfl
  refine Read_ok (sz hlay) fun rs a2 n2 c2 e H6 hR hx2 hn2 f6 => ?_
  obtain ⟨rfl, rfl⟩ := hR.uniq hw1.2
  have f36 := (f3.keep0 f4).keep0 f6
  have hx6 := hx1.keep f36
  refine ⟨fun _ H' => H' = H6, brB_of (fun h => by simp at h) fun _ => Equal_ok hx2 hx6 (by omega) (brB_of (fun h => by cases h) fun _ => rfl), ?_⟩
  rintro J H7 rfl
  refine turned_ok (sz hlay) hU1 fun H8 f8 => ?_
  rw [hw2.1, flip64 hlay]
  refine brB_of (fun h => by simp at h) fun _ => ?_
  refine turned_ok (sz hlay2) hU2 fun H9 f9 => ?_
  rw [show 1 - (1 - lay) = lay by omega, hw1.1]
  refine Write_ok ((hx6.keep f8).keep f9) hvL (by omega) (fun _ => by omega) fun H10 f10 => ?_
  have F := (((f1.keep0 f36).keep0 f8).keep0 f9).keep0 f10
  refine brB_of (fun _ => brB_of (fun _ => brB_of (fun _ => ⟨by rw [self_beq], F⟩) fun h => ?_) fun h => ?_) fun h => ?_
  · rw [hw2.1] at h; simp at h
  · rw [self_beq] at h; cases h
  · simp at h

structure IdsI (rows : List Rw) (k : Nat) (L : List Int) : Prop where
  nd : L.Nodup
  mem : ∀ y, y ∈ L ↔ y ∈ (rows.take k).map (·.2.1)
theorem IdsI.len {rows : List Rw} {L : List Int} (h : IdsI rows rows.length L) (hF : FineR rows) : L.length = (putR [] rows).length := by
  have hs := rows_split hF
  have hR := (right_putR (rows := rows) RightS.nil).1
  have hm := h.mem
  rw [List.take_length] at hm
  have hnd : ((putR [] rows).map (·.1)).Nodup := (List.pairwise_map.2 (hR.1.imp fun {a b} h => by omega))
  have h1 : ∀ y ∈ L, y ∈ (putR [] rows).map (·.1) := fun y hy => by
    obtain ⟨x, hx, rfl⟩ := List.mem_map.1 ((hm y).1 hy)
    obtain ⟨s, hs', hxs⟩ := (hs.2 x).1 hx
    exact List.mem_map.2 ⟨s, hs', ((ownR_mem.1 hxs).1).symm⟩
  have h2 : ∀ y ∈ (putR [] rows).map (·.1), y ∈ L := fun y hy => by
    obtain ⟨s, hs', rfl⟩ := List.mem_map.1 hy
    obtain ⟨p, hp⟩ := List.exists_mem_of_ne_nil _ (hR.2 s hs').1
    exact (hm _).2 (List.mem_map.2 ⟨(p.1, s.1, p.2), (hs.2 _).2 ⟨s, hs', ownR_mem.2 ⟨rfl, hp⟩⟩, rfl⟩)
  have a1 := nodup_le h.nd h1
  have a2 := nodup_le hnd h2
  rw [List.length_map] at a1 a2
  omega
theorem IdsI.step {rows : List Rw} {k : Nat} {L : List Int} {x : Rw} (h : IdsI rows k L) (hx : rows[k]? = some x) : (x.2.1 ∈ L → IdsI rows (k + 1) L) ∧ (x.2.1 ∉ L → IdsI rows (k + 1) (L ++ [x.2.1])) := by
  have e : (rows.take (k + 1)).map (fun x : Rw => x.2.1) = (rows.take k).map (·.2.1) ++ [x.2.1] := by rw [List.take_add_one, hx]; simp
  refine ⟨fun hm => ⟨h.nd, fun y => ?_⟩, fun hm => ⟨?_, fun y => ?_⟩⟩
  · rw [e, List.mem_append, ← h.mem y, List.mem_singleton]
    exact ⟨.inl, fun hy => hy.elim id fun e => by rw [e]; exact hm⟩
  · refine List.nodup_append.2 ⟨h.nd, by simp, fun a ha b hb => ?_⟩
    simp only [List.mem_singleton] at hb
    subst hb
    exact fun e => hm (by rw [← e]; exact ha)
  · rw [e, List.mem_append, List.mem_append, h.mem y]
theorem elem3' : elemB Tryz.prog 3 1 8 = true := by kernel_rfl
theorem Units19_ok {H : Heap} {a : Option Addr} {n c : Nat} {rows : List Rw} (hx : Sl encRw H a n c rows) (hv : ∀ x ∈ rows, I64 x.2.2) :
    CallH Tryz.prog fn_law19_ConvertUnits ⟨[.slice a n c]⟩ H fun v H' => v = .bool true ∧ Fr [] H H' := by
  apply vc_law19_ConvertUnits
  refine brB_of (fun _ => ⟨rfl, Fr.refl _ _⟩) fun h => ?_
  have hn : n ≤ 4096 := by simp at h; omega
  refine fine_ok hx hv (by omega) fun L a1 n1 c1 H1 hx1 hP hn1 f1 => ?_
  have hvL : ∀ x ∈ L, I64 x.2.2 := fun x hx => (hP.lo x hx).2.2
  have hl1 := hx1.len
  intro b H2 hn2
  refine ⟨fun vs H' => match vs with
      | [.slice o l d, .int _ i] => ∃ (k : Nat) (ids : List Int), i = k ∧ k ≤ n1 ∧ Own encInt 3 H1.size H' o l d ids ∧ IdsI L k ids ∧ l ≤ k ∧ Fr [] H1 H'
      | _ => False,
    fun vs _ => match vs with | [_, .int _ i] => n1 - i.toNat | _ => 0, ⟨0, [], rfl, by omega, Own.made encInt 3 hn2 (Nat.le_refl _), ⟨List.nodup_nil, fun y => by simp⟩, by omega, hn2.fr⟩, ?_⟩
  rintro J o l d i H3 ⟨k, ids, rfl, hk, ho, hI, hlk, f3⟩
  have hol := ho.1
  refine brB_of (fun hlt => ?_) fun hge => ?_
  · have hlt : k < n1 := by simpa using hlt
    obtain ⟨x, hx0⟩ := getElem_ex (l := L) (i := k) (by omega)
    have hst := hI.step hx0
    refine ⟨fun vs H' => match vs with
        | [.bool t, .int _ i] => ∃ j : Nat, i = j ∧ j ≤ l ∧ (t = true ↔ x.2.1 ∈ ids.take j) ∧ H' = H3
        | _ => False,
      fun vs _ => match vs with | [_, .int _ i] => l - i.toNat | _ => 0, ⟨0, rfl, by omega, by simp, rfl⟩, ?_⟩
    rintro J t i H4 ⟨j, rfl, hj, ht, rfl⟩
    refine brB_of (fun h2 => ?_) fun h2 => ?_
    · have h2 : j < l := by simpa using h2
      obtain ⟨y, hy⟩ := getElem_ex (l := ids) (i := j) (by omega)
      have etk : ids.take (j + 1) = ids.take j ++ [y] := by rw [List.take_add_one, hy]; rfl
      refine ⟨fun vs H' => ∃ t' : Bool, vs = [.bool t'] ∧ (t' = true ↔ x.2.1 ∈ ids.take (j + 1)) ∧ H' = H4, ?_, ?_⟩
      · refine brB_of (fun ht2 => ⟨true, rfl, ⟨fun _ => ?_, fun _ => rfl⟩, rfl⟩) fun ht2 => ?_
        · rw [etk, List.mem_append]; exact .inl (ht.1 ht2)
        · refine ho.sl.get rfl hy (decide_eq_true (by omega)) fun ad ea hc => ⟨_, ld_one (by kernel_rfl) hc, ?_⟩
          refine (hx1.keep f3).get rfl hx0 (decide_eq_true (by omega)) fun ad2 ea2 hc2 => ⟨_, ldRw1 hc2, _, rfl, ?_, rfl⟩
          rw [etk, List.mem_append, List.mem_singleton, beq_iff_eq]
          have : x.2.1 ∉ ids.take j := fun hh => by rw [ht.2 hh] at ht2; cases ht2
          exact ⟨fun e => .inr e.symm, fun e => e.elim (fun h => absurd h this) fun e => e.symm⟩
      · rintro J t2 H5 ⟨t', et, ht', rfl⟩
        cases et
        rw [succ64 (by omega)]
        exact ⟨⟨j + 1, rfl, by omega, ht', rfl⟩, mu_lt h2⟩
    · have hjl : j = l := by simp at h2; omega
      subst hjl
      rw [List.take_of_length_le (by omega)] at ht
      refine brB_of (fun h3 => ?_) fun h3 => ?_
      · have hm : x.2.1 ∉ ids := fun hh => by rw [ht.2 hh] at h3; cases h3
        refine (hx1.keep f3).get rfl hx0 (decide_eq_true (by omega)) fun ad2 ea2 hc2 => ⟨_, ldRw1 hc2, ?_⟩
        refine ap_one (E := encInt) (x.2.1 : Int) slice24 elem3' ho f3 rfl (by omega) fun _ o' l' d' H5 ho5 hf5 _ => ?_
        have h5 := ho5.1
        simp only [List.length_append, List.length_cons, List.length_nil] at h5
        rw [succ64 (by omega)]
        exact ⟨⟨k + 1, _, rfl, by omega, ho5, hst.2 hm, by omega, hf5⟩, mu_lt hlt⟩
      · have hm : x.2.1 ∈ ids := ht.1 (by cases t with | true => rfl | false => cases h3)
        rw [succ64 (by omega)]
        exact ⟨⟨k + 1, _, rfl, by omega, ho, hst.1 hm, by omega, f3⟩, mu_lt hlt⟩
  · have hkn : k = n1 := by simp at hge; omega
    subst hkn
    have hx3 := hx1.keep f3
    rw [hl1] at hI
    have hidl := hI.len hP.fine
    have hw1 := write_read (rows' := L) hP (.inl rfl : (0 : Int) = 0 ∨ (0 : Int) = 1)
    have hw2 := write_read (rows' := L) hP (.inr rfl : (1 : Int) = 0 ∨ (1 : Int) = 1)
    refine Write_ok hx3 hvL (by omega) (fun _ => by omega) fun H4 f4 => ?_
    refine Write_ok (hx3.keep f4) hvL (by omega) (fun _ => by omega) fun H5 f5 => ?_
    refine Units_ok (write_size hP (.inl rfl)) fun u1 g1 H6 hU1 f6 => ?_
    refine Units_ok (write_size hP (.inr rfl)) fun u2 g2 H7 hU2 f7 => ?_
    refine Units_ok (by simp [ByteArray.size]) fun u3 g3 H8 hU3 f8 => ?_
    have F := ((((f1.keep0 f3).keep0 f4).keep0 f5).keep0 f6).keep0 (f7.keep0 f8)
    have e1 : u1 = ((putR [] L).length : Nat) ∧ g1 = 0 := by
      refine hU1.uniq (.inl ⟨rfl, (putR [] L).map ownR, L, .inl ⟨rfl, putR [] L, hP.maj, ?_, rows_split hP.fine, rfl⟩, by rw [List.length_map]⟩)
      rw [writeF0 hP.fine hP.maj, bl_mk]
    have e2 : u2 = ((nC L.length : Nat) : Int) ∧ g2 = 0 := by
      refine hU2.uniq (.inl ⟨rfl, chsR L, L, .inr ⟨rfl, hP, ?_, rfl⟩, by rw [chsR_len]⟩)
      rw [writeF1 hP, bl_mk]
    have e3 : g3 = 1 := by
      rcases hU3 with ⟨_, us, rows, hU, _⟩ | ⟨_, ⟨h, _⟩ | ⟨h, _⟩ | ⟨_, _, h⟩⟩
      · rcases hU.lay with h | h <;> omega
      all_goals omega
    obtain ⟨rfl, rfl⟩ := e1
    obtain ⟨rfl, rfl⟩ := e2
    subst e3
    rw [hw1.1, hw2.1, nC64 (by omega), hl1, ← hidl, hol]
    refine brB_of (fun _ => brB_of (fun _ => brB_of (fun _ => brB_of (fun _ => brB_of (fun _ => brB_of (fun _ => ⟨rfl, F⟩) fun h => ?_) fun h => ?_) fun h => ?_) fun h => ?_) fun h => ?_) fun h => ?_
    all_goals simp at h
end Go.Proofs
set_option linter.unusedVariables false
open Go Go.GV
namespace Go.Proofs.YtjclcccjdnllgaaGreat
open Go.ChangeShapes Go.WideShapes Go.ChangeAt Go.RowKit
theorem own : ownKnob Tryz.prog.godebug = none := by kernel_rfl
theorem laid : laidOutB Tryz.prog = true := by kernel_rfl

theorem wf_i64' {x : Int} (h : (Lit.int .i64 x).wf = true) : I64 x := by
  simp [Lit.wf] at h
  have h1 : IntKind.i64.min = -9223372036854775808 := by decide
  have h2 : IntKind.i64.max = 9223372036854775807 := by decide
  unfold I64
  omega
theorem row_el {H : Heap} {m : Nat} {r : List Value} (hr : OkC Tryz.prog H m 26 r) (hl : r.length = encRw.sz) : ∃ x : Rw, encRw.cells x = r ∧ I64 x.2.2 := by
  obtain ⟨_, hf⟩ := hr.struct Tryz.underlying26
  obtain ⟨c0, c1, c2, rfl⟩ := three_of hl
  obtain ⟨_, h0⟩ := hf 0 _ rfl
  obtain ⟨_, h1⟩ := hf 1 _ rfl
  obtain ⟨_, h2⟩ := hf 2 _ rfl
  obtain ⟨x0, e0, _⟩ := OkC.int Tryz.underlying3 h0
  obtain ⟨x1, e1, _⟩ := OkC.int Tryz.underlying3 h1
  obtain ⟨x2, e2, w2⟩ := OkC.int Tryz.underlying3 h2
  have hc : Tryz.prog.cellsOf 3 = 1 := by kernel_rfl
  simp [hc] at e0 e1 e2
  exact ⟨(x0, x1, x2), by rw [e0, e1, e2]; rfl, wf_i64' w2⟩
theorem rows_in {H : Heap} {v : Value} (h : OkA Tryz.prog H 22 v) : ∃ a n c xs, v = .slice a n c ∧ Sl encRw H a n c xs ∧ ∀ x ∈ xs, I64 x.2.2 := by
  obtain ⟨a, n, c, xs, rfl, hs, _, hg⟩ := h.sl (E := encRw) (G := fun x => I64 x.2.2) Tryz.underlying22 (by kernel_rfl) fun m r hr hl => row_el hr hl
  exact ⟨a, n, c, xs, rfl, hs, hg⟩
theorem unitsWalk (H : Heap) (vs : List Value) (h : OkArgs Tryz.prog H [22] vs) : CallH Tryz.prog 3 ⟨vs⟩ H fun v H' => v = .bool true ∧ Fr [] H H' := by
  obtain ⟨v0, _, rfl, h0, rfl⟩ := h
  obtain ⟨a, n, c, xs, rfl, hs, hv⟩ := rows_in h0
  exact Units19_ok hs hv
theorem turnsWalk (H : Heap) (vs : List Value) (h : OkArgs Tryz.prog H [22, 4] vs) : CallH Tryz.prog 6 ⟨vs⟩ H fun v H' => v = .bool true ∧ Fr [] H H' := by
  obtain ⟨v0, _, rfl, h0, v1, _, rfl, h1, rfl⟩ := h
  obtain ⟨a, n, c, xs, rfl, hs, hv⟩ := rows_in h0
  obtain ⟨x, rfl⟩ := h1.bool Tryz.underlying4
  exact Turns_ok hs hv
end Go.Proofs.YtjclcccjdnllgaaGreat
