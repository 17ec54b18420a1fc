/- A part of a proof: see the last text of this claim. -/
import Derived.Test.YtjclcccjdnllgaaGreatC15c
import Derived.Test.YtjclcccjdnllgaaGreatGvOpen
set_option linter.unusedVariables false
set_option maxRecDepth 100000
open Go Go.GV
namespace Go.Proofs

theorem MajP.vals {ss : List Srs} {rows : List Rw} (h : MajP ss) (hr : RowsOf ss rows) : ∀ x ∈ rows, I64 x.2.2 := fun x hx => by
  obtain ⟨s, hs, hxs⟩ := (hr.2 x).1 hx
  exact (h.lo s hs).2.v (x.1, x.2.2) (ownR_mem.1 hxs).2
theorem ReadR.vals {lay : Int} {s : ByteArray} {rows : List Rw} {e : Int} (h : ReadR lay s rows e) : ∀ x ∈ rows, I64 x.2.2 := by
  rcases h with ⟨rfl, ⟨hl, ss, h1, h2, h3⟩ | ⟨hl, h1, h2⟩⟩ | ⟨rfl, _⟩
  · exact h1.vals h3
  · exact fun x hx => (h1.lo x hx).2.2
  · exact fun x hx => by cases hx
theorem UnitsU.len1 {s : ByteArray} {us : List (List Rw)} {rows : List Rw} {lay : Int} (h : UnitsU lay s us rows) (hl : 1 - lay = 0) : rows.length ≤ 5000 := by
  rcases h with ⟨h0, _⟩ | ⟨h1, hP, _⟩
  · omega
  · exact hP.len
theorem UnitsU.lay {s : ByteArray} {us : List (List Rw)} {rows : List Rw} {lay : Int} (h : UnitsU lay s us rows) : lay = 0 ∨ lay = 1 := by
  rcases h with ⟨h0, _⟩ | ⟨h1, _⟩
  · exact .inl h0
  · exact .inr h1
theorem flip64 {lay : Int} (h : lay = 0 ∨ lay = 1) : IntKind.i64.wrap (1 - lay) = 1 - lay := wrap64_of (by omega) (by omega)
def WorkS (H : Heap) (w b : Nat) (X : List Nat) (lay : Int) (us : List (List Rw)) (i : Nat) : Prop := i ≤ us.length ∧ WorkI H w b X lay (us.drop i) (foldU (us.take i))
theorem WorkS.keep {H H' : Heap} {w b : Nat} {X : List Nat} {lay : Int} {us : List (List Rw)} {i : Nat} (h : WorkS H w b X lay us i) (hf : Fr [] H H') : WorkS H' w b X lay us i := ⟨h.1, h.2.keep hf⟩
theorem WorkS.fr {H H' : Heap} {w b : Nat} {X S : List Nat} {lay : Int} {us : List (List Rw)} {i : Nat} (h : WorkS H w b X lay us i) (hf : Fr S H H') (hS : ∀ k ∈ S, k ∈ X ∧ k ≠ w ∧ k ≠ b) : WorkS H' w b X lay us i := ⟨h.1, h.2.fr hf hS⟩
theorem Left_ok {H : Heap} {w b : Nat} {X : List Nat} {lay : Int} {us : List (List Rw)} {i : Nat} {K : Int → Heap → Prop} (hW : WorkS H w b X lay us i) (hk : K ((us.length - i : Nat) : Int) H) :
    CallH Tryz.prog fn_convert_Work_Left ⟨[.pointer (some ⟨w, 0, none⟩)]⟩ H fun v H' => ∃ n, v = .int .i64 n ∧ K n H' := by
  apply vc_convert_Work_Left
  obtain ⟨hi, h1, wX, lX, la, ln, lc, hs, al, an, ac, hd, q1, _⟩ := hW
  rw [List.length_drop] at q1
  exact ⟨_, q1.ld (j := 1) (by kernel_rfl) rfl, _, rfl, hk⟩
theorem Step_ok {H : Heap} {w b : Nat} {X : List Nat} {lay : Int} {s : ByteArray} {us : List (List Rw)} {rows : List Rw} {i : Nat} {K : Bool → Heap → Prop} (hU : UnitsU lay s us rows) (hW : WorkS H w b X lay us i)
    (h0 : i = us.length → K false H) (h1 : ∀ H', i < us.length → WorkS H' w b X lay us (i + 1) → Fr [w, b] H H' → K true H') :
    CallH Tryz.prog fn_convert_Work_Step ⟨[.pointer (some ⟨w, 0, none⟩)]⟩ H fun v H' => ∃ r, v = .bool r ∧ K r H' := by
  apply vc_convert_Work_Step
  obtain ⟨hi, hne, wX, lX, la, ln, lc, hs, al, an, ac, hd, q1, q2, q3, q4, q5, q6, q7, q8, q9, q10⟩ := hW
  obtain ⟨bd1, bd2, bd3⟩ := hU.bound
  refine ⟨_, q1.ld (j := 1) (by kernel_rfl) rfl, ?_⟩
  rw [List.length_drop]
  refine brB_of (fun h => ⟨_, rfl, h0 (by simp at h; omega)⟩) fun h => ?_
  have hlt : i < us.length := by simp at h; omega
  obtain ⟨u, hu⟩ := getElem_ex (l := us) (i := i) hlt
  have hdu : us.drop i = u :: us.drop (i + 1) := by
    rw [List.drop_eq_getElem_cons hlt]
    have := (List.getElem?_eq_some_iff.1 hu).2
    rw [this]
  have hus : us.take (i + 1) = us.take i ++ [u] := by rw [List.take_add_one, hu]; rfl
  have hum := bd2 u (List.mem_of_getElem? hu)
  rw [hdu] at q8
  obtain ⟨m, hd', rfl⟩ : ∃ m hd', hd = m :: hd' := by
    cases q8 with
    | cons h1 h2 => exact ⟨_, _, rfl⟩
  have q8' : ChU H m u ∧ All2 (ChU H) hd' (us.drop (i + 1)) := by
    cases q8 with
    | cons h1 h2 => exact ⟨h1, h2⟩
  have hmd := q10 m (by simp)
  refine ⟨_, _, _, q1.ld (j := 3) (by kernel_rfl) rfl, _, q1.ld (j := 2) (by kernel_rfl) rfl, 42, ⟨[]⟩, _, rfl, by kernel_rfl, ?_⟩
  apply vc_convert_Begin_1
  have hanl := q7.len
  have hcap := q7.cap
  simp only [List.length_cons] at hanl
  refine ⟨_, _, _, q2.ld0 (by kernel_rfl) rfl, ?_⟩
  refine q7.head (decide_eq_true (by omega)) fun ad ea hc => ⟨_, _, _, ld_cell (by kernel_rfl) (by have := hc 0 _ rfl; simpa [Addr.add] using this), _, _, _, q2.ld0 (by kernel_rfl) rfl, ?_⟩
  refine chk_true (decide_eq_true ⟨by omega, by omega, by omega⟩) ?_
  refine q2.st0 (v := .slice (slA ac 1 1 al) (Int.toNat (an : Int) - 1) (ac - 1)) (by kernel_rfl) (by kernel_rfl) one_slice (by simp [Value.cells]) fun H1 hB1 f1 => ?_
  have notb : ∀ {p : Option Addr}, (∀ k ∈ blkL p, k ∉ X) → ∀ ad, p = some ad → ad.block ∉ [b] := fun {p} h => blk_of_ne fun k kk hm => h k kk (by simp at hm; rw [hm]; exact wX.2)
  have notw : ∀ {p : Option Addr}, (∀ k ∈ blkL p, k ∉ X) → ∀ ad, p = some ad → ad.block ∉ [w] := fun {p} h => blk_of_ne fun k kk hm => h k kk (by simp at hm; rw [hm]; exact wX.1)
  have w1 := q1.fr f1 (by simpa using hne)
  refine ⟨_, _, _, rfl, w1.ld (j := 3) (by kernel_rfl) rfl, ?_⟩
  have x1 := Sl.fr q3 f1 (notb fun k hk => (q5 k hk).1)
  have s1 : SerH H1 hs (foldU (us.take i)) := SerH.fr q4 f1 fun m hm k hk hm2 => (q6 m hm k hk).1 (by simp at hm2; rw [hm2]; exact wX.2)
  have u1 : Sl encRw H1 m.1 m.2.1 m.2.2 u := Sl.fr q8'.1 f1 (notb fun k hk => (hmd k hk).1)
  have hR := foldU_right (us.take i)
  have bdi := bd3 i
  have hln : ln = (foldU (us.take i)).length := x1.len.trans s1.len
  have hul := u1.len
  refine Put_ok x1 s1 hR u1 (by omega) (by omega) (fun s hs => by have := bdi.2 s hs; omega) fun a2 n2 c2 H2 hs2 o2 s2 el2 f2 => ?_
  have w2 := w1.keep f2
  have z1 := f1.size
  have z2 := f2.size
  have szw := w1.lt
  have szb := hB1.lt
  simp only at szw szb
  refine w2.st (j := 3) (v := .slice a2 n2 c2) (by kernel_rfl) (by kernel_rfl) one_slice (by simp [Value.cells]) fun H3 w3 f3 => ?_
  have z3 := f3.size
  have w3' : Blk H3 ⟨w, 0, none⟩ [.int .i64 lay, .int .i64 ((us.length - i : Nat) : Int), .func (.func 42) ⟨[]⟩ ⟨[.pointer (some ⟨b, 0, none⟩)]⟩, .slice a2 n2 c2] := by simpa [Value.cells, List.length_drop] using w3
  refine ⟨_, w3'.ld (j := 1) (by kernel_rfl) rfl, ?_⟩
  have ew : IntKind.i64.wrap (((us.length - i : Nat) : Int) - 1) = (((us.drop (i + 1)).length : Nat) : Int) := by
    rw [List.length_drop, wrap64_of (by omega) (by omega)]; omega
  rw [ew]
  refine w3'.st (j := 1) (v := .int .i64 _) (by kernel_rfl) (by kernel_rfl) (fun x hx => by simp [Value.cells] at hx; subst hx; rfl) (by simp [Value.cells]) fun H4 w4 f4 => ?_
  have z4 := f4.size
  refine ⟨_, rfl, h1 H4 hlt ⟨by omega, hne, wX, fun k hk => by have := lX k hk; omega, a2, n2, c2, hs2, slA ac 1 1 al, an - 1, ac - 1, hd', ?_, ?_, ?_, ?_, fun k hk => ?_, fun m hm k hk => ?_, ?_, ?_, fun k hk => ⟨(q9 k (slA_blk hk)).1, by have := (q9 k (slA_blk hk)).2; omega⟩, fun m hm k hk => ⟨(q10 m (by simp [hm]) k hk).1, by have := (q10 m (by simp [hm]) k hk).2; omega⟩⟩ ?_⟩
  · simpa [Value.cells] using w4
  · have := ((hB1.keep f2).fr f3 (by simpa using fun e => hne e.symm)).fr f4 (by simpa using fun e => hne e.symm)
    simpa [Value.cells] using this
  · have ge : ∀ k ∈ blkL a2, k ∉ X := fun k hk hX => by have := (o2.ge k hk).1; have := lX k hX; omega
    exact Sl.fr (Sl.fr o2.sl f3 (notw ge)) f4 (notw ge)
  · rw [hus, foldU_snoc]
    have nw : ∀ m ∈ hs2, ∀ k ∈ blkL m.2.1, k ∉ [w] := fun m hm k hk hm2 => by have := el2 m hm k hk; simp at hm2; omega
    exact SerH.fr (SerH.fr s2 f3 nw) f4 nw
  · have := o2.ge k hk
    exact ⟨fun hX => by have := lX k hX; omega, by omega⟩
  · have := el2 m hm k hk
    obtain ⟨x, hx, hr⟩ := All2.mem s2 hm
    have := sl_lt hr.2 (((right_putR hR).1).2 x hx).1 k hk
    exact ⟨fun hX => by have := lX k hX; omega, by omega⟩
  · have hx7 := Sl.drop (k := 1) q7 (by omega)
    have g : ∀ k ∈ blkL (slA ac 1 1 al), k ∉ X := fun k hk => (q9 k (slA_blk hk)).1
    have hx7' : Sl encHd H (slA ac 1 1 al) (an - 1) (ac - 1) hd' := hx7
    exact Sl.fr (Sl.fr ((Sl.fr hx7' f1 (notb g)).keep f2) f3 (notw g)) f4 (notw g)
  · refine q8'.2.mono fun m' u' hm _ hr => ?_
    have g : ∀ k ∈ blkL m'.1, k ∉ X := fun k hk => (q10 m' (by simp [hm]) k hk).1
    exact Sl.fr (Sl.fr ((Sl.fr hr f1 (notb g)).keep f2) f3 (notw g)) f4 (notw g)
  · exact ((f1.trans' f2 (T := [w, b]) (fun k hk _ => by simp at hk; subst hk; simp) (by simp)).trans' f3 (fun k hk _ => hk) (fun k hk _ => by simp at hk; subst hk; simp)).trans' f4 (fun k hk _ => hk) (fun k hk _ => by simp at hk; subst hk; simp)
theorem Data_ok {H : Heap} {w b : Nat} {X : List Nat} {lay : Int} {s : ByteArray} {us : List (List Rw)} {rows : List Rw} {i : Nat} {K : ByteArray → Int → Heap → Prop} (hU : UnitsU lay s us rows) (hW : WorkS H w b X lay us i)
    (h0 : i < us.length → K ⟨#[]⟩ 212 H) (h1 : ∀ H', i = us.length → Fr [] H H' → K (writeF (1 - lay) rows).1 (writeF (1 - lay) rows).2 H') :
    CallH Tryz.prog fn_convert_Work_Data ⟨[.pointer (some ⟨w, 0, none⟩)]⟩ H fun v H' => ∃ s e, v = .tuple ⟨[.string s, .int .i64 e]⟩ ∧ K s e H' := by
  apply vc_convert_Work_Data
  obtain ⟨hi, hne, wX, lX, la, ln, lc, hs, al, an, ac, hd, q1, q2, q3, q4, q5, q6, q7, q8, q9, q10⟩ := hW
  obtain ⟨bd1, bd2, bd3⟩ := hU.bound
  refine ⟨_, q1.ld (j := 1) (by kernel_rfl) rfl, ?_⟩
  rw [List.length_drop]
  refine brB_of (fun h => ⟨_, _, rfl, h0 (by simp at h; omega)⟩) fun h => ?_
  have hie : i = us.length := by simp at h; omega
  have hfin := hU.fin
  have bdi := bd3 i
  have hln : ln = (foldU (us.take i)).length := q3.len.trans q4.len
  refine ⟨_, q1.ld0 (by kernel_rfl) rfl, _, _, _, q1.ld (j := 3) (by kernel_rfl) rfl, ?_⟩
  refine Rows_ok q3 q4 (foldU_right _) (by omega) (fun s hs => by have := bdi.2 s hs; omega) fun a2 n2 c2 H1 rows' o1 hro hn2 f1 => ⟨(q1.keep f1).ld0 (by kernel_rfl) rfl, ?_⟩
  rw [List.take_of_length_le (by omega)] at hro
  have hrows := hro.eq hfin
  subst hrows
  rw [flip64 hU.lay]
  have ho := o1.1
  refine Write_ok o1.sl hU.read.vals (by omega) (fun hl => by have := hU.len1 hl; omega) fun H2 f2 => ⟨_, _, rfl, h1 H2 hie (f1.keep0 f2)⟩
def WorkR (H : Heap) (r : Nat) (lay : Int) (s : ByteArray) (n : Int) : Prop := Blk H ⟨r, 0, none⟩ [.int .i64 lay, .string s, .int .i64 n]
theorem rBegin_ok {lay : Int} {s : ByteArray} {H : Heap} {K : Option Addr → Int → Heap → Prop} (hs : s.size ≤ 1000000000)
    (hno : ∀ e H', e ≠ 0 → UnitsR lay s 0 e → Fr [] H H' → K none e H')
    (hyes : ∀ us rows r H', UnitsU lay s us rows → WorkR H' r lay s us.length → H.size ≤ r → Fr [] H H' → K (some ⟨r, 0, none⟩) 0 H') :
    CallH Tryz.prog fn_ref19_Begin ⟨[.int .i64 lay, .string s]⟩ H fun v H' => ∃ p e, v = .tuple ⟨[.pointer p, .int .i64 e]⟩ ∧ K p e H' := by
  apply vc_ref19_Begin
  refine rUnits_ok hs fun n e H1 hU f1 => ?_
  rcases hU with ⟨rfl, us, rows, hU, rfl⟩ | ⟨rfl, hR⟩
  · refine brB_of (fun h => by cases h) fun _ r H2 hn2 => ⟨_, _, rfl, hyes us rows r H2 hU hn2.blk (by have := hn2.eq; have := f1.size; omega) (f1.keep0 hn2.fr)⟩
  · have he : e ≠ 0 := by rcases hR with ⟨_, h, _⟩ | ⟨_, h, _⟩ | ⟨_, _, h⟩ <;> omega
    exact brB_of (fun _ => ⟨_, _, rfl, hno e H1 he (.inr ⟨rfl, hR⟩) f1⟩) fun h => by simp at h; exact absurd h he
theorem rLeft_ok {H : Heap} {r : Nat} {lay n : Int} {s : ByteArray} {K : Int → Heap → Prop} (hW : WorkR H r lay s n) (hk : K n H) :
    CallH Tryz.prog fn_ref19_Work_Left ⟨[.pointer (some ⟨r, 0, none⟩)]⟩ H fun v H' => ∃ n, v = .int .i64 n ∧ K n H' := by
  apply vc_ref19_Work_Left
  exact ⟨_, hW.ld (j := 2) (by kernel_rfl) rfl, _, rfl, hk⟩
theorem rStep_ok {H : Heap} {r : Nat} {lay : Int} {n : Nat} {s : ByteArray} {K : Bool → Heap → Prop} (hW : WorkR H r lay s n) (hn : n ≤ 1000000) (h0 : n = 0 → K false H) (h1 : ∀ H', 0 < n → WorkR H' r lay s ((n - 1 : Nat) : Int) → Fr [r] H H' → K true H') :
    CallH Tryz.prog fn_ref19_Work_Step ⟨[.pointer (some ⟨r, 0, none⟩)]⟩ H fun v H' => ∃ r, v = .bool r ∧ K r H' := by
  apply vc_ref19_Work_Step
  refine ⟨_, hW.ld (j := 2) (by kernel_rfl) rfl, brB_of (fun h => ⟨_, rfl, h0 (by simpa using h)⟩) fun h => ⟨_, hW.ld (j := 2) (by kernel_rfl) rfl, ?_⟩⟩
  have hp : 0 < n := by simp at h; omega
  rw [pred64 (by omega) hp]
  refine Blk.st hW (j := 2) (v := .int .i64 _) (by kernel_rfl) (by kernel_rfl) (fun x hx => by simp [Value.cells] at hx; subst hx; rfl) (by simp [Value.cells]) fun H4 w4 f4 => ⟨_, rfl, h1 H4 hp ?_ f4⟩
  unfold WorkR
  simpa [Value.cells] using w4
theorem rData_ok {H : Heap} {r : Nat} {lay : Int} {n : Nat} {s : ByteArray} {us : List (List Rw)} {rows : List Rw} {K : ByteArray → Int → Heap → Prop} (hs : s.size ≤ 1000000000) (hU : UnitsU lay s us rows) (hW : WorkR H r lay s n)
    (h0 : 0 < n → K ⟨#[]⟩ 212 H) (h1 : ∀ H', n = 0 → Fr [] H H' → K (writeF (1 - lay) rows).1 (writeF (1 - lay) rows).2 H') :
    CallH Tryz.prog fn_ref19_Work_Data ⟨[.pointer (some ⟨r, 0, none⟩)]⟩ H fun v H' => ∃ s e, v = .tuple ⟨[.string s, .int .i64 e]⟩ ∧ K s e H' := by
  apply vc_ref19_Work_Data
  refine ⟨_, hW.ld (j := 2) (by kernel_rfl) rfl, brB_of (fun h => ⟨_, _, rfl, h0 (by simp at h; omega)⟩) fun h => ⟨_, hW.ld0 (by kernel_rfl) rfl, _, hW.ld (j := 1) (by kernel_rfl) rfl, ?_⟩⟩
  have hn0 : n = 0 := by simp at h; omega
  refine rRead19_ok hs fun rows' a c m e H1 hR hx hn f1 => ?_
  obtain ⟨rfl, rfl⟩ := hR.uniq hU.read
  refine brB_of (fun h => by cases h) fun _ => ⟨_, (hW.keep f1).ld0 (by kernel_rfl) rfl, ?_⟩
  rw [flip64 hU.lay]
  have hl := hx.len
  refine rWrite19_ok hx hU.read.vals (by omega) (fun hl => by have := hU.len1 hl; omega) fun H2 f2 => ⟨_, _, rfl, h1 H2 hn0 (f1.keep0 f2)⟩

theorem self_beq (s : ByteArray) : (s.toList == s.toList) = true := beq_self_eq_true _
theorem Reads_ok {lay : Int} {s : ByteArray} {H : Heap} {a : Option Addr} {n c : Nat} {rows : List Rw} (hx : Sl encRw H a n c rows) (hv : ∀ x ∈ rows, I64 x.2.2) :
    CallH Tryz.prog fn_law19_ConvertReads ⟨[.int .i64 lay, .string s, .slice a n c]⟩ H fun v H' => v = .bool true ∧ Fr [] H H' := by
  apply vc_law19_ConvertReads
  refine ⟨fun _ H' => s.size ≤ 1024 ∧ n ≤ 100 ∧ H' = H, ?_, ?_⟩
  · exact brB_of (fun _ => ⟨rfl, Fr.refl _ _⟩) fun h => brB_of (fun _ => ⟨rfl, Fr.refl _ _⟩) fun h2 => ⟨by simp at h; omega, by simp at h2; omega, rfl⟩
  · rintro J H1 ⟨hs, hn, rfl⟩
    refine Read_ok (by omega) fun rs a1 n1 c1 e1 H2 hR hx1 hn1 f2 => ?_
    refine rRead19_ok (by omega) fun rs' a2 n2 c2 e2 H3 hR' hx2 hn2 f3 => ?_
    obtain ⟨rfl, rfl⟩ := hR.uniq hR'
    refine Units_ok (by omega) fun u1 g1 H4 hU f4 => ?_
    refine rUnits_ok (by omega) fun u2 g2 H5 hU' f5 => ?_
    obtain ⟨rfl, rfl⟩ := hU.uniq hU'
    have f35 := f4.keep0 f5
    have f15 := (f2.keep0 f3).keep0 f35
    refine Write_ok (hx.keep f15) hv (by omega) (fun _ => by omega) fun H6 f6 => ?_
    refine rWrite19_ok ((hx.keep f15).keep f6) hv (by omega) (fun _ => by omega) fun H7 f7 => ?_
    refine Read_ok (by simp [ByteArray.size]) fun rs3 a3 n3 c3 e3 H8 hR3 hx3 hn3 f8 => ?_
    have f38 := (f35.keep0 (f6.keep0 f7)).keep0 f8
    have he3 : e3 = 1 := by
      rcases hR3 with ⟨_, ⟨h, _⟩ | ⟨h, _⟩⟩ | ⟨_, ⟨h, _⟩ | ⟨h, _⟩ | ⟨_, _, h⟩⟩ <;> omega
    subst he3
    have F := (f2.keep0 f3).keep0 f38
    refine brB_of (fun _ => ?_) fun h => absurd (beq_self_eq_true _) (by rw [h]; decide)
    refine Equal_ok (hx1.keep (f3.keep0 f38)) (hx2.keep f38) (by omega) (brB_of (fun _ => ?_) fun h => by cases h)
    refine brB_of (fun _ => ?_) fun h => absurd (beq_self_eq_true _) (by rw [h]; decide)
    refine brB_of (fun _ => ?_) fun h => absurd (beq_self_eq_true _) (by rw [h]; decide)
    refine brB_of (fun _ => ?_) fun h => absurd (self_beq _) (by rw [h]; decide)
    exact brB_of (fun _ => ⟨rfl, F⟩) fun h => absurd (beq_self_eq_true _) (by rw [h]; decide)
noncomputable def dataF (lay : Int) (us : List (List Rw)) (rows : List Rw) (i : Nat) : ByteArray × Int := if i < us.length then (⟨#[]⟩, 212) else writeF (1 - lay) rows
theorem Data'_ok {H : Heap} {w b : Nat} {X : List Nat} {lay : Int} {s : ByteArray} {us : List (List Rw)} {rows : List Rw} {i : Nat} {K : ByteArray → Int → Heap → Prop} (hU : UnitsU lay s us rows) (hW : WorkS H w b X lay us i)
    (hk : ∀ H', Fr [] H H' → K (dataF lay us rows i).1 (dataF lay us rows i).2 H') :
    CallH Tryz.prog fn_convert_Work_Data ⟨[.pointer (some ⟨w, 0, none⟩)]⟩ H fun v H' => ∃ s e, v = .tuple ⟨[.string s, .int .i64 e]⟩ ∧ K s e H' := by
  unfold dataF at hk
  refine Data_ok hU hW (fun h => ?_) fun H' h hf => ?_
  · have := hk H (Fr.refl _ _)
    rwa [if_pos h] at this
  · have := hk H' hf
    rwa [if_neg (by omega)] at this
theorem rData'_ok {H : Heap} {r : Nat} {lay : Int} {s : ByteArray} {us : List (List Rw)} {rows : List Rw} {i : Nat} {K : ByteArray → Int → Heap → Prop} (hs : s.size ≤ 1000000000) (hU : UnitsU lay s us rows) (hW : WorkR H r lay s ((us.length - i : Nat) : Int))
    (hk : ∀ H', Fr [] H H' → K (dataF lay us rows i).1 (dataF lay us rows i).2 H') :
    CallH Tryz.prog fn_ref19_Work_Data ⟨[.pointer (some ⟨r, 0, none⟩)]⟩ H fun v H' => ∃ s e, v = .tuple ⟨[.string s, .int .i64 e]⟩ ∧ K s e H' := by
  unfold dataF at hk
  refine rData_ok hs hU hW (fun h => ?_) fun H' h hf => ?_
  · have := hk H (Fr.refl _ _)
    rwa [if_pos (by omega)] at this
  · have := hk H' hf
    rwa [if_neg (by omega)] at this
theorem noU {lay : Int} {s : ByteArray} {us : List (List Rw)} {rows : List Rw} {e : Int} (hU : UnitsU lay s us rows) (he : e ≠ 0) (h : UnitsR lay s 0 e) : False := he (h.uniq (.inl ⟨rfl, us, rows, hU, rfl⟩)).2
theorem Steps_ok {lay : Int} {s : ByteArray} {H : Heap} {steps : Int} : CallH Tryz.prog fn_law19_ConvertSteps ⟨[.int .i64 lay, .string s, .int .u8 steps]⟩ H fun v H' => v = .bool true ∧ Fr [] H H' := by
  apply vc_law19_ConvertSteps
  refine brB_of (fun _ => ⟨rfl, Fr.refl _ _⟩) fun h => ?_
  have hs : s.size ≤ 256 := by simp at h; omega
  have third : ∀ {H2 H3 : Heap} {K : Option Addr → Int → Heap → Prop}, (∀ p H', Fr [] H2 H' → K p 1 H') → CallH Tryz.prog fn_convert_Begin ⟨[.int .i64 2, .string ⟨#[]⟩]⟩ H2 fun v H' => ∃ p e, v = .tuple ⟨[.pointer p, .int .i64 e]⟩ ∧ K p e H' := fun {H2 H3 K} hk => by
    refine Begin_ok (by simp [ByteArray.size]) (fun e H' he hU hf => ?_) fun us rows w b H' hU _ _ _ hf => ?_
    · have : e = 1 := by rcases hU with ⟨h, _⟩ | ⟨_, ⟨h, _⟩ | ⟨h, _⟩ | ⟨_, _, h⟩⟩ <;> omega
      subst this
      exact hk none H' hf
    · rcases hU.lay with h | h <;> omega
  refine Begin_ok (by omega) (fun e H1 he hU f1 => ?_) fun us rows w b H1 hU hW hw hb f1 => ?_
  · refine rBegin_ok (by omega) (fun e2 H2 he2 hU2 f2 => ?_) fun us rows r H2 hU2 _ _ f2 => (noU hU2 he hU).elim
    have := (hU.uniq hU2).2
    subst this
    refine third (H3 := H2) fun p H3 f3 => ?_
    refine ⟨fun _ H' => H' = H3, ?_, ?_⟩
    · refine brB_of (fun h => by simp at h) fun _ => brB_of (fun h => by simp at h) fun _ => brB_of (fun h => by simp at h) fun _ => rfl
    · rintro J H4 rfl
      refine ⟨fun vs H' => H' = H4 ∧ vs = [.int .i64 0], fun _ _ => 0, ⟨rfl, rfl⟩, ?_⟩
      rintro J i H5 ⟨rfl, _⟩
      exact ⟨fun _ _ => False, brB_of (fun h => by cases h) fun _ => ⟨rfl, (f1.keep0 f2).keep0 f3⟩, fun J H' h => h.elim⟩
  · refine rBegin_ok (by omega) (fun e2 H2 he2 hU2 f2 => (noU hU he2 hU2).elim) fun us2 rows2 r H2 hU2 hWr hr f2 => ?_
    obtain ⟨rfl, rfl⟩ := hU.uniq hU2
    have hwl : w < H1.size ∧ b < H1.size := by
      have := hW.lX
      exact ⟨this w (by simp), this b (by simp)⟩
    have hr2 : r < H2.size := Blk.lt hWr
    have hbd := hU.bound.1
    refine third (H3 := H2) fun p H3 f3 => ?_
    refine ⟨fun _ H' => H' = H3, ?_, ?_⟩
    · refine brB_of (fun h => by simp at h) fun _ => brB_of (fun h => by simp at h) fun _ => brB_of (fun h => by simp at h) fun _ => rfl
    · rintro J H4 rfl
      refine ⟨fun vs H' => match vs with
          | [.int _ i] => ∃ k j : Nat, i = k ∧ k ≤ 100 ∧ WorkS H' w b [r, w, b] lay us j ∧ WorkR H' r lay s ((us.length - j : Nat) : Int) ∧ Fr [] H H'
          | _ => False,
        fun vs _ => match vs with | [.int _ i] => 100 - i.toNat | _ => 0, ⟨0, 0, rfl, by omega, ⟨Nat.zero_le _, ?_⟩, Blk.keep hWr f3, (f1.keep0 f2).keep0 f3⟩, ?_⟩
      · exact hW.more (f2.keep0 f3) hr (by have := f3.size; omega)
      · rintro J i H5 ⟨k, j, rfl, hk, hW5, hR5, f5⟩
        refine ⟨fun _ H' => k < 40 ∧ H' = H5, brB_of (fun _ => brB_of (fun h => ⟨?_, rfl⟩) fun _ => ⟨rfl, f5⟩) fun _ => ⟨rfl, f5⟩, ?_⟩
        · have h := of_decide_eq_true h
          have := Int.tmod_lt_of_pos (IntKind.i64.wrap steps) (show (0 : Int) < 40 by decide)
          omega
        · rintro J H6 ⟨hk40, rfl⟩
          refine ⟨fun _ H' => ∃ j, WorkS H' w b [r, w, b] lay us j ∧ WorkR H' r lay s ((us.length - j : Nat) : Int) ∧ Fr [] H H', ?_, ?_⟩
          · refine Data'_ok hU hW5 fun H7 f7 => ?_
            refine rData'_ok (i := j) (by omega) hU (hR5.keep f7) fun H8 f8 => ?_
            have f78 := f7.keep0 f8
            have hW8 := hW5.keep f78
            have hR8 : WorkR H8 r lay s ((us.length - j : Nat) : Int) := Blk.keep hR5 f78
            refine Left_ok hW8 ?_
            refine rLeft_ok hR8 ?_
            refine brB_of (fun h => by simp at h) fun _ => brB_of (fun h => by rw [self_beq] at h; cases h) fun _ => brB_of (fun h => by simp at h) fun _ => ?_
            have f58 := f5.keep0 f78
            refine Step_ok hU hW8 (fun hj => ?_) fun H9 hj hW9 f9 => ?_
            · refine rStep_ok hR8 (by omega) (fun _ => ?_) fun H' h => by omega
              exact brB_of (fun h => by cases h) fun _ => ⟨j, hW8, hR8, f58⟩
            · have hrw : r ∉ [w, b] := by simp; omega
              have hR9 := Blk.fr hR8 f9 (by simpa using hrw)
              refine rStep_ok hR9 (by omega) (fun h => by omega) fun H10 hj2 hR10 f10 => ?_
              refine brB_of (fun h => by cases h) fun _ => ⟨j + 1, ?_, ?_, ?_⟩
              · exact hW9.fr f10 fun k hk => by simp at hk; subst hk; exact ⟨by simp, by omega, by omega⟩
              · rwa [show us.length - (j + 1) = us.length - j - 1 by omega]
              · exact (f58.keep f9 fun k hk => by simp at hk; omega).keep f10 fun k hk => by simp at hk; omega
          · rintro J H7 ⟨j2, h1, h2, h3⟩
            rw [succ64 (by omega)]
            exact ⟨⟨k + 1, j2, rfl, by omega, h1, h2, h3⟩, mu_lt (n := 100) (by omega)⟩

theorem MajP.size {ss : List Srs} (h : MajP ss) : (encM ss).length ≤ 1000000000 := by
  have h1 := tblM_len h.lo
  have h2 := bdyM_len fun s hs => (h.lo s hs).2
  have h3 := h.len
  have h4 : (uintL ss.length).length ≤ 10 := uintL_len10 (by omega)
  unfold encM
  rw [List.length_append, List.length_append]
  omega
theorem RowsP.size {l : List Rw} (h : RowsP l) : (encR l).length ≤ 1000000000 := by
  have hl := h.len
  have hn := nC_le hl
  have h1 := hdsR_len h (m := nC l.length) (by unfold nC; omega)
  have h2 := bdsR_len h (nC l.length)
  have h4 : (uintL l.length).length ≤ 10 := uintL_len10 (by omega)
  unfold encR
  rw [List.length_append, List.length_append]
  omega

structure IdsI (rows : List Rw) (k : Nat) (L : List Int) : Prop where
  nd : L.Nodup
  mem : ∀ y, y ∈ L ↔ y ∈ (rows.take k).map (·.2.1)
theorem IdsI.len {rows : List Rw} {L : List Int} (h : IdsI rows rows.length L) (hF : FineR rows) : L.length = (putR [] rows).length := by
  have hs := rows_split hF
  have hR := (right_putR (rows := rows) RightS.nil).1
  have hm := h.mem
  rw [List.take_length] at hm
  have hnd : ((putR [] rows).map (·.1)).Nodup := (List.pairwise_map.2 (hR.1.imp fun {a b} h => by omega))
  have h1 : ∀ y ∈ L, y ∈ (putR [] rows).map (·.1) := fun y hy => by
    obtain ⟨x, hx, rfl⟩ := List.mem_map.1 ((hm y).1 hy)
    obtain ⟨s, hs', hxs⟩ := (hs.2 x).1 hx
    exact List.mem_map.2 ⟨s, hs', ((ownR_mem.1 hxs).1).symm⟩
  have h2 : ∀ y ∈ (putR [] rows).map (·.1), y ∈ L := fun y hy => by
    obtain ⟨s, hs', rfl⟩ := List.mem_map.1 hy
    obtain ⟨p, hp⟩ := List.exists_mem_of_ne_nil _ (hR.2 s hs').1
    exact (hm _).2 (List.mem_map.2 ⟨(p.1, s.1, p.2), (hs.2 _).2 ⟨s, hs', ownR_mem.2 ⟨rfl, hp⟩⟩, rfl⟩)
  have a1 := nodup_le h.nd h1
  have a2 := nodup_le hnd h2
  rw [List.length_map] at a1 a2
  omega
end Go.Proofs
set_option linter.unusedVariables false
open Go Go.GV
namespace Go.Proofs.YtjclcccjdnllgaaGreat
open Go.ChangeShapes Go.WideShapes Go.ChangeAt Go.RowKit
theorem own : ownKnob Tryz.prog.godebug = none := by kernel_rfl
theorem laid : laidOutB Tryz.prog = true := by kernel_rfl

theorem wf_i64' {x : Int} (h : (Lit.int .i64 x).wf = true) : I64 x := by
  simp [Lit.wf] at h
  have h1 : IntKind.i64.min = -9223372036854775808 := by decide
  have h2 : IntKind.i64.max = 9223372036854775807 := by decide
  unfold I64
  omega
theorem row_el {H : Heap} {m : Nat} {r : List Value} (hr : OkC Tryz.prog H m 26 r) (hl : r.length = encRw.sz) : ∃ x : Rw, encRw.cells x = r ∧ I64 x.2.2 := by
  obtain ⟨_, hf⟩ := hr.struct Tryz.underlying26
  obtain ⟨c0, c1, c2, rfl⟩ := three_of hl
  obtain ⟨_, h0⟩ := hf 0 _ rfl
  obtain ⟨_, h1⟩ := hf 1 _ rfl
  obtain ⟨_, h2⟩ := hf 2 _ rfl
  obtain ⟨x0, e0, _⟩ := OkC.int Tryz.underlying3 h0
  obtain ⟨x1, e1, _⟩ := OkC.int Tryz.underlying3 h1
  obtain ⟨x2, e2, w2⟩ := OkC.int Tryz.underlying3 h2
  have hc : Tryz.prog.cellsOf 3 = 1 := by kernel_rfl
  simp [hc] at e0 e1 e2
  exact ⟨(x0, x1, x2), by rw [e0, e1, e2]; rfl, wf_i64' w2⟩
theorem rows_in {H : Heap} {v : Value} (h : OkA Tryz.prog H 22 v) : ∃ a n c xs, v = .slice a n c ∧ Sl encRw H a n c xs ∧ ∀ x ∈ xs, I64 x.2.2 := by
  obtain ⟨a, n, c, xs, rfl, hs, _, hg⟩ := h.sl (E := encRw) (G := fun x => I64 x.2.2) Tryz.underlying22 (by kernel_rfl) fun m r hr hl => row_el hr hl
  exact ⟨a, n, c, xs, rfl, hs, hg⟩
theorem readsWalk (H : Heap) (vs : List Value) (h : OkArgs Tryz.prog H [3, 9, 22] vs) : CallH Tryz.prog 4 ⟨vs⟩ H fun v H' => v = .bool true ∧ Fr [] H H' := by
  obtain ⟨v0, _, rfl, h0, v1, _, rfl, h1, v2, _, rfl, h2, rfl⟩ := h
  obtain ⟨x, rfl, _⟩ := h0.int Tryz.underlying3
  obtain ⟨s, rfl, _⟩ := h1.str Tryz.underlying9
  obtain ⟨a, n, c, xs, rfl, hs, hv⟩ := rows_in h2
  exact Reads_ok hs hv
theorem stepsWalk (H : Heap) (vs : List Value) (h : OkArgs Tryz.prog H [3, 9, 5] vs) : CallH Tryz.prog 5 ⟨vs⟩ H fun v H' => v = .bool true ∧ Fr [] H H' := by
  obtain ⟨v0, _, rfl, h0, v1, _, rfl, h1, v2, _, rfl, h2, rfl⟩ := h
  obtain ⟨x, rfl, _⟩ := h0.int Tryz.underlying3
  obtain ⟨s, rfl, _⟩ := h1.str Tryz.underlying9
  obtain ⟨y, rfl, _⟩ := h2.int Tryz.underlying5
  exact Steps_ok
end Go.Proofs.YtjclcccjdnllgaaGreat
