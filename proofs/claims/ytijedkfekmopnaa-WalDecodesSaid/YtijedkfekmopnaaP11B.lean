/- A part of a proof: see the last text of this claim. -/
import Derived.Test.YtijedkfekmopnaaP11A
set_option linter.unusedVariables false
set_option maxRecDepth 100000
open Go Go.GV
namespace Go.Proofs

theorem app_mk (x y : List UInt8) : ((⟨x.toArray⟩ : ByteArray) ++ ⟨y.toArray⟩) = ⟨(x ++ y).toArray⟩ := by
  apply bl_inj
  rw [bl_app, bl_mk, bl_mk, bl_mk]
def pS (l : Lbls) : ByteArray := ⟨(printL l).toArray⟩
theorem bl_pS (l : Lbls) : bl (pS l) = printL l := by unfold pS; rw [bl_mk]
def U64 (v : Int) : Prop := 0 ≤ v ∧ v < 18446744073709551616
def uL (v : Int) : List UInt8 := uintL v.toNat
theorem uL_len {v : Int} (h : U64 v) : (uL v).length ≤ 10 := uintL_len10 (by unfold U64 at h; omega)
theorem uLs_len {xs : List Int} (h : ∀ x ∈ xs, U64 x) : (xs.flatMap uL).length ≤ 10 * xs.length := by
  induction xs with
  | nil => simp
  | cons x l ih =>
    have h1 := uL_len (h x (by simp))
    have h2 := ih fun y hy => h y (by simp [hy])
    simp only [List.flatMap_cons, List.length_append, List.length_cons]; omega
/-- Several numbers. -/
theorem numbers_ok {a : Option Addr} {n c : Nat} {xs : List Int} {H : Heap} {K : ByteArray → Heap → Prop} (hx : Sl encInt H a n c xs) (hn : n ≤ 1000) (hu : ∀ x ∈ xs, U64 x)
    (hk : ∀ H', Fr [] H H' → K ⟨(xs.flatMap uL).toArray⟩ H') :
    CallH Try.prog fn_wal_numbers ⟨[.slice a n c]⟩ H fun v H' => ∃ s, v = .string s ∧ K s H' := by
  apply vc_wal_numbers
  intro b H1 hn1
  have hbH := hn1.eq
  have hxl := hx.len
  have hbs := hn1.size
  refine ⟨fun vs H' => match vs with | [.int _ i] => ∃ (k : Nat) (S : List Nat), i = k ∧ k ≤ n ∧ BldH H' b S ((xs.take k).flatMap uL) ∧ (∀ j ∈ S, H.size ≤ j) ∧ Fr [] H H' | _ => False,
    fun vs _ => match vs with | [.int _ i] => n - i.toNat | _ => 0, ⟨0, [b], rfl, by omega, Bld.new hn1, fun j hj => by simp at hj; omega, hn1.fr⟩, ?_⟩
  rintro J i H2 ⟨k, S, rfl, hkn, hb, hS, hf⟩
  have hlen : ((xs.take k).flatMap uL).length ≤ 10 * k := by
    have := uLs_len (xs := xs.take k) fun x hx => hu x (List.mem_of_mem_take hx)
    rw [List.length_take] at this; omega
  refine brB_of (fun h0 => ?_) (fun h0 => ?_)
  · have h0' : k < n := by simpa using h0
    have hx1 : xs[k]? = some (xs[k]'(by omega)) := by simp
    generalize xs[k]'(by omega) = x at hx1
    have hux := hu x (List.mem_of_getElem? hx1)
    refine (hx.keep hf).get rfl hx1 (decide_eq_true (by omega)) fun ad ea hc => ⟨_, ld_one (by kernel_rfl) hc, ?_⟩
    obtain ⟨y, rfl⟩ : ∃ y : Nat, x = y := ⟨x.toNat, by have := hux.1; omega⟩
    have hy : y < 18446744073709551616 := by have := hux.2; omega
    rw [wrapU64 (n := (y : Int)) (by omega) (by omega)]
    refine Uint_ok hy fun H3 hf3 => ?_
    have hl1 := uintL_len10 hy
    have hsz := size_mk (uintL y)
    refine WriteString_ok (hb.keep hf3) (by omega) fun H4 S4 hb4 hf4 hg4 => ?_
    rw [succ64 (by omega)]
    refine ⟨⟨k + 1, S4, rfl, by omega, ?_, fun j hj => ?_, (hf.keep0 hf3).keep hf4 hS⟩, mu_lt h0'⟩
    · rw [List.take_add_one, hx1, List.flatMap_append]
      rw [bl_mk] at hb4
      simpa [uL] using hb4
    · rcases hg4 j hj with h | h
      · exact hS j h
      · have := hf.size; have := hf3.size; omega
  · rw [List.take_of_length_le (by simp at h0; omega)] at hb hlen
    exact BString_ok hb (by omega) fun H3 hf3 => ⟨_, rfl, hk H3 (hf.keep hf3 hS)⟩

/-! how a record's own is written -/
def rowL (x : Row) : List UInt8 := uL x.1 ++ (uL x.2.1 ++ intL x.2.2)
def tombL (x : Row) : List UInt8 := uL x.1 ++ (uL x.2.1 ++ uL x.2.2)
def TypR (r : Rc) : Prop := ∀ x ∈ r.rows, I64 x.2.2
open Classical in
def bodyR (r : Rc) : List UInt8 := if r.k = 0 then textL (pS r.l) else if r.k = 1 then uintL r.rows.length ++ r.rows.flatMap rowL else if r.k = 2 then uintL r.tombs.length ++ r.tombs.flatMap tombL else uL r.at'
def encR (r : Rc) : List UInt8 := uL r.k ++ bodyR r
theorem rowL_len {x : Row} (h : RowP x) (h2 : I64 x.2.2) : (rowL x).length ≤ 30 := by
  unfold rowL
  have h1 := uL_len (v := x.1) ⟨h.1.1, by have := h.1.2; omega⟩
  have h3 := uL_len (v := x.2.1) ⟨h.2.1, by have := h.2.2; omega⟩
  have h4 : (intL x.2.2).length ≤ 10 := uintL_len10 (foldN_lt h2)
  simp only [List.length_append]; omega
theorem tombL_len {x : Row} (h : TombP x) : (tombL x).length ≤ 30 := by
  unfold tombL
  have h1 := uL_len (v := x.1) ⟨h.1.1, by have := h.1.2; omega⟩
  have h3 := uL_len (v := x.2.1) ⟨h.2.1, by have := h.2.2; omega⟩
  have h4 := uL_len (v := x.2.2) ⟨by have := h.2; omega, by have := h.2; omega⟩
  simp only [List.length_append]; omega
theorem flat30 {f : Row → List UInt8} {l : List Row} (h : ∀ x ∈ l, (f x).length ≤ 30) : (l.flatMap f).length ≤ 30 * l.length := by
  induction l with
  | nil => simp
  | cons x l ih =>
    have h1 := h x (by simp)
    have h2 := ih fun y hy => h y (by simp [hy])
    simp only [List.flatMap_cons, List.length_append, List.length_cons]; omega
def headF (f : Row → List UInt8) (l : List Row) (k : Nat) : List UInt8 := uintL l.length ++ (l.take k).flatMap f
theorem headF_len {f : Row → List UInt8} {l : List Row} (h : ∀ x ∈ l, (f x).length ≤ 30) (h2 : l.length ≤ 5000) (k : Nat) : (headF f l k).length ≤ 200000 := by
  unfold headF
  have h1 := uintL_len10 (n := l.length) (by omega)
  have h3 := flat30 (l := l.take k) fun x hx => h x (List.mem_of_mem_take hx)
  rw [List.length_take] at h3
  rw [List.length_append]; omega
theorem headF_snoc {f : Row → List UInt8} {l : List Row} {k : Nat} {x : Row} (h : l[k]? = some x) : headF f l (k + 1) = headF f l k ++ f x := by
  unfold headF
  rw [List.take_add_one, h]; simp
theorem headF_all {f : Row → List UInt8} {l : List Row} {k : Nat} (h : l.length ≤ k) : headF f l k = uintL l.length ++ l.flatMap f := by
  unfold headF; rw [List.take_of_length_le h]
theorem sl_ints {H H' : Heap} {b : Nat} {t : TypeId} (xs : List Int) {vs : List Value} (h : New H b (.cells ⟨vs⟩ t) H') (hv : vs = xs.map (Value.int .i64)) : Sl encInt H' (some ⟨b, 0, none⟩) xs.length xs.length xs := by
  refine ⟨rfl, Nat.le_refl _, .inr ⟨b, 0, rfl, fun i y hy j v hj => ?_⟩⟩
  have hj0 : j = 0 := by
    have : (encInt.cells y).length = 1 := rfl
    have := (List.getElem?_eq_some_iff.1 hj).1
    omega
  subst hj0
  have hv2 : v = .int .i64 y := by simpa [encInt] using hj.symm
  subst hv2
  rw [cell_of_blk h.get]
  subst hv
  have e : encInt.sz = 1 := rfl
  simp [e, hy]
theorem one_num {H : Heap} {v : Int} {K : ByteArray → Heap → Prop} (hu : U64 v) (hk : ∀ H', Fr [] H H' → K ⟨(uL v).toArray⟩ H') : ∀ b H1, New H b (.cells ⟨[.int .i64 v]⟩ 3) H1 → CallH Try.prog 15 ⟨[.slice (some ⟨b, 0, none⟩) 1 1]⟩ H1 fun v H' => ∃ s, v = .string s ∧ K s H' := fun b H1 hn1 =>
  numbers_ok (sl_one encInt v hn1 rfl) (by omega) (fun x hx => by simp at hx; subst hx; exact hu) fun H' hf => by
    have : [v].flatMap uL = uL v := by simp
    rw [this]; exact hk H' (hn1.fr.keep0 hf)
theorem forms1_ok {H : Heap} {b : Nat} {m : Rm} {r : Rc} {K : ByteArray → Int → Heap → Prop} (hb : Blk H ⟨b, 0, none⟩ (rC m)) (h : RcH H m r) (hs : Small m)
    (hno : ¬ ChkP r.l → ∀ s H', s.size ≤ 1000 → Fr [] H H' → K s 40 H') (hyes : ChkP r.l → ∀ H', Fr [] H H' → K ⟨(textL (pS r.l)).toArray⟩ 0 H') :
    CallH Try.prog fn_wal_forms_1 ⟨[.pointer (some ⟨b, 0, none⟩)]⟩ H fun v H' => ∃ s e, v = .tuple ⟨[.string s, .int .i64 e]⟩ ∧ K s e H' := by
  apply vc_wal_forms_1
  refine ⟨_, _, _, hb.r1, Print_ok h.l hs.1 (fun hC H1 hf1 => ?_) fun hC H1 hf1 => ?_⟩
  · refine Text_ok (s := ⟨#[]⟩) (by simp [ByteArray.size]) fun H2 hf2 => ⟨_, _, rfl, hno hC _ _ ?_ (hf1.keep0 hf2)⟩
    rw [size_mk]
    unfold textL
    rw [List.length_append, bl_len]
    have := uintL_len10 (n := (⟨#[]⟩ : ByteArray).size) (by simp [ByteArray.size])
    have e0 : (⟨#[]⟩ : ByteArray).size = 0 := rfl
    omega
  · have := printL_len hC
    have h2 := size_mk (printL r.l)
    exact Text_ok (by omega) fun H2 hf2 => ⟨_, _, rfl, hyes hC H2 (hf1.keep0 hf2)⟩
theorem forms7_ok {H : Heap} {b : Nat} {m : Rm} {r : Rc} {K : ByteArray → Int → Heap → Prop} (hb : Blk H ⟨b, 0, none⟩ (rC m)) (h : RcH H m r) (hF : FineP r)
    (hk : ∀ H', Fr [] H H' → K ⟨(uL r.at').toArray⟩ 0 H') :
    CallH Try.prog fn_wal_forms_7 ⟨[.pointer (some ⟨b, 0, none⟩)]⟩ H fun v H' => ∃ s e, v = .tuple ⟨[.string s, .int .i64 e]⟩ ∧ K s e H' := by
  apply vc_wal_forms_7
  refine ⟨_, hb.r4, ?_⟩
  rw [h.at']
  exact one_num ⟨hF.at'.1, by have := hF.at'.2; omega⟩ fun H' hf => ⟨_, _, rfl, hk H' hf⟩
theorem forms5_ok {H : Heap} {b : Nat} {m : Rm} {r : Rc} {K : ByteArray → Int → Heap → Prop} (hb : Blk H ⟨b, 0, none⟩ (rC m)) (h : RcH H m r) (hF : FineP r)
    (hk : ∀ H', Fr [] H H' → K ⟨(uintL r.tombs.length ++ r.tombs.flatMap tombL).toArray⟩ 0 H') :
    CallH Try.prog fn_wal_forms_5 ⟨[.pointer (some ⟨b, 0, none⟩)]⟩ H fun v H' => ∃ s e, v = .tuple ⟨[.string s, .int .i64 e]⟩ ∧ K s e H' := by
  apply vc_wal_forms_5
  have hl := h.tombs.len
  have hnt := hF.nt
  refine ⟨_, _, _, hb.r3, ?_⟩
  refine one_num ⟨by omega, by omega⟩ fun H1 hf1 => ?_
  have hb1 := hb.keep hf1
  refine ⟨_, _, _, hb1.r3, ?_⟩
  have hlen := headF_len (f := tombL) (l := r.tombs) (fun x hx => tombL_len (hF.tomb x hx)) hnt
  refine ⟨fun vs H' => match vs with
      | [.string s, .int _ i] => ∃ k : Nat, i = k ∧ k ≤ m.2.2.2.1.2.1 ∧ s = ⟨(headF tombL r.tombs k).toArray⟩ ∧ Fr [] H H'
      | _ => False,
    fun vs _ => match vs with | [_, .int _ i] => m.2.2.2.1.2.1 - i.toNat | _ => 0, ⟨0, rfl, by omega, by unfold headF uL; simp [hl], hf1⟩, ?_⟩
  rintro J s i H2 ⟨k, rfl, hle, rfl, hf2⟩
  refine brB_of (fun h0 => ?_) (fun h0 => ?_)
  · have h0' : k < m.2.2.2.1.2.1 := by simpa using h0
    have hx1 : r.tombs[k]? = some (r.tombs[k]'(by omega)) := by simp
    generalize r.tombs[k]'(by omega) = x at hx1
    have hT := hF.tomb x (List.mem_of_getElem? hx1)
    refine (h.tombs.keep hf2).get rfl hx1 (decide_eq_true (by omega)) fun ad ea hc => ⟨_, _, _, ld62 hc, ?_⟩
    refine var62 rfl fun bx H3 hbx hv hf3 => ⟨_, hv.i0, _, hv.i1, _, hv.i2, ?_⟩
    intro b4 H4 hn4
    have hs3 : Sl encInt H4 (some ⟨b4, 0, none⟩) 3 3 [x.1, x.2.1, x.2.2] := sl_ints [x.1, x.2.1, x.2.2] hn4 rfl
    refine numbers_ok hs3 (by omega) (fun y hy => ?_) fun H5 hf5 => ?_
    · simp at hy
      unfold U64
      have := hT.1; have := hT.2
      rcases hy with rfl | rfl | rfl <;> omega
    · have e : [x.1, x.2.1, x.2.2].flatMap uL = tombL x := by simp [tombL]
      rw [e]
      have h1 := hlen k
      have h2 := tombL_len hT
      have h3 := size_mk (headF tombL r.tombs k)
      have h4 := size_mk (tombL x)
      refine chk_true (decide_eq_true (by omega)) ⟨⟨k + 1, by rw [succ64 (by omega)], by omega, ?_, ((hf2.keep0 hf3).keep0 hn4.fr).keep0 hf5⟩, by rw [succ64 (by omega)]; exact mu_lt h0'⟩
      rw [app_mk, headF_snoc hx1]
  · rw [headF_all (by simp at h0; omega)]
    exact ⟨_, _, rfl, hk H2 hf2⟩
end Go.Proofs
