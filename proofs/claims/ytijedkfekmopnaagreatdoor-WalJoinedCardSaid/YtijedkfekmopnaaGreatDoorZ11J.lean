/- Turned by a program of mine (portall.py) out of the same text of another seat. -/
import Derived.Test.YtijedkfekmopnaaGreatDoorZ11p
import Derived.Test.YtijedkfekmopnaaGreatDoorGvOpen
set_option linter.unusedVariables false
set_option maxRecDepth 100000
open Go Go.GV
namespace Go.Proofs

def rowP4 (x : Row) : Prop := (0 ≤ x.1 ∧ x.1 ≤ 1099511627776) ∧ (0 ≤ x.2.1 ∧ x.2.1 ≤ 200) ∧ I64 x.2.2
end Go.Proofs
set_option linter.unusedVariables false
set_option maxRecDepth 100000
open Go Go.GV
namespace Go.Proofs

theorem st26 {H : Heap} {b : Nat} {m m' : Rm} {X : Heap → Prop} (h : Blk H ⟨b, 0, none⟩ (rC m')) (k : ∀ H', Blk H' ⟨b, 0, none⟩ (rC m) → Fr [b] H H' → X H') : ∃ H', St Tryz.prog 39 H ⟨b, 0, none⟩ (.agg ⟨rC m⟩) H' ∧ X H' :=
  h.st0 (v := .agg ⟨rC m⟩) (by kernel_rfl) (by kernel_rfl) (fun x hx => by simp [Value.cells, rC] at hx; rcases hx with rfl | rfl | rfl | rfl | rfl <;> rfl) (by simp [Value.cells, rC]) fun H' hb hf => k H' (by simpa [Value.cells, rC] using hb) hf
theorem Took.all {H : Heap} {m : Rm} {s : ByteArray} {p q : Nat} {k : Int} {r : Rc} {ok' ok'' : Bool} (hrd : RdG s 0 true uL (fun v => 0 ≤ v ∧ v ≤ (3 : Nat)) k p true) (h : Took H m s p k r q ok'') : RdG s 0 true encR GoodR r q ok'' := by
  refine ⟨h.rd.1, fun ho => ?_, fun _ y t hy e => ?_⟩
  · obtain ⟨_, h1⟩ := h.rd.2.1 ho
    obtain ⟨_, h2⟩ := hrd.2.1 rfl
    refine ⟨rfl, ?_⟩
    rw [h2, h1, ← List.append_assoc]
    unfold encR
    rw [h.kind]
  · unfold encR at e
    rw [List.append_assoc] at e
    obtain ⟨_, h1, h2⟩ := hrd.2.2 rfl y.k _ ⟨hy.fine.k.1, by have := hy.fine.k.2; omega⟩ e
    exact h.rd.2.2 rfl y t ⟨hy, h1⟩ h2.symm
end Go.Proofs
set_option linter.unusedVariables false
set_option maxRecDepth 100000
open Go Go.GV
namespace Go.Proofs

theorem GU.yes {s : ByteArray} {a most : Nat} {v n e : Int} (hm : most < 18446744073709551616) (h : GU ((bl s).drop a) a v n e) (ha : a ≤ s.size) (h1 : e = 0) : ∃ p w : Nat, v = w ∧ n = p ∧ a < p ∧ p ≤ s.size ∧ w < 18446744073709551616 ∧ (bl s).drop a = uintL w ++ (bl s).drop p := by
  rcases h with ⟨w, rfl, hw, h2, h3, rfl, _⟩ | ⟨_, _, h, _⟩ | ⟨_, _, h, _⟩
  · have := uintL_pos w
    rw [List.length_drop, bl_len] at h3
    rw [List.drop_drop] at h2
    exact ⟨_, w, rfl, rfl, by omega, by omega, hw, h2⟩
  · omega
  · omega
theorem GU.rd {s : ByteArray} {a most : Nat} {v n e : Int} (hm : most < 18446744073709551616) (h : GU ((bl s).drop a) a v n e) (ha : a ≤ s.size) :
    (¬ (e = 0 ∧ v ≤ most) → RdG s a true uL (fun v => 0 ≤ v ∧ v ≤ most) v a false) ∧ (e = 0 → v ≤ most → ∃ p : Nat, n = p ∧ p ≤ s.size ∧ 0 ≤ v ∧ RdG s a true uL (fun v => 0 ≤ v ∧ v ≤ most) v p true) := by
  refine ⟨fun hn => ⟨ha, (fun h => by cases h), fun _ y t hy ey => ?_⟩, fun he hv => ?_⟩
  · obtain ⟨g1, _, g3⟩ := h.of (n := y.toNat) (by omega) ey
    exact absurd ⟨g3, by omega⟩ hn
  · obtain ⟨p, w, rfl, rfl, h1, h2, h3, h4⟩ := h.yes hm ha he
    refine ⟨p, rfl, h2, by omega, h2, fun _ => ⟨rfl, by rw [h4]; simp [uL]⟩, fun _ y t hy ey => ?_⟩
    rw [h4] at ey
    obtain ⟨e1, e2⟩ := uint_eq (show uintL w ++ (bl s).drop p = uintL y.toNat ++ t from ey)
    exact ⟨rfl, by omega, e2.symm⟩
abbrev GT40 (v : Int) : Prop := 0 ≤ v ∧ v ≤ ((1099511627776 : Nat) : Int)
theorem _root_.Go.GV.Sl.at2 {H : Heap} {a : Option Addr} {n c : Nat} {x y z : Int} {xs : List Int} (h : Sl encInt H a n c (x :: y :: z :: xs)) {b : Bool} (hb : b = true) {X : Addr → Prop}
    (hk : ∀ ad, a = some ad → Ld Tryz.prog 3 H (ad.add 2) (.int .i64 z) → X ad) : exSome a fun ad => chk b (X ad) :=
  h.get (i := 2) (k := 2) rfl rfl hb fun ad e hc => hk ad e (ld_one (by kernel_rfl) hc)
theorem _root_.Go.GV.Sl.at0 {H : Heap} {a : Option Addr} {n c : Nat} {x : Int} {xs : List Int} (h : Sl encInt H a n c (x :: xs)) {b : Bool} (hb : b = true) {X : Addr → Prop}
    (hk : ∀ ad, a = some ad → Ld Tryz.prog 3 H ad (.int .i64 x) → X ad) : exSome a fun ad => chk b (X ad) :=
  h.head hb fun ad e hc => hk ad e (ld_one (by kernel_rfl) hc)
def CmpR (s : ByteArray) (r : Rc) (ok : Bool) : Prop := ∀ y, GoodR y → bl s = encR y → ok = true ∧ y = r
end Go.Proofs
set_option linter.unusedVariables false
set_option maxRecDepth 100000
open Go Go.GV
namespace Go.Proofs

def HeadR (s : ByteArray) (k : Int) (p : Nat) : Prop := p ≤ s.size ∧ ∀ y, GoodR y → bl s = encR y → y.k = k ∧ (bl s).drop p = bodyR y
theorem sole0 {y : Rc} (hF : FineP y) (h : y.k = 0) : y = ⟨0, y.l, [], [], 0⟩ := by
  have f1 : y.rows = [] := Classical.byContradiction fun h => by have := hF.rows h; omega
  have f2 : y.at' = 0 := Classical.byContradiction fun h => by have := hF.at0 h; omega
  have f3 : y.tombs = [] := Classical.byContradiction fun h => by have := hF.tombs h; omega
  cases y; simp_all
theorem sole1 {y : Rc} (hF : FineP y) (h : y.k = 1) : y = ⟨1, [], y.rows, [], 0⟩ := by
  have f1 : y.l = [] := Classical.byContradiction fun h => by have := hF.l h; omega
  have f2 : y.at' = 0 := Classical.byContradiction fun h => by have := hF.at0 h; omega
  have f3 : y.tombs = [] := Classical.byContradiction fun h => by have := hF.tombs h; omega
  cases y; simp_all
theorem sole2 {y : Rc} (hF : FineP y) (h : y.k = 2) : y = ⟨2, [], [], y.tombs, 0⟩ := by
  have f1 : y.l = [] := Classical.byContradiction fun h => by have := hF.l h; omega
  have f2 : y.at' = 0 := Classical.byContradiction fun h => by have := hF.at0 h; omega
  have f3 : y.rows = [] := Classical.byContradiction fun h => by have := hF.rows h; omega
  cases y; simp_all
theorem sole3 {y : Rc} (hF : FineP y) (h : y.k = 3) : y = ⟨3, [], [], [], y.at'⟩ := by
  have f1 : y.l = [] := Classical.byContradiction fun h => by have := hF.l h; omega
  have f2 : y.tombs = [] := Classical.byContradiction fun h => by have := hF.tombs h; omega
  have f3 : y.rows = [] := Classical.byContradiction fun h => by have := hF.rows h; omega
  cases y; simp_all
def listOf (y : Rc) : List Row := if y.k = 1 then y.rows else y.tombs
def formOf (k : Int) (x : Row) : List UInt8 := if k = 1 then rowL x else tombL x
def goodOf (k : Int) (x : Row) : Prop := if k = 1 then rowP4 x else (GT40 x.1 ∧ GT40 x.2.1 ∧ GT40 x.2.2)
def recOf (k : Int) (M : List Row) : Rc := if k = 1 then ⟨k, [], M, [], 0⟩ else ⟨k, [], [], M, 0⟩
def LstR (s : ByteArray) (k : Int) (N q : Nat) (M : List Row) : Prop :=
  q ≤ s.size ∧ ∀ y, GoodR y → bl s = encR y → (k = 1 ∨ k = 2) ∧ N ≤ 5000 ∧ (listOf y).length = N ∧ y = recOf k (listOf y) ∧ (∀ x ∈ listOf y, goodOf k x) ∧ ∃ R, listOf y = M ++ R ∧ (bl s).drop q = R.flatMap (formOf k)
theorem LstR.start {s : ByteArray} {k : Int} {p q N : Nat} (hk : k ≠ 0 ∧ k ≠ 3) (h : HeadR s k p) (h' : RdG s p true uL GT40 (N : Int) q true) : LstR s k N q [] := by
  refine ⟨h'.1, fun y hy e => ?_⟩
  obtain ⟨h1, h2⟩ := h.2 y hy e
  have hF := hy.fine
  have hkk := hF.k
  rcases (by omega : k = 1 ∨ k = 2) with rfl | rfl
  · have es := sole1 hF h1
    have eb : bodyR y = uintL y.rows.length ++ y.rows.flatMap rowL := by unfold bodyR; rw [if_neg (by omega), if_pos h1]
    rw [eb] at h2
    obtain ⟨_, h3, h4⟩ := h'.2.2 rfl (y.rows.length : Int) _ ⟨by omega, by have := hF.nr; omega⟩ (by simpa [uL] using h2)
    have el : listOf y = y.rows := by unfold listOf; rw [if_pos h1]
    have hn := hF.nr
    rw [el]
    refine ⟨.inl rfl, by omega, by omega, by rw [show recOf 1 y.rows = ⟨1, [], y.rows, [], 0⟩ from if_pos rfl]; exact es, fun x hx => ?_, y.rows, rfl, ?_⟩
    · show rowP4 x
      exact ⟨(hF.row x hx).1, ⟨(hF.row x hx).2.1, by have := (hF.row x hx).2.2; omega⟩, hy.typ x hx⟩
    · rw [← h4]; rfl
  · have es := sole2 hF h1
    have eb : bodyR y = uintL y.tombs.length ++ y.tombs.flatMap tombL := by unfold bodyR; rw [if_neg (by omega), if_neg (by omega), if_pos h1]
    rw [eb] at h2
    obtain ⟨_, h3, h4⟩ := h'.2.2 rfl (y.tombs.length : Int) _ ⟨by omega, by have := hF.nt; omega⟩ (by simpa [uL] using h2)
    have el : listOf y = y.tombs := by unfold listOf; rw [if_neg (by omega)]
    have hn := hF.nt
    rw [el]
    refine ⟨.inr rfl, by omega, by omega, by rw [show recOf 2 y.tombs = ⟨2, [], [], y.tombs, 0⟩ from if_neg (by decide)]; exact es, fun x hx => ?_, y.tombs, rfl, ?_⟩
    · show GT40 x.1 ∧ GT40 x.2.1 ∧ GT40 x.2.2
      have := hF.tomb x hx
      exact ⟨⟨this.1.1, by have := this.1.2; omega⟩, ⟨this.2.1, by have := this.2; omega⟩, by have := this.2; omega, by have := this.2; omega⟩
    · rw [← h4]; rfl
theorem LstR.step {s : ByteArray} {k : Int} {N q q' : Nat} {M : List Row} {x : Row} (h : LstR s k N q M) (hM : M.length < N) (h' : RdG s q true (formOf k) (goodOf k) x q' true) : LstR s k N q' (M ++ [x]) := by
  refine ⟨h'.1, fun y hy e => ?_⟩
  obtain ⟨h1, h2, h3, h4, h5, R, h6, h7⟩ := h.2 y hy e
  refine ⟨h1, h2, h3, h4, h5, ?_⟩
  cases R with
  | nil => rw [h6] at h3; simp at h3; omega
  | cons z R =>
    rw [List.flatMap_cons] at h7
    obtain ⟨_, h8, h9⟩ := h'.2.2 rfl z _ (h5 z (by rw [h6]; simp)) h7
    exact ⟨R, by rw [h6, h8]; simp, h9.symm⟩
theorem LstR.bad {s : ByteArray} {k : Int} {N q : Nat} {M : List Row} (h : LstR s k N q M) (hM : M.length < N) (h' : ∀ x t, goodOf k x → (bl s).drop q ≠ formOf k x ++ t) : ∀ y, GoodR y → bl s ≠ encR y := fun y hy e => by
  obtain ⟨h1, h2, h3, h4, h5, R, h6, h7⟩ := h.2 y hy e
  cases R with
  | nil => rw [h6] at h3; simp at h3; omega
  | cons z R =>
    rw [List.flatMap_cons] at h7
    exact h' z _ (h5 z (by rw [h6]; simp)) h7
theorem LstR.done {s : ByteArray} {k : Int} {N q : Nat} {M : List Row} (h : LstR s k N q M) (hM : N ≤ M.length ∨ 5000 < M.length) : CmpR s (recOf k M) true := fun y hy e => by
  obtain ⟨h1, h2, h3, h4, h5, R, h6, h7⟩ := h.2 y hy e
  have : R = [] := List.eq_nil_of_length_eq_zero (by rw [h6, List.length_append] at h3; omega)
  subst this
  rw [List.append_nil] at h6
  exact ⟨rfl, by rw [h4, h6]⟩
end Go.Proofs
set_option linter.unusedVariables false
set_option maxRecDepth 100000
open Go Go.GV
namespace Go.Proofs

end Go.Proofs
set_option linter.unusedVariables false
set_option maxRecDepth 100000
open Go Go.GV
namespace Go.Proofs

def encR5 : Enc Rm := ⟨rC, 5, fun _ => rfl, by decide, fun m v h => by simp [rC] at h; rcases h with rfl | rfl | rfl | rfl | rfl <;> rfl⟩
def RcsH (H : Heap) (ms : List Rm) (rs : List Rc) : Prop := ms.length = rs.length ∧ ∀ (i : Nat) m r, ms[i]? = some m → rs[i]? = some r → RcH H m r
theorem RcsH.keep {H H' : Heap} {ms : List Rm} {rs : List Rc} (h : RcsH H ms rs) (hf : Fr [] H H') : RcsH H' ms rs := ⟨h.1, fun i m r hm hr => (h.2 i m r hm hr).keep hf⟩
theorem RcsH.at {H : Heap} {ms : List Rm} {rs : List Rc} (h : RcsH H ms rs) {i : Nat} {m : Rm} (hm : ms[i]? = some m) : ∃ r, rs[i]? = some r ∧ RcH H m r := by
  have hi := (List.getElem?_eq_some_iff.1 hm).1
  have hr : rs[i]? = some (rs[i]'(by have := h.1; omega)) := by simp
  exact ⟨_, hr, h.2 i m _ hm hr⟩
theorem RcsH.one {H : Heap} {m : Rm} {r : Rc} (h : RcH H m r) : RcsH H [m] [r] := ⟨rfl, fun i m' r' hm hr => by
  cases i with
  | zero => simp at hm hr; subst hm hr; exact h
  | succ i => simp at hm⟩
theorem RcsH.app {H : Heap} {ms ms' : List Rm} {rs rs' : List Rc} (h : RcsH H ms rs) (h' : RcsH H ms' rs') : RcsH H (ms ++ ms') (rs ++ rs') := ⟨by rw [List.length_append, List.length_append, h.1, h'.1], fun i m r hm hr => by
  rw [List.getElem?_append] at hm hr
  rw [← h.1] at hr
  split at hm
  · rename_i hi; rw [if_pos hi] at hr; exact h.2 i m r hm hr
  · rename_i hi; rw [if_neg hi] at hr; exact h'.2 _ m r hm hr⟩
theorem ldR26 {H : Heap} {ad : Addr} {m : Rm} (h : CellsAt H ad (encR5.cells m)) : Ld Tryz.prog 39 H ad (.agg ⟨rC m⟩) := ld_agg (by kernel_rfl) (by kernel_rfl) h
theorem ldR33 {H : Heap} {ad : Addr} {m : Rm} (h : CellsAt H ad (encR5.cells m)) : Ld Tryz.prog 77 H ad (.agg ⟨rC m⟩) := ld_agg (by kernel_rfl) (by kernel_rfl) h
theorem slice34 : sliceB Tryz.prog 31 77 = true := by kernel_rfl
theorem elem33 : elemB Tryz.prog 77 encR5.sz 88 = true := by kernel_rfl

theorem theirs_ok {H : Heap} {a : Option Addr} {n c : Nat} {ms : List Rm} {K : Option Addr → Nat → Nat → Heap → Prop} (hx : Sl encR5 H a n c ms) (hn : n ≤ 1000000000)
    (hk : ∀ o l d H', Own encR5 77 H.size H' o l d ms → Fr [] H H' → K o l d H') : CallH Tryz.prog fn_law11_theirs ⟨[.slice a n c]⟩ H fun v H' => ∃ o l d, v = .slice o l d ∧ K o l d H' := by
  apply vc_law11_theirs
  intro b H1 hn1
  have hl := hx.len
  refine ⟨fun vs H' => match vs with | [.slice o l d, .int _ i] => ∃ k : Nat, i = k ∧ k ≤ n ∧ Own encR5 77 H.size H' o l d (ms.take k) ∧ Fr [] H H' | _ => False,
    fun vs _ => match vs with | [_, .int _ i] => n - i.toNat | _ => 0, ⟨0, rfl, by omega, Own.made _ _ hn1 (Nat.le_refl _), hn1.fr⟩, ?_⟩
  rintro J o l d i H2 ⟨k, rfl, hkn, ho, hf⟩
  refine brB_of (fun h0 => ?_) (fun h0 => ?_)
  · have h0' : k < n := by simpa using h0
    have hx1 : ms[k]? = some (ms[k]'(by omega)) := by simp
    generalize ms[k]'(by omega) = x at hx1
    refine (hx.keep hf).get rfl hx1 (decide_eq_true (by omega)) fun ad ea hc => ⟨_, _, _, _, _, _, _, _, _, _, _, ldR26 hc, ?_⟩
    intro b1 H3 hn3
    refine st26 (m := x) (m' := m0 0) hn3.blk fun H4 hb4 hf4 => ?_
    have hf24 : Fr [] H2 H4 := hn3.fr.keep hf4 (fun k hk => by simp at hk; have := hn3.eq; omega)
    refine ⟨_, hb4.r0, _, _, _, hb4.r1, _, _, _, hb4.r2, _, _, _, hb4.r3, _, hb4.r4, ?_⟩
    have hol := ho.1
    rw [List.length_take] at hol
    refine ap_one (E := encR5) x slice34 elem33 (ho.keep hf24) (hf.keep0 hf24) rfl (by omega) fun _ o' n' c' H5 ho5 hf5 _ => ?_
    rw [succ64 (by omega)]
    exact ⟨⟨k + 1, rfl, by omega, by rw [List.take_add_one, hx1]; exact ho5, hf5⟩, mu_lt h0'⟩
  · rw [List.take_of_length_le (by simp at h0; omega)] at ho
    exact ⟨_, _, _, rfl, hk o l d H2 ho hf⟩

def Light (m : Rm) : Prop := m.2.1.2.1 ≤ 2048 ∧ m.2.2.1.2.1 ≤ 2048 ∧ m.2.2.2.1.2.1 ≤ 2048
theorem ldR2 {H : Heap} {ad : Addr} {m : Rm} (h : CellsAt H ad (encR5.cells m)) : Ld Tryz.prog 36 H (ad.add 2) (.slice m.2.2.1.1 m.2.2.1.2.1 m.2.2.1.2.2) := ld_part (by kernel_rfl) h (j := 2) rfl
theorem ldR3 {H : Heap} {ad : Addr} {m : Rm} (h : CellsAt H ad (encR5.cells m)) : Ld Tryz.prog 37 H (ad.add 3) (.slice m.2.2.2.1.1 m.2.2.2.1.2.1 m.2.2.2.1.2.2) := ld_part (by kernel_rfl) h (j := 3) rfl
theorem ldR1 {H : Heap} {ad : Addr} {m : Rm} (h : CellsAt H ad (encR5.cells m)) : Ld Tryz.prog 35 H (ad.add 1) (.slice m.2.1.1 m.2.1.2.1 m.2.1.2.2) := ld_part (by kernel_rfl) h (j := 1) rfl
def minI (x : Int) : Int := if 1048576 < x then 1048576 else x
theorem minI_le (n : Nat) : 0 ≤ minI n ∧ minI n ≤ 1048576 ∧ (minI n ≤ 2048 → n ≤ 2048) := by unfold minI; split <;> omega
end Go.Proofs
set_option linter.unusedVariables false
set_option maxRecDepth 100000
open Go Go.GV
namespace Go.Proofs

theorem GoodR.inj {r r' : Rc} (h : GoodR r) (h' : GoodR r') (e : encR r = encR r') : r = r' := by
  have hk : r.k = r'.k ∧ bodyR r = bodyR r' := by
    unfold encR at e
    obtain ⟨e1, e2⟩ := uint_eq (show uintL r.k.toNat ++ bodyR r = uintL r'.k.toNat ++ bodyR r' from e)
    have := h.fine.k
    have := h'.fine.k
    exact ⟨by omega, e2⟩
  obtain ⟨hk, e⟩ := hk
  have hF := h.fine
  have hF' := h'.fine
  have hk0 := hF.k
  rcases (by omega : r.k = 0 ∨ r.k = 1 ∨ r.k = 2 ∨ r.k = 3) with h1 | h1 | h1 | h1
  · have h2 : r'.k = 0 := by omega
    have e1 : bodyR r = textL (pS r.l) := by unfold bodyR; rw [if_pos h1]
    have e2 : bodyR r' = textL (pS r'.l) := by unfold bodyR; rw [if_pos h2]
    rw [e1, e2] at e
    obtain ⟨e3, _⟩ := text_eq (x := []) (y := []) (by simpa using e)
    have e4 := congrArg bl e3
    rw [bl_pS, bl_pS] at e4
    have := print_inj (h.chk h1).2.1 (h'.chk h2).2.1 e4
    rw [sole0 hF h1, sole0 hF' h2, this]
  · have h2 : r'.k = 1 := by omega
    have e1 : bodyR r = uintL r.rows.length ++ r.rows.flatMap rowL := by unfold bodyR; rw [if_neg (by omega), if_pos h1]
    have e2 : bodyR r' = uintL r'.rows.length ++ r'.rows.flatMap rowL := by unfold bodyR; rw [if_neg (by omega), if_pos h2]
    rw [e1, e2] at e
    obtain ⟨e3, e4⟩ := uint_eq e
    have inj : ∀ {L L' : List Row}, L.length = L'.length → (∀ x ∈ L, RowP x) → (∀ x ∈ L', RowP x) → L.flatMap rowL = L'.flatMap rowL → L = L' := by
      intro L
      induction L with
      | nil => intro L' hl _ _ _; cases L' with | nil => rfl | cons _ _ => simp at hl
      | cons x L ih =>
        intro L' hl g1 g2 e
        cases L' with
        | nil => simp at hl
        | cons y L' =>
          simp only [List.flatMap_cons] at e
          unfold rowL at e
          simp only [List.append_assoc] at e
          have p1 := g1 x (by simp)
          have p2 := g2 y (by simp)
          obtain ⟨a1, e⟩ := uint_eq (show uintL x.1.toNat ++ _ = uintL y.1.toNat ++ _ from e)
          obtain ⟨a2, e⟩ := uint_eq (show uintL x.2.1.toNat ++ _ = uintL y.2.1.toNat ++ _ from e)
          obtain ⟨a3, e⟩ := intL_eq e
          have hx : x = y := Prod.ext (by have := p1.1; have := p2.1; omega) (Prod.ext (by have := p1.2; have := p2.2; omega) a3)
          rw [hx, ih (by simpa using hl) (fun z hz => g1 z (by simp [hz])) (fun z hz => g2 z (by simp [hz])) e]
    rw [sole1 hF h1, sole1 hF' h2, inj e3 hF.row hF'.row e4]
  · have h2 : r'.k = 2 := by omega
    have e1 : bodyR r = uintL r.tombs.length ++ r.tombs.flatMap tombL := by unfold bodyR; rw [if_neg (by omega), if_neg (by omega), if_pos h1]
    have e2 : bodyR r' = uintL r'.tombs.length ++ r'.tombs.flatMap tombL := by unfold bodyR; rw [if_neg (by omega), if_neg (by omega), if_pos h2]
    rw [e1, e2] at e
    obtain ⟨e3, e4⟩ := uint_eq e
    have inj : ∀ {L L' : List Row}, L.length = L'.length → (∀ x ∈ L, TombP x) → (∀ x ∈ L', TombP x) → L.flatMap tombL = L'.flatMap tombL → L = L' := by
      intro L
      induction L with
      | nil => intro L' hl _ _ _; cases L' with | nil => rfl | cons _ _ => simp at hl
      | cons x L ih =>
        intro L' hl g1 g2 e
        cases L' with
        | nil => simp at hl
        | cons y L' =>
          simp only [List.flatMap_cons] at e
          unfold tombL at e
          simp only [List.append_assoc] at e
          have p1 := g1 x (by simp)
          have p2 := g2 y (by simp)
          obtain ⟨a1, e⟩ := uint_eq (show uintL x.1.toNat ++ _ = uintL y.1.toNat ++ _ from e)
          obtain ⟨a2, e⟩ := uint_eq (show uintL x.2.1.toNat ++ _ = uintL y.2.1.toNat ++ _ from e)
          obtain ⟨a3, e⟩ := uint_eq (show uintL x.2.2.toNat ++ _ = uintL y.2.2.toNat ++ _ from e)
          have hx : x = y := Prod.ext (by have := p1.1; have := p2.1; omega) (Prod.ext (by have := p1.2; have := p2.2; omega) (by have := p1.2; have := p2.2; omega))
          rw [hx, ih (by simpa using hl) (fun z hz => g1 z (by simp [hz])) (fun z hz => g2 z (by simp [hz])) e]
    rw [sole2 hF h1, sole2 hF' h2, inj e3 hF.tomb hF'.tomb e4]
  · have h2 : r'.k = 3 := by omega
    have e1 : bodyR r = uL r.at' := by unfold bodyR; rw [if_neg (by omega), if_neg (by omega), if_neg (by omega)]
    have e2 : bodyR r' = uL r'.at' := by unfold bodyR; rw [if_neg (by omega), if_neg (by omega), if_neg (by omega)]
    rw [e1, e2] at e
    obtain ⟨e3, _⟩ := uint_eq (x := []) (y := []) (show uintL r.at'.toNat ++ [] = uintL r'.at'.toNat ++ [] by simpa [uL] using e)
    have := hF.at'
    have := hF'.at'
    rw [sole3 hF h1, sole3 hF' h2, show r.at' = r'.at' by omega]
end Go.Proofs
