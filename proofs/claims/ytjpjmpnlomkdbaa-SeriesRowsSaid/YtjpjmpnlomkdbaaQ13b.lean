/- A part of a proof: see the last text of this claim. -/
import Derived.Test.YtjpjmpnlomkdbaaP13n
set_option linter.unusedVariables false
set_option maxRecDepth 100000
open Go Go.GV
namespace Go.Proofs

theorem Puts_ok {H : Heap} {ra : Option Addr} {rn rc : Nat} {raw : List Rw} {ma : Option Addr} {mn mc : Nat} {more : List Rw} {at' : Int} (hr : Sl encRw H ra rn rc raw) (hm : Sl encRw H ma mn mc more) (h0 : 0 ≤ at') (h1 : at' ≤ 255) :
    CallH Try.prog 6 ⟨[.slice ra rn rc, .slice ma mn mc, .int .u8 at']⟩ H fun v H' => v = .bool true ∧ Fr [] H H' := by
  apply vc_law13_SeriesPuts
  refine ⟨fun _ H' => H' = H ∧ rn ≤ 100 ∧ mn ≤ 60, brB_of (fun _ => ⟨rfl, Fr.refl _ _⟩) (fun g1 => brB_of (fun _ => ⟨rfl, Fr.refl _ _⟩) (fun g2 => ⟨rfl, by simp at g1; omega, by simp at g2; omega⟩)), ?_⟩
  rintro J H0 ⟨rfl, hrn, hmn⟩
  have hrl := hr.len
  have hml := hm.len
  have hmc := hm.cap
  refine rPut_ok (la := none) (ln := 0) (lc := 0) (hs := []) (ss := []) Sl.zero .nil RightS.nil hr (by omega) (by omega) (by simp) fun a n c H1 hs1 hx1 hS1 hf1 => ?_
  obtain ⟨l1, l2⟩ := putR_len (m := 0) (rows := raw) (ss := []) (by simp)
  have hR1 := (right_putR (rows := raw) RightS.nil).1
  generalize putR [] raw = l0 at hS1 l1 l2 hR1
  have e1 := hx1.len
  have e2 := hS1.len
  simp at l1
  have l2' : ∀ s ∈ l0, s.2.length ≤ 100 := fun s hs => by have := l2 s hs; omega
  obtain ⟨l3, l4⟩ := putR_len (rows := more) l2'
  have hR2 := (right_putR (rows := more) hR1).1
  refine ours_ok hx1 (by omega) fun a1 n1 c1 H2 ho2 hf2 => ?_
  have e3 := ho2.1
  refine Put_ok ho2.sl (hS1.keep hf2) hR1 ((hm.keep hf1).keep hf2) (by omega) (by omega) (fun s hs => by have := l2' s hs; omega) fun a2 n2 c2 H3 hs2 ho3 hS3 hf3 => ?_
  have hf13 := hf2.keep0 hf3
  refine rPut_ok (hx1.keep hf13) (hS1.keep hf13) hR1 ((hm.keep hf1).keep hf13) (by omega) (by omega) (fun s hs => by have := l2' s hs; omega) fun a3 n3 c3 H4 hs3 hx4 hS4 hf4 => ?_
  have hf14 := hf13.keep0 hf4
  have hf04 := hf1.keep0 hf14
  have e4 := ho3.1
  have e5 := hS3.len
  have e6 := hx4.len
  have e7 := hS4.len
  have big : ∀ s ∈ putR l0 more, s.2.length ≤ 1000000000 := fun s hs => by have := l4 s hs; omega
  refine ⟨fun vs H' => H' = H4 ∧ ∃ k : Nat, vs = [.int .i64 k] ∧ k ≤ mn, ?_, ?_⟩
  · have ew : IntKind.i64.wrap ((mn : Int) + 1) = ((mn + 1 : Nat) : Int) := succ64 (by omega)
    refine brB_of (fun g => ?_) (fun g => ⟨rfl, 0, rfl, by omega⟩)
    rw [ew, wrap64_of (n := at') (by omega) (by omega)]
    refine chk_true (decide_eq_true (by omega)) ⟨rfl, (at'.tmod ((mn + 1 : Nat) : Int)).toNat, ?_, ?_⟩
    · have : 0 ≤ at'.tmod ((mn + 1 : Nat) : Int) := Int.tmod_nonneg _ h0
      rw [Int.toNat_of_nonneg this]
    · have h2 : at'.tmod ((mn + 1 : Nat) : Int) < ((mn + 1 : Nat) : Int) := Int.tmod_lt_of_pos _ (by omega)
      have h3 : 0 ≤ at'.tmod ((mn + 1 : Nat) : Int) := Int.tmod_nonneg _ h0
      omega
  rintro J kk H5 ⟨rfl, k, ek, hk⟩
  simp only [List.cons.injEq, Value.int.injEq, true_and, and_true] at ek
  subst ek
  refine chk_true (decide_eq_true (by omega)) (chk_true (decide_eq_true (by omega)) ?_)
  refine ours_ok (hx1.keep hf14) (by omega) fun a5 n5 c5 H6 ho6 hf6 => ?_
  have e8 := ho6.1
  have hf46 := hf6
  have hm6 := (hm.keep hf04).keep hf6
  have htk : Sl encRw H6 ma (Int.toNat (k : Int) - 0) (mc - 0) (more.take k) := by
    rw [Int.toNat_natCast]; exact hm6.take (by omega)
  obtain ⟨l5, l6⟩ := putR_len (rows := more.take k) l2'
  have hR3 := (right_putR (rows := more.take k) hR1).1
  have etl : (more.take k).length ≤ 60 := by simp; omega
  refine Put_ok ho6.sl ((hS1.keep hf14).keep hf6) hR1 htk (by omega) (by simp; omega) (fun s hs => by have := l2' s hs; omega) fun a7 n7 c7 H7 hs7 ho7 hS7 hf7 => ?_
  have hdr : Sl encRw H7 (slA mc (Int.toNat (k : Int)) 3 ma) (Int.toNat (mn : Int) - Int.toNat (k : Int)) (mc - Int.toNat (k : Int)) (more.drop k) := by
    rw [Int.toNat_natCast, Int.toNat_natCast]; exact (hm6.keep hf7).drop (by omega)
  have e9 := ho7.1
  have e10 := hS7.len
  have edl : (more.drop k).length ≤ 60 := by simp; omega
  refine Put_ok ho7.sl hS7 hR3 hdr (by omega) (by simp; omega) (fun s hs => by have := l6 s hs; omega) fun a8 n8 c8 H8 hs8 ho8 hS8 hf8 => ?_
  rw [putR_app, List.take_append_drop] at hS8
  have e11 := ho8.1
  have e12 := hS8.len
  have hf48 := (hf6.keep0 hf7).keep0 hf8
  refine theirs_ok (((ho3.keep hf4).keep hf48).sl) (by omega) fun a9 n9 c9 H9 ho9 hf9 => ?_
  have hf49 := hf48.keep0 hf9
  have e13 := ho9.1
  refine Alike_ok ho9.sl (hx4.keep hf49) (((hS3.keep hf4).keep hf49)) (hS4.keep hf49) (by omega) big ?_
  refine brB_of (fun _ => ?_) (fun h => by cases h)
  refine theirs_ok (((ho3.keep hf4).keep hf49).sl) (by omega) fun a10 n10 c10 H10 ho10 hf10 => ?_
  have hf410 := hf49.keep0 hf10
  have e14 := ho10.1
  refine Right_ok ho10.sl ((hS3.keep hf4).keep hf410) hR2 (by omega) big ?_
  refine brB_of (fun _ => ?_) (fun h => by cases h)
  have hf810 := hf9.keep0 hf10
  refine theirs_ok ((ho8.keep hf810).sl) (by omega) fun a11 n11 c11 H11 ho11 hf11 => ?_
  have hf411 := hf410.keep0 hf11
  have e15 := ho11.1
  refine Alike_ok ho11.sl (hx4.keep hf411) ((hS8.keep hf810).keep hf11) (hS4.keep hf411) (by omega) big ?_
  refine brB_of (fun _ => ?_) (fun h => by cases h)
  refine Rises_ok (xs := []) Sl.zero (by omega) fun H12 hf12 => ⟨by rw [decide_eq_true Ris.nil], (hf04.keep0 hf411).keep0 hf12⟩
end Go.Proofs
