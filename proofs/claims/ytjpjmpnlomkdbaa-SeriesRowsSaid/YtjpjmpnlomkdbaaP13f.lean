/- A part of a proof: see the last text of this claim. -/
import Derived.Test.YtjpjmpnlomkdbaaP13e
set_option linter.unusedVariables false
set_option maxRecDepth 100000
open Go Go.GV
namespace Go.Proofs

structure Ends (A B : List Smp) (i j : Nat) : Prop where
  h : ∃ x y, A[i]? = some x ∧ B[j]? = some y ∧ x.1 ≤ y.1
structure EndsL (A B : List Smp) (i j : Nat) : Prop where
  h : ∃ x y, A[i]? = some x ∧ B[j]? = some y ∧ y.1 < x.1
theorem symMerge_ok {order : Value} (hT : ByT order) : ∀ (N : Nat) {base : Nat} {H : Heap} {a : Option Addr} {n c p m q : Nat} {L P A B Q : List Smp} {K : Heap → Prop} (hN : A.length + B.length ≤ N) (ho : Own encS 26 base H a n c L) (eL : L = P ++ (A ++ (B ++ Q))) (hp : P.length = p) (hm : p + A.length = m) (hq : m + B.length = q) (hA0 : 0 < A.length) (hB0 : 0 < B.length) (hn : n ≤ 1000000000) (hA : Srt A) (hB : Srt B)
    (hk : ∀ H' S, Own encS 26 base H' a n c (P ++ (S ++ Q)) → Srt S → Stb (A ++ B) S → Fr (blkL a) H H' → K H'),
    CallH Try.prog fn_slices_symMergeCmpFunc_api_Sample_ ⟨[.slice a n c, .int .i64 p, .int .i64 m, .int .i64 q, order]⟩ H fun v H' => v = .tuple ⟨[]⟩ ∧ K H' := by
  intro N
  induction N with
  | zero => intros; omega
  | succ N ih =>
  intro base H a n c p m q L P A B Q K hN ho eL hp hm hq hA0 hB0 hn hA hB hk
  by_cases hA1 : A.length = 1
  · obtain ⟨x, rfl⟩ : ∃ x, A = [x] := by cases A with | nil => simp at hA1 | cons x A => cases A with | nil => exact ⟨x, rfl⟩ | cons _ _ => simp at hA1
    exact sym1_ok hT ho eL hp hm hq hn hB hk
  by_cases hB1 : B.length = 1
  · obtain ⟨y, rfl⟩ : ∃ y, B = [y] := by cases B with | nil => simp at hB1 | cons x A => cases A with | nil => exact ⟨x, rfl⟩ | cons _ _ => simp at hB1
    exact sym2_ok hT ho eL hp hm hq (by omega) hn hA hk
  apply vc_slices_symMergeCmpFunc_api_Sample_
  have hl := ho.1
  subst eL
  simp only [List.length_append] at hl
  have ew0 : IntKind.i64.wrap ((m : Int) - p) = ((A.length : Nat) : Int) := by rw [wrap64_of (by omega) (by omega)]; omega
  have ew : IntKind.i64.wrap ((q : Int) - m) = ((B.length : Nat) : Int) := by rw [wrap64_of (by omega) (by omega)]; omega
  rw [ew, ew0, two1, avg64 (by omega)]
  refine brB_of (fun h => by simp at h; omega) (fun _ => brB_of (fun h => by simp at h; omega) (fun _ => ?_))
  have hmid1 : 2 * ((p + q) / 2) ≤ p + q := by omega
  have hmid2 : p + q ≤ 2 * ((p + q) / 2) + 1 := by omega
  generalize (p + q) / 2 = mid at hmid1 hmid2
  have ewn : IntKind.i64.wrap ((mid : Int) + m) = ((mid + m : Nat) : Int) := by rw [wrap64_of (by omega) (by omega)]; omega
  rw [ewn]
  refine ⟨fun vs H' => H' = H ∧ ∃ lo hi : Nat, vs = [.int .i64 lo, .int .i64 hi] ∧ p ≤ lo ∧ lo ≤ hi ∧ hi ≤ m ∧ hi ≤ mid ∧ mid + m ≤ lo + q ∧ (lo = p ∨ mid + m = lo + q) ∧ (hi = m ∨ hi = mid), ?_, ?_⟩
  · refine brB_of (fun h => ⟨rfl, mid + m - q, mid, ?_, ?_⟩) (fun h => ⟨rfl, p, m, rfl, ?_⟩)
    · have : mid < m := by simpa using h
      rw [wrap64_of (by omega) (by omega), show ((mid + m : Nat) : Int) - q = ((mid + m - q : Nat) : Int) by omega]
    · have : mid < m := by simpa using h
      omega
    · have : m ≤ mid := by simp at h; omega
      omega
  rintro J s0 r0 H1 ⟨rfl, lo, hi, e0, l1, l2, l3, l4, l5, l6, l7⟩
  simp only [List.cons.injEq, Value.int.injEq, true_and, and_true] at e0
  obtain ⟨rfl, rfl⟩ := e0
  refine ⟨fun vs H' => match vs with
      | [.int _ i, .int _ j] => ∃ i' j' : Nat, i = i' ∧ j = j' ∧ lo ≤ i' ∧ i' ≤ j' ∧ j' ≤ hi ∧ (i' = lo ∨ Ends A B (i' - 1 - p) (mid + m - i' - m)) ∧ (j' = hi ∨ EndsL A B (j' - p) (mid + m - 1 - j' - m)) ∧ Own encS 26 base H' a n c (P ++ (A ++ (B ++ Q))) ∧ Fr (blkL a) H1 H'
      | _ => False,
    fun vs _ => match vs with | [.int _ i, .int _ j] => j.toNat - i.toNat | _ => 0, ⟨lo, hi, rfl, rfl, by omega, by omega, by omega, .inl rfl, .inl rfl, ho, Fr.refl _ _⟩, ?_⟩
  rintro J i j H2 ⟨i', j', rfl, rfl, h1, h2, h3, h4, h5, ho2, hf2⟩
  refine brB_of (fun h0 => ?_) (fun h0 => ?_)
  · have h0' : i' < j' := by simpa using h0
    rw [avg64 (by omega)]
    have hh1 : i' ≤ (i' + j') / 2 := by omega
    have hh2 : (i' + j') / 2 < j' := by omega
    generalize (i' + j') / 2 = h at hh1 hh2
    have w1 : IntKind.i64.wrap (IntKind.i64.wrap (((mid + m : Nat) : Int) - 1) - (h : Int)) = ((mid + m - 1 - h : Nat) : Int) := by
      rw [wrap64_of (n := ((mid + m : Nat) : Int) - 1) (by omega) (by omega), wrap64_of (by omega) (by omega)]; omega
    rw [w1]
    have hy : B[mid + m - 1 - h - m]? = some (B[mid + m - 1 - h - m]'(by omega)) := by simp
    generalize B[mid + m - 1 - h - m]'(by omega) = y at hy
    have hx : A[h - p]? = some (A[h - p]'(by omega)) := by simp
    generalize A[h - p]'(by omega) = x at hx
    have hy' : (P ++ (A ++ (B ++ Q)))[mid + m - 1 - h]? = some y := by
      rw [← List.append_assoc, in_mid (by simp; omega) (by simp; omega), ← hy]; congr 1; simp; omega
    refine ho2.sl.get (k := mid + m - 1 - h) rfl hy' (decide_eq_true (by omega)) fun ad ea hc => ⟨_, _, ldS hc, ?_⟩
    refine ho2.sl.get (k := h) (x := x) rfl (by rw [in_mid (by omega) (by omega), hp]; exact hx) (decide_eq_true (by omega)) fun ad ea hc => ⟨_, _, ldS hc, ?_⟩
    refine hT y x H2 _ fun H3 hf3 => ?_
    have ho3 := ho2.keep hf3
    have hf03 := hf2.trans' hf3 (T := blkL a) (fun _ h _ => h) (by simp)
    rw [succ64 (by omega)]
    refine brB_of (fun h6 => ⟨⟨h + 1, j', rfl, rfl, by omega, by omega, h3, .inr ⟨x, y, by simpa using hx, ?_, ?_⟩, h5, ho3, hf03⟩, ?_⟩) (fun h6 => ⟨⟨i', h, rfl, rfl, h1, by omega, by omega, h4, .inr ⟨x, y, hx, hy, ?_⟩, ho3, hf03⟩, ?_⟩)
    · rw [← hy]; congr 1; omega
    · have : ¬ y.1 < x.1 := fun h => by rw [decide_eq_true (cmpI_neg.2 h)] at h6; cases h6
      omega
    · show ((j' : Nat) : Int).toNat - ((h + 1 : Nat) : Int).toNat < ((j' : Nat) : Int).toNat - ((i' : Nat) : Int).toNat
      omega
    · have : decide (cmpI y.1 x.1 < 0) = true := by simpa using h6
      exact cmpI_neg.1 (of_decide_eq_true this)
    · show ((h : Nat) : Int).toNat - ((i' : Nat) : Int).toNat < ((j' : Nat) : Int).toNat - ((i' : Nat) : Int).toNat
      omega
  have h0' : i' = j' := by simp at h0; omega
  subst h0'
  -- where both are parted
  obtain ⟨A1, A2, rfl, hA1l⟩ := two_split (B := A) (k := i' - p) (by omega)
  obtain ⟨B1, B2, rfl, hB1l⟩ := two_split (B := B) (k := mid - i') (by omega)
  simp only [List.length_append] at hm hq hl hN hA0 hB0 hA1 hB1
  have hle : ∀ x ∈ A1, ∀ y ∈ B2, x.1 ≤ y.1 := by
    refine ends_le hA.left hB.right fun x y hx hy => ?_
    have hA1n : A1 ≠ [] := by intro e; subst e; cases hx
    have hA1p := List.length_pos_iff.2 hA1n
    have hB2n : B2 ≠ [] := by intro e; subst e; cases hy
    have hB2p := List.length_pos_iff.2 hB2n
    rcases h4 with h4 | ⟨⟨x', y', hx', hy', h4⟩⟩
    · omega
    · rw [List.getElem?_append_left (by omega)] at hx'
      rw [List.getElem?_append_right (by omega)] at hy'
      rw [List.getLast?_eq_getElem?, show A1.length - 1 = i' - 1 - p by omega] at hx
      rw [List.head?_eq_getElem?, show 0 = mid + m - i' - m - B1.length by omega] at hy
      rw [hx] at hx'
      rw [hy] at hy'
      cases hx'; cases hy'; exact h4
  have hlt : ∀ x ∈ A2, ∀ y ∈ B1, y.1 < x.1 := by
    refine ends_lt hA.right hB.left fun x y hx hy => ?_
    have hA2n : A2 ≠ [] := by intro e; subst e; cases hx
    have hA2p := List.length_pos_iff.2 hA2n
    have hB1n : B1 ≠ [] := by intro e; subst e; cases hy
    have hB1p := List.length_pos_iff.2 hB1n
    rcases h5 with h5 | ⟨⟨x', y', hx', hy', h5⟩⟩
    · omega
    · rw [List.getElem?_append_right (by omega)] at hx'
      rw [List.getElem?_append_left (by omega)] at hy'
      rw [List.head?_eq_getElem?, show 0 = i' - p - A1.length by omega] at hx
      rw [List.getLast?_eq_getElem?, show B1.length - 1 = mid + m - 1 - i' - m by omega] at hy
      rw [hx] at hx'
      rw [hy] at hy'
      cases hx'; cases hy'; exact h5
  have we : IntKind.i64.wrap (((mid + m : Nat) : Int) - (i' : Int)) = ((mid + m - i' : Nat) : Int) := by rw [wrap64_of (by omega) (by omega)]; omega
  rw [we]
  refine ⟨fun _ H' => Own encS 26 base H' a n c (P ++ (A1 ++ (B1 ++ (A2 ++ (B2 ++ Q))))) ∧ Fr (blkL a) H1 H', ?_, ?_⟩
  · have same : A2 = [] ∨ B1 = [] → Own encS 26 base H2 a n c (P ++ (A1 ++ (B1 ++ (A2 ++ (B2 ++ Q))))) ∧ Fr (blkL a) H1 H2 := fun h => ⟨by rcases h with rfl | rfl <;> simpa using ho2, hf2⟩
    refine brB_of (fun h6 => brB_of (fun h7 => ?_) (fun h7 => same (.inr (List.eq_nil_of_length_eq_zero (by simp at h7; omega))))) (fun h6 => same (.inl (List.eq_nil_of_length_eq_zero (by simp at h6; omega))))
    have h6' : i' < m := by simpa using h6
    have h7' : (m : Int) < ((mid + m - i' : Nat) : Int) := by simpa using h7
    refine rotate_ok (P := P ++ A1) (X := A2) (Y := B1) (Q := B2 ++ Q) ho2 (by simp) (by simp; omega) (by omega) (by omega) (by omega) (by omega) hn fun H3 ho3 hf3 => ⟨by simpa using ho3, hf2.trans' hf3 (fun _ h _ => h) (fun _ h _ => h)⟩
  rintro J H3 ⟨ho3, hf3⟩
  refine ⟨fun _ H' => ∃ S1, Own encS 26 base H' a n c (P ++ (S1 ++ (A2 ++ (B2 ++ Q)))) ∧ Srt S1 ∧ Stb (A1 ++ B1) S1 ∧ Fr (blkL a) H1 H', ?_, ?_⟩
  · have same : A1 = [] ∨ B1 = [] → ∃ S1, Own encS 26 base H3 a n c (P ++ (S1 ++ (A2 ++ (B2 ++ Q)))) ∧ Srt S1 ∧ Stb (A1 ++ B1) S1 ∧ Fr (blkL a) H1 H3 := fun h => ⟨A1 ++ B1, by simpa using ho3, by rcases h with rfl | rfl; exact hB.left; simpa using hA.left, Stb.refl _, hf3⟩
    refine brB_of (fun h6 => brB_of (fun h7 => ?_) (fun h7 => same (.inr (List.eq_nil_of_length_eq_zero (by simp at h7; omega))))) (fun h6 => same (.inl (List.eq_nil_of_length_eq_zero (by simp at h6; omega))))
    have h6' : p < i' := by simpa using h6
    have h7' : i' < mid := by simpa using h7
    refine ih (P := P) (A := A1) (B := B1) (Q := A2 ++ (B2 ++ Q)) (by omega) ho3 rfl hp (by omega) (by omega) (by omega) (by omega) hn hA.left hB.left fun H4 S1 ho4 hS1 hS2 hf4 => ⟨S1, ho4, hS1, hS2, hf3.trans' hf4 (fun _ h _ => h) (fun _ h _ => h)⟩
  rintro J H4 ⟨S1, ho4, hS1, hS2, hf4⟩
  have hS1l := hS2.length
  rw [List.length_append] at hS1l
  have fin : ∀ {H5 : Heap} {S2 : List Smp}, Own encS 26 base H5 a n c (P ++ (S1 ++ (S2 ++ Q))) → Srt S2 → Stb (A2 ++ B2) S2 → Fr (blkL a) H1 H5 → K H5 := fun {H5 S2} ho5 hS3 hS4 hf5 => by
    refine hk H5 (S1 ++ S2) (by simpa using ho5) (srt_app hS1 hS3 fun x hx y hy => ?_) ?_ hf5
    · rcases List.mem_append.1 (hS2.mem.2 hx) with hx | hx
      · rcases List.mem_append.1 (hS4.mem.2 hy) with hy | hy
        · exact hA.across x hx y hy
        · exact hle x hx y hy
      · rcases List.mem_append.1 (hS4.mem.2 hy) with hy | hy
        · exact Int.le_of_lt (hlt y hy x hx)
        · exact hB.across x hx y hy
    · have r1 : Stb ((A1 ++ A2) ++ (B1 ++ B2)) ((A1 ++ B1) ++ (A2 ++ B2)) := by
        have := ((Stb.refl A1).app (Stb.swap hlt)).app (Stb.refl B2)
        simpa using this
      exact r1.trans (hS2.app hS4)
  have same : A2 = [] ∨ B2 = [] → Value.tuple ⟨[]⟩ = .tuple ⟨[]⟩ ∧ K H4 := fun h => ⟨rfl, fin (S2 := A2 ++ B2) (by simpa using ho4) (by rcases h with rfl | rfl; exact hB.right; simpa using hA.right) (Stb.refl _) hf4⟩
  refine brB_of (fun h6 => brB_of (fun h7 => ?_) (fun h7 => same (.inr (List.eq_nil_of_length_eq_zero (by simp at h7; omega))))) (fun h6 => same (.inl (List.eq_nil_of_length_eq_zero (by simp at h6; omega))))
  have h6' : (mid : Int) < ((mid + m - i' : Nat) : Int) := by simpa using h6
  have h7' : ((mid + m - i' : Nat) : Int) < q := by simpa using h7
  refine ih (P := P ++ S1) (A := A2) (B := B2) (Q := Q) (by omega) ho4 (by simp) (by simp; omega) (by omega) (by omega) (by omega) (by omega) hn hA.right hB.right fun H5 S2 ho5 hS3 hS4 hf5 => ?_
  exact ⟨rfl, fin (by simpa using ho5) hS3 hS4 (hf4.trans' hf5 (fun _ h _ => h) (fun _ h _ => h))⟩
end Go.Proofs
