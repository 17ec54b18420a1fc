/- Turned by a program of mine (portall.py) out of the same text of another seat. -/
import Derived.Test.YtjclcccjdnllgaaGreatC03e
set_option linter.unusedVariables false
set_option maxRecDepth 100000
open Go Go.GV
namespace Go.Proofs

structure Ends (A B : List Smp) (i j : Nat) : Prop where
  h : ∃ x y, A[i]? = some x ∧ B[j]? = some y ∧ x.1 ≤ y.1
structure EndsL (A B : List Smp) (i j : Nat) : Prop where
  h : ∃ x y, A[i]? = some x ∧ B[j]? = some y ∧ y.1 < x.1
theorem symMerge_ok {order : Value} (hT : ByT order) : ∀ (N : Nat) {base : Nat} {H : Heap} {a : Option Addr} {n c p m q : Nat} {L P A B Q : List Smp} {K : Heap → Prop} (hN : A.length + B.length ≤ N) (ho : Own encS 107 base H a n c L) (eL : L = P ++ (A ++ (B ++ Q))) (hp : P.length = p) (hm : p + A.length = m) (hq : m + B.length = q) (hA0 : 0 < A.length) (hB0 : 0 < B.length) (hn : n ≤ 1000000000) (hA : Srt A) (hB : Srt B)
    (hk : ∀ H' S, Own encS 107 base H' a n c (P ++ (S ++ Q)) → Srt S → Stb (A ++ B) S → Fr (blkL a) H H' → K H'),
    CallH Tryz.prog fn_slices_symMergeCmpFunc_api_Sample_ ⟨[.slice a n c, .int .i64 p, .int .i64 m, .int .i64 q, order]⟩ H fun v H' => v = .tuple ⟨[]⟩ ∧ K H' := by
  intro N
  induction N with
  | zero => intros; omega
  | succ N ih =>
  intro base H a n c p m q L P A B Q K hN ho eL hp hm hq hA0 hB0 hn hA hB hk
  by_cases hA1 : A.length = 1
  · obtain ⟨x, rfl⟩ : ∃ x, A = [x] := by cases A with | nil => simp at hA1 | cons x A => cases A with | nil => exact ⟨x, rfl⟩ | cons _ _ => simp at hA1
    exact sym1_ok hT ho eL hp hm hq hn hB hk
  by_cases hB1 : B.length = 1
  · obtain ⟨y, rfl⟩ : ∃ y, B = [y] := by cases B with | nil => simp at hB1 | cons x A => cases A with | nil => exact ⟨x, rfl⟩ | cons _ _ => simp at hB1
    exact sym2_ok hT ho eL hp hm hq (by omega) hn hA hk
  apply vc_slices_symMergeCmpFunc_api_Sample_
  have hl := ho.1
  subst eL
  simp only [List.length_append] at hl
  have ew0 : IntKind.i64.wrap ((m : Int) - p) = ((A.length : Nat) : Int) := by rw [wrap64_of (by omega) (by omega)]; omega
  have ew : IntKind.i64.wrap ((q : Int) - m) = ((B.length : Nat) : Int) := by rw [wrap64_of (by omega) (by omega)]; omega
  rw [ew, ew0, two1, avg64 (by omega)]
  refine brB_of (fun h => by simp at h; omega) (fun _ => brB_of (fun h => by simp at h; omega) (fun _ => ?_))
  have hmid1 : 2 * ((p + q) / 2) ≤ p + q := by omega
  have hmid2 : p + q ≤ 2 * ((p + q) / 2) + 1 := by omega
  generalize (p + q) / 2 = mid at hmid1 hmid2
  have ewn : IntKind.i64.wrap ((mid : Int) + m) = ((mid + m : Nat) : Int) := by rw [wrap64_of (by omega) (by omega)]; omega
  rw [ewn]
  refine ⟨fun vs H' => H' = H ∧ ∃ lo hi : Nat, vs = [.int .i64 lo, .int .i64 hi] ∧ p ≤ lo ∧ lo ≤ hi ∧ hi ≤ m ∧ hi ≤ mid ∧ mid + m ≤ lo + q ∧ (lo = p ∨ mid + m = lo + q) ∧ (hi = m ∨ hi = mid), ?_, ?_⟩
  · refine brB_of (fun h => ⟨rfl, mid + m - q, mid, ?_, ?_⟩) (fun h => ⟨rfl, p, m, rfl, ?_⟩)
    · have : mid < m := by simpa using h
      rw [wrap64_of (by omega) (by omega), show ((mid + m : Nat) : Int) - q = ((mid + m - q : Nat) : Int) by omega]
    · have : mid < m := by simpa using h
      omega
    · have : m ≤ mid := by simp at h; omega
      omega
  rintro J s0 r0 H1 ⟨rfl, lo, hi, e0, l1, l2, l3, l4, l5, l6, l7⟩
  simp only [List.cons.injEq, Value.int.injEq, true_and, and_true] at e0
  obtain ⟨rfl, rfl⟩ := e0
  refine ⟨fun vs H' => match vs with
      | [.int _ i, .int _ j] => ∃ i' j' : Nat, i = i' ∧ j = j' ∧ lo ≤ i' ∧ i' ≤ j' ∧ j' ≤ hi ∧ (i' = lo ∨ Ends A B (i' - 1 - p) (mid + m - i' - m)) ∧ (j' = hi ∨ EndsL A B (j' - p) (mid + m - 1 - j' - m)) ∧ Own encS 107 base H' a n c (P ++ (A ++ (B ++ Q))) ∧ Fr (blkL a) H1 H'
      | _ => False,
    fun vs _ => match vs with | [.int _ i, .int _ j] => j.toNat - i.toNat | _ => 0, ⟨lo, hi, rfl, rfl, by omega, by omega, by omega, .inl rfl, .inl rfl, ho, Fr.refl _ _⟩, ?_⟩
  rintro J i j H2 ⟨i', j', rfl, rfl, h1, h2, h3, h4, h5, ho2, hf2⟩
  refine brB_of (fun h0 => ?_) (fun h0 => ?_)
  · have h0' : i' < j' := by simpa using h0
    rw [avg64 (by omega)]
    have hh1 : i' ≤ (i' + j') / 2 := by omega
    have hh2 : (i' + j') / 2 < j' := by omega
    generalize (i' + j') / 2 = h at hh1 hh2
    have w1 : IntKind.i64.wrap (IntKind.i64.wrap (((mid + m : Nat) : Int) - 1) - (h : Int)) = ((mid + m - 1 - h : Nat) : Int) := by
      rw [wrap64_of (n := ((mid + m : Nat) : Int) - 1) (by omega) (by omega), wrap64_of (by omega) (by omega)]; omega
    rw [w1]
    have hy : B[mid + m - 1 - h - m]? = some (B[mid + m - 1 - h - m]'(by omega)) := by simp
    generalize B[mid + m - 1 - h - m]'(by omega) = y at hy
    have hx : A[h - p]? = some (A[h - p]'(by omega)) := by simp
    generalize A[h - p]'(by omega) = x at hx
    have hy' : (P ++ (A ++ (B ++ Q)))[mid + m - 1 - h]? = some y := by
      rw [← List.append_assoc, in_mid (by simp; omega) (by simp; omega), ← hy]; congr 1; simp; omega
    refine ho2.sl.get (k := mid + m - 1 - h) rfl hy' (decide_eq_true (by omega)) fun ad ea hc => ⟨_, _, ldS hc, ?_⟩
    refine ho2.sl.get (k := h) (x := x) rfl (by rw [in_mid (by omega) (by omega), hp]; exact hx) (decide_eq_true (by omega)) fun ad ea hc => ⟨_, _, ldS hc, ?_⟩
    refine hT y x H2 _ fun H3 hf3 => ?_
    have ho3 := ho2.keep hf3
    have hf03 := hf2.trans' hf3 (T := blkL a) (fun _ h _ => h) (by simp)
    rw [succ64 (by omega)]
    refine brB_of (fun h6 => ⟨⟨h + 1, j', rfl, rfl, by omega, by omega, h3, .inr ⟨x, y, by simpa using hx, ?_, ?_⟩, h5, ho3, hf03⟩, ?_⟩) (fun h6 => ⟨⟨i', h, rfl, rfl, h1, by omega, by omega, h4, .inr ⟨x, y, hx, hy, ?_⟩, ho3, hf03⟩, ?_⟩)
    · rw [← hy]; congr 1; omega
    · have : ¬ y.1 < x.1 := fun h => by rw [decide_eq_true (cmpI_neg.2 h)] at h6; cases h6
      omega
    · show ((j' : Nat) : Int).toNat - ((h + 1 : Nat) : Int).toNat < ((j' : Nat) : Int).toNat - ((i' : Nat) : Int).toNat
      omega
    · have : decide (cmpI y.1 x.1 < 0) = true := by simpa using h6
      exact cmpI_neg.1 (of_decide_eq_true this)
    · show ((h : Nat) : Int).toNat - ((i' : Nat) : Int).toNat < ((j' : Nat) : Int).toNat - ((i' : Nat) : Int).toNat
      omega
  have h0' : i' = j' := by simp at h0; omega
  subst h0'
  obtain ⟨A1, A2, rfl, hA1l⟩ := two_split (B := A) (k := i' - p) (by omega)
  obtain ⟨B1, B2, rfl, hB1l⟩ := two_split (B := B) (k := mid - i') (by omega)
  simp only [List.length_append] at hm hq hl hN hA0 hB0 hA1 hB1
  have hle : ∀ x ∈ A1, ∀ y ∈ B2, x.1 ≤ y.1 := by
    refine ends_le hA.left hB.right fun x y hx hy => ?_
    have hA1n : A1 ≠ [] := by intro e; subst e; cases hx
    have hA1p := List.length_pos_iff.2 hA1n
    have hB2n : B2 ≠ [] := by intro e; subst e; cases hy
    have hB2p := List.length_pos_iff.2 hB2n
    rcases h4 with h4 | ⟨⟨x', y', hx', hy', h4⟩⟩
    · omega
    · rw [List.getElem?_append_left (by omega)] at hx'
      rw [List.getElem?_append_right (by omega)] at hy'
      rw [List.getLast?_eq_getElem?, show A1.length - 1 = i' - 1 - p by omega] at hx
      rw [List.head?_eq_getElem?, show 0 = mid + m - i' - m - B1.length by omega] at hy
      rw [hx] at hx'
      rw [hy] at hy'
      cases hx'; cases hy'; exact h4
  have hlt : ∀ x ∈ A2, ∀ y ∈ B1, y.1 < x.1 := by
    refine ends_lt hA.right hB.left fun x y hx hy => ?_
    have hA2n : A2 ≠ [] := by intro e; subst e; cases hx
    have hA2p := List.length_pos_iff.2 hA2n
    have hB1n : B1 ≠ [] := by intro e; subst e; cases hy
    have hB1p := List.length_pos_iff.2 hB1n
    rcases h5 with h5 | ⟨⟨x', y', hx', hy', h5⟩⟩
    · omega
    · rw [List.getElem?_append_right (by omega)] at hx'
      rw [List.getElem?_append_left (by omega)] at hy'
      rw [List.head?_eq_getElem?, show 0 = i' - p - A1.length by omega] at hx
      rw [List.getLast?_eq_getElem?, show B1.length - 1 = mid + m - 1 - i' - m by omega] at hy
      rw [hx] at hx'
      rw [hy] at hy'
      cases hx'; cases hy'; exact h5
  have we : IntKind.i64.wrap (((mid + m : Nat) : Int) - (i' : Int)) = ((mid + m - i' : Nat) : Int) := by rw [wrap64_of (by omega) (by omega)]; omega
  rw [we]
  refine ⟨fun _ H' => Own encS 107 base H' a n c (P ++ (A1 ++ (B1 ++ (A2 ++ (B2 ++ Q))))) ∧ Fr (blkL a) H1 H', ?_, ?_⟩
  · have same : A2 = [] ∨ B1 = [] → Own encS 107 base H2 a n c (P ++ (A1 ++ (B1 ++ (A2 ++ (B2 ++ Q))))) ∧ Fr (blkL a) H1 H2 := fun h => ⟨by rcases h with rfl | rfl <;> simpa using ho2, hf2⟩
    refine brB_of (fun h6 => brB_of (fun h7 => ?_) (fun h7 => same (.inr (List.eq_nil_of_length_eq_zero (by simp at h7; omega))))) (fun h6 => same (.inl (List.eq_nil_of_length_eq_zero (by simp at h6; omega))))
    have h6' : i' < m := by simpa using h6
    have h7' : (m : Int) < ((mid + m - i' : Nat) : Int) := by simpa using h7
    refine rotate_ok (P := P ++ A1) (X := A2) (Y := B1) (Q := B2 ++ Q) ho2 (by simp) (by simp; omega) (by omega) (by omega) (by omega) (by omega) hn fun H3 ho3 hf3 => ⟨by simpa using ho3, hf2.trans' hf3 (fun _ h _ => h) (fun _ h _ => h)⟩
  rintro J H3 ⟨ho3, hf3⟩
  refine ⟨fun _ H' => ∃ S1, Own encS 107 base H' a n c (P ++ (S1 ++ (A2 ++ (B2 ++ Q)))) ∧ Srt S1 ∧ Stb (A1 ++ B1) S1 ∧ Fr (blkL a) H1 H', ?_, ?_⟩
  · have same : A1 = [] ∨ B1 = [] → ∃ S1, Own encS 107 base H3 a n c (P ++ (S1 ++ (A2 ++ (B2 ++ Q)))) ∧ Srt S1 ∧ Stb (A1 ++ B1) S1 ∧ Fr (blkL a) H1 H3 := fun h => ⟨A1 ++ B1, by simpa using ho3, by rcases h with rfl | rfl; exact hB.left; simpa using hA.left, Stb.refl _, hf3⟩
    refine brB_of (fun h6 => brB_of (fun h7 => ?_) (fun h7 => same (.inr (List.eq_nil_of_length_eq_zero (by simp at h7; omega))))) (fun h6 => same (.inl (List.eq_nil_of_length_eq_zero (by simp at h6; omega))))
    have h6' : p < i' := by simpa using h6
    have h7' : i' < mid := by simpa using h7
    refine ih (P := P) (A := A1) (B := B1) (Q := A2 ++ (B2 ++ Q)) (by omega) ho3 rfl hp (by omega) (by omega) (by omega) (by omega) hn hA.left hB.left fun H4 S1 ho4 hS1 hS2 hf4 => ⟨S1, ho4, hS1, hS2, hf3.trans' hf4 (fun _ h _ => h) (fun _ h _ => h)⟩
  rintro J H4 ⟨S1, ho4, hS1, hS2, hf4⟩
  have hS1l := hS2.length
  rw [List.length_append] at hS1l
  have fin : ∀ {H5 : Heap} {S2 : List Smp}, Own encS 107 base H5 a n c (P ++ (S1 ++ (S2 ++ Q))) → Srt S2 → Stb (A2 ++ B2) S2 → Fr (blkL a) H1 H5 → K H5 := fun {H5 S2} ho5 hS3 hS4 hf5 => by
    refine hk H5 (S1 ++ S2) (by simpa using ho5) (srt_app hS1 hS3 fun x hx y hy => ?_) ?_ hf5
    · rcases List.mem_append.1 (hS2.mem.2 hx) with hx | hx
      · rcases List.mem_append.1 (hS4.mem.2 hy) with hy | hy
        · exact hA.across x hx y hy
        · exact hle x hx y hy
      · rcases List.mem_append.1 (hS4.mem.2 hy) with hy | hy
        · exact Int.le_of_lt (hlt y hy x hx)
        · exact hB.across x hx y hy
    · have r1 : Stb ((A1 ++ A2) ++ (B1 ++ B2)) ((A1 ++ B1) ++ (A2 ++ B2)) := by
        have := ((Stb.refl A1).app (Stb.swap hlt)).app (Stb.refl B2)
        simpa using this
      exact r1.trans (hS2.app hS4)
  have same : A2 = [] ∨ B2 = [] → Value.tuple ⟨[]⟩ = .tuple ⟨[]⟩ ∧ K H4 := fun h => ⟨rfl, fin (S2 := A2 ++ B2) (by simpa using ho4) (by rcases h with rfl | rfl; exact hB.right; simpa using hA.right) (Stb.refl _) hf4⟩
  refine brB_of (fun h6 => brB_of (fun h7 => ?_) (fun h7 => same (.inr (List.eq_nil_of_length_eq_zero (by simp at h7; omega))))) (fun h6 => same (.inl (List.eq_nil_of_length_eq_zero (by simp at h6; omega))))
  have h6' : (mid : Int) < ((mid + m - i' : Nat) : Int) := by simpa using h6
  have h7' : ((mid + m - i' : Nat) : Int) < q := by simpa using h7
  refine ih (P := P ++ S1) (A := A2) (B := B2) (Q := Q) (by omega) ho4 (by simp) (by simp; omega) (by omega) (by omega) (by omega) (by omega) hn hA.right hB.right fun H5 S2 ho5 hS3 hS4 hf5 => ?_
  exact ⟨rfl, fin (by simpa using ho5) hS3 hS4 (hf4.trans' hf5 (fun _ h _ => h) (fun _ h _ => h))⟩

structure Bks (bs : Nat) (Ss : List (List Smp)) : Prop where
  h : ∀ T ∈ Ss, T.length = bs ∧ Srt T
theorem Bks.len {bs : Nat} {Ss : List (List Smp)} (h : Bks bs Ss) : Ss.flatten.length = bs * Ss.length := by
  induction Ss with
  | nil => simp
  | cons T Ss ih =>
    have := (h.h T (by simp)).1
    have := ih ⟨fun U hU => h.h U (by simp [hU])⟩
    simp only [List.flatten_cons, List.length_append, List.length_cons, Nat.mul_add]; omega
theorem Bks.snoc {bs : Nat} {Ss : List (List Smp)} {T : List Smp} (h : Bks bs Ss) (h1 : T.length = bs) (h2 : Srt T) : Bks bs (Ss ++ [T]) := ⟨fun U hU => by
  rcases List.mem_append.1 hU with hU | hU
  · exact h.h U hU
  · simp at hU; subst hU; exact ⟨h1, h2⟩⟩
theorem Bks.tail {bs : Nat} {Ss : List (List Smp)} {T : List Smp} (h : Bks bs (T :: Ss)) : Bks bs Ss := ⟨fun U hU => h.h U (by simp [hU])⟩
theorem add64 {x y : Nat} (h : x + y ≤ 1000000000000) : IntKind.i64.wrap ((x : Int) + (y : Int)) = ((x + y : Nat) : Int) := by rw [wrap64_of (by omega) (by omega)]; omega
theorem stable_ok {order : Value} (hT : ByT order) {base : Nat} {H : Heap} {a : Option Addr} {n c : Nat} {xs : List Smp} {K : Heap → Prop} (hx : Own encS 107 base H a n c xs) (hn : n ≤ 1000000000)
    (hk : ∀ H' ys, Own encS 107 base H' a n c ys → Srt ys → Stb xs ys → Fr (blkL a) H H' → K H') :
    CallH Tryz.prog fn_slices_stableCmpFunc_api_Sample_ ⟨[.slice a n c, .int .i64 n, order]⟩ H fun v H' => v = .tuple ⟨[]⟩ ∧ K H' := by
  apply vc_slices_stableCmpFunc_api_Sample_
  have hl := hx.1
  refine ⟨fun vs H' => match vs with
      | [.int _ i, .int _ j] => ∃ (Ss : List (List Smp)) (R : List Smp), Bks 20 Ss ∧ i = ((20 * Ss.length : Nat) : Int) ∧ j = ((20 * Ss.length + 20 : Nat) : Int) ∧ 20 * Ss.length ≤ n ∧ Own encS 107 base H' a n c (Ss.flatten ++ R) ∧ Stb xs (Ss.flatten ++ R) ∧ Fr (blkL a) H H'
      | _ => False,
    fun vs _ => match vs with | [.int _ i, _] => n - i.toNat | _ => 0, ⟨[], xs, ⟨fun T h => by cases h⟩, rfl, rfl, by simp, hx, Stb.refl _, Fr.refl _ _⟩, ?_⟩
  rintro J i j H1 ⟨Ss, R, hB, rfl, rfl, hle, ho, hst, hf⟩
  have hol := ho.1
  have hbl := hB.len
  rw [List.length_append] at hol
  refine brB_of (fun h0 => ?_) (fun h0 => ?_)
  · have h0' : 20 * Ss.length + 20 ≤ n := by simp at h0; omega
    obtain ⟨X, R', rfl, hX⟩ := two_split (B := R) (k := 20) (by omega)
    refine insertionSort_ok hT (P := Ss.flatten) (s := X) (Q := R') (by simpa using ho) (by omega) (by omega) hn fun H2 X' ho2 hS hSt hf2 => ?_
    have hXl := hSt.length
    have ew : IntKind.i64.wrap (((20 * Ss.length + 20 : Nat) : Int) + 20) = ((20 * (Ss ++ [X']).length + 20 : Nat) : Int) := by
      rw [wrap64_of (by omega) (by omega)]; simp; omega
    refine ⟨⟨Ss ++ [X'], R', hB.snoc (by omega) hS, by simp; omega, ew, by simp; omega, by simpa using ho2, hst.trans ?_, hf.trans' hf2 (fun _ h _ => h) (fun _ h _ => h)⟩, ?_⟩
    · have := ((Stb.refl Ss.flatten).app hSt).app (Stb.refl R')
      simpa using this
    · show n - ((20 * Ss.length + 20 : Nat) : Int).toNat < n - ((20 * Ss.length : Nat) : Int).toNat
      omega
  have h0' : n < 20 * Ss.length + 20 := by simp at h0; omega
  refine insertionSort_ok hT (P := Ss.flatten) (s := R) (Q := []) (by simpa using ho) (by omega) (by omega) hn fun H2 R' ho2 hS hSt hf2 => ?_
  have hRl := hSt.length
  refine ⟨fun vs H' => match vs with
      | [.int _ k] => ∃ (bs : Nat) (Ss : List (List Smp)) (R : List Smp), k = bs ∧ 20 ≤ bs ∧ Bks bs Ss ∧ R.length < bs ∧ Srt R ∧ Own encS 107 base H' a n c (Ss.flatten ++ R) ∧ Stb xs (Ss.flatten ++ R) ∧ Fr (blkL a) H H'
      | _ => False,
    fun vs _ => match vs with | [.int _ k] => n - k.toNat | _ => 0, ⟨20, Ss, R', rfl, by omega, hB, by omega, hS, by simpa using ho2, ?_, hf.trans' hf2 (fun _ h _ => h) (fun _ h _ => h)⟩, ?_⟩
  · exact hst.trans ((Stb.refl Ss.flatten).app hSt)
  clear hB hle ho hst hf hol hbl h0 h0' ho2 hS hSt hRl hf2 Ss R R' H1 H2
  rintro J k H3 ⟨bs, Ss, R, rfl, hbs, hB, hR, hS, ho, hst, hf⟩
  have hol := ho.1
  have hbl := hB.len
  rw [List.length_append] at hol
  refine brB_of (fun h0 => ?_) (fun h0 => ?_)
  · have hbn : bs < n := by simpa using h0
    have ew2 : IntKind.i64.wrap (2 * (bs : Int)) = ((2 * bs : Nat) : Int) := by rw [wrap64_of (by omega) (by omega)]; omega
    have ew3 : IntKind.i64.wrap ((bs : Int) * 2) = ((2 * bs : Nat) : Int) := by rw [wrap64_of (by omega) (by omega)]; omega
    rw [ew2, ew3]
    have mu3 : n - ((2 * bs : Nat) : Int).toNat < n - ((bs : Nat) : Int).toNat := by omega
    refine ⟨fun vs H' => match vs with
        | [.int _ i, .int _ j] => ∃ (Ds Ss : List (List Smp)), Bks (2 * bs) Ds ∧ Bks bs Ss ∧ i = ((2 * bs * Ds.length : Nat) : Int) ∧ j = ((2 * bs * Ds.length + 2 * bs : Nat) : Int) ∧ Own encS 107 base H' a n c (Ds.flatten ++ (Ss.flatten ++ R)) ∧ Stb xs (Ds.flatten ++ (Ss.flatten ++ R)) ∧ Fr (blkL a) H H'
        | _ => False,
      fun vs _ => match vs with | [.int _ i, _] => n - i.toNat | _ => 0, ⟨[], Ss, ⟨fun T h => by cases h⟩, hB, by simp, by simp, ho, hst, hf⟩, ?_⟩
    clear hB ho hst hf hol hbl Ss
    rintro J i j H4 ⟨Ds, Ss, hD, hB, rfl, rfl, ho, hst, hf⟩
    have hol := ho.1
    have hbl := hB.len
    have hdl := hD.len
    simp only [List.length_append] at hol
    have hm1 : 2 * bs * Ds.length ≤ n := by omega
    have ew4 : IntKind.i64.wrap (((2 * bs * Ds.length : Nat) : Int) + (bs : Int)) = ((2 * bs * Ds.length + bs : Nat) : Int) := add64 (by omega)
    rw [ew4]
    refine brB_of (fun h1 => ?_) (fun h1 => ?_)
    · have h1' : 2 * bs * Ds.length + 2 * bs ≤ n := Int.ofNat_le.1 (of_decide_eq_true h1)
      match Ss, hB, hbl, ho, hst, hol with
      | [], _, hbl, _, _, hol => simp only [List.flatten_nil, List.length_nil, Nat.mul_zero, Nat.zero_add] at hbl hol; omega
      | [X], hB, hbl, _, _, hol => simp only [List.flatten_nil, List.flatten_cons, List.length_nil, List.length_cons, List.append_nil, Nat.mul_one, Nat.zero_add] at hbl hol; omega
      | X :: Y :: Ss, hB, hbl, ho, hst, hol =>
        have hX := hB.h X (by simp)
        have hY := hB.h Y (by simp)
        refine symMerge_ok hT _ (P := Ds.flatten) (A := X) (B := Y) (Q := Ss.flatten ++ R) (Nat.le_refl _) ho (by simp) (by omega) (by omega) (by omega) (by omega) (by omega) hn hX.2 hY.2 fun H5 Z ho5 hZ hZs hf5 => ?_
        have hZl := hZs.length
        rw [List.length_append] at hZl
        have ew5 : IntKind.i64.wrap (((2 * bs * Ds.length + 2 * bs : Nat) : Int) + ((2 * bs : Nat) : Int)) = ((2 * bs * (Ds ++ [Z]).length + 2 * bs : Nat) : Int) := by
          rw [add64 (by omega)]; simp [Nat.mul_add]
        refine ⟨⟨Ds ++ [Z], Ss, hD.snoc (by omega) hZ, hB.tail.tail, by simp [Nat.mul_add], ew5, by simpa using ho5, hst.trans ?_, hf.trans' hf5 (fun _ h _ => h) (fun _ h _ => h)⟩, ?_⟩
        · have := ((Stb.refl Ds.flatten).app hZs).app (Stb.refl (Ss.flatten ++ R))
          simpa using this
        · show n - ((2 * bs * Ds.length + 2 * bs : Nat) : Int).toNat < n - ((2 * bs * Ds.length : Nat) : Int).toNat
          omega
    have h1' : n < 2 * bs * Ds.length + 2 * bs := Nat.lt_of_not_le fun h => of_decide_eq_false h1 (Int.ofNat_le.2 h)
    refine brB_of (fun h2 => ?_) (fun h2 => ?_)
    · have h2' : 2 * bs * Ds.length + bs < n := Int.ofNat_lt.1 (of_decide_eq_true h2)
      match Ss, hB, hbl, ho, hst, hol with
      | [], _, hbl, _, _, hol => simp only [List.flatten_nil, List.length_nil, Nat.mul_zero, Nat.zero_add] at hbl hol; omega
      | X :: Y :: Ss, hB, hbl, ho, hst, hol =>
        simp only [List.flatten_cons, List.length_append, List.length_cons, Nat.mul_add, Nat.mul_one] at hbl hol; omega
      | [X], hB, hbl, ho, hst, hol =>
        have hX := hB.h X (by simp)
        simp only [List.flatten_nil, List.flatten_cons, List.length_nil, List.length_cons, List.append_nil, Nat.mul_one, Nat.zero_add] at ho hst hol hbl
        refine symMerge_ok hT _ (P := Ds.flatten) (A := X) (B := R) (Q := []) (Nat.le_refl _) ho (by simp) (by omega) (by omega) (by omega) (by omega) (by omega) hn hX.2 hS fun H5 Z ho5 hZ hZs hf5 => ?_
        have hZl := hZs.length
        rw [List.length_append] at hZl
        exact ⟨⟨2 * bs, Ds, Z, rfl, by omega, hD, by omega, hZ, by simpa using ho5, hst.trans ((Stb.refl Ds.flatten).app hZs), hf.trans' hf5 (fun _ h _ => h) (fun _ h _ => h)⟩, mu3⟩
    · have h2' : n ≤ 2 * bs * Ds.length + bs := Nat.le_of_not_lt fun h => of_decide_eq_false h2 (Int.ofNat_lt.2 h)
      match Ss, hB, hbl, ho, hst, hol with
      | [], _, hbl, ho, hst, hol => exact ⟨⟨2 * bs, Ds, R, rfl, by omega, hD, by omega, hS, by simpa using ho, by simpa using hst, hf⟩, mu3⟩
      | X :: Y :: Ss, hB, hbl, ho, hst, hol =>
        simp only [List.flatten_cons, List.length_append, List.length_cons, Nat.mul_add, Nat.mul_one] at hbl hol; omega
      | [X], hB, hbl, ho, hst, hol =>
        have hX := hB.h X (by simp)
        simp only [List.flatten_nil, List.flatten_cons, List.length_nil, List.length_cons, List.append_nil, Nat.mul_one, Nat.zero_add] at ho hst hol hbl
        have hR0 : R = [] := List.eq_nil_of_length_eq_zero (by omega)
        subst hR0
        exact ⟨⟨2 * bs, Ds, X, rfl, by omega, hD, by omega, hX.2, by simpa using ho, by simpa using hst, hf⟩, mu3⟩
  · have hbn : n ≤ bs := by simp at h0; omega
    refine ⟨rfl, hk H3 _ ho ?_ hst hf⟩
    match Ss, hB, hbl, hol with
    | [], _, _, _ => simpa using hS
    | X :: Y :: Ss, hB, hbl, hol =>
      simp only [List.flatten_cons, List.length_append, List.length_cons, Nat.mul_add, Nat.mul_one] at hbl hol; omega
    | [X], hB, hbl, hol =>
      have hX := hB.h X (by simp)
      simp only [List.flatten_nil, List.flatten_cons, List.length_nil, List.length_cons, List.append_nil, Nat.mul_one, Nat.zero_add] at hol hbl ⊢
      have hR0 : R = [] := List.eq_nil_of_length_eq_zero (by omega)
      subst hR0
      simpa using hX.2
theorem SortStable_ok {order : Value} (hT : ByT order) {base : Nat} {H : Heap} {a : Option Addr} {n c : Nat} {xs : List Smp} {K : Heap → Prop} (hx : Own encS 107 base H a n c xs) (hn : n ≤ 1000000000)
    (hk : ∀ H' ys, Own encS 107 base H' a n c ys → Srt ys → Stb xs ys → Fr (blkL a) H H' → K H') :
    CallH Tryz.prog fn_slices_SortStableFunc___api_Sample_api_Sample_ ⟨[.slice a n c, order]⟩ H fun v H' => v = .tuple ⟨[]⟩ ∧ K H' := by
  apply vc_slices_SortStableFunc___api_Sample_api_Sample_
  exact stable_ok hT hx hn fun H' ys h1 h2 h3 h4 => ⟨rfl, hk H' ys h1 h2 h3 h4⟩

def mrgC {α : Type} (cf : α → α → Int) : List α → List α → List α
  | [], b => b
  | x :: a, [] => x :: a
  | x :: a, y :: b => if cf x y < 0 then x :: mrgC cf a (y :: b) else if cf x y = 0 then y :: mrgC cf a b else y :: mrgC cf (x :: a) b
termination_by a b => a.length + b.length
theorem mrgC_nil {α : Type} {cf : α → α → Int} (b : List α) : mrgC cf [] b = b := by unfold mrgC; rfl
theorem mrgC_nil' {α : Type} {cf : α → α → Int} : ∀ a : List α, mrgC cf a [] = a
  | [] => mrgC_nil _
  | x :: a => by unfold mrgC; rfl
theorem mrgC_cons {α : Type} {cf : α → α → Int} (x y : α) (a b : List α) : mrgC cf (x :: a) (y :: b) = if cf x y < 0 then x :: mrgC cf a (y :: b) else if cf x y = 0 then y :: mrgC cf a b else y :: mrgC cf (x :: a) b := by
  rw [mrgC]

abbrev Hd := Option Addr × Nat × Nat
abbrev Sr := Int × Hd
def encSr : Enc Sr := ⟨fun x => [.int .i64 x.1, .slice x.2.1 x.2.2.1 x.2.2.2], 2, fun _ => rfl, by decide, fun _ v h => by simp at h; rcases h with rfl | rfl <;> rfl⟩
abbrev vSr (x : Sr) : Value := .agg ⟨[.int .i64 x.1, .slice x.2.1 x.2.2.1 x.2.2.2]⟩
theorem elem68 : elemB Tryz.prog 92 2 32 = true := by kernel_rfl
theorem slice37 : sliceB Tryz.prog 52 92 = true := by kernel_rfl
theorem ldSr {H : Heap} {ad : Addr} {x : Sr} (h : CellsAt H ad (encSr.cells x)) : Ld Tryz.prog 92 H ad (vSr x) := ld_many (by kernel_rfl) (by kernel_rfl) h
theorem ldSr1 {H : Heap} {ad : Addr} {x : Sr} (h : CellsAt H ad (encSr.cells x)) : Ld Tryz.prog 90 H (ad.add 1) (.slice x.2.1 x.2.2.1 x.2.2.2) := ld_part (by kernel_rfl) h (j := 1) rfl
theorem ldSr0 {H : Heap} {ad : Addr} {x : Sr} (h : CellsAt H ad (encSr.cells x)) : Ld Tryz.prog 3 H ad (.int .i64 x.1) := ld_cell (by kernel_rfl) (by have := h 0 _ rfl; simpa [Addr.add] using this)
abbrev Rw := Int × Int × Int
def encRw : Enc Rw := ⟨fun x => [.int .i64 x.1, .int .i64 x.2.1, .int .i64 x.2.2], 3, fun _ => rfl, by decide, fun _ v h => by simp at h; rcases h with rfl | rfl | rfl <;> rfl⟩
abbrev vRw (x : Rw) : Value := .agg ⟨[.int .i64 x.1, .int .i64 x.2.1, .int .i64 x.2.2]⟩
theorem elem45 : elemB Tryz.prog 26 3 24 = true := by kernel_rfl
theorem slice34 : sliceB Tryz.prog 22 26 = true := by kernel_rfl
theorem ldRw {H : Heap} {ad : Addr} {x : Rw} (h : CellsAt H ad (encRw.cells x)) : Ld Tryz.prog 26 H ad (vRw x) := ld_many (by kernel_rfl) (by kernel_rfl) h
def cfSr (x y : Sr) : Int := cmpI x.1 y.1
def cfRw (x y : Rw) : Int := if cmpI x.1 y.1 ≠ 0 then cmpI x.1 y.1 else cmpI x.2.1 y.2.1
def ByS (order : Value) : Prop := ∀ (x y : Sr) (H : Heap) (K : Int → Heap → Prop), (∀ H', Fr [] H H' → K (cfSr x y) H') → CallV Tryz.prog order [vSr x, vSr y] H fun v H' => ∃ n, v = .int .i64 n ∧ K n H'
def ByR (order : Value) : Prop := ∀ (x y : Rw) (H : Heap) (K : Int → Heap → Prop), (∀ H', Fr [] H H' → K (cfRw x y) H') → CallV Tryz.prog order [vRw x, vRw y] H fun v H' => ∃ n, v = .int .i64 n ∧ K n H'
theorem byId_ok {x y : Sr} {H : Heap} {K : Int → Heap → Prop} (hk : ∀ H', Fr [] H H' → K (cfSr x y) H') : CallH Tryz.prog fn_series_Put_2 ⟨[vSr x, vSr y]⟩ H fun v H' => ∃ n, v = .int .i64 n ∧ K n H' := by
  apply vc_series_Put_2
  intro b H1 hn1 b1 H2 hn2
  have hf := hn1.fr.keep0 hn2.fr
  exact ⟨_, (hn1.blk.keep hn2.fr).ld0 (by kernel_rfl) rfl, _, hn2.blk.ld0 (by kernel_rfl) rfl, Compare_ok ⟨_, rfl, hk H2 hf⟩⟩
theorem byS : ByS (.func (.func 75) #[] #[]) := fun x y H K hk => ⟨75, #[], #[], rfl, by kernel_rfl, byId_ok hk⟩
theorem mergeS_ok {order : Value} {a b : Option Addr} {n c m d : Nat} {xs ys : List Sr} {H : Heap} {K : Option Addr → Nat → Nat → Heap → Prop} (ho : ByS order) (hx : Sl encSr H a n c xs) (hy : Sl encSr H b m d ys)
    (hlen : n + m ≤ 1000000000) (hk : ∀ a' n' c' H', Own encSr 92 H.size H' a' n' c' (mrgC cfSr xs ys) → Fr [] H H' → K a' n' c' H') :
    CallH Tryz.prog fn_series_merge_series_Series_ ⟨[.slice a n c, .slice b m d, order]⟩ H fun v H' => ∃ a n c, v = .slice a n c ∧ K a n c H' := by
  apply vc_series_merge_series_Series_
  rw [wrap64_of (by omega) (by omega)]
  refine mk_own (E := encSr) slice37 elem68 (by omega) (by omega) fun b0 H1 ho1 hf1 => ?_
  refine ⟨fun vs H' => match vs with
      | [.slice a n c, .slice b m d, .slice o p q] => ∃ zs us ws, Sl encSr H a n c zs ∧ Sl encSr H b m d us ∧ Own encSr 92 H.size H' o p q ws ∧ ws ++ mrgC cfSr zs us = mrgC cfSr xs ys ∧ p + n + m ≤ 1000000000 ∧ Fr [] H H'
      | _ => False,
    fun vs _ => match vs with | [.slice _ n _, .slice _ m _, _] => n + m | _ => 0, ⟨xs, ys, [], hx, hy, ho1, rfl, by omega, hf1⟩, ?_⟩
  rintro J a n c b m d o p q H2 ⟨zs, us, ws, hz, hu, hw, he, hsz, hf⟩
  have hn := hz.len
  have hm := hu.len
  have hp := hw.1
  have hcz := hz.cap
  have hcu := hu.cap
  have last : (zs = [] ∨ us = []) → SemWp Tryz.prog (Builtin.append_ ⟨[52, 52]⟩ 52 ⟨[.slice o p q, .slice a n c]⟩) H2 fun v H' => ∃ a n c, v = .slice a n c ∧ SemWp Tryz.prog (Builtin.append_ ⟨[52, 52]⟩ 52 ⟨[.slice a n c, .slice b m d]⟩) H' fun v H' => ∃ a n c, v = .slice a n c ∧ (∃ a_1 n_1 c_1, Value.slice a n c = .slice a_1 n_1 c_1 ∧ K a_1 n_1 c_1 H') := by
    intro he0
    refine ap_own (E := encSr) slice37 elem68 hw hf (hz.keep hf) (by omega) fun o2 p2 q2 H3 hw2 hf2 _ => ?_
    have hb2 := hw2.1
    refine ap_own (E := encSr) slice37 elem68 hw2 hf2 (hu.keep hf2) (by simp at hb2; omega) fun o3 p3 q3 H4 hw3 hf3 _ => ⟨_, _, _, rfl, hk _ _ _ _ ?_ hf3⟩
    rw [List.append_assoc] at hw3
    have : zs ++ us = mrgC cfSr zs us := by
      rcases he0 with rfl | rfl
      · rw [mrgC_nil]; rfl
      · rw [mrgC_nil']; simp
    rwa [this, he] at hw3
  refine ⟨fun _ H' => H' = H2 ∧ 0 < n ∧ 0 < m, brB_of (fun h0 => brB_of (fun h1 => ⟨rfl, by simpa using h0, by simpa using h1⟩) (fun h1 => last (.inr ?_))) (fun h0 => last (.inl ?_)), ?_⟩
  rotate_left 2
  · rintro J H2 ⟨rfl, h0, h1⟩
    cases zs with
    | nil => simp at hn; omega
    | cons x zs =>
    cases us with
    | nil => simp at hm; omega
    | cons y us =>
    simp only [List.length_cons] at hn hm
    have hz1 : Sl encSr H (slA c 1 2 a) ((n : Int).toNat - 1) (c - 1) zs := by
      have := hz.drop (k := 1) (by omega)
      rwa [Int.toNat_natCast]
    have hu1 : Sl encSr H (slA d 1 2 b) ((m : Int).toNat - 1) (d - 1) us := by
      have := hu.drop (k := 1) (by omega)
      rwa [Int.toNat_natCast]
    refine (hz.keep hf).head (decide_eq_true (by omega)) fun ad ea hc => ⟨_, _, _, _, ldSr hc, ?_⟩
    refine (hu.keep hf).head (decide_eq_true (by omega)) fun bd eb hd => ⟨_, _, _, _, ldSr hd, ?_⟩
    refine ho x y H2 _ fun H3 hf3 => ?_
    have hf' := hf.keep0 hf3
    have hw' := hw.keep hf3
    rw [mrgC_cons] at he
    refine brB_of (fun h2 => ?_) (fun h2 => brB_of (fun h3 => ?_) (fun h3 => ?_))
    · have hlt : cfSr x y < 0 := of_decide_eq_true h2
      rw [if_pos hlt] at he
      refine (hz.keep hf').head (decide_eq_true (by omega)) fun ad ea hc => ⟨_, _, _, _, ldSr hc, chk_of ⟨by omega, by omega, by omega⟩ ?_⟩
      refine ap_one (E := encSr) x slice37 elem68 hw' hf' rfl (by omega) fun _ o2 p2 q2 H4 hw2 hf2 _ => ?_
      have hb2 := hw2.1
      simp at hb2
      exact ⟨⟨zs, y :: us, ws ++ [x], hz1, hu, hw2, by rw [← he]; simp, by omega, hf2⟩, by show (n : Int).toNat - 1 + m < n + m; omega⟩
    · have hge : ¬ cfSr x y < 0 ∧ cfSr x y = 0 := ⟨of_decide_eq_false h2, by simpa using h3⟩
      rw [if_neg hge.1, if_pos hge.2] at he
      refine chk_of ⟨by omega, by omega, by omega⟩ ?_
      refine (hu.keep hf').head (decide_eq_true (by omega)) fun ad ea hc => ⟨_, _, _, _, ldSr hc, chk_of ⟨by omega, by omega, by omega⟩ ?_⟩
      refine ap_one (E := encSr) y slice37 elem68 hw' hf' rfl (by omega) fun _ o2 p2 q2 H4 hw2 hf2 _ => ?_
      have hb2 := hw2.1
      simp at hb2
      exact ⟨⟨zs, us, ws ++ [y], hz1, hu1, hw2, by rw [← he]; simp, by omega, hf2⟩, by show (n : Int).toNat - 1 + ((m : Int).toNat - 1) < n + m; omega⟩
    · have hge : ¬ cfSr x y < 0 ∧ ¬ cfSr x y = 0 := ⟨of_decide_eq_false h2, by simpa using h3⟩
      rw [if_neg hge.1, if_neg hge.2] at he
      refine (hu.keep hf').head (decide_eq_true (by omega)) fun ad ea hc => ⟨_, _, _, _, ldSr hc, chk_of ⟨by omega, by omega, by omega⟩ ?_⟩
      refine ap_one (E := encSr) y slice37 elem68 hw' hf' rfl (by omega) fun _ o2 p2 q2 H4 hw2 hf2 _ => ?_
      have hb2 := hw2.1
      simp at hb2
      exact ⟨⟨x :: zs, us, ws ++ [y], hz, hu1, hw2, by rw [← he]; simp, by omega, hf2⟩, by show n + ((m : Int).toNat - 1) < n + m; omega⟩
  · cases us with
    | nil => rfl
    | cons y us => simp at hm h1; omega
  · cases zs with
    | nil => rfl
    | cons y us => simp at hn h0; omega

theorem mergeR_ok {order : Value} {a b : Option Addr} {n c m d : Nat} {xs ys : List Rw} {H : Heap} {K : Option Addr → Nat → Nat → Heap → Prop} (ho : ByR order) (hx : Sl encRw H a n c xs) (hy : Sl encRw H b m d ys)
    (hlen : n + m ≤ 1000000000) (hk : ∀ a' n' c' H', Own encRw 26 H.size H' a' n' c' (mrgC cfRw xs ys) → Fr [] H H' → K a' n' c' H') :
    CallH Tryz.prog fn_series_merge_api_Row_ ⟨[.slice a n c, .slice b m d, order]⟩ H fun v H' => ∃ a n c, v = .slice a n c ∧ K a n c H' := by
  apply vc_series_merge_api_Row_
  rw [wrap64_of (by omega) (by omega)]
  refine mk_own (E := encRw) slice34 elem45 (by omega) (by omega) fun b0 H1 ho1 hf1 => ?_
  refine ⟨fun vs H' => match vs with
      | [.slice a n c, .slice b m d, .slice o p q] => ∃ zs us ws, Sl encRw H a n c zs ∧ Sl encRw H b m d us ∧ Own encRw 26 H.size H' o p q ws ∧ ws ++ mrgC cfRw zs us = mrgC cfRw xs ys ∧ p + n + m ≤ 1000000000 ∧ Fr [] H H'
      | _ => False,
    fun vs _ => match vs with | [.slice _ n _, .slice _ m _, _] => n + m | _ => 0, ⟨xs, ys, [], hx, hy, ho1, rfl, by omega, hf1⟩, ?_⟩
  rintro J a n c b m d o p q H2 ⟨zs, us, ws, hz, hu, hw, he, hsz, hf⟩
  have hn := hz.len
  have hm := hu.len
  have hp := hw.1
  have hcz := hz.cap
  have hcu := hu.cap
  have last : (zs = [] ∨ us = []) → SemWp Tryz.prog (Builtin.append_ ⟨[22, 22]⟩ 22 ⟨[.slice o p q, .slice a n c]⟩) H2 fun v H' => ∃ a n c, v = .slice a n c ∧ SemWp Tryz.prog (Builtin.append_ ⟨[22, 22]⟩ 22 ⟨[.slice a n c, .slice b m d]⟩) H' fun v H' => ∃ a n c, v = .slice a n c ∧ (∃ a_1 n_1 c_1, Value.slice a n c = .slice a_1 n_1 c_1 ∧ K a_1 n_1 c_1 H') := by
    intro he0
    refine ap_own (E := encRw) slice34 elem45 hw hf (hz.keep hf) (by omega) fun o2 p2 q2 H3 hw2 hf2 _ => ?_
    have hb2 := hw2.1
    refine ap_own (E := encRw) slice34 elem45 hw2 hf2 (hu.keep hf2) (by simp at hb2; omega) fun o3 p3 q3 H4 hw3 hf3 _ => ⟨_, _, _, rfl, hk _ _ _ _ ?_ hf3⟩
    rw [List.append_assoc] at hw3
    have : zs ++ us = mrgC cfRw zs us := by
      rcases he0 with rfl | rfl
      · rw [mrgC_nil]; rfl
      · rw [mrgC_nil']; simp
    rwa [this, he] at hw3
  refine ⟨fun _ H' => H' = H2 ∧ 0 < n ∧ 0 < m, brB_of (fun h0 => brB_of (fun h1 => ⟨rfl, by simpa using h0, by simpa using h1⟩) (fun h1 => last (.inr ?_))) (fun h0 => last (.inl ?_)), ?_⟩
  rotate_left 2
  · rintro J H2 ⟨rfl, h0, h1⟩
    cases zs with
    | nil => simp at hn; omega
    | cons x zs =>
    cases us with
    | nil => simp at hm; omega
    | cons y us =>
    simp only [List.length_cons] at hn hm
    have hz1 : Sl encRw H (slA c 1 3 a) ((n : Int).toNat - 1) (c - 1) zs := by
      have := hz.drop (k := 1) (by omega)
      rwa [Int.toNat_natCast]
    have hu1 : Sl encRw H (slA d 1 3 b) ((m : Int).toNat - 1) (d - 1) us := by
      have := hu.drop (k := 1) (by omega)
      rwa [Int.toNat_natCast]
    refine (hz.keep hf).head (decide_eq_true (by omega)) fun ad ea hc => ⟨_, _, _, ldRw hc, ?_⟩
    refine (hu.keep hf).head (decide_eq_true (by omega)) fun bd eb hd => ⟨_, _, _, ldRw hd, ?_⟩
    refine ho x y H2 _ fun H3 hf3 => ?_
    have hf' := hf.keep0 hf3
    have hw' := hw.keep hf3
    rw [mrgC_cons] at he
    refine brB_of (fun h2 => ?_) (fun h2 => brB_of (fun h3 => ?_) (fun h3 => ?_))
    · have hlt : cfRw x y < 0 := of_decide_eq_true h2
      rw [if_pos hlt] at he
      refine (hz.keep hf').head (decide_eq_true (by omega)) fun ad ea hc => ⟨_, _, _, ldRw hc, chk_of ⟨by omega, by omega, by omega⟩ ?_⟩
      refine ap_one (E := encRw) x slice34 elem45 hw' hf' rfl (by omega) fun _ o2 p2 q2 H4 hw2 hf2 _ => ?_
      have hb2 := hw2.1
      simp at hb2
      exact ⟨⟨zs, y :: us, ws ++ [x], hz1, hu, hw2, by rw [← he]; simp, by omega, hf2⟩, by show (n : Int).toNat - 1 + m < n + m; omega⟩
    · have hge : ¬ cfRw x y < 0 ∧ cfRw x y = 0 := ⟨of_decide_eq_false h2, by simpa using h3⟩
      rw [if_neg hge.1, if_pos hge.2] at he
      refine chk_of ⟨by omega, by omega, by omega⟩ ?_
      refine (hu.keep hf').head (decide_eq_true (by omega)) fun ad ea hc => ⟨_, _, _, ldRw hc, chk_of ⟨by omega, by omega, by omega⟩ ?_⟩
      refine ap_one (E := encRw) y slice34 elem45 hw' hf' rfl (by omega) fun _ o2 p2 q2 H4 hw2 hf2 _ => ?_
      have hb2 := hw2.1
      simp at hb2
      exact ⟨⟨zs, us, ws ++ [y], hz1, hu1, hw2, by rw [← he]; simp, by omega, hf2⟩, by show (n : Int).toNat - 1 + ((m : Int).toNat - 1) < n + m; omega⟩
    · have hge : ¬ cfRw x y < 0 ∧ ¬ cfRw x y = 0 := ⟨of_decide_eq_false h2, by simpa using h3⟩
      rw [if_neg hge.1, if_neg hge.2] at he
      refine (hu.keep hf').head (decide_eq_true (by omega)) fun ad ea hc => ⟨_, _, _, ldRw hc, chk_of ⟨by omega, by omega, by omega⟩ ?_⟩
      refine ap_one (E := encRw) y slice34 elem45 hw' hf' rfl (by omega) fun _ o2 p2 q2 H4 hw2 hf2 _ => ?_
      have hb2 := hw2.1
      simp at hb2
      exact ⟨⟨x :: zs, us, ws ++ [y], hz, hu1, hw2, by rw [← he]; simp, by omega, hf2⟩, by show n + ((m : Int).toNat - 1) < n + m; omega⟩
  · cases us with
    | nil => rfl
    | cons y us => simp at hm h1; omega
  · cases zs with
    | nil => rfl
    | cons y us => simp at hn h0; omega


theorem Or_ok {H : Heap} {a : Option Addr} {c : Nat} {x y : Int} {K : Int → Heap → Prop} (hx : Sl encInt H a 2 c [x, y]) (hk : K (if x ≠ 0 then x else y) H) :
    CallH Tryz.prog fn_cmp_Or_int_ ⟨[.slice a 2 c]⟩ H fun v H' => ∃ n, v = .int .i64 n ∧ K n H' := by
  apply vc_cmp_Or_int_
  refine ⟨fun vs H' => match vs with | [.int _ i] => H' = H ∧ (i = 0 ∨ (i = 1 ∧ x = 0) ∨ (i = 2 ∧ x = 0 ∧ y = 0)) | _ => False, fun vs _ => match vs with | [.int _ i] => 2 - i.toNat | _ => 0, ⟨rfl, .inl rfl⟩, ?_⟩
  rintro J i H1 ⟨rfl, h⟩
  rcases h with rfl | ⟨rfl, hx0⟩ | ⟨rfl, hx0, hy0⟩
  · refine brB_of (fun _ => ?_) (fun h => by simp at h)
    refine hx.get (k := 0) rfl rfl (decide_eq_true (by omega)) fun ad ea hc => ⟨_, ld_one (by kernel_rfl) hc, brB_of (fun h => ⟨_, rfl, ?_⟩) (fun h => ?_)⟩
    · rw [if_pos (by simpa using h)] at hk; exact hk
    · exact ⟨⟨rfl, .inr (.inl ⟨by decide, by simpa using h⟩)⟩, show 2 - (IntKind.i64.wrap (0 + 1)).toNat < 2 - (0 : Int).toNat by decide⟩
  · refine brB_of (fun _ => ?_) (fun h => by simp at h)
    refine hx.get (k := 1) rfl rfl (decide_eq_true (by omega)) fun ad ea hc => ⟨_, ld_one (by kernel_rfl) hc, brB_of (fun h => ⟨_, rfl, ?_⟩) (fun h => ?_)⟩
    · rw [if_neg (by simpa using hx0)] at hk; exact hk
    · exact ⟨⟨rfl, .inr (.inr ⟨by decide, hx0, by simpa using h⟩)⟩, show 2 - (IntKind.i64.wrap (1 + 1)).toNat < 2 - (1 : Int).toNat by decide⟩
  · refine brB_of (fun h => by simp at h) (fun _ => ⟨_, rfl, ?_⟩)
    rw [if_neg (by simpa using hx0), hy0] at hk; exact hk
theorem byRow_ok {x y : Rw} {H : Heap} {K : Int → Heap → Prop} (hk : ∀ H', Fr [] H H' → K (cfRw x y) H') : CallH Tryz.prog fn_series_byRow ⟨[vRw x, vRw y]⟩ H fun v H' => ∃ n, v = .int .i64 n ∧ K n H' := by
  apply vc_series_byRow
  intro b H1 hn1 b1 H2 hn2
  have hf := hn1.fr.keep0 hn2.fr
  have g1 : Blk H2 ⟨b, 0, none⟩ (encRw.cells x) := hn1.blk.keep hn2.fr
  have g2 : Blk H2 ⟨b1, 0, none⟩ (encRw.cells y) := hn2.blk
  refine ⟨_, g1.ld0 (by kernel_rfl) rfl, _, g2.ld0 (by kernel_rfl) rfl, _, g1.ldK (j := 1) (by kernel_rfl) rfl, _, g2.ldK (j := 1) (by kernel_rfl) rfl, ?_⟩
  refine Compare_ok ⟨g2.ldK (j := 1) (by kernel_rfl) rfl, g1.ldK (j := 1) (by kernel_rfl) rfl, Compare_ok ?_⟩
  intro b3 H3 hn3
  have hs : Sl encInt H3 (some ⟨b3, 0, none⟩) 2 2 [cmpI x.1 y.1, cmpI x.2.1 y.2.1] := by
    refine ⟨rfl, Nat.le_refl _, .inr ⟨b3, 0, rfl, fun i z hz j v hv => ?_⟩⟩
    have hj0 : j = 0 := by
      have : (encInt.cells z).length = 1 := rfl
      have := (List.getElem?_eq_some_iff.1 hv).1
      omega
    subst hj0
    have hv2 : v = .int .i64 z := by simpa [encInt] using hv.symm
    subst hv2
    rw [cell_of_blk hn3.get]
    have e : encInt.sz = 1 := rfl
    rw [e]
    match i with
    | 0 => simp at hz; subst hz; rfl
    | 1 => simp at hz; subst hz; rfl
    | k + 2 => simp at hz
  exact Or_ok hs ⟨_, rfl, hk H3 (hf.keep0 hn3.fr)⟩
theorem byR : ByR (.func (.func 58) #[] #[]) := fun x y H K hk => ⟨58, #[], #[], rfl, by kernel_rfl, byRow_ok hk⟩

theorem Reverse_ok {base : Nat} {H : Heap} {a : Option Addr} {n c : Nat} {xs : List Smp} {K : Heap → Prop} (hx : Own encS 107 base H a n c xs) (hn : n ≤ 1000000000) (hk : ∀ H', Own encS 107 base H' a n c xs.reverse → Fr (blkL a) H H' → K H') :
    CallH Tryz.prog fn_slices_Reverse___api_Sample_api_Sample_ ⟨[.slice a n c]⟩ H fun v H' => v = .tuple ⟨[]⟩ ∧ K H' := by
  apply vc_slices_Reverse___api_Sample_api_Sample_
  have hl := hx.1
  rw [wrap64_of (n := (n : Int) - 1) (by omega) (by omega)]
  refine ⟨fun vs H' => match vs with
      | [.int _ i, .int _ j] => ∃ A M B : List Smp, xs = A ++ (M ++ B) ∧ A.length = B.length ∧ i = (A.length : Int) ∧ j = (n : Int) - 1 - A.length ∧ Own encS 107 base H' a n c (B.reverse ++ (M ++ A.reverse)) ∧ Fr (blkL a) H H'
      | _ => False,
    fun vs _ => match vs with | [.int _ i, _] => n - i.toNat | _ => 0, ⟨[], xs, [], by simp, rfl, rfl, by simp, by simpa using hx, Fr.refl _ _⟩, ?_⟩
  rintro J i j H1 ⟨A, M, B, rfl, hAB, rfl, rfl, ho, hf⟩
  simp only [List.length_append] at hl
  refine brB_of (fun h0 => ?_) (fun h0 => ?_)
  · have h0' : 2 ≤ M.length := by have := of_decide_eq_true h0; omega
    obtain ⟨x, M, rfl⟩ : ∃ x M', M = x :: M' := by cases M with | nil => simp at h0' | cons x M => exact ⟨x, M, rfl⟩
    obtain ⟨M, y, rfl⟩ : ∃ M' y, M = M' ++ [y] := ⟨M.dropLast, M.getLast (by intro e; subst e; simp at h0'), (List.dropLast_concat_getLast _).symm⟩
    simp only [List.length_append, List.length_cons, List.length_nil] at hl h0'
    have ej : (n : Int) - 1 - A.length = ((A.length + M.length + 1 : Nat) : Int) := by omega
    rw [ej]
    have e1 : B.reverse ++ ((x :: (M ++ [y])) ++ A.reverse) = B.reverse ++ x :: (M ++ y :: A.reverse) := by simp
    have e2 : B.reverse ++ ((x :: (M ++ [y])) ++ A.reverse) = (B.reverse ++ x :: M) ++ y :: A.reverse := by simp
    refine ho.sl.get (k := A.length + M.length + 1) rfl (by rw [e2]; exact mid0 (by simp; omega)) (decide_eq_true (by omega)) fun ad ea hc => ⟨_, _, ldS hc, ?_⟩
    refine ho.sl.get (k := A.length) rfl (by rw [e1]; exact mid0 (by simp; omega)) (decide_eq_true (by omega)) fun ad ea hc => ⟨_, _, ldS hc, ?_⟩
    refine own_put (E := encS) (k := A.length) y ho rfl (by omega) (decide_eq_true (by omega)) rfl (by kernel_rfl) (by kernel_rfl) fun H2 ho2 hf2 => ?_
    rw [e1, mset0 (by simp; omega)] at ho2
    have e3 : B.reverse ++ y :: (M ++ y :: A.reverse) = (B.reverse ++ y :: M) ++ y :: A.reverse := by simp
    refine own_put (E := encS) (k := A.length + M.length + 1) x ho2 rfl (by omega) (decide_eq_true (by omega)) rfl (by kernel_rfl) (by kernel_rfl) fun H3 ho3 hf3 => ?_
    rw [e3, mset0 (by simp; omega)] at ho3
    rw [succ64 (by omega), pred64 (by omega) (by omega)]
    refine ⟨⟨A ++ [x], M, y :: B, by simp, by simp; omega, by simp, by simp; omega, by simpa using ho3, (hf.trans' hf2 (fun _ h _ => h) (fun _ h _ => h)).trans' hf3 (fun _ h _ => h) (fun _ h _ => h)⟩, ?_⟩
    show n - ((A.length + 1 : Nat) : Int).toNat < n - ((A.length : Nat) : Int).toNat
    omega
  · have h0' : M.length ≤ 1 := by have := of_decide_eq_false h0; omega
    refine ⟨rfl, hk H1 ?_ hf⟩
    have : M.reverse = M := by
      match M, h0' with
      | [], _ => rfl
      | [x], _ => rfl
    simpa [this] using ho

def ddF (p : Option Int) : List Smp → List Smp
  | [] => []
  | x :: l => if p = some x.1 then ddF (some x.1) l else x :: ddF (some x.1) l
def lastT (p : Option Int) (u : List Smp) : Option Int := match u.getLast? with | some y => some y.1 | none => p
theorem ddF_snoc (x : Smp) : ∀ (u : List Smp) (p : Option Int), ddF p (u ++ [x]) = ddF p u ++ (if lastT p u = some x.1 then [] else [x])
  | [], p => by
    unfold lastT
    simp only [List.nil_append, List.getLast?_nil]
    show (if p = some x.1 then ddF (some x.1) [] else x :: ddF (some x.1) []) = [] ++ (if p = some x.1 then [] else [x])
    by_cases h : p = some x.1
    · rw [if_pos h, if_pos h]; rfl
    · rw [if_neg h, if_neg h]; rfl
  | y :: u, p => by
    have ih := ddF_snoc x u (some y.1)
    have e : lastT p (y :: u) = lastT (some y.1) u := by
      unfold lastT
      rw [List.getLast?_cons]
      cases u.getLast? <;> rfl
    rw [e]
    show (if p = some y.1 then ddF (some y.1) (u ++ [x]) else y :: ddF (some y.1) (u ++ [x])) = (if p = some y.1 then ddF (some y.1) u else y :: ddF (some y.1) u) ++ _
    rw [ih]
    split <;> simp
def dd (l : List Smp) : List Smp := ddF none l
theorem dd_take {xs : List Smp} {k : Nat} {x y : Smp} (hy : xs[k]? = some y) (hx : xs[k + 1]? = some x) : dd (xs.take (k + 2)) = dd (xs.take (k + 1)) ++ (if y.1 = x.1 then [] else [x]) := by
  have e : xs.take (k + 2) = xs.take (k + 1) ++ [x] := by rw [List.take_add_one, hx]; rfl
  have e2 : lastT none (xs.take (k + 1)) = some y.1 := by
    unfold lastT
    rw [show xs.take (k + 1) = xs.take k ++ [y] by rw [List.take_add_one, hy]; rfl]
    simp
  unfold dd
  rw [e, ddF_snoc, e2]
  simp
theorem dd_one {xs : List Smp} (h : xs ≠ []) : dd (xs.take 1) = xs.take 1 := by
  cases xs with
  | nil => exact absurd rfl h
  | cons x l => rfl
def Tells2 (D : Value) : Prop := ∀ (x y : Smp) (H : Heap) (K : Bool → Heap → Prop), (∀ H', Fr [] H H' → K (x.1 == y.1) H') → CallV Tryz.prog D [vS x, vS y] H fun v H' => ∃ b, v = .bool b ∧ K b H'
theorem tells_eq : Tells2 (.func (.func 74) #[] #[]) := fun x y H K hk => ⟨74, #[], #[], rfl, by kernel_rfl, by
  apply vc_series_Put_1
  intro b H1 hn1 b1 H2 hn2
  exact ⟨_, (hn1.blk.keep hn2.fr).ld0 (by kernel_rfl) rfl, _, hn2.blk.ld0 (by kernel_rfl) rfl, _, rfl, hk H2 (hn1.fr.keep0 hn2.fr)⟩⟩
theorem dd_len (p : Option Int) : ∀ l : List Smp, (ddF p l).length ≤ l.length
  | [] => Nat.le_refl _
  | x :: l => by
    have ih := dd_len (some x.1) l
    show (if p = some x.1 then ddF (some x.1) l else x :: ddF (some x.1) l).length ≤ _
    split <;> simp <;> omega
theorem Compact_ok {D : Value} {base : Nat} {a : Option Addr} {n c : Nat} {xs : List Smp} {H : Heap} {K : Option Addr → Nat → Nat → Heap → Prop} (hD : Tells2 D) (ho : Own encS 107 base H a n c xs) (hn : n ≤ 1000000000)
    (hk : ∀ n' H', Own encS 107 base H' a n' c (dd xs) → n' ≤ n → Fr (blkL a) H H' → K a n' c H') :
    CallH Tryz.prog fn_slices_CompactFunc___api_Sample_api_Sample_ ⟨[.slice a n c, D]⟩ H fun v H' => ∃ a n c, v = .slice a n c ∧ K a n c H' := by
  apply vc_slices_CompactFunc___api_Sample_api_Sample_
  have hl := ho.1
  refine brB_of (fun h => ⟨_, _, _, rfl, hk n H ?_ (Nat.le_refl _) (Fr.refl _ _)⟩) (fun h => ?_)
  · have h2 : xs.length < 2 := by simp at h; omega
    match xs, h2 with
    | [], _ => exact ho
    | [x], _ => exact ho
  have h2 : 2 ≤ n := by simp at h; omega
  have hne : xs ≠ [] := by intro e; subst e; simp at hl; omega
  refine ⟨fun vs H' => match vs with | [.int _ i] => ∃ k : Nat, i = ((k + 1 : Nat) : Int) ∧ k + 1 ≤ n ∧ dd (xs.take (k + 1)) = xs.take (k + 1) ∧ Fr [] H H' | _ => False,
    fun vs _ => match vs with | [.int _ i] => n - i.toNat | _ => 0, ⟨0, rfl, by omega, dd_one hne, Fr.refl _ _⟩, ?_⟩
  rintro J i H1 ⟨k, rfl, hkn, hdd, hf⟩
  have ho1 := ho.keep hf
  refine brB_of (fun h0 => ?_) (fun h0 => ?_)
  · have h0' : k + 1 < n := by simp at h0; omega
    have hx1 : xs[k + 1]? = some (xs[k + 1]'(by omega)) := by simp
    generalize xs[k + 1]'(by omega) = x at hx1
    have hy1 : xs[k]? = some (xs[k]'(by omega)) := by simp
    generalize xs[k]'(by omega) = y at hy1
    have hd2 := dd_take hy1 hx1
    rw [pred64 (by omega) (by omega), show k + 1 - 1 = k by omega, succ64 (by omega)]
    refine ho1.sl.get rfl hx1 (decide_eq_true (by omega)) fun ad ea hc => ⟨_, _, ldS hc, ?_⟩
    refine ho1.sl.get rfl hy1 (decide_eq_true (by omega)) fun ad ea hc => ⟨_, _, ldS hc, ?_⟩
    refine hD x y H1 _ fun H2 hf2 => ?_
    have hf02 := hf.keep0 hf2
    refine brB_of (fun h3 => ?_) (fun h3 => ⟨⟨k + 1, rfl, by omega, ?_, hf02⟩, ?_⟩)
    rotate_left
    · rw [hd2, if_neg (by intro e; simp [e] at h3), hdd, List.take_add_one (i := k + 1), hx1]; rfl
    · show n - ((k + 1 + 1 : Nat) : Int).toNat < n - ((k + 1 : Nat) : Int).toNat
      omega
    have hxy : x.1 = y.1 := by simpa using h3
    refine chk_of ⟨by omega, by omega, by have := ho1.sl.cap; omega⟩ ?_
    simp only [Int.toNat_natCast]
    refine ⟨fun vs H' => match vs with | [.int _ i, .int _ j] => ∃ (m q : Nat) (ws : List Smp), i = m ∧ j = ((q + 1 : Nat) : Int) ∧ m ≤ k + 1 + q ∧ k + 1 + q + 1 ≤ n ∧ Own encS 107 base H' a n c ws ∧ ws.take m = dd (xs.take (k + 1 + q + 1)) ∧ ws.drop (k + 1 + q) = xs.drop (k + 1 + q) ∧ Fr (blkL a) H H' | _ => False,
      fun vs _ => match vs with | [_, .int _ i] => n - i.toNat | _ => 0, ⟨k + 1, 0, xs, rfl, rfl, by omega, by omega, ho1.keep hf2, ?_, rfl, hf02.mono (by simp)⟩, ?_⟩
    · rw [hd2, if_pos hxy.symm, hdd, List.append_nil]
    rintro J i j H3 ⟨m, q, ws, rfl, rfl, hmq, hqn, how, htk, hdr, hf3⟩
    have hlw := how.1
    refine brB_of (fun h4 => ?_) (fun h4 => ?_)
    · have h4' : k + 1 + q + 1 < n := by have := of_decide_eq_true h4; omega
      have hx2 : xs[k + 1 + q + 1]? = some (xs[k + 1 + q + 1]'(by omega)) := by simp
      generalize xs[k + 1 + q + 1]'(by omega) = x2 at hx2
      have hy2 : xs[k + 1 + q]? = some (xs[k + 1 + q]'(by omega)) := by simp
      generalize xs[k + 1 + q]'(by omega) = y2 at hy2
      have hwx : ws[k + 1 + q + 1]? = some x2 := by
        have := congrArg (fun l => l[1]?) hdr
        simp only [List.getElem?_drop] at this
        rw [show k + 1 + q + 1 = k + 1 + q + 1 from rfl, this, hx2]
      have hwy : ws[k + 1 + q]? = some y2 := by
        have := congrArg (fun l => l[0]?) hdr
        simp only [List.getElem?_drop, Nat.add_zero] at this
        rw [this, hy2]
      have hd3 := dd_take hy2 hx2
      have hdr2 : ws.drop (k + 1 + (q + 1)) = xs.drop (k + 1 + (q + 1)) := by
        have := congrArg (fun l => l.drop 1) hdr
        simpa [List.drop_drop, Nat.add_assoc] using this
      have hcut := how.sl.drop (k := k + 1) (by omega)
      rw [pred64 (by omega) (by omega), show q + 1 - 1 = q by omega]
      have g1 : (ws.drop (k + 1))[q + 1]? = some x2 := by rw [List.getElem?_drop]; exact hwx
      have g2 : (ws.drop (k + 1))[q]? = some y2 := by rw [List.getElem?_drop]; exact hwy
      refine hcut.get (k := q + 1) rfl g1 (decide_eq_true (by omega)) fun ad ea hc => ⟨_, _, ldS hc, ?_⟩
      refine hcut.get rfl g2 (decide_eq_true (by omega)) fun ad ea hc => ⟨_, _, ldS hc, ?_⟩
      refine hD x2 y2 H3 _ fun H4 hf4 => ?_
      have how4 := how.keep hf4
      have hf04 := hf3.trans' hf4 (T := blkL a) (fun _ h _ => h) (by simp)
      have mu4 : n - ((q + 1 + 1 : Nat) : Int).toNat < n - ((q + 1 : Nat) : Int).toNat := by omega
      refine brB_of (fun h5 => ?_) (fun h5 => by rw [succ64 (by omega)]; exact ⟨⟨m, q + 1, ws, rfl, rfl, by omega, by omega, how4, by
          show ws.take m = dd (xs.take (k + 1 + q + 2))
          rw [hd3, if_pos (by have : x2.1 = y2.1 := by simpa using h5
                              exact this.symm), htk, List.append_nil], hdr2, hf04⟩, mu4⟩)
      · refine (hcut.keep hf4).get rfl g1 (decide_eq_true (by omega)) fun ad ea hc => ⟨_, _, ldS hc, ?_⟩
        rw [succ64 (by omega), succ64 (by omega)]
        refine own_put (E := encS) x2 how4 rfl (by omega) (decide_eq_true (by omega)) rfl (by kernel_rfl) (by kernel_rfl) fun H5 how5 hf5 => ⟨⟨m + 1, q + 1, _, rfl, rfl, by omega, by omega, how5, ?_, ?_, hf04.trans' hf5 (fun _ h _ => h) (fun _ h _ => h)⟩, mu4⟩
        · show (ws.set m x2).take (m + 1) = dd (xs.take (k + 1 + q + 2))
          rw [hd3, if_neg (by intro e; simp [e] at h5), ← htk, List.take_add_one, List.take_set_of_le (Nat.le_refl _), List.getElem?_set_self (by omega)]
          rfl
        · rw [List.drop_set_of_lt (by omega)]; exact hdr2
    · have h4' : k + 1 + q + 1 = n := by have := of_decide_eq_false h4; omega
      have hcap := how.sl.cap
      refine chk_of ⟨by omega, by omega, by omega⟩ ?_
      simp only [Int.toNat_natCast]
      refine clear_tail (E := encS) slice22 zero26 rfl (by simp [Value.oneCell']) how (by omega) fun H4 how4 hf4 => chk_of ⟨by omega, by omega, by omega⟩ ?_
      refine ⟨_, _, _, rfl, hk _ H4 ?_ (by omega) (hf3.trans' hf4 (fun _ h _ => h) (fun _ h _ => h))⟩
      rw [htk, List.take_of_length_le (by omega)] at how4
      simpa using how4
  · have h0' : k + 1 = n := by simp at h0; omega
    refine ⟨_, _, _, rfl, hk n H1 ?_ (Nat.le_refl _) (hf.mono (by simp))⟩
    rw [List.take_of_length_le (by omega)] at hdd
    rw [hdd]; exact ho1

theorem Search_ok {order : Value} (hS : ByS order) {a : Option Addr} {n c : Nat} {xs : List Sr} {t : Sr} {H : Heap} {K : Int → Bool → Heap → Prop} (hx : Sl encSr H a n c xs) (hn : n ≤ 1000000000) (hr : xs.Pairwise fun x y => x.1 < y.1)
    (hyes : ∀ (k : Nat) x H', xs[k]? = some x → x.1 = t.1 → Fr [] H H' → K k true H') (hno : (∀ x ∈ xs, x.1 ≠ t.1) → ∀ (m : Int) H', Fr [] H H' → K m false H') :
    CallH Tryz.prog fn_slices_BinarySearchFunc___series_Series_series_Series_series_Series_ ⟨[.slice a n c, vSr t, order]⟩ H fun v H' => ∃ m b, v = .tuple ⟨[.int .i64 m, .bool b]⟩ ∧ K m b H' := by
  apply vc_slices_BinarySearchFunc___series_Series_series_Series_series_Series_
  intro b H1 hn1
  have hl := hx.len
  have hlt : ∀ {i j : Nat} {x y : Sr}, i < j → xs[i]? = some x → xs[j]? = some y → x.1 < y.1 := fun {i j x y} hij hx hy => by
    obtain ⟨hi, rfl⟩ := List.getElem?_eq_some_iff.1 hx
    obtain ⟨hj, rfl⟩ := List.getElem?_eq_some_iff.1 hy
    exact List.pairwise_iff_getElem.1 hr i j hi hj hij
  refine ⟨fun vs H' => match vs with
      | [.int _ i, .int _ j] => ∃ p q : Nat, i = p ∧ j = q ∧ p ≤ q ∧ q ≤ n ∧ (∀ k x, k < p → xs[k]? = some x → x.1 < t.1) ∧ (∀ k x, q ≤ k → xs[k]? = some x → t.1 ≤ x.1) ∧ Fr [] H1 H'
      | _ => False,
    fun vs _ => match vs with | [.int _ i, .int _ j] => j.toNat - i.toNat | _ => 0, ⟨0, n, rfl, rfl, by omega, by omega, fun k x h => by omega, fun k x h hx => by have := (List.getElem?_eq_some_iff.1 hx).1; omega, Fr.refl _ _⟩, ?_⟩
  rintro J i j H2 ⟨p, q, rfl, rfl, hpq, hqn, hlo, hhi, hf⟩
  have hf02 := hn1.fr.keep0 hf
  have hb : Blk H2 ⟨b, 0, none⟩ (encSr.cells t) := hn1.blk.keep hf
  have hld : ∀ {H' : Heap}, Fr [] H2 H' → Ld Tryz.prog 92 H' ⟨b, 0, none⟩ (vSr t) := fun hf' => (hb.keep hf').ldA0 (us := encSr.cells t) (by kernel_rfl) (by kernel_rfl) rfl
  refine brB_of (fun h0 => ?_) (fun h0 => ?_)
  · have h0' : p < q := by simpa using h0
    rw [avg64 (by omega)]
    have hh1 : p ≤ (p + q) / 2 := by omega
    have hh2 : (p + q) / 2 < q := by omega
    generalize (p + q) / 2 = h at hh1 hh2
    have hz : xs[h]? = some (xs[h]'(by omega)) := by simp
    generalize xs[h]'(by omega) = z at hz
    refine (hx.keep hf02).get (k := h) rfl hz (decide_eq_true (by omega)) fun ad ea hc => ⟨_, _, _, _, ldSr hc, _, _, _, _, hld (Fr.refl _ _), ?_⟩
    refine hS z t H2 _ fun H3 hf3 => ?_
    rw [succ64 (by omega)]
    refine brB_of (fun h6 => ⟨⟨h + 1, q, rfl, rfl, by omega, hqn, fun k x hk hx => ?_, hhi, hf.keep0 hf3⟩, ?_⟩) (fun h6 => ⟨⟨p, h, rfl, rfl, by omega, by omega, hlo, fun k x hk hx => ?_, hf.keep0 hf3⟩, ?_⟩)
    · have h6 : z.1 < t.1 := cmpI_neg.1 (of_decide_eq_true h6)
      rcases Nat.lt_or_ge k h with h7 | h7
      · have := hlt h7 hx hz; omega
      · have : k = h := by omega
        subst this
        rw [hz] at hx; cases hx; exact h6
    · show ((q : Nat) : Int).toNat - ((h + 1 : Nat) : Int).toNat < ((q : Nat) : Int).toNat - ((p : Nat) : Int).toNat
      omega
    · have h6 : ¬ z.1 < t.1 := fun h => of_decide_eq_false h6 (cmpI_neg.2 h)
      rcases Nat.lt_or_ge h k with h7 | h7
      · have := hlt h7 hz hx; omega
      · have : k = h := by omega
        subst this
        rw [hz] at hx; cases hx; omega
    · show ((h : Nat) : Int).toNat - ((p : Nat) : Int).toNat < ((q : Nat) : Int).toNat - ((p : Nat) : Int).toNat
      omega
  · have h0' : p = q := by simp at h0; omega
    subst h0'
    have none' : (∀ x, xs[p]? = some x → x.1 ≠ t.1) → ∀ x ∈ xs, x.1 ≠ t.1 := fun h x hx => by
      obtain ⟨k, hk⟩ := List.getElem?_of_mem hx
      rcases Nat.lt_or_ge k p with h7 | h7
      · have := hlo k x h7 hk; omega
      · rcases Nat.lt_or_ge p k with h8 | h8
        · have hpl : p < xs.length := by have := (List.getElem?_eq_some_iff.1 hk).1; omega
          have hz : xs[p]? = some xs[p] := by simp
          have h9 := hhi p _ (Nat.le_refl _) hz
          have := hlt h8 hz hk
          omega
        · have : k = p := by omega
          subst this
          exact h x hk
    refine brB_of (fun h1 => ?_) (fun h1 => ⟨_, _, rfl, hno (none' fun x hx => ?_) _ H2 hf02⟩)
    · have h1' : p < n := by simpa using h1
      have hz : xs[p]? = some (xs[p]'(by omega)) := by simp
      generalize xs[p]'(by omega) = z at hz
      refine (hx.keep hf02).get (k := p) rfl hz (decide_eq_true (by omega)) fun ad ea hc => ⟨_, _, _, _, ldSr hc, _, _, _, _, hld (Fr.refl _ _), ?_⟩
      refine hS z t H2 _ fun H3 hf3 => ⟨_, _, rfl, ?_⟩
      have hf03 := hf02.keep0 hf3
      unfold cfSr
      by_cases e : z.1 = t.1
      · have : (cmpI z.1 t.1 == 0) = true := by rw [e]; unfold cmpI; simp
        rw [this]; exact hyes p z H3 hz e hf03
      · have : (cmpI z.1 t.1 == 0) = false := by unfold cmpI; split; rfl; split; rfl; omega
        rw [this]
        exact hno (none' fun x hx => by rw [hz] at hx; cases hx; exact e) _ H3 hf03
    · have := (List.getElem?_eq_some_iff.1 hx).1
      simp at h1; omega
end Go.Proofs
namespace Go.Proofs
set_option linter.unusedVariables false
def valQ (l : List Smp) (t : Int) : Option Int := (l.find? fun x => decide (x.1 = t)).map (·.2)
theorem valQ_nil (t : Int) : valQ [] t = none := rfl
theorem valQ_cons (x : Smp) (l : List Smp) (t : Int) : valQ (x :: l) t = if x.1 = t then some x.2 else valQ l t := by
  unfold valQ
  rw [List.find?_cons]
  by_cases h : x.1 = t
  · rw [if_pos h, decide_eq_true h]; rfl
  · rw [if_neg h, decide_eq_false h]
theorem valQ_app (a b : List Smp) (t : Int) : valQ (a ++ b) t = (valQ a t).or (valQ b t) := by
  induction a with
  | nil => rw [List.nil_append, valQ_nil]; rfl
  | cons x a ih =>
    rw [List.cons_append, valQ_cons, valQ_cons, ih]
    split <;> rfl
theorem valQ_none {l : List Smp} {t : Int} : valQ l t = none ↔ ∀ x ∈ l, x.1 ≠ t := by
  induction l with
  | nil => simp [valQ_nil]
  | cons x l ih =>
    rw [valQ_cons]
    by_cases h : x.1 = t
    · rw [if_pos h]; simp [h]
    · rw [if_neg h, ih]; simp [h]
theorem valQ_mem {l : List Smp} {t v : Int} (h : valQ l t = some v) : (t, v) ∈ l := by
  induction l with
  | nil => simp [valQ_nil] at h
  | cons x l ih =>
    rw [valQ_cons] at h
    by_cases h1 : x.1 = t
    · rw [if_pos h1] at h
      simp only [Option.some.injEq] at h
      rw [show (t, v) = x from Prod.ext h1.symm h.symm]; simp
    · rw [if_neg h1] at h
      exact List.mem_cons_of_mem _ (ih h)
theorem valQ_ris {l : List Smp} (hr : Ris l) {x : Smp} (h : x ∈ l) : valQ l x.1 = some x.2 := by
  induction l with
  | nil => cases h
  | cons y l ih =>
    have hc := ris_cons.1 hr
    rw [valQ_cons]
    rcases List.mem_cons.1 h with rfl | h
    · rw [if_pos rfl]
    · rw [if_neg (by have := hc.1 x h; omega)]; exact ih hc.2 h
theorem ris_eq : ∀ {a b : List Smp}, Ris a → Ris b → (∀ t, valQ a t = valQ b t) → a = b
  | [], [], _, _, _ => rfl
  | [], y :: b, _, _, h => by have := h y.1; rw [valQ_nil, valQ_cons, if_pos rfl] at this; cases this
  | x :: a, [], _, _, h => by have := h x.1; rw [valQ_nil, valQ_cons, if_pos rfl] at this; cases this
  | x :: a, y :: b, ha, hb, h => by
    have ha' := ris_cons.1 ha
    have hb' := ris_cons.1 hb
    have hxy : x.1 = y.1 := by
      rcases Int.lt_trichotomy x.1 y.1 with h1 | h1 | h1
      · have := h x.1
        rw [valQ_cons, if_pos rfl] at this
        have h2 : valQ (y :: b) x.1 = none := valQ_none.2 fun z hz => by
          rcases List.mem_cons.1 hz with rfl | hz
          · omega
          · have := hb'.1 z hz; omega
        rw [h2] at this; cases this
      · exact h1
      · have := h y.1
        rw [valQ_cons (x := y), if_pos rfl] at this
        have h2 : valQ (x :: a) y.1 = none := valQ_none.2 fun z hz => by
          rcases List.mem_cons.1 hz with rfl | hz
          · omega
          · have := ha'.1 z hz; omega
        rw [h2] at this; cases this
    have hv : x.2 = y.2 := by
      have := h x.1
      rw [valQ_cons, if_pos rfl, valQ_cons, if_pos hxy.symm] at this
      simpa using this
    have e : x = y := Prod.ext hxy hv
    subst e
    rw [ris_eq ha'.2 hb'.2 fun t => by
      by_cases ht : x.1 = t
      · subst ht
        rw [valQ_none.2 fun z hz => by have := ha'.1 z hz; omega, valQ_none.2 fun z hz => by have := hb'.1 z hz; omega]
      · have := h t
        rw [valQ_cons, valQ_cons, if_neg ht, if_neg ht] at this; exact this]
theorem valQ_mrg : ∀ (a b : List Smp) (t : Int), Ris a → Ris b → valQ (mrg a b) t = (valQ b t).or (valQ a t)
  | [], b, t, _, _ => by rw [mrg_nil, valQ_nil]; simp
  | x :: a, [], t, _, _ => by rw [mrg_nil', valQ_nil]; rfl
  | x :: a, y :: b, t, ha, hb => by
    have ha' := ris_cons.1 ha
    have hb' := ris_cons.1 hb
    rw [mrg_cons]
    split
    · rename_i h
      rw [valQ_cons, valQ_mrg a (y :: b) t ha'.2 hb, valQ_cons x a]
      by_cases ht : x.1 = t
      · rw [if_pos ht, if_pos ht, valQ_none.2 fun z hz => by
          rcases List.mem_cons.1 hz with rfl | hz
          · omega
          · have := hb'.1 z hz; omega]
        rfl
      · rw [if_neg ht, if_neg ht]
    · split
      · rename_i h h2
        rw [valQ_cons, valQ_mrg a b t ha'.2 hb'.2, valQ_cons x a, valQ_cons y b]
        by_cases ht : y.1 = t
        · rw [if_pos ht, if_pos ht]; rfl
        · rw [if_neg ht, if_neg ht, if_neg (by omega)]
      · rename_i h h2
        rw [valQ_cons, valQ_mrg (x :: a) b t ha hb'.2, valQ_cons y b]
        split <;> rfl
termination_by a b => a.length + b.length
def FinP (g f : List Smp) : Prop := ∃ ys, Srt ys ∧ Stb g.reverse ys ∧ f = dd ys
theorem ddF_gt : ∀ (l : List Smp) (p : Int), Srt l → (∀ x ∈ l, p ≤ x.1) → ∀ x ∈ ddF (some p) l, p < x.1
  | [], _, _, _, x, h => by cases h
  | y :: l, p, hs, hp, x, h => by
    have hs' := List.pairwise_cons.1 hs
    have h' : x ∈ (if some p = some y.1 then ddF (some y.1) l else y :: ddF (some y.1) l) := h
    split at h'
    · rename_i e
      simp only [Option.some.injEq] at e
      subst e
      exact ddF_gt l _ hs'.2 (fun z hz => hs'.1 z hz) x h'
    · rename_i e
      have hy := hp y (by simp)
      have hne : p ≠ y.1 := fun e' => e (by rw [e'])
      rcases List.mem_cons.1 h' with rfl | h'
      · omega
      · have := ddF_gt l y.1 hs'.2 (fun z hz => hs'.1 z hz) x h'
        omega
theorem ddF_ris : ∀ (l : List Smp) (p : Option Int), Srt l → Ris (ddF p l)
  | [], _, _ => Ris.nil
  | y :: l, p, hs => by
    have hs' := List.pairwise_cons.1 hs
    show Ris (if p = some y.1 then ddF (some y.1) l else y :: ddF (some y.1) l)
    split
    · exact ddF_ris l _ hs'.2
    · exact ris_cons.2 ⟨ddF_gt l y.1 hs'.2 (fun z hz => hs'.1 z hz), ddF_ris l _ hs'.2⟩
theorem ddF_val : ∀ (l : List Smp) (p : Option Int) (t : Int), Srt l → (∀ q, p = some q → ∀ x ∈ l, q ≤ x.1) → p ≠ some t → valQ (ddF p l) t = valQ l t
  | [], _, _, _, _, _ => rfl
  | y :: l, p, t, hs, hp, hpt => by
    have hs' := List.pairwise_cons.1 hs
    show valQ (if p = some y.1 then ddF (some y.1) l else y :: ddF (some y.1) l) t = _
    have rest : y.1 ≠ t → valQ (ddF (some y.1) l) t = valQ l t := fun h => ddF_val l (some y.1) t hs'.2 (fun q e x hx => by simp only [Option.some.injEq] at e; subst e; exact hs'.1 x hx) (fun e => h (by simpa using e))
    rw [valQ_cons]
    split
    · rename_i e
      have hne : y.1 ≠ t := fun e' => hpt (by rw [e, e'])
      rw [if_neg hne, rest hne]
    · rw [valQ_cons]
      by_cases h : y.1 = t
      · rw [if_pos h, if_pos h]
      · rw [if_neg h, if_neg h, rest h]
theorem valQ_filter (l : List Smp) (t : Int) : valQ l t = ((l.filter fun x => decide (x.1 = t)).head?).map (·.2) := by
  induction l with
  | nil => rfl
  | cons x l ih =>
    rw [valQ_cons, List.filter_cons]
    by_cases h : x.1 = t
    · rw [if_pos h, if_pos (by simpa using h)]; rfl
    · rw [if_neg h, if_neg (by simpa using h)]; exact ih
theorem FinP.ris {g f : List Smp} (h : FinP g f) : Ris f := by
  obtain ⟨ys, h1, _, rfl⟩ := h
  exact ddF_ris ys none h1
theorem FinP.val {g f : List Smp} (h : FinP g f) (t : Int) : valQ f t = valQ g.reverse t := by
  obtain ⟨ys, h1, h2, rfl⟩ := h
  unfold dd
  rw [ddF_val ys none t h1 (fun q e => by cases e) (by simp), valQ_filter, valQ_filter, h2 t]
theorem FinP.ne {g f : List Smp} (h : FinP g f) (hg : g ≠ []) : f ≠ [] := by
  obtain ⟨x, hx⟩ := List.exists_mem_of_ne_nil _ hg
  have h1 : valQ g.reverse x.1 ≠ none := fun e => valQ_none.1 e x (by simpa using hx) rfl
  intro e
  subst e
  exact h1 (by rw [← h.val]; rfl)
abbrev Srs := Int × List Smp
def RightS (ss : List Srs) : Prop := ss.Pairwise (fun a b => a.1 < b.1) ∧ ∀ s ∈ ss, s.2 ≠ [] ∧ Ris s.2
def valS (ss : List Srs) (id t : Int) : Option Int := match ss with
  | [] => none
  | s :: ss => if s.1 = id then valQ s.2 t else valS ss id t
theorem valS_cons (s : Srs) (ss : List Srs) (id t : Int) : valS (s :: ss) id t = if s.1 = id then valQ s.2 t else valS ss id t := rfl
theorem valS_none {ss : List Srs} {id t : Int} (h : ∀ s ∈ ss, s.1 ≠ id) : valS ss id t = none := by
  induction ss with
  | nil => rfl
  | cons s ss ih => rw [valS_cons, if_neg (h s (by simp))]; exact ih fun x hx => h x (by simp [hx])
theorem RightS.nil : RightS [] := ⟨List.Pairwise.nil, fun s h => by cases h⟩
theorem RightS.cons {s : Srs} {ss : List Srs} : RightS (s :: ss) ↔ (∀ x ∈ ss, s.1 < x.1) ∧ (s.2 ≠ [] ∧ Ris s.2) ∧ RightS ss := by
  unfold RightS
  rw [List.pairwise_cons]
  constructor
  · rintro ⟨⟨h1, h2⟩, h3⟩
    exact ⟨h1, h3 s (by simp), h2, fun x hx => h3 x (by simp [hx])⟩
  · rintro ⟨h1, h2, h3, h4⟩
    refine ⟨⟨h1, h3⟩, fun x hx => ?_⟩
    rcases List.mem_cons.1 hx with rfl | hx
    · exact h2
    · exact h4 x hx
theorem right_eq : ∀ {a b : List Srs}, RightS a → RightS b → (∀ id t, valS a id t = valS b id t) → a = b
  | [], [], _, _, _ => rfl
  | [], y :: b, _, hb, h => by
    obtain ⟨_, ⟨h1, h2⟩, _⟩ := RightS.cons.1 hb
    obtain ⟨x, hx⟩ := List.exists_mem_of_ne_nil _ h1
    have := h y.1 x.1
    rw [valS_cons, if_pos rfl, valQ_ris h2 hx] at this
    cases this
  | x :: a, [], ha, _, h => by
    obtain ⟨_, ⟨h1, h2⟩, _⟩ := RightS.cons.1 ha
    obtain ⟨z, hz⟩ := List.exists_mem_of_ne_nil _ h1
    have := h x.1 z.1
    rw [valS_cons, if_pos rfl, valQ_ris h2 hz] at this
    cases this
  | x :: a, y :: b, ha, hb, h => by
    obtain ⟨a1, ⟨a2, a3⟩, a4⟩ := RightS.cons.1 ha
    obtain ⟨b1, ⟨b2, b3⟩, b4⟩ := RightS.cons.1 hb
    have hxy : x.1 = y.1 := by
      rcases Int.lt_trichotomy x.1 y.1 with h1 | h1 | h1
      · obtain ⟨z, hz⟩ := List.exists_mem_of_ne_nil _ a2
        have := h x.1 z.1
        rw [valS_cons, if_pos rfl, valQ_ris a3 hz, valS_none fun s hs => by
          rcases List.mem_cons.1 hs with rfl | hs
          · omega
          · have := b1 s hs; omega] at this
        cases this
      · exact h1
      · obtain ⟨z, hz⟩ := List.exists_mem_of_ne_nil _ b2
        have := h y.1 z.1
        rw [valS_cons y, if_pos rfl, valQ_ris b3 hz, valS_none fun s hs => by
          rcases List.mem_cons.1 hs with rfl | hs
          · omega
          · have := a1 s hs; omega] at this
        cases this
    have hL : x.2 = y.2 := ris_eq a3 b3 fun t => by
      have := h x.1 t
      rw [valS_cons, if_pos rfl, valS_cons, if_pos hxy.symm] at this
      exact this
    have e : x = y := Prod.ext hxy hL
    subst e
    rw [right_eq a4 b4 fun id t => by
      by_cases hi : x.1 = id
      · subst hi
        rw [valS_none fun s hs => by have := a1 s hs; omega, valS_none fun s hs => by have := b1 s hs; omega]
      · have := h id t
        rw [valS_cons, valS_cons, if_neg hi, if_neg hi] at this; exact this]
def cfP (x y : Srs) : Int := cmpI x.1 y.1
theorem cmpI_zero {x y : Int} : cmpI x y = 0 ↔ x = y := by unfold cmpI; split <;> (try split) <;> omega
theorem mem_mrgC {α : Type} {cf : α → α → Int} {z : α} : ∀ (a b : List α), z ∈ mrgC cf a b → z ∈ a ∨ z ∈ b
  | [], b, h => by rw [mrgC_nil] at h; exact .inr h
  | x :: a, [], h => by rw [mrgC_nil'] at h; exact .inl h
  | x :: a, y :: b, h => by
    rw [mrgC_cons] at h
    split at h
    · rcases List.mem_cons.1 h with rfl | h
      · exact .inl (by simp)
      · exact (mem_mrgC a (y :: b) h).elim (fun h => .inl (by simp [h])) .inr
    · split at h
      · rcases List.mem_cons.1 h with rfl | h
        · exact .inr (by simp)
        · exact (mem_mrgC a b h).elim (fun h => .inl (by simp [h])) fun h => .inr (by simp [h])
      · rcases List.mem_cons.1 h with rfl | h
        · exact .inr (by simp)
        · exact (mem_mrgC (x :: a) b h).elim .inl fun h => .inr (by simp [h])
termination_by a b => a.length + b.length
theorem right_mrg : ∀ {a b : List Srs}, RightS a → RightS b → RightS (mrgC cfP a b) ∧ ∀ id t, valS (mrgC cfP a b) id t = if ∃ s ∈ b, s.1 = id then valS b id t else valS a id t
  | [], b, ha, hb => by
    rw [mrgC_nil]
    refine ⟨hb, fun id t => ?_⟩
    split
    · rfl
    · rename_i h
      exact valS_none fun s hs e => h ⟨s, hs, e⟩
  | x :: a, [], ha, hb => by
    rw [mrgC_nil']
    exact ⟨ha, fun id t => by rw [if_neg (by simp)]⟩
  | x :: a, y :: b, ha, hb => by
    obtain ⟨a1, a2, a4⟩ := RightS.cons.1 ha
    obtain ⟨b1, b2, b4⟩ := RightS.cons.1 hb
    rw [mrgC_cons]
    by_cases h1 : cfP x y < 0
    · have h1' : x.1 < y.1 := cmpI_neg.1 h1
      rw [if_pos h1]
      obtain ⟨r1, r2⟩ := right_mrg a4 hb
      refine ⟨RightS.cons.2 ⟨fun z hz => ?_, a2, r1⟩, fun id t => ?_⟩
      · rcases mem_mrgC _ _ hz with hz | hz
        · exact a1 z hz
        · rcases List.mem_cons.1 hz with rfl | hz
          · exact h1'
          · have := b1 z hz; omega
      · rw [valS_cons, r2, valS_cons x a]
        by_cases hi : x.1 = id
        · have hno : ¬ ∃ s ∈ y :: b, s.1 = id := by
            rintro ⟨s, hs, e⟩
            rcases List.mem_cons.1 hs with rfl | hs
            · omega
            · have := b1 s hs; omega
          rw [if_pos hi, if_neg hno, if_pos hi]
        · rw [if_neg hi, if_neg hi]
    · rw [if_neg h1]
      have h1' : ¬ x.1 < y.1 := fun h => h1 (cmpI_neg.2 h)
      by_cases h2 : cfP x y = 0
      · have h2' : x.1 = y.1 := cmpI_zero.1 h2
        rw [if_pos h2]
        obtain ⟨r1, r2⟩ := right_mrg a4 b4
        refine ⟨RightS.cons.2 ⟨fun z hz => ?_, b2, r1⟩, fun id t => ?_⟩
        · rcases mem_mrgC _ _ hz with hz | hz
          · have := a1 z hz; omega
          · exact b1 z hz
        · rw [valS_cons, r2]
          by_cases hi : y.1 = id
          · rw [if_pos hi, if_pos ⟨y, by simp, hi⟩, valS_cons, if_pos hi]
          · rw [if_neg hi, valS_cons y b, if_neg hi, valS_cons x a, if_neg (show ¬ x.1 = id by omega)]
            by_cases he : ∃ s ∈ b, s.1 = id
            · obtain ⟨s, hs, e⟩ := he
              rw [if_pos ⟨s, hs, e⟩, if_pos ⟨s, by simp [hs], e⟩]
            · rw [if_neg he, if_neg]
              rintro ⟨s, hs, e⟩
              rcases List.mem_cons.1 hs with rfl | hs
              · exact hi e
              · exact he ⟨s, hs, e⟩
      · rw [if_neg h2]
        have h2' : y.1 < x.1 := by
          have : x.1 ≠ y.1 := fun e => h2 (cmpI_zero.2 e)
          omega
        obtain ⟨r1, r2⟩ := right_mrg ha b4
        refine ⟨RightS.cons.2 ⟨fun z hz => ?_, b2, r1⟩, fun id t => ?_⟩
        · rcases mem_mrgC _ _ hz with hz | hz
          · rcases List.mem_cons.1 hz with rfl | hz
            · exact h2'
            · have := a1 z hz; omega
          · exact b1 z hz
        · rw [valS_cons, r2]
          by_cases hi : y.1 = id
          · rw [if_pos hi, if_pos ⟨y, by simp, hi⟩, valS_cons, if_pos hi]
          · rw [if_neg hi, valS_cons y b, if_neg hi]
            by_cases he : ∃ s ∈ b, s.1 = id
            · obtain ⟨s, hs, e⟩ := he
              rw [if_pos ⟨s, hs, e⟩, if_pos ⟨s, by simp [hs], e⟩]
            · rw [if_neg he, if_neg]
              rintro ⟨s, hs, e⟩
              rcases List.mem_cons.1 hs with rfl | hs
              · exact hi e
              · exact he ⟨s, hs, e⟩
termination_by a b => a.length + b.length
def put1 (ss : List Srs) (x : Rw) : List Srs := match ss with
  | [] => [(x.2.1, [(x.1, x.2.2)])]
  | s :: ss => if x.2.1 < s.1 then (x.2.1, [(x.1, x.2.2)]) :: s :: ss else if s.1 = x.2.1 then (s.1, mrg s.2 [(x.1, x.2.2)]) :: ss else s :: put1 ss x
theorem ris_one (x : Smp) : Ris [x] := by simp [Ris]
theorem mrg_ne {a b : List Smp} (hb : b ≠ []) (ha : Ris a) (hb' : Ris b) : mrg a b ≠ [] := by
  obtain ⟨x, hx⟩ := List.exists_mem_of_ne_nil _ hb
  intro e
  have := valQ_mrg a b x.1 ha hb'
  rw [e, valQ_nil, valQ_ris hb' hx] at this
  cases this
theorem mem_put1 {x : Rw} {z : Srs} : ∀ {ss : List Srs}, z ∈ put1 ss x → z.1 = x.2.1 ∨ z ∈ ss
  | [], h => by simp [put1] at h; subst h; exact .inl rfl
  | s :: ss, h => by
    unfold put1 at h
    split at h
    · rcases List.mem_cons.1 h with rfl | h
      · exact .inl rfl
      · exact .inr h
    · split at h
      · rename_i e
        rcases List.mem_cons.1 h with rfl | h
        · exact .inl e
        · exact .inr (by simp [h])
      · rcases List.mem_cons.1 h with rfl | h
        · exact .inr (by simp)
        · exact (mem_put1 h).imp id fun h => by simp [h]
theorem right_put1 {x : Rw} : ∀ {ss : List Srs}, RightS ss → RightS (put1 ss x) ∧ ∀ id t, valS (put1 ss x) id t = if x.2.1 = id ∧ x.1 = t then some x.2.2 else valS ss id t
  | [], _ => by
    refine ⟨RightS.cons.2 ⟨by simp, ⟨by simp, ris_one _⟩, RightS.nil⟩, fun id t => ?_⟩
    show (if x.2.1 = id then valQ [(x.1, x.2.2)] t else none) = _
    rw [valQ_cons, valQ_nil]
    by_cases h1 : x.2.1 = id <;> by_cases h2 : x.1 = t <;> simp [h1, h2, valS]
  | s :: ss, h => by
    obtain ⟨a1, a2, a4⟩ := RightS.cons.1 h
    unfold put1
    split
    · rename_i h1
      refine ⟨RightS.cons.2 ⟨fun z hz => ?_, ⟨by simp, ris_one _⟩, h⟩, fun id t => ?_⟩
      · show x.2.1 < z.1
        rcases List.mem_cons.1 hz with rfl | hz
        · exact h1
        · have := a1 z hz; omega
      · rw [valS_cons, valQ_cons, valQ_nil]
        by_cases h2 : x.2.1 = id
        · subst h2
          rw [if_pos rfl]
          have : valS (s :: ss) x.2.1 t = none := valS_none fun z hz => by
            rcases List.mem_cons.1 hz with rfl | hz
            · omega
            · have := a1 z hz; omega
          rw [this]; simp
        · rw [if_neg h2]; simp [h2]
    · split
      · rename_i h1 h2
        refine ⟨RightS.cons.2 ⟨a1, ⟨mrg_ne (by simp) a2.2 (ris_one _), ris_mrg _ _ a2.2 (ris_one _)⟩, a4⟩, fun id t => ?_⟩
        rw [valS_cons, valS_cons]
        show (if s.1 = id then valQ (mrg s.2 [(x.1, x.2.2)]) t else valS ss id t) = _
        rw [valQ_mrg _ _ _ a2.2 (ris_one _), valQ_cons, valQ_nil]
        by_cases h3 : s.1 = id
        · have h4 : x.2.1 = id := by omega
          rw [if_pos h3, if_pos h3]
          by_cases h5 : x.1 = t
          · rw [if_pos h5, if_pos ⟨h4, h5⟩]; rfl
          · rw [if_neg h5, if_neg (fun h => h5 h.2)]; rfl
        · rw [if_neg h3, if_neg h3, if_neg (fun h => h3 (by omega))]
      · rename_i h1 h2
        obtain ⟨r1, r2⟩ := right_put1 (x := x) a4
        refine ⟨RightS.cons.2 ⟨fun z hz => ?_, a2, r1⟩, fun id t => ?_⟩
        · rcases mem_put1 hz with e | hz
          · omega
          · exact a1 z hz
        · rw [valS_cons, valS_cons, r2]
          by_cases h3 : s.1 = id
          · rw [if_pos h3, if_pos h3, if_neg (fun h => h2 (by omega))]
          · rw [if_neg h3, if_neg h3]
def putR (ss : List Srs) (rows : List Rw) : List Srs := rows.foldl put1 ss
def ofId (rows : List Rw) (id : Int) : List Smp := (rows.filter fun x => decide (x.2.1 = id)).map fun x => (x.1, x.2.2)
theorem ofId_cons (x : Rw) (rows : List Rw) (id : Int) : ofId (x :: rows) id = if x.2.1 = id then (x.1, x.2.2) :: ofId rows id else ofId rows id := by
  unfold ofId
  rw [List.filter_cons]
  by_cases h : x.2.1 = id
  · rw [if_pos h, if_pos (by simpa using h)]; rfl
  · rw [if_neg h, if_neg (by simpa using h)]
theorem ofId_snoc (x : Rw) (rows : List Rw) (id : Int) : ofId (rows ++ [x]) id = ofId rows id ++ if x.2.1 = id then [(x.1, x.2.2)] else [] := by
  unfold ofId
  rw [List.filter_append, List.map_append, List.filter_cons]
  by_cases h : x.2.1 = id
  · rw [if_pos h, if_pos (by simpa using h)]; rfl
  · rw [if_neg h, if_neg (by simpa using h)]; rfl
theorem right_putR : ∀ {rows : List Rw} {ss : List Srs}, RightS ss → RightS (putR ss rows) ∧ ∀ id t, valS (putR ss rows) id t = (valQ (ofId rows id).reverse t).or (valS ss id t)
  | [], ss, h => ⟨h, fun id t => rfl⟩
  | x :: rows, ss, h => by
    obtain ⟨r1, r2⟩ := right_put1 (x := x) h
    obtain ⟨q1, q2⟩ := right_putR (rows := rows) r1
    refine ⟨q1, fun id t => ?_⟩
    show valS (putR (put1 ss x) rows) id t = _
    rw [q2, r2, ofId_cons]
    by_cases h1 : x.2.1 = id
    · rw [if_pos h1, List.reverse_cons, valQ_app, valQ_cons, valQ_nil]
      by_cases h2 : x.1 = t
      · rw [if_pos ⟨h1, h2⟩, if_pos h2]
        cases valQ (ofId rows id).reverse t <;> rfl
      · rw [if_neg (fun h => h2 h.2), if_neg h2]
        cases valQ (ofId rows id).reverse t <;> rfl
    · rw [if_neg h1, if_neg (fun h => h1 h.1)]
theorem putR_app (ss : List Srs) (a b : List Rw) : putR (putR ss a) b = putR ss (a ++ b) := by unfold putR; rw [List.foldl_append]
theorem put_eq {ss more : List Srs} {rows : List Rw} (hs : RightS ss) (hm : RightS more) (hk : ∀ id, (∃ s ∈ more, s.1 = id) ↔ ofId rows id ≠ [])
    (hv : ∀ s ∈ more, ∀ t, valQ s.2 t = (valQ (ofId rows s.1).reverse t).or (valS ss s.1 t)) : mrgC cfP ss more = putR ss rows := by
  obtain ⟨r1, r2⟩ := right_mrg hs hm
  obtain ⟨q1, q2⟩ := right_putR (rows := rows) hs
  refine right_eq r1 q1 fun id t => ?_
  rw [r2, q2]
  by_cases h : ∃ s ∈ more, s.1 = id
  · rw [if_pos h]
    obtain ⟨s, hsm, rfl⟩ := h
    rw [← hv s hsm t]
    have : ∀ {l : List Srs}, RightS l → s ∈ l → valS l s.1 t = valQ s.2 t := by
      intro l
      induction l with
      | nil => intro _ h; cases h
      | cons y l ih =>
        intro hl h
        obtain ⟨a1, _, a4⟩ := RightS.cons.1 hl
        rw [valS_cons]
        rcases List.mem_cons.1 h with rfl | h
        · rw [if_pos rfl]
        · rw [if_neg (by have := a1 s h; omega)]; exact ih a4 h
    exact this hm hsm
  · rw [if_neg h]
    have : ofId rows id = [] := Classical.byContradiction fun h' => h ((hk id).2 h')
    rw [this]; rfl
end Go.Proofs
namespace Go.Proofs
set_option linter.unusedVariables false
def kLt (a b : Rw) : Prop := a.1 < b.1 ∨ (a.1 = b.1 ∧ a.2.1 < b.2.1)
instance (a b : Rw) : Decidable (kLt a b) := inferInstanceAs (Decidable (_ ∨ _))
def kEq (a b : Rw) : Prop := a.1 = b.1 ∧ a.2.1 = b.2.1
theorem cfRw_neg {a b : Rw} : cfRw a b < 0 ↔ kLt a b := by
  unfold cfRw kLt cmpI
  split <;> (repeat' split) <;> omega
theorem cfRw_zero {a b : Rw} : cfRw a b = 0 ↔ kEq a b := by
  unfold cfRw kEq cmpI
  split <;> (repeat' split) <;> omega
theorem kLt_trans {a b c : Rw} (h : kLt a b) (h' : kLt b c) : kLt a c := by unfold kLt at *; omega
theorem kLt_irr {a : Rw} : ¬ kLt a a := by unfold kLt; omega
theorem kLt_tri (a b : Rw) : kLt a b ∨ kEq a b ∨ kLt b a := by unfold kLt kEq; omega
theorem kLt_ne {a b : Rw} (h : kLt a b) : ¬ kEq a b := by unfold kLt kEq at *; omega
def FineR (l : List Rw) : Prop := l.Pairwise kLt
theorem FineR.nil : FineR [] := List.Pairwise.nil
theorem FineR.cons {x : Rw} {l : List Rw} : FineR (x :: l) ↔ (∀ y ∈ l, kLt x y) ∧ FineR l := List.pairwise_cons
theorem fine_eq : ∀ {a b : List Rw}, FineR a → FineR b → (∀ x, x ∈ a ↔ x ∈ b) → a = b
  | [], [], _, _, _ => rfl
  | [], y :: b, _, _, h => by have := (h y).2 (by simp); cases this
  | x :: a, [], _, _, h => by have := (h x).1 (by simp); cases this
  | x :: a, y :: b, ha, hb, h => by
    have ha' := FineR.cons.1 ha
    have hb' := FineR.cons.1 hb
    have e : x = y := by
      rcases List.mem_cons.1 ((h x).1 (by simp)) with e | h1
      · exact e
      · rcases List.mem_cons.1 ((h y).2 (by simp)) with e | h2
        · exact e.symm
        · exact absurd (kLt_trans (hb'.1 x h1) (ha'.1 y h2)) kLt_irr
    subst e
    rw [fine_eq ha'.2 hb'.2 fun z => ?_]
    have := h z
    simp only [List.mem_cons] at this
    constructor
    · intro hz
      rcases this.1 (.inr hz) with rfl | h1
      · exact absurd (ha'.1 z hz) kLt_irr
      · exact h1
    · intro hz
      rcases this.2 (.inr hz) with rfl | h1
      · exact absurd (hb'.1 z hz) kLt_irr
      · exact h1
theorem fine_mrg : ∀ {a b : List Rw}, FineR a → FineR b → (∀ x ∈ a, ∀ y ∈ b, ¬ kEq x y) → FineR (mrgC cfRw a b) ∧ ∀ z, z ∈ mrgC cfRw a b ↔ z ∈ a ∨ z ∈ b
  | [], b, _, hb, _ => by rw [mrgC_nil]; exact ⟨hb, fun z => by simp⟩
  | x :: a, [], ha, _, _ => by rw [mrgC_nil']; exact ⟨ha, fun z => by simp⟩
  | x :: a, y :: b, ha, hb, hd => by
    have ha' := FineR.cons.1 ha
    have hb' := FineR.cons.1 hb
    rw [mrgC_cons]
    have h0 : ¬ cfRw x y = 0 := fun h => hd x (by simp) y (by simp) (cfRw_zero.1 h)
    by_cases h1 : cfRw x y < 0
    · rw [if_pos h1]
      have h1' := cfRw_neg.1 h1
      obtain ⟨r1, r2⟩ := fine_mrg ha'.2 hb fun u hu v hv => hd u (by simp [hu]) v hv
      refine ⟨FineR.cons.2 ⟨fun z hz => ?_, r1⟩, fun z => ?_⟩
      · rcases (r2 z).1 hz with hz | hz
        · exact ha'.1 z hz
        · rcases List.mem_cons.1 hz with rfl | hz
          · exact h1'
          · exact kLt_trans h1' (hb'.1 z hz)
      · simp only [List.mem_cons, r2]
        constructor
        · rintro (h | h | h | h)
          · exact .inl (.inl h)
          · exact .inl (.inr h)
          · exact .inr (.inl h)
          · exact .inr (.inr h)
        · rintro ((h | h) | (h | h))
          · exact .inl h
          · exact .inr (.inl h)
          · exact .inr (.inr (.inl h))
          · exact .inr (.inr (.inr h))
    · rw [if_neg h1, if_neg h0]
      have h1' : kLt y x := by
        rcases kLt_tri x y with h | h | h
        · exact absurd (cfRw_neg.2 h) h1
        · exact absurd (cfRw_zero.2 h) h0
        · exact h
      obtain ⟨r1, r2⟩ := fine_mrg ha hb'.2 fun u hu v hv => hd u hu v (by simp [hv])
      refine ⟨FineR.cons.2 ⟨fun z hz => ?_, r1⟩, fun z => ?_⟩
      · rcases (r2 z).1 hz with hz | hz
        · rcases List.mem_cons.1 hz with rfl | hz
          · exact h1'
          · exact kLt_trans h1' (ha'.1 z hz)
        · exact hb'.1 z hz
      · simp only [List.mem_cons, r2]
        constructor
        · rintro (h | (h | h) | h)
          · exact .inr (.inl h)
          · exact .inl (.inl h)
          · exact .inl (.inr h)
          · exact .inr (.inr h)
        · rintro ((h | h) | (h | h))
          · exact .inr (.inl (.inl h))
          · exact .inr (.inl (.inr h))
          · exact .inl h
          · exact .inr (.inr h)
termination_by a b => a.length + b.length
def ownR (s : Srs) : List Rw := s.2.map fun p => (p.1, s.1, p.2)
theorem ownR_fine {s : Srs} (h : Ris s.2) : FineR (ownR s) := List.pairwise_map.2 (h.imp fun h => .inl h)
theorem ownR_mem {s : Srs} {x : Rw} : x ∈ ownR s ↔ x.2.1 = s.1 ∧ (x.1, x.2.2) ∈ s.2 := by
  unfold ownR
  rw [List.mem_map]
  constructor
  · rintro ⟨p, hp, rfl⟩; exact ⟨rfl, hp⟩
  · rintro ⟨h1, h2⟩; exact ⟨_, h2, by rw [← h1]⟩
def RowsOf (ss : List Srs) (l : List Rw) : Prop := FineR l ∧ ∀ x, x ∈ l ↔ ∃ s ∈ ss, x ∈ ownR s
theorem RowsOf.nil : RowsOf [] [] := ⟨FineR.nil, fun x => by simp⟩
theorem ids_take {ss : List Srs} (h : RightS ss) {k : Nat} {s : Srs} (hs : ss[k]? = some s) : ∀ t ∈ ss.take k, t.1 ≠ s.1 := fun t ht => by
  obtain ⟨i, hi⟩ := List.getElem?_of_mem ht
  rw [List.getElem?_take] at hi
  split at hi
  · rename_i hik
    obtain ⟨h1, rfl⟩ := List.getElem?_eq_some_iff.1 hi
    obtain ⟨h2, rfl⟩ := List.getElem?_eq_some_iff.1 hs
    have := List.pairwise_iff_getElem.1 h.1 i k h1 h2 hik
    omega
  · cases hi
theorem RowsOf.step {ss : List Srs} (h : RightS ss) {k : Nat} {s : Srs} (hs : ss[k]? = some s) {l : List Rw} (hl : RowsOf (ss.take k) l) : RowsOf (ss.take (k + 1)) (mrgC cfRw l (ownR s)) := by
  have hsr := (h.2 s (List.mem_of_getElem? hs)).2
  obtain ⟨r1, r2⟩ := fine_mrg hl.1 (ownR_fine hsr) fun x hx y hy hk => by
    obtain ⟨t, ht, hxt⟩ := (hl.2 x).1 hx
    have h1 := (ownR_mem.1 hxt).1
    have h2 := (ownR_mem.1 hy).1
    exact ids_take h hs t ht (by rw [← h1, ← h2]; exact hk.2)
  refine ⟨r1, fun x => ?_⟩
  rw [r2, hl.2, List.take_add_one, hs]
  constructor
  · rintro (⟨t, ht, hx⟩ | hx)
    · exact ⟨t, by simp [ht], hx⟩
    · exact ⟨s, by simp, hx⟩
  · rintro ⟨t, ht, hx⟩
    rcases List.mem_append.1 ht with ht | ht
    · exact .inl ⟨t, ht, hx⟩
    · simp at ht; subst ht; exact .inr hx
theorem valS_iff {ss : List Srs} (h : RightS ss) (x : Rw) : (∃ s ∈ ss, x ∈ ownR s) ↔ valS ss x.2.1 x.1 = some x.2.2 := by
  induction ss with
  | nil => simp [valS]
  | cons s ss ih =>
    obtain ⟨h1, h2, h3⟩ := RightS.cons.1 h
    rw [valS_cons]
    by_cases hi : s.1 = x.2.1
    · rw [if_pos hi]
      constructor
      · rintro ⟨t, ht, hx⟩
        have hx' := ownR_mem.1 hx
        rcases List.mem_cons.1 ht with rfl | ht
        · exact valQ_ris h2.2 hx'.2
        · have := h1 t ht; omega
      · intro hv
        exact ⟨s, by simp, ownR_mem.2 ⟨hi.symm, valQ_mem hv⟩⟩
    · rw [if_neg hi, ← ih h3]
      constructor
      · rintro ⟨t, ht, hx⟩
        rcases List.mem_cons.1 ht with rfl | ht
        · exact absurd (ownR_mem.1 hx).1.symm hi
        · exact ⟨t, ht, hx⟩
      · rintro ⟨t, ht, hx⟩
        exact ⟨t, by simp [ht], hx⟩
theorem RowsOf.eq {ss : List Srs} {l m : List Rw} (h : RowsOf ss l) (h' : RowsOf ss m) : l = m := fine_eq h.1 h'.1 fun x => by rw [h.2, h'.2]
theorem ofId_ris {rows : List Rw} (h : FineR rows) (id : Int) : Ris (ofId rows id) := by
  unfold ofId Ris
  refine List.pairwise_map.2 ?_
  have := (List.Pairwise.filter (fun x : Rw => decide (x.2.1 = id)) h)
  refine (List.Pairwise.and_mem.1 this).imp fun {x y} hxy => ?_
  obtain ⟨hx, hy, hk⟩ := hxy
  have h1 := of_decide_eq_true (List.mem_filter.1 hx).2
  have h2 := of_decide_eq_true (List.mem_filter.1 hy).2
  show x.1 < y.1
  unfold kLt at hk; omega
theorem ofId_mem {rows : List Rw} {x : Rw} : (x.1, x.2.2) ∈ ofId rows x.2.1 ↔ x ∈ rows := by
  unfold ofId
  rw [List.mem_map]
  constructor
  · rintro ⟨y, hy, e⟩
    have h1 := List.mem_filter.1 hy
    have h2 := of_decide_eq_true h1.2
    simp only [Prod.mk.injEq] at e
    have : y = x := Prod.ext e.1 (Prod.ext h2 e.2)
    rw [← this]; exact h1.1
  · intro h
    exact ⟨x, List.mem_filter.2 ⟨h, by simp⟩, rfl⟩
theorem rows_split {rows : List Rw} (h : FineR rows) : RowsOf (putR [] rows) rows := by
  obtain ⟨r1, r2⟩ := right_putR (rows := rows) RightS.nil
  refine ⟨h, fun x => ?_⟩
  rw [valS_iff r1, r2]
  have e : valS [] x.2.1 x.1 = none := rfl
  rw [e, Option.or_none]
  constructor
  · intro hx
    have hm := ofId_mem.2 hx
    cases hv : valQ (ofId rows x.2.1).reverse x.1 with
    | none => exact absurd rfl (valQ_none.1 hv (x.1, x.2.2) (by simpa using hm))
    | some v =>
      have h1 := valQ_mem hv
      rw [List.mem_reverse] at h1
      have h2 := valQ_ris (ofId_ris h x.2.1) h1
      have h3 := valQ_ris (ofId_ris h x.2.1) hm
      simp only at h2 h3
      rw [h2] at h3; exact h3
  · intro hv
    have h1 := valQ_mem hv
    rw [List.mem_reverse] at h1
    exact ofId_mem.1 h1
def rqR (x : Rw) (done : Bool) : List Rw → List Rw
  | [] => if done then [] else [x]
  | y :: l => (if done = false ∧ kLt x y then [x] else []) ++ y :: rqR x (if done = false ∧ kLt x y then true else done) l
theorem rqR_done {x : Rw} : ∀ l : List Rw, rqR x true l = l
  | [] => rfl
  | y :: l => by unfold rqR; rw [if_neg (by simp), if_neg (by simp), rqR_done l]; rfl
theorem rqR_fine {x : Rw} : ∀ {l : List Rw}, FineR l → (∀ y ∈ l, ¬ kEq x y) → FineR (rqR x false l) ∧ ∀ z, z ∈ rqR x false l ↔ z = x ∨ z ∈ l
  | [], _, _ => ⟨FineR.cons.2 ⟨by simp, FineR.nil⟩, fun z => by simp [rqR]⟩
  | y :: l, h, hd => by
    have h' := FineR.cons.1 h
    unfold rqR
    by_cases h1 : kLt x y
    · rw [if_pos ⟨rfl, h1⟩, if_pos ⟨rfl, h1⟩, rqR_done]
      refine ⟨FineR.cons.2 ⟨fun z hz => ?_, h⟩, fun z => by simp⟩
      rcases List.mem_cons.1 hz with rfl | hz
      · exact h1
      · exact kLt_trans h1 (h'.1 z hz)
    · rw [if_neg (fun hh => h1 hh.2), if_neg (fun hh => h1 hh.2)]
      have h2 : kLt y x := by
        rcases kLt_tri x y with h | h | h
        · exact absurd h h1
        · exact absurd h (hd y (by simp))
        · exact h
      obtain ⟨r1, r2⟩ := rqR_fine h'.2 fun z hz => hd z (by simp [hz])
      refine ⟨FineR.cons.2 ⟨fun z hz => ?_, r1⟩, fun z => ?_⟩
      · rcases (r2 z).1 hz with rfl | hz
        · exact h2
        · exact h'.1 z hz
      · simp only [List.nil_append, List.mem_cons, r2]
        constructor
        · rintro (h | h | h)
          · exact .inr (.inl h)
          · exact .inl h
          · exact .inr (.inr h)
        · rintro (h | h | h)
          · exact .inr (.inl h)
          · exact .inl h
          · exact .inr (.inr h)
def RowsTo (ss : List Srs) (k j : Nat) (l : List Rw) : Prop := FineR l ∧ ∀ x, x ∈ l ↔ (∃ s ∈ ss.take k, x ∈ ownR s) ∨ ∃ s, ss[k]? = some s ∧ x ∈ (ownR s).take j
theorem RowsTo.start {ss : List Srs} {k : Nat} {l : List Rw} (h : RowsOf (ss.take k) l) : RowsTo ss k 0 l := ⟨h.1, fun x => by rw [h.2]; simp⟩
theorem RowsTo.done {ss : List Srs} {k j : Nat} {l : List Rw} {s : Srs} (h : RowsTo ss k j l) (hs : ss[k]? = some s) (hj : s.2.length ≤ j) : RowsOf (ss.take (k + 1)) l := ⟨h.1, fun x => by
  rw [h.2, List.take_add_one, hs]
  have e : (ownR s).take j = ownR s := List.take_of_length_le (by unfold ownR; simpa using hj)
  constructor
  · rintro (⟨t, ht, hx⟩ | ⟨t, ht, hx⟩)
    · exact ⟨t, by simp [ht], hx⟩
    · cases ht
      rw [e] at hx
      exact ⟨s, by simp, hx⟩
  · rintro ⟨t, ht, hx⟩
    rcases List.mem_append.1 ht with ht | ht
    · exact .inl ⟨t, ht, hx⟩
    · simp at ht; subst ht
      exact .inr ⟨_, rfl, by rw [e]; exact hx⟩⟩
theorem RowsTo.step {ss : List Srs} (hr : RightS ss) {k j : Nat} {l : List Rw} {s : Srs} {p : Smp} (h : RowsTo ss k j l) (hs : ss[k]? = some s) (hp : s.2[j]? = some p) : RowsTo ss k (j + 1) (rqR (p.1, s.1, p.2) false l) := by
  have hsr := (hr.2 s (List.mem_of_getElem? hs)).2
  have hg : (ownR s)[j]? = some (p.1, s.1, p.2) := by unfold ownR; rw [List.getElem?_map, hp]; rfl
  obtain ⟨r1, r2⟩ := rqR_fine (x := (p.1, s.1, p.2)) h.1 fun y hy hk => by
    rcases (h.2 y).1 hy with ⟨t, ht, hx⟩ | ⟨t, ht, hx⟩
    · have h1 := (ownR_mem.1 hx).1
      exact ids_take hr hs t ht (by rw [← h1]; exact hk.2.symm)
    · rw [hs] at ht; cases ht
      obtain ⟨i, hi⟩ := List.getElem?_of_mem hx
      rw [List.getElem?_take] at hi
      split at hi
      · rename_i hij
        obtain ⟨h1, e1⟩ := List.getElem?_eq_some_iff.1 hi
        obtain ⟨h2, e2⟩ := List.getElem?_eq_some_iff.1 hg
        have := List.pairwise_iff_getElem.1 (ownR_fine hsr) i j h1 h2 hij
        rw [e1, e2] at this
        exact kLt_ne this ⟨hk.1.symm, hk.2.symm⟩
      · cases hi
  refine ⟨r1, fun x => ?_⟩
  rw [r2, h.2]
  constructor
  · rintro (rfl | hx | ⟨t, ht, hx⟩)
    · exact .inr ⟨s, hs, by rw [List.take_add_one, hg]; simp⟩
    · exact .inl hx
    · exact .inr ⟨t, ht, List.take_subset_take_left _ (Nat.le_succ j) hx⟩
  · rintro (hx | ⟨t, ht, hx⟩)
    · exact .inr (.inl hx)
    · rw [hs] at ht; cases ht
      rw [List.take_add_one, hg] at hx
      rcases List.mem_append.1 hx with hx | hx
      · exact .inr (.inr ⟨s, hs, hx⟩)
      · simp at hx; exact .inl hx

def rAt (l : List Rw) (i : Nat) : Rw := l[i]?.getD (0, 0, 0)
def rT (l : List Rw) (i : Nat) : Int := (rAt l i).1
def firstC (c : List Rw) : Int := rT c 0
def lastC (c : List Rw) : Int := rT c (c.length - 1)
def rowB (c : List Rw) (i : Nat) : List UInt8 := uintL (rT c i - rT c (i - 1)).toNat ++ (uintL (rAt c i).2.1.toNat ++ intL (rAt c i).2.2)
def blkTo (c : List Rw) (j : Nat) : List UInt8 := (List.range j).flatMap (rowB c)
def blkR (c : List Rw) : List UInt8 := blkTo c c.length
def hdR (c : List Rw) : List UInt8 := uintL (firstC c).toNat ++ (uintL (lastC c - firstC c).toNat ++ uintL (blkR c).length)
def chR (l : List Rw) (i : Nat) : List Rw := (l.drop (16 * i)).take 16
def nC (n : Nat) : Nat := (n + 15) / 16
def hdsR (l : List Rw) (m : Nat) : List UInt8 := (List.range m).flatMap fun i => hdR (chR l i)
def bdsR (l : List Rw) (m : Nat) : List UInt8 := (List.range m).flatMap fun i => blkR (chR l i)
def encR (l : List Rw) : List UInt8 := uintL l.length ++ (hdsR l (nC l.length) ++ bdsR l (nC l.length))
structure RowsP (l : List Rw) : Prop where
  len : l.length ≤ 5000
  fine : FineR l
  lo : ∀ x ∈ l, (0 ≤ x.1 ∧ x.1 < 1099511627776) ∧ (0 ≤ x.2.1 ∧ x.2.1 < 200) ∧ I64 x.2.2
theorem rAt_get {l : List Rw} {i : Nat} (h : i < l.length) : l[i]? = some (rAt l i) := by
  unfold rAt; rw [List.getElem?_eq_getElem h]; rfl
theorem rAt_of {l : List Rw} {i : Nat} {x : Rw} (h : l[i]? = some x) : rAt l i = x := by unfold rAt; rw [h]; rfl
theorem RowsP.at {l : List Rw} (h : RowsP l) {i : Nat} (hi : i < l.length) : (0 ≤ rT l i ∧ rT l i < 1099511627776) ∧ (0 ≤ (rAt l i).2.1 ∧ (rAt l i).2.1 < 200) ∧ I64 (rAt l i).2.2 := h.lo _ (List.mem_of_getElem? (rAt_get hi))
theorem FineR.at {l : List Rw} (h : FineR l) {i j : Nat} (hij : i < j) (hj : j < l.length) : kLt (rAt l i) (rAt l j) := by
  have := (List.pairwise_iff_getElem.1 h) i j (by omega) hj hij
  have h1 := rAt_get (l := l) (i := i) (by omega)
  have h2 := rAt_get hj
  rw [List.getElem?_eq_getElem (by omega)] at h1 h2
  rw [← Option.some.inj h1, ← Option.some.inj h2]
  exact this
theorem FineR.mono {l : List Rw} (h : FineR l) {i j : Nat} (hij : i ≤ j) (hj : j < l.length) : rT l i ≤ rT l j := by
  by_cases e : i = j
  · subst e; exact Int.le_refl _
  · have := h.at (i := i) (j := j) (by omega) hj
    unfold kLt at this
    unfold rT
    omega
theorem chR_get (l : List Rw) (i k : Nat) : (chR l i)[k]? = if k < 16 then l[16 * i + k]? else none := by
  unfold chR
  rw [List.getElem?_take]
  split
  · rw [List.getElem?_drop]
  · rfl
theorem chR_len (l : List Rw) (i : Nat) : (chR l i).length = min (l.length - 16 * i) 16 := by
  unfold chR; rw [List.length_take, List.length_drop]; omega
theorem chR_at (l : List Rw) {i k : Nat} (hk : k < 16) : rAt (chR l i) k = rAt l (16 * i + k) := by
  unfold rAt; rw [chR_get, if_pos hk]
theorem RowsP.ch {l : List Rw} (h : RowsP l) (i : Nat) : RowsP (chR l i) := by
  refine ⟨by rw [chR_len]; omega, ?_, fun x hx => h.lo x (List.mem_of_mem_drop (List.mem_of_mem_take hx))⟩
  exact h.fine.sublist ((List.take_sublist _ _).trans (List.drop_sublist _ _))
theorem RowsP.first_last {c : List Rw} (h : RowsP c) (hc : c ≠ []) : 0 ≤ firstC c ∧ firstC c ≤ lastC c ∧ lastC c < 1099511627776 := by
  have hl : 0 < c.length := List.length_pos_iff.2 hc
  exact ⟨(h.at hl).1.1, h.fine.mono (by omega) (by omega), (h.at (i := c.length - 1) (by omega)).1.2⟩
theorem RowsP.next {l : List Rw} (h : RowsP l) {j : Nat} (h0 : 0 < j) (hj : 16 * j < l.length) : lastC (chR l (j - 1)) ≤ firstC (chR l j) := by
  unfold lastC firstC rT
  rw [chR_at l (by rw [chR_len]; omega), chR_at l (by omega)]
  exact h.fine.mono (i := 16 * (j - 1) + ((chR l (j - 1)).length - 1)) (j := 16 * j + 0) (by rw [chR_len]; omega) (by omega)
theorem blkTo_succ (c : List Rw) (j : Nat) : blkTo c (j + 1) = blkTo c j ++ rowB c j := by
  unfold blkTo; rw [List.range_succ, List.flatMap_append]; simp
theorem hdsR_succ (l : List Rw) (m : Nat) : hdsR l (m + 1) = hdsR l m ++ hdR (chR l m) := by
  unfold hdsR; rw [List.range_succ, List.flatMap_append]; simp
theorem bdsR_succ (l : List Rw) (m : Nat) : bdsR l (m + 1) = bdsR l m ++ blkR (chR l m) := by
  unfold bdsR; rw [List.range_succ, List.flatMap_append]; simp
theorem rng_split {α : Type} (f : Nat → List α) {i m : Nat} (h : i < m) : ∃ r, (List.range m).flatMap f = (List.range i).flatMap f ++ (f i ++ r) := by
  induction m with
  | zero => omega
  | succ m ih =>
    rw [List.range_succ, List.flatMap_append]
    by_cases e : i = m
    · subst e; exact ⟨[], by simp⟩
    · obtain ⟨r, hr⟩ := ih (by omega)
      exact ⟨r ++ f m, by rw [hr]; simp⟩
theorem rowB_len {c : List Rw} (h : RowsP c) {i : Nat} (hi : i < c.length) : (rowB c i).length ≤ 30 := by
  unfold rowB
  rw [List.length_append, List.length_append]
  have h1 := h.at hi
  have h2 := (h.at (i := i - 1) (by omega)).1
  have u1 := uintL_len10 (n := (rT c i - rT c (i - 1)).toNat) (by omega)
  have u2 := uintL_len10 (n := (rAt c i).2.1.toNat) (by omega)
  have u3 := uintL_len10 (foldN_lt h1.2.2)
  unfold intL; omega
theorem blkTo_len {c : List Rw} (h : RowsP c) {j : Nat} (hj : j ≤ c.length) : (blkTo c j).length ≤ 30 * j := by
  induction j with
  | zero => simp [blkTo]
  | succ j ih =>
    rw [blkTo_succ, List.length_append]
    have := rowB_len h (i := j) (by omega)
    have := ih (by omega)
    omega
theorem blkR_len {c : List Rw} (h : RowsP c) (hc : c.length ≤ 16) : (blkR c).length ≤ 480 := by
  have := blkTo_len h (Nat.le_refl c.length)
  unfold blkR; omega
theorem ch_ne {l : List Rw} {i : Nat} (h : 16 * i < l.length) : chR l i ≠ [] := by
  intro e
  have := chR_len l i
  rw [e] at this; simp at this; omega
theorem hdR_len {c : List Rw} (h : RowsP c) (hne : c ≠ []) (hc : c.length ≤ 16) : (hdR c).length ≤ 30 := by
  unfold hdR
  rw [List.length_append, List.length_append]
  have h1 := h.first_last hne
  have h2 := blkR_len h hc
  have u1 := uintL_len10 (n := (firstC c).toNat) (by omega)
  have u2 := uintL_len10 (n := (lastC c - firstC c).toNat) (by omega)
  have u3 := uintL_len10 (n := (blkR c).length) (by omega)
  omega
theorem hdsR_len {l : List Rw} (h : RowsP l) {m : Nat} (hm : 16 * m < l.length + 16) : (hdsR l m).length ≤ 30 * m := by
  induction m with
  | zero => simp [hdsR]
  | succ m ih =>
    rw [hdsR_succ, List.length_append]
    have := hdR_len (h.ch m) (ch_ne (by omega)) (by rw [chR_len]; omega)
    have := ih (by omega)
    omega
theorem bdsR_len {l : List Rw} (h : RowsP l) (m : Nat) : (bdsR l m).length ≤ 480 * m := by
  induction m with
  | zero => simp [bdsR]
  | succ m ih =>
    rw [bdsR_succ, List.length_append]
    have := blkR_len (h.ch m) (by rw [chR_len]; omega)
    omega
theorem nC_le {n : Nat} (h : n ≤ 5000) : nC n ≤ 313 := by unfold nC; omega
theorem all_ch (l : List Rw) : (List.range (nC l.length)).flatMap (chR l) = l := by
  have key : ∀ m, (List.range m).flatMap (chR l) = l.take (16 * m) := by
    intro m
    induction m with
    | zero => simp
    | succ m ih =>
      rw [List.range_succ, List.flatMap_append, ih]
      simp only [List.flatMap_cons, List.flatMap_nil, List.append_nil]
      unfold chR
      rw [show 16 * (m + 1) = 16 * m + 16 by omega, List.take_add]
  rw [key, List.take_of_length_le (by unfold nC; omega)]
def inRw (f t : Int) (x : Rw) : Bool := decide (f ≤ x.1) && decide (x.1 < t)
theorem ch_out {c : List Rw} (h : RowsP c) (f t : Int) (hn : ¬ (max (firstC c) f < min (lastC c + 1) t)) : c.filter (inRw f t) = [] := by
  rw [List.filter_eq_nil_iff]
  intro x hx hi
  obtain ⟨i, hi'⟩ := List.mem_iff_getElem?.1 hx
  have hlt := (List.getElem?_eq_some_iff.1 hi').1
  have h1 := h.fine.mono (i := 0) (j := i) (by omega) hlt
  have h2 := h.fine.mono (i := i) (j := c.length - 1) (by omega) (by omega)
  have e : rT c i = x.1 := by unfold rT; rw [rAt_of hi']
  unfold inRw at hi
  simp only [Bool.and_eq_true, decide_eq_true_eq] at hi
  unfold firstC lastC at hn
  omega
theorem filter_allR {l : List Rw} (h : RowsP l) : l.filter (inRw 0 1099511627776) = l := by
  rw [List.filter_eq_self]
  intro x hx
  have := (h.lo x hx).1
  unfold inRw
  simp; omega
end Go.Proofs
