/- A part of a proof: see the last text of this claim. -/
import Derived.Test.YtjpjmpnlomkdbaaP13f
set_option linter.unusedVariables false
set_option maxRecDepth 100000
open Go Go.GV
namespace Go.Proofs

/-- Sorted blocks of so many, and what is left. -/
structure Bks (bs : Nat) (Ss : List (List Smp)) : Prop where
  h : ∀ T ∈ Ss, T.length = bs ∧ Srt T
theorem Bks.len {bs : Nat} {Ss : List (List Smp)} (h : Bks bs Ss) : Ss.flatten.length = bs * Ss.length := by
  induction Ss with
  | nil => simp
  | cons T Ss ih =>
    have := (h.h T (by simp)).1
    have := ih ⟨fun U hU => h.h U (by simp [hU])⟩
    simp only [List.flatten_cons, List.length_append, List.length_cons, Nat.mul_add]; omega
theorem Bks.snoc {bs : Nat} {Ss : List (List Smp)} {T : List Smp} (h : Bks bs Ss) (h1 : T.length = bs) (h2 : Srt T) : Bks bs (Ss ++ [T]) := ⟨fun U hU => by
  rcases List.mem_append.1 hU with hU | hU
  · exact h.h U hU
  · simp at hU; subst hU; exact ⟨h1, h2⟩⟩
theorem Bks.tail {bs : Nat} {Ss : List (List Smp)} {T : List Smp} (h : Bks bs (T :: Ss)) : Bks bs Ss := ⟨fun U hU => h.h U (by simp [hU])⟩
theorem add64 {x y : Nat} (h : x + y ≤ 1000000000000) : IntKind.i64.wrap ((x : Int) + (y : Int)) = ((x + y : Nat) : Int) := by rw [wrap64_of (by omega) (by omega)]; omega
theorem stable_ok {order : Value} (hT : ByT order) {base : Nat} {H : Heap} {a : Option Addr} {n c : Nat} {xs : List Smp} {K : Heap → Prop} (hx : Own encS 26 base H a n c xs) (hn : n ≤ 1000000000)
    (hk : ∀ H' ys, Own encS 26 base H' a n c ys → Srt ys → Stb xs ys → Fr (blkL a) H H' → K H') :
    CallH Try.prog fn_slices_stableCmpFunc_api_Sample_ ⟨[.slice a n c, .int .i64 n, order]⟩ H fun v H' => v = .tuple ⟨[]⟩ ∧ K H' := by
  apply vc_slices_stableCmpFunc_api_Sample_
  have hl := hx.1
  refine ⟨fun vs H' => match vs with
      | [.int _ i, .int _ j] => ∃ (Ss : List (List Smp)) (R : List Smp), Bks 20 Ss ∧ i = ((20 * Ss.length : Nat) : Int) ∧ j = ((20 * Ss.length + 20 : Nat) : Int) ∧ 20 * Ss.length ≤ n ∧ Own encS 26 base H' a n c (Ss.flatten ++ R) ∧ Stb xs (Ss.flatten ++ R) ∧ Fr (blkL a) H H'
      | _ => False,
    fun vs _ => match vs with | [.int _ i, _] => n - i.toNat | _ => 0, ⟨[], xs, ⟨fun T h => by cases h⟩, rfl, rfl, by simp, hx, Stb.refl _, Fr.refl _ _⟩, ?_⟩
  rintro J i j H1 ⟨Ss, R, hB, rfl, rfl, hle, ho, hst, hf⟩
  have hol := ho.1
  have hbl := hB.len
  rw [List.length_append] at hol
  refine brB_of (fun h0 => ?_) (fun h0 => ?_)
  · have h0' : 20 * Ss.length + 20 ≤ n := by simp at h0; omega
    obtain ⟨X, R', rfl, hX⟩ := two_split (B := R) (k := 20) (by omega)
    refine insertionSort_ok hT (P := Ss.flatten) (s := X) (Q := R') (by simpa using ho) (by omega) (by omega) hn fun H2 X' ho2 hS hSt hf2 => ?_
    have hXl := hSt.length
    have ew : IntKind.i64.wrap (((20 * Ss.length + 20 : Nat) : Int) + 20) = ((20 * (Ss ++ [X']).length + 20 : Nat) : Int) := by
      rw [wrap64_of (by omega) (by omega)]; simp; omega
    refine ⟨⟨Ss ++ [X'], R', hB.snoc (by omega) hS, by simp; omega, ew, by simp; omega, by simpa using ho2, hst.trans ?_, hf.trans' hf2 (fun _ h _ => h) (fun _ h _ => h)⟩, ?_⟩
    · have := ((Stb.refl Ss.flatten).app hSt).app (Stb.refl R')
      simpa using this
    · show n - ((20 * Ss.length + 20 : Nat) : Int).toNat < n - ((20 * Ss.length : Nat) : Int).toNat
      omega
  have h0' : n < 20 * Ss.length + 20 := by simp at h0; omega
  refine insertionSort_ok hT (P := Ss.flatten) (s := R) (Q := []) (by simpa using ho) (by omega) (by omega) hn fun H2 R' ho2 hS hSt hf2 => ?_
  have hRl := hSt.length
  refine ⟨fun vs H' => match vs with
      | [.int _ k] => ∃ (bs : Nat) (Ss : List (List Smp)) (R : List Smp), k = bs ∧ 20 ≤ bs ∧ Bks bs Ss ∧ R.length < bs ∧ Srt R ∧ Own encS 26 base H' a n c (Ss.flatten ++ R) ∧ Stb xs (Ss.flatten ++ R) ∧ Fr (blkL a) H H'
      | _ => False,
    fun vs _ => match vs with | [.int _ k] => n - k.toNat | _ => 0, ⟨20, Ss, R', rfl, by omega, hB, by omega, hS, by simpa using ho2, ?_, hf.trans' hf2 (fun _ h _ => h) (fun _ h _ => h)⟩, ?_⟩
  · exact hst.trans ((Stb.refl Ss.flatten).app hSt)
  clear hB hle ho hst hf hol hbl h0 h0' ho2 hS hSt hRl hf2 Ss R R' H1 H2
  rintro J k H3 ⟨bs, Ss, R, rfl, hbs, hB, hR, hS, ho, hst, hf⟩
  have hol := ho.1
  have hbl := hB.len
  rw [List.length_append] at hol
  refine brB_of (fun h0 => ?_) (fun h0 => ?_)
  · have hbn : bs < n := by simpa using h0
    have ew2 : IntKind.i64.wrap (2 * (bs : Int)) = ((2 * bs : Nat) : Int) := by rw [wrap64_of (by omega) (by omega)]; omega
    have ew3 : IntKind.i64.wrap ((bs : Int) * 2) = ((2 * bs : Nat) : Int) := by rw [wrap64_of (by omega) (by omega)]; omega
    rw [ew2, ew3]
    have mu3 : n - ((2 * bs : Nat) : Int).toNat < n - ((bs : Nat) : Int).toNat := by omega
    refine ⟨fun vs H' => match vs with
        | [.int _ i, .int _ j] => ∃ (Ds Ss : List (List Smp)), Bks (2 * bs) Ds ∧ Bks bs Ss ∧ i = ((2 * bs * Ds.length : Nat) : Int) ∧ j = ((2 * bs * Ds.length + 2 * bs : Nat) : Int) ∧ Own encS 26 base H' a n c (Ds.flatten ++ (Ss.flatten ++ R)) ∧ Stb xs (Ds.flatten ++ (Ss.flatten ++ R)) ∧ Fr (blkL a) H H'
        | _ => False,
      fun vs _ => match vs with | [.int _ i, _] => n - i.toNat | _ => 0, ⟨[], Ss, ⟨fun T h => by cases h⟩, hB, by simp, by simp, ho, hst, hf⟩, ?_⟩
    clear hB ho hst hf hol hbl Ss
    rintro J i j H4 ⟨Ds, Ss, hD, hB, rfl, rfl, ho, hst, hf⟩
    have hol := ho.1
    have hbl := hB.len
    have hdl := hD.len
    simp only [List.length_append] at hol
    have hm1 : 2 * bs * Ds.length ≤ n := by omega
    have ew4 : IntKind.i64.wrap (((2 * bs * Ds.length : Nat) : Int) + (bs : Int)) = ((2 * bs * Ds.length + bs : Nat) : Int) := add64 (by omega)
    rw [ew4]
    refine brB_of (fun h1 => ?_) (fun h1 => ?_)
    · have h1' : 2 * bs * Ds.length + 2 * bs ≤ n := Int.ofNat_le.1 (of_decide_eq_true h1)
      match Ss, hB, hbl, ho, hst, hol with
      | [], _, hbl, _, _, hol => simp only [List.flatten_nil, List.flatten_cons, List.length_nil, List.length_append, List.length_cons, List.append_nil, Nat.mul_add, Nat.mul_zero, Nat.mul_one, Nat.zero_add] at hbl hol; omega
      | [X], hB, hbl, _, _, hol => simp only [List.flatten_nil, List.flatten_cons, List.length_nil, List.length_append, List.length_cons, List.append_nil, Nat.mul_add, Nat.mul_zero, Nat.mul_one, Nat.zero_add] at hbl hol; omega
      | X :: Y :: Ss, hB, hbl, ho, hst, hol =>
        have hX := hB.h X (by simp)
        have hY := hB.h Y (by simp)
        refine symMerge_ok hT _ (P := Ds.flatten) (A := X) (B := Y) (Q := Ss.flatten ++ R) (Nat.le_refl _) ho (by simp) (by omega) (by omega) (by omega) (by omega) (by omega) hn hX.2 hY.2 fun H5 Z ho5 hZ hZs hf5 => ?_
        have hZl := hZs.length
        rw [List.length_append] at hZl
        have ew5 : IntKind.i64.wrap (((2 * bs * Ds.length + 2 * bs : Nat) : Int) + ((2 * bs : Nat) : Int)) = ((2 * bs * (Ds ++ [Z]).length + 2 * bs : Nat) : Int) := by
          rw [add64 (by omega)]; simp [Nat.mul_add]
        refine ⟨⟨Ds ++ [Z], Ss, hD.snoc (by omega) hZ, hB.tail.tail, by simp [Nat.mul_add], ew5, by simpa using ho5, hst.trans ?_, hf.trans' hf5 (fun _ h _ => h) (fun _ h _ => h)⟩, ?_⟩
        · have := ((Stb.refl Ds.flatten).app hZs).app (Stb.refl (Ss.flatten ++ R))
          simpa using this
        · show n - ((2 * bs * Ds.length + 2 * bs : Nat) : Int).toNat < n - ((2 * bs * Ds.length : Nat) : Int).toNat
          omega
    have h1' : n < 2 * bs * Ds.length + 2 * bs := Nat.lt_of_not_le fun h => of_decide_eq_false h1 (Int.ofNat_le.2 h)
    refine brB_of (fun h2 => ?_) (fun h2 => ?_)
    · have h2' : 2 * bs * Ds.length + bs < n := Int.ofNat_lt.1 (of_decide_eq_true h2)
      match Ss, hB, hbl, ho, hst, hol with
      | [], _, hbl, _, _, hol => simp only [List.flatten_nil, List.flatten_cons, List.length_nil, List.length_append, List.length_cons, List.append_nil, Nat.mul_add, Nat.mul_zero, Nat.mul_one, Nat.zero_add] at hbl hol; omega
      | X :: Y :: Ss, hB, hbl, ho, hst, hol =>
        simp only [List.flatten_nil, List.flatten_cons, List.length_nil, List.length_append, List.length_cons, List.append_nil, Nat.mul_add, Nat.mul_zero, Nat.mul_one, Nat.zero_add] at hbl hol; omega
      | [X], hB, hbl, ho, hst, hol =>
        have hX := hB.h X (by simp)
        simp only [List.flatten_nil, List.flatten_cons, List.length_nil, List.length_append, List.length_cons, List.append_nil, Nat.mul_add, Nat.mul_zero, Nat.mul_one, Nat.zero_add] at ho hst hol hbl
        refine symMerge_ok hT _ (P := Ds.flatten) (A := X) (B := R) (Q := []) (Nat.le_refl _) ho (by simp) (by omega) (by omega) (by omega) (by omega) (by omega) hn hX.2 hS fun H5 Z ho5 hZ hZs hf5 => ?_
        have hZl := hZs.length
        rw [List.length_append] at hZl
        exact ⟨⟨2 * bs, Ds, Z, rfl, by omega, hD, by omega, hZ, by simpa using ho5, hst.trans ((Stb.refl Ds.flatten).app hZs), hf.trans' hf5 (fun _ h _ => h) (fun _ h _ => h)⟩, mu3⟩
    · have h2' : n ≤ 2 * bs * Ds.length + bs := Nat.le_of_not_lt fun h => of_decide_eq_false h2 (Int.ofNat_lt.2 h)
      match Ss, hB, hbl, ho, hst, hol with
      | [], _, hbl, ho, hst, hol => exact ⟨⟨2 * bs, Ds, R, rfl, by omega, hD, by omega, hS, by simpa using ho, by simpa using hst, hf⟩, mu3⟩
      | X :: Y :: Ss, hB, hbl, ho, hst, hol =>
        simp only [List.flatten_nil, List.flatten_cons, List.length_nil, List.length_append, List.length_cons, List.append_nil, Nat.mul_add, Nat.mul_zero, Nat.mul_one, Nat.zero_add] at hbl hol; omega
      | [X], hB, hbl, ho, hst, hol =>
        have hX := hB.h X (by simp)
        simp only [List.flatten_nil, List.flatten_cons, List.length_nil, List.length_append, List.length_cons, List.append_nil, Nat.mul_add, Nat.mul_zero, Nat.mul_one, Nat.zero_add] at ho hst hol hbl
        have hR0 : R = [] := List.eq_nil_of_length_eq_zero (by omega)
        subst hR0
        exact ⟨⟨2 * bs, Ds, X, rfl, by omega, hD, by omega, hX.2, by simpa using ho, by simpa using hst, hf⟩, mu3⟩
  · have hbn : n ≤ bs := by simp at h0; omega
    refine ⟨rfl, hk H3 _ ho ?_ hst hf⟩
    match Ss, hB, hbl, hol with
    | [], _, _, _ => simpa using hS
    | X :: Y :: Ss, hB, hbl, hol =>
      simp only [List.flatten_nil, List.flatten_cons, List.length_nil, List.length_append, List.length_cons, List.append_nil, Nat.mul_add, Nat.mul_zero, Nat.mul_one, Nat.zero_add] at hbl hol; omega
    | [X], hB, hbl, hol =>
      have hX := hB.h X (by simp)
      simp only [List.flatten_nil, List.flatten_cons, List.length_nil, List.length_append, List.length_cons, List.append_nil, Nat.mul_add, Nat.mul_zero, Nat.mul_one, Nat.zero_add] at hol hbl ⊢
      have hR0 : R = [] := List.eq_nil_of_length_eq_zero (by omega)
      subst hR0
      simpa using hX.2
theorem SortStable_ok {order : Value} (hT : ByT order) {base : Nat} {H : Heap} {a : Option Addr} {n c : Nat} {xs : List Smp} {K : Heap → Prop} (hx : Own encS 26 base H a n c xs) (hn : n ≤ 1000000000)
    (hk : ∀ H' ys, Own encS 26 base H' a n c ys → Srt ys → Stb xs ys → Fr (blkL a) H H' → K H') :
    CallH Try.prog fn_slices_SortStableFunc___api_Sample_api_Sample_ ⟨[.slice a n c, order]⟩ H fun v H' => v = .tuple ⟨[]⟩ ∧ K H' := by
  apply vc_slices_SortStableFunc___api_Sample_api_Sample_
  exact stable_ok hT hx hn fun H' ys h1 h2 h3 h4 => ⟨rfl, hk H' ys h1 h2 h3 h4⟩
end Go.Proofs
