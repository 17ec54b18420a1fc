/- A part of a proof: see the last text of this claim. -/
import Derived.Test.YtmclknfhehoadaaP12d
set_option linter.unusedVariables false
open Go Go.GV
namespace Go.GV
theorem flat_get {α : Type} (E : Enc α) : ∀ (xs : List α) (i : Nat) (x : α) (j : Nat) (v : Value), xs[i]? = some x → (E.cells x)[j]? = some v → (xs.flatMap E.cells)[i * E.sz + j]? = some v
  | [], i, x, j, v, h, _ => by simp at h
  | y :: xs, i, x, j, v, h, hj => by
    have hl := E.len y
    rw [List.flatMap_cons]
    cases i with
    | zero =>
      simp only [List.getElem?_cons_zero, Option.some.injEq] at h
      subst h
      rw [Nat.zero_mul, Nat.zero_add, List.getElem?_append_left (List.getElem?_eq_some_iff.1 hj).1]
      exact hj
    | succ i =>
      simp only [List.getElem?_cons_succ] at h
      rw [List.getElem?_append_right (by rw [hl, Nat.succ_mul]; omega), hl, Nat.succ_mul, show i * E.sz + E.sz + j - E.sz = i * E.sz + j by omega]
      exact flat_get E xs i x j v h hj
/-- A list that was built just now. -/
theorem sl_list {α : Type} (E : Enc α) {H H' : Heap} {b : Nat} {vs : List Value} {t : TypeId} (xs : List α) (h : New H b (.cells ⟨vs⟩ t) H') (hv : vs = xs.flatMap E.cells) : Sl E H' (some ⟨b, 0, none⟩) xs.length xs.length xs := by
  refine ⟨rfl, Nat.le_refl _, .inr ⟨b, 0, rfl, fun i y hy j v hj => ?_⟩⟩
  rw [cell_of_blk h.get, hv, Nat.zero_add]
  have := flat_get E xs i y j v hy hj
  simpa using this
/-- Several things that were built just now are appended. -/
theorem ap_list {α : Type} {E : Enc α} {P : Program} {ts ty t t' : TypeId} {bytes : Nat} {H0 H : Heap} {a : Option Addr} {n c m : Nat} {xs : List α} (ys : List α) {vs : List Value} {K : Nat → Option Addr → Nat → Nat → Heap → Prop}
    (hts : sliceB P ts t = true) (ht : elemB P t E.sz bytes = true) (ho : Own E t H0.size H a n c xs) (hf : Fr [] H0 H) (hv : vs = ys.flatMap E.cells) (hm : m = ys.length) (hsz : (n + ys.length) * bytes ≤ 140737488355328)
    (hk : ∀ b a' n' c' H', Own E t H0.size H' a' n' c' (xs ++ ys) → Fr [] H0 H' → Fr (blkL a) H H' → K b a' n' c' H') :
    ∀ b H1, New H b (.cells ⟨vs⟩ t') H1 → SemWp P (Builtin.append_ ⟨[ts, ts]⟩ ty ⟨[.slice a n c, .slice (some ⟨b, 0, none⟩) m m]⟩) H1 fun v H' => ∃ a n c, v = .slice a n c ∧ K b a n c H' := fun b H1 hn => by
  subst hm
  exact ap_own hts ht (ho.keep hn.fr) (hf.keep0 hn.fr) (sl_list E ys hn hv) hsz fun a' n' c' H' h1 h2 h3 => hk b a' n' c' H' h1 h2 (hn.fr.trans' h3 (by simp) (fun k hk _ => hk))
end Go.GV
namespace Go.Proofs

def clipT (f t : Int) (x : Tmb) : Tmb := (x.1, max x.2.1 f, min x.2.2 t)
theorem max_if' (a b : Int) : (if b > a then b else a) = max a b := by split <;> omega
theorem min_if' (a b : Int) : (if b < a then b else a) = min a b := by split <;> omega
theorem part_ok {x : Tmb} {f t : Int} {H : Heap} {K : Int → Int → Int → Heap → Prop} (hk : ∀ H', Fr [] H H' → K x.1 (max x.2.1 f) (min x.2.2 t) H') :
    CallH Try.prog fn_cover_part ⟨[vT x, .int .i64 f, .int .i64 t]⟩ H fun v H' => ∃ n m k, v = .agg ⟨[.int .i64 n, .int .i64 m, .int .i64 k]⟩ ∧ K n m k H' := by
  apply vc_cover_part
  intro b H1 hn1 b2 H2 hn2
  have h1 := hn1.blk.keep hn2.fr
  refine ⟨_, h1.ldK (j := 0) (by kernel_rfl) rfl, _, h1.ldK (j := 1) (by kernel_rfl) rfl, _, h1.ldK (j := 2) (by kernel_rfl) rfl, ?_⟩
  refine hn2.blk.st0 (by kernel_rfl) (by kernel_rfl) (by simp [Value.cells, Value.oneCell']) (by simp [Value.cells]) fun H3 hB hf3 => ?_
  have hf := (hn1.fr.keep0 hn2.fr).keep hf3 (by have := hn2.eq; have := hn1.fr.size; simp; omega)
  have hk' := hk H3 hf
  rw [← max_if', ← min_if'] at hk'
  exact ⟨_, _, _, hB.ldAK (j := 0) (us := [.int .i64 x.1, .int .i64 _, .int .i64 _]) (by kernel_rfl) (by kernel_rfl) rfl, _, _, _, rfl, hk'⟩

theorem Clip_ok {a : Option Addr} {n c : Nat} {xs : List Tmb} {f t : Int} {H : Heap} {K : Option Addr → Nat → Nat → Heap → Prop} (hx : Sl encT H a n c xs) (hn : n ≤ 10000)
    (hk : ∀ a' n' c' H' ys, Own encT 28 H.size H' a' n' c' ys → IsN (xs.map (clipT f t)) ys → n' ≤ n → Fr [] H H' → K a' n' c' H') :
    CallH Try.prog fn_cover_Clip ⟨[.slice a n c, .agg ⟨[.int .i64 f, .int .i64 t]⟩]⟩ H fun v H' => ∃ a n c, v = .slice a n c ∧ K a n c H' := by
  apply vc_cover_Clip
  have hlx := hx.len
  intro b0 H1 hn1
  refine ⟨fun vs H' => match vs with | [.slice o p q, .int _ i] => ∃ (i' : Nat), i = i' ∧ i' ≤ n ∧ Own encT 28 H1.size H' o p q ((xs.take i').map (clipT f t)) ∧ Fr [] H1 H' | _ => False,
    fun vs _ => match vs with | [_, .int _ i] => n - i.toNat | _ => 0, ⟨0, rfl, by omega, Own.nil _ _ _ _, Fr.refl _ _⟩, ?_⟩
  rintro J o p q i H2 ⟨i', rfl, hi, ho, hf⟩
  have hpl := ho.1
  simp only [List.length_map, List.length_take] at hpl
  refine brB_of (fun g => ?_) (fun g => ?_)
  · have g' : i' < n := by simpa using g
    have hxi : xs[i']? = some (xs[i']'(by omega)) := by simp
    have htk : xs.take (i' + 1) = xs.take i' ++ [xs[i']'(by omega)] := by rw [List.take_add_one, hxi]; rfl
    generalize xs[i']'(by omega) = x at hxi htk
    rw [succ64 (i := i') (by omega)]
    refine ((hx.keep hn1.fr).keep hf).get rfl hxi (decide_eq_true (by omega)) fun ad ea hc => ⟨_, _, _, ldV hc, ?_⟩
    refine var_blk (by kernel_rfl) (by kernel_rfl) (by simp [Value.cells, Value.oneCell']) rfl fun b H5 hb hB hf5 => ?_
    have hr := (hn1.blk.keep hf).keep hf5
    refine ⟨_, _, _, hB.ldAK (j := 0) (us := [.int .i64 x.1, .int .i64 x.2.1, .int .i64 x.2.2]) (by kernel_rfl) (by kernel_rfl) rfl, _, hr.ldK (j := 0) (by kernel_rfl) rfl, _, hr.ldK (j := 1) (by kernel_rfl) rfl, ?_⟩
    refine part_ok (x := x) fun H6 hf6 => ?_
    have hf56 := hf5.keep0 hf6
    refine ap_one (E := encT) (clipT f t x) slice22 elem28 (ho.keep hf56) (hf.keep0 hf56) rfl (by omega) fun _ o3 p3 q3 H7 ho7 hf7 _ => ⟨⟨i' + 1, rfl, by omega, ?_, hf7⟩, mu_lt g'⟩
    rw [htk, List.map_append]
    exact ho7
  · have hin : i' = n := by simp at g; omega
    have hall : xs.take i' = xs := List.take_of_length_le (by omega)
    rw [hall] at ho
    refine Norm_ok ho.sl (by omega) fun a6 n6 c6 H6 ys ho6 hN6 hn6 hf6 => ⟨_, _, _, rfl, ?_⟩
    have := (hn1.fr.keep0 hf)
    exact hk _ _ _ _ ys (ho6.base this.size) hN6 (by omega) (this.keep0 hf6)

theorem rClip_ok {a : Option Addr} {n c : Nat} {xs : List Tmb} {f t : Int} {H : Heap} {K : Option Addr → Nat → Nat → Heap → Prop} (hx : Sl encT H a n c xs) (hn : n ≤ 10000)
    (hk : ∀ a' n' c' H' ys, Own encT 28 H.size H' a' n' c' ys → IsN (xs.map (clipT f t)) ys → n' ≤ n → Fr [] H H' → K a' n' c' H') :
    CallH Try.prog fn_ref12_Clip ⟨[.slice a n c, .agg ⟨[.int .i64 f, .int .i64 t]⟩]⟩ H fun v H' => ∃ a n c, v = .slice a n c ∧ K a n c H' := by
  apply vc_ref12_Clip
  have hlx := hx.len
  intro b0 H0 hn0 b1 H1 hn1
  have hf01 := hn0.fr.keep0 hn1.fr
  refine ⟨fun vs H' => match vs with | [.slice o p q, .int _ i] => ∃ (i' : Nat), i = i' ∧ i' ≤ n ∧ Own encT 28 H0.size H' o p q ((xs.take i').map (clipT f t)) ∧ Fr [] H0 H' | _ => False,
    fun vs _ => match vs with | [_, .int _ i] => n - i.toNat | _ => 0, ⟨0, rfl, by omega, Own.made encT 28 hn1 (Nat.le_refl _), hn1.fr⟩, ?_⟩
  rintro J o p q i H2 ⟨i', rfl, hi, ho, hf⟩
  have hpl := ho.1
  simp only [List.length_map, List.length_take] at hpl
  refine brB_of (fun g => ?_) (fun g => ?_)
  · have g' : i' < n := by simpa using g
    have hxi : xs[i']? = some (xs[i']'(by omega)) := by simp
    have htk : xs.take (i' + 1) = xs.take i' ++ [xs[i']'(by omega)] := by rw [List.take_add_one, hxi]; rfl
    generalize xs[i']'(by omega) = x at hxi htk
    rw [succ64 (i := i') (by omega)]
    have hr := hn0.blk.keep hf
    have hxs := (hx.keep hn0.fr).keep hf
    refine hxs.get rfl hxi (decide_eq_true (by omega)) fun ad ea hc => ⟨_, ldI hc, ?_⟩
    refine hxs.get rfl hxi (decide_eq_true (by omega)) fun ad ea hc => ⟨_, ldF hc, _, hr.ldK (j := 0) (by kernel_rfl) rfl, ?_⟩
    refine hxs.get rfl hxi (decide_eq_true (by omega)) fun ad ea hc => ⟨_, ldTo hc, _, hr.ldK (j := 1) (by kernel_rfl) rfl, ?_⟩
    rw [max_if', min_if']
    refine ap_one (E := encT) (clipT f t x) slice22 elem28 ho hf rfl (by omega) fun _ o3 p3 q3 H7 ho7 hf7 _ => ⟨⟨i' + 1, rfl, by omega, ?_, hf7⟩, mu_lt g'⟩
    rw [htk, List.map_append]
    exact ho7
  · have hin : i' = n := by simp at g; omega
    have hall : xs.take i' = xs := List.take_of_length_le (by omega)
    rw [hall] at ho
    refine rNorm_ok ho.sl (by omega) fun a6 n6 c6 H6 ys ho6 hN6 hn6 hf6 => ⟨_, _, _, rfl, ?_⟩
    have := hn0.fr.keep0 hf
    exact hk _ _ _ _ ys (ho6.base this.size) hN6 (by omega) (this.keep0 hf6)

def minT (f t : Int) (x : Tmb) : List Tmb := [(x.1, x.2.1, min x.2.2 f), (x.1, max x.2.1 t, x.2.2)]
def outT (f t : Int) (xs : List Tmb) : List Tmb := if f ≥ t then xs else xs.flatMap (minT f t)
theorem minT_len (f t : Int) (xs : List Tmb) : (xs.flatMap (minT f t)).length = 2 * xs.length := by
  induction xs with
  | nil => rfl
  | cons x xs ih => rw [List.flatMap_cons, List.length_append, ih]; simp [minT]; omega

theorem Minus_ok {a : Option Addr} {n c : Nat} {xs : List Tmb} {f t : Int} {H : Heap} {K : Option Addr → Nat → Nat → Heap → Prop} (hx : Sl encT H a n c xs) (hn : n ≤ 10000) (hI : ∀ x ∈ xs, I64 x.2.1 ∧ I64 x.2.2)
    (hk : ∀ a' n' c' H' ys, Own encT 28 H.size H' a' n' c' ys → IsN (outT f t xs) ys → n' ≤ 2 * n → Fr [] H H' → K a' n' c' H') :
    CallH Try.prog fn_cover_Minus ⟨[.slice a n c, .agg ⟨[.int .i64 f, .int .i64 t]⟩]⟩ H fun v H' => ∃ a n c, v = .slice a n c ∧ K a n c H' := by
  apply vc_cover_Minus
  have hlx := hx.len
  intro b0 H1 hn1
  refine ⟨_, hn1.blk.ldK (j := 0) (by kernel_rfl) rfl, _, hn1.blk.ldK (j := 1) (by kernel_rfl) rfl, brB_of (fun g0 => ?_) (fun g0 => ?_)⟩
  · refine Norm_ok (hx.keep hn1.fr) (by omega) fun a6 n6 c6 H6 ys ho6 hN6 hn6 hf6 => ⟨_, _, _, rfl, ?_⟩
    refine hk _ _ _ _ ys (ho6.base hn1.fr.size) ?_ (by omega) (hn1.fr.keep0 hf6)
    unfold outT
    rwa [if_pos (by simpa using g0)]
  refine ⟨fun vs H' => match vs with | [.slice o p q, .int _ i] => ∃ (i' : Nat), i = i' ∧ i' ≤ n ∧ Own encT 28 H1.size H' o p q ((xs.take i').flatMap (minT f t)) ∧ Fr [] H1 H' | _ => False,
    fun vs _ => match vs with | [_, .int _ i] => n - i.toNat | _ => 0, ⟨0, rfl, by omega, Own.nil _ _ _ _, Fr.refl _ _⟩, ?_⟩
  rintro J o p q i H2 ⟨i', rfl, hi, ho, hf⟩
  have hpl := ho.1
  simp only [minT_len, List.length_take] at hpl
  refine brB_of (fun g => ?_) (fun g => ?_)
  · have g' : i' < n := by simpa using g
    have hxi : xs[i']? = some (xs[i']'(by omega)) := by simp
    have htk : xs.take (i' + 1) = xs.take i' ++ [xs[i']'(by omega)] := by rw [List.take_add_one, hxi]; rfl
    have hIx := hI _ (List.getElem_mem (show i' < xs.length by omega))
    generalize xs[i']'(by omega) = x at hxi htk hIx
    rw [succ64 (i := i') (by omega)]
    refine ((hx.keep hn1.fr).keep hf).get rfl hxi (decide_eq_true (by omega)) fun ad ea hc => ⟨_, _, _, ldV hc, ?_⟩
    refine var_blk (by kernel_rfl) (by kernel_rfl) (by simp [Value.cells, Value.oneCell']) rfl fun b H5 hb hB hf5 => ?_
    have hr := (hn1.blk.keep hf).keep hf5
    have hv : ∀ {Hx : Heap}, Fr [] H5 Hx → Ld Try.prog 28 Hx ⟨b, 0, none⟩ (vT x) := fun hf => (hB.keep hf).ldAK (j := 0) (us := [.int .i64 x.1, .int .i64 x.2.1, .int .i64 x.2.2]) (by kernel_rfl) (by kernel_rfl) rfl
    refine ⟨_, _, _, hv (Fr.refl _ _), _, hr.ldK (j := 0) (by kernel_rfl) rfl, _, _, _, hv (Fr.refl _ _), _, hr.ldK (j := 1) (by kernel_rfl) rfl, ?_⟩
    refine part_ok (x := x) fun H6 hf6 => ⟨(hr.keep hf6).ldK (j := 1) (by kernel_rfl) rfl, hv hf6, ?_⟩
    refine part_ok (x := x) fun H7 hf7 => ?_
    have hf57 := (hf5.keep0 hf6).keep0 hf7
    refine ap_list (E := encT) (minT f t x) slice22 elem28 (ho.keep hf57) (hf.keep0 hf57) ?_ rfl (by simp [minT]; omega) fun _ o3 p3 q3 H8 ho8 hf8 _ => ⟨⟨i' + 1, rfl, by omega, ?_, hf8⟩, mu_lt g'⟩
    · unfold I64 at hIx
      rw [show max x.2.1 (-9223372036854775808) = x.2.1 by omega, show min x.2.2 9223372036854775807 = x.2.2 by omega]
      rfl
    · rw [htk, List.flatMap_append]
      simpa using ho8
  · have hin : i' = n := by simp at g; omega
    have hall : xs.take i' = xs := List.take_of_length_le (by omega)
    rw [hall] at ho
    refine Norm_ok ho.sl (by omega) fun a6 n6 c6 H6 ys ho6 hN6 hn6 hf6 => ⟨_, _, _, rfl, ?_⟩
    have := (hn1.fr.keep0 hf)
    refine hk _ _ _ _ ys (ho6.base this.size) ?_ (by omega) (this.keep0 hf6)
    unfold outT
    rwa [if_neg (by simpa using g0)]

theorem ldR {H : Heap} {ad : Addr} {x : Tmb} (h : CellsAt H ad (encT.cells x)) : Ld Try.prog 26 H (ad.add 1) (.agg ⟨[.int .i64 x.2.1, .int .i64 x.2.2]⟩) := by
  refine ld_agg (by kernel_rfl) (by kernel_rfl) fun i v hv => ?_
  rw [add_add]
  rcases i with _ | _ | i
  · simp at hv; subst hv; exact h 1 _ rfl
  · simp at hv; subst hv; exact h 2 _ rfl
  · simp at hv

theorem rMinus_ok {a : Option Addr} {n c : Nat} {xs : List Tmb} {f t : Int} {H : Heap} {K : Option Addr → Nat → Nat → Heap → Prop} (hx : Sl encT H a n c xs) (hn : n ≤ 10000)
    (hk : ∀ a' n' c' H' ys, Own encT 28 H.size H' a' n' c' ys → IsN (outT f t xs) ys → n' ≤ 2 * n → Fr [] H H' → K a' n' c' H') :
    CallH Try.prog fn_ref12_Minus ⟨[.slice a n c, .agg ⟨[.int .i64 f, .int .i64 t]⟩]⟩ H fun v H' => ∃ a n c, v = .slice a n c ∧ K a n c H' := by
  apply vc_ref12_Minus
  have hlx := hx.len
  intro b0 H0 hn0
  refine ⟨_, hn0.blk.ldK (j := 0) (by kernel_rfl) rfl, _, hn0.blk.ldK (j := 1) (by kernel_rfl) rfl, brB_of (fun g0 => ?_) (fun g0 => ?_)⟩
  · refine rNorm_ok (hx.keep hn0.fr) (by omega) fun a6 n6 c6 H6 ys ho6 hN6 hn6 hf6 => ⟨_, _, _, rfl, ?_⟩
    refine hk _ _ _ _ ys (ho6.base hn0.fr.size) ?_ (by omega) (hn0.fr.keep0 hf6)
    unfold outT
    rwa [if_pos (by simpa using g0)]
  intro b1 H1 hn1
  refine ⟨fun vs H' => match vs with | [.slice o p q, .int _ i] => ∃ (i' : Nat), i = i' ∧ i' ≤ n ∧ Own encT 28 H0.size H' o p q ((xs.take i').flatMap (minT f t)) ∧ Fr [] H0 H' | _ => False,
    fun vs _ => match vs with | [_, .int _ i] => n - i.toNat | _ => 0, ⟨0, rfl, by omega, Own.made encT 28 hn1 (Nat.le_refl _), hn1.fr⟩, ?_⟩
  rintro J o p q i H2 ⟨i', rfl, hi, ho, hf⟩
  have hpl := ho.1
  simp only [minT_len, List.length_take] at hpl
  refine brB_of (fun g => ?_) (fun g => ?_)
  · have g' : i' < n := by simpa using g
    have hxi : xs[i']? = some (xs[i']'(by omega)) := by simp
    have htk : xs.take (i' + 1) = xs.take i' ++ [xs[i']'(by omega)] := by rw [List.take_add_one, hxi]; rfl
    generalize xs[i']'(by omega) = x at hxi htk
    rw [succ64 (i := i') (by omega)]
    have hxs := (hx.keep hn0.fr).keep hf
    refine hxs.get rfl hxi (decide_eq_true (by omega)) fun ad ea hc => ⟨_, _, ldR hc, ?_⟩
    refine var_blk (by kernel_rfl) (by kernel_rfl) (by simp [Value.cells, Value.oneCell']) rfl fun b H5 hb hB hf5 => ?_
    have hr := (hn0.blk.keep hf).keep hf5
    refine (hxs.keep hf5).get rfl hxi (decide_eq_true (by omega)) fun ad ea hc => ⟨_, ldI hc, _, hB.ldK (j := 0) (by kernel_rfl) rfl, _, hB.ldK (j := 1) (by kernel_rfl) rfl, _, hr.ldK (j := 0) (by kernel_rfl) rfl, ?_⟩
    rw [min_if']
    refine ap_one (E := encT) (x.1, x.2.1, min x.2.2 f) slice22 elem28 (ho.keep hf5) (hf.keep0 hf5) rfl (by omega) fun _ o3 p3 q3 H7 ho7 hf7 hf57 => ?_
    have hnb : ∀ k ∈ blkL o, k ≠ b := fun k hk e => by have := (ho.ge k hk).2; omega
    have hB7 := hB.fr hf57 fun h => hnb _ h rfl
    have hr7 := hn0.blk.keep hf7
    have hp3 := ho7.1
    simp only [List.length_append, minT_len, List.length_take, List.length_singleton] at hp3
    refine ((hx.keep hn0.fr).keep hf7).get rfl hxi (decide_eq_true (by omega)) fun ad ea hc => ⟨_, ldI hc, _, hB7.ldK (j := 0) (by kernel_rfl) rfl, _, hr7.ldK (j := 1) (by kernel_rfl) rfl, _, hB7.ldK (j := 1) (by kernel_rfl) rfl, ?_⟩
    rw [max_if']
    refine ap_one (E := encT) (x.1, max x.2.1 t, x.2.2) slice22 elem28 ho7 hf7 rfl (by omega) fun _ o4 p4 q4 H8 ho8 hf8 _ => ⟨⟨i' + 1, rfl, by omega, ?_, hf8⟩, mu_lt g'⟩
    rw [htk, List.flatMap_append]
    simpa [minT] using ho8
  · have hin : i' = n := by simp at g; omega
    have hall : xs.take i' = xs := List.take_of_length_le (by omega)
    rw [hall] at ho
    refine rNorm_ok ho.sl (by omega) fun a6 n6 c6 H6 ys ho6 hN6 hn6 hf6 => ⟨_, _, _, rfl, ?_⟩
    have := hn0.fr.keep0 hf
    refine hk _ _ _ _ ys (ho6.base this.size) ?_ (by omega) (this.keep0 hf6)
    unfold outT
    rwa [if_neg (by simpa using g0)]
end Go.Proofs
