/- A part of a proof: see the last text of this claim. -/
import Derived.Test.YtmclknfhehoadaaP12b
set_option linter.unusedVariables false
open Go Go.GV
namespace Go.Proofs

theorem Same_ok {a b : Option Addr} {n c m d : Nat} {xs ys : List Tmb} {H : Heap} {K : Bool → Heap → Prop} (hx : Sl encT H a n c xs) (hy : Sl encT H b m d ys) (hn : n ≤ 1000000000) (hk : K (decide (xs = ys)) H) :
    CallH Try.prog fn_ref12_Same ⟨[.slice a n c, .slice b m d]⟩ H fun v H' => ∃ r, v = .bool r ∧ K r H' := by
  apply vc_ref12_Same
  have hlx := hx.len
  have hly := hy.len
  refine brB_of (fun h => ⟨_, rfl, ?_⟩) (fun h => ?_)
  · have : ¬ xs = ys := fun e => by subst e; simp at h; omega
    rwa [decide_eq_false this] at hk
  have hnm : n = m := by simp at h; omega
  refine ⟨fun vs H' => match vs with | [.int _ i] => ∃ k : Nat, i = k ∧ k ≤ n ∧ xs.take k = ys.take k ∧ H' = H | _ => False,
    fun vs _ => match vs with | [.int _ i] => n - i.toNat | _ => 0, ⟨0, rfl, by omega, by simp, rfl⟩, ?_⟩
  rintro J i H' ⟨k, rfl, hle, ht, rfl⟩
  refine brB_of (fun h0 => ?_) (fun h0 => ⟨_, rfl, ?_⟩)
  · have h0' : k < n := by simpa using h0
    have hx1 : xs[k]? = some (xs[k]'(by omega)) := by simp
    have hy1 : ys[k]? = some (ys[k]'(by omega)) := by simp
    refine hx.get rfl hx1 (decide_eq_true (by omega)) fun ad ea hc => ⟨_, _, _, ldV hc, ?_⟩
    refine hy.get rfl hy1 (decide_eq_true (by omega)) fun bd eb hd => ⟨_, _, _, ldV hd, ?_⟩
    have eq3 : ∀ x y : Tmb, (x.1 == y.1 && (x.2.1 == y.2.1 && (x.2.2 == y.2.2 && true) && true)) = decide (x = y) := fun x y => by
      rw [← tmb_eq]; simp
    rw [eq3]
    refine brB_of (fun h2 => ⟨_, rfl, ?_⟩) (fun h2 => ?_)
    · have : ¬ xs = ys := fun e => by subst e; simp at h2
      rwa [decide_eq_false this] at hk
    · rw [succ64 (by omega)]
      refine ⟨⟨k + 1, rfl, by omega, ?_, rfl⟩, mu_lt h0'⟩
      rw [List.take_add_one, List.take_add_one, hx1, hy1, ht]
      simp at h2
      rw [h2]
  · have e1 : xs.take k = xs := List.take_of_length_le (by simp at h0; omega)
    have e2 : ys.take k = ys := List.take_of_length_le (by simp at h0; omega)
    rw [e1, e2] at ht
    rwa [decide_eq_true ht] at hk

/-- Is a point in a tomb? -/
def atB (i t : Int) (x : Tmb) : Bool := (x.1 == i) && (decide (x.2.1 ≤ t) && decide (t < x.2.2))
theorem cov_any {l : List Tmb} {i t : Int} : cov l i t ↔ l.any (atB i t) = true := by
  rw [List.any_eq_true]
  unfold cov atB
  constructor
  · rintro ⟨x, hx, h1, h2, h3⟩; exact ⟨x, hx, by simp [h1, h2, h3]⟩
  · rintro ⟨x, hx, h⟩; simp at h; exact ⟨x, hx, h.1, h.2.1, h.2.2⟩
theorem tells_at {i t : Int} {b b1 : Nat} : Tells (.func (.func 29) #[] #[.pointer (some ⟨b, 0, none⟩), .pointer (some ⟨b1, 0, none⟩)]) (atB i t) (fun H => Blk H ⟨b, 0, none⟩ [.int .i64 i] ∧ Blk H ⟨b1, 0, none⟩ [.int .i64 t]) := by
  intro x H K hg hk
  refine ⟨29, #[], _, rfl, by kernel_rfl, ?_⟩
  apply vc_cover_Covers_1
  intro b2 H1 hn1
  have hk' := hk H1 hn1.fr
  have h1 := hg.1.keep hn1.fr
  have h2 := hg.2.keep hn1.fr
  unfold atB at hk'
  refine ⟨_, hn1.blk.ldK (j := 0) (by kernel_rfl) rfl, _, h1.ld0 (by kernel_rfl) rfl, brB_of (fun g => ?_) (fun g => ⟨_, rfl, ?_⟩)⟩
  · rw [g, Bool.true_and] at hk'
    refine ⟨_, hn1.blk.ldK (j := 1) (by kernel_rfl) rfl, _, h2.ld0 (by kernel_rfl) rfl, brB_of (fun g2 => ?_) (fun g2 => ⟨_, rfl, ?_⟩)⟩
    · rw [g2, Bool.true_and] at hk'
      exact ⟨_, h2.ld0 (by kernel_rfl) rfl, _, hn1.blk.ldK (j := 2) (by kernel_rfl) rfl, _, rfl, hk'⟩
    · rw [g2, Bool.false_and] at hk'; exact hk'
  · rw [g, Bool.false_and] at hk'; exact hk'

theorem Covers_ok {a : Option Addr} {n c : Nat} {xs : List Tmb} {i t : Int} {H : Heap} {K : Bool → Heap → Prop} (hx : Sl encT H a n c xs) (hn : n ≤ 1000000) (hk : ∀ H', Fr [] H H' → K (xs.any (atB i t)) H') :
    CallH Try.prog fn_cover_Covers ⟨[.slice a n c, .int .i64 i, .int .i64 t]⟩ H fun v H' => ∃ b, v = .bool b ∧ K b H' := by
  apply vc_cover_Covers
  intro b H1 hn1 b1 H2 hn2
  apply vc_slices_ContainsFunc___api_Tomb_api_Tomb_
  have hlx := hx.len
  have hf := hn1.fr.keep0 hn2.fr
  refine IndexFunc_ok (G := fun H => Blk H ⟨b, 0, none⟩ [.int .i64 i] ∧ Blk H ⟨b1, 0, none⟩ [.int .i64 t]) tells_at (fun H' hf' => ⟨(hn1.blk.keep hn2.fr).keep hf', hn2.blk.keep hf'⟩) (hx.keep hf) (by omega) fun k H3 hk3 hno hyes hf3 => ?_
  have hK := hk H3 (hf.keep0 hf3)
  refine ⟨_, rfl, _, rfl, ?_⟩
  by_cases hkn : k < n
  · have : xs.any (atB i t) = true := List.any_eq_true.2 ⟨xs[k]'(by omega), List.getElem_mem _, hyes hkn _ (by simp)⟩
    rw [this] at hK
    rw [if_pos hkn, decide_eq_true (by omega)]
    exact hK
  · have : xs.any (atB i t) = false := by
      rw [List.any_eq_false]
      intro x hx
      obtain ⟨j, hj⟩ := List.mem_iff_getElem?.1 hx
      have hjl := (List.getElem?_eq_some_iff.1 hj).1
      rw [hno j x (by omega) hj]
      simp
    rw [this] at hK
    rw [if_neg hkn, decide_eq_false (by omega)]
    exact hK

theorem rCovers_ok {a : Option Addr} {n c : Nat} {xs : List Tmb} {i t : Int} {H : Heap} {K : Bool → Heap → Prop} (hx : Sl encT H a n c xs) (hn : n ≤ 1000000) (hk : K (xs.any (atB i t)) H) :
    CallH Try.prog fn_ref12_Covers ⟨[.slice a n c, .int .i64 i, .int .i64 t]⟩ H fun v H' => ∃ b, v = .bool b ∧ K b H' := by
  apply vc_ref12_Covers
  have hlx := hx.len
  refine ⟨fun vs H' => match vs with | [.int _ j] => ∃ k : Nat, j = k ∧ k ≤ n ∧ (xs.drop k).any (atB i t) = xs.any (atB i t) ∧ H' = H | _ => False,
    fun vs _ => match vs with | [.int _ j] => n - j.toNat | _ => 0, ⟨0, rfl, by omega, rfl, rfl⟩, ?_⟩
  rintro J j H' ⟨k, rfl, hle, ht, rfl⟩
  refine brB_of (fun g => ?_) (fun g => ⟨_, rfl, ?_⟩)
  · have g' : k < n := by simpa using g
    have hxk : xs[k]? = some (xs[k]'(by omega)) := by simp
    have hdr : xs.drop k = xs[k]'(by omega) :: xs.drop (k + 1) := List.drop_eq_getElem_cons (by omega)
    generalize xs[k]'(by omega) = x at hxk hdr
    rw [hdr, List.any_cons] at ht
    refine ⟨fun _ H'' => H'' = H' ∧ atB i t x = false, ?_, ?_⟩
    · unfold atB at ht ⊢
      refine hx.get rfl hxk (decide_eq_true (by omega)) fun ad ea hc => ⟨_, ldI hc, brB_of (fun g1 => ?_) (fun g1 => ⟨rfl, ?_⟩)⟩
      · refine hx.get rfl hxk (decide_eq_true (by omega)) fun ad ea hc => ⟨_, ldF hc, brB_of (fun g2 => ?_) (fun g2 => ⟨rfl, ?_⟩)⟩
        · refine hx.get rfl hxk (decide_eq_true (by omega)) fun ad ea hc => ⟨_, ldTo hc, brB_of (fun g3 => ⟨_, rfl, ?_⟩) (fun g3 => ⟨rfl, ?_⟩)⟩
          · rw [g1, g2, g3] at ht
            have ht : true = xs.any fun x => (x.1 == i) && (decide (x.2.1 ≤ t) && decide (t < x.2.2)) := ht
            unfold atB at hk
            rw [← ht] at hk
            exact hk
          · rw [g1, g2, g3]; rfl
        · rw [g1, g2]; rfl
      · rw [g1]; rfl
    · rintro J2 H2 ⟨rfl, hno⟩
      rw [hno, Bool.false_or] at ht
      rw [succ64 (by omega)]
      exact ⟨⟨k + 1, rfl, by omega, ht, rfl⟩, mu_lt g'⟩
  · have e : xs.drop k = [] := List.drop_eq_nil_of_le (by simp at g; omega)
    rw [e] at ht
    rw [← ht] at hk
    exact hk

/-! the reference's way -/
def aheadB (a b : Tmb) : Bool := decide (a.1 < b.1) || (a.1 == b.1 && decide (a.2.1 < b.2.1))
theorem ahead_ok {x y : Tmb} {H : Heap} {K : Bool → Heap → Prop} (hk : ∀ H', Fr [] H H' → K (aheadB x y) H') : CallH Try.prog fn_ref12_ahead ⟨[vT x, vT y]⟩ H fun v H' => ∃ b, v = .bool b ∧ K b H' := by
  apply vc_ref12_ahead
  intro b H1 hn1 b1 H2 hn2
  have h1 := hn1.blk.keep hn2.fr
  have h2 := hn2.blk
  have hk' := hk H2 (hn1.fr.keep0 hn2.fr)
  unfold aheadB at hk'
  refine ⟨_, h1.ldK (j := 0) (by kernel_rfl) rfl, _, h2.ldK (j := 0) (by kernel_rfl) rfl, brB_of (fun g => ⟨_, rfl, ?_⟩) (fun g => ?_)⟩
  · rw [g, Bool.true_or] at hk'; exact hk'
  · rw [g, Bool.false_or] at hk'
    refine ⟨_, h1.ldK (j := 0) (by kernel_rfl) rfl, _, h2.ldK (j := 0) (by kernel_rfl) rfl, brB_of (fun g2 => ?_) (fun g2 => ⟨_, rfl, ?_⟩)⟩
    · rw [g2, Bool.true_and] at hk'
      exact ⟨_, h1.ldK (j := 1) (by kernel_rfl) rfl, _, h2.ldK (j := 1) (by kernel_rfl) rfl, _, rfl, hk'⟩
    · rw [g2, Bool.false_and] at hk'; exact hk'
def insT (x : Tmb) : List Tmb → List Tmb
  | [] => [x]
  | y :: l => if aheadB x y then x :: y :: l else y :: insT x l
theorem insT_perm (x : Tmb) : ∀ l : List Tmb, (insT x l).Perm (x :: l)
  | [] => List.Perm.refl _
  | y :: l => by
    unfold insT
    split
    · exact List.Perm.refl _
    · exact ((insT_perm x l).cons y).trans (List.Perm.swap x y l)
theorem insT_ord (x : Tmb) : ∀ {l : List Tmb}, l.Pairwise ord → (insT x l).Pairwise ord
  | [], _ => by simp [insT]
  | y :: l, h => by
    have h' := List.pairwise_cons.1 h
    unfold insT
    split
    · rename_i ha
      refine List.pairwise_cons.2 ⟨fun z hz => ?_, h⟩
      unfold aheadB at ha
      simp at ha
      rcases List.mem_cons.1 hz with rfl | hz
      · unfold ord; omega
      · have := h'.1 z hz
        unfold ord at *
        omega
    · rename_i ha
      refine List.pairwise_cons.2 ⟨fun z hz => ?_, insT_ord x h'.2⟩
      unfold aheadB at ha
      simp at ha
      rcases List.mem_cons.1 ((insT_perm x l).mem_iff.1 hz) with rfl | hz
      · unfold ord; omega
      · exact h'.1 z hz
end Go.Proofs
