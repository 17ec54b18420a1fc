/- A part of a proof: see the last text of this claim. -/
import Derived.Test.YtddfciphdbdemaaP07h
import Derived.Test.YtddfciphdbdemaaL07e
import Derived.Test.YtddfciphdbdemaaGvOpen
set_option linter.unusedVariables false
set_option maxRecDepth 100000
open Go Go.GV
namespace Go.Proofs

theorem ldI {H : Heap} {ad : Addr} {x : Int} (h : CellsAt H ad (encInt.cells x)) : Ld Try.prog 3 H ad (.int .i64 x) := ld_one (by kernel_rfl) h
/-- What is wished, by whether it is in the one, in the other. -/
def WishW (w : Bool → Bool → Bool) (wish : Value) : Prop := ∀ (a b : Bool) (H : Heap) (K : Bool → Heap → Prop), K (w a b) H → CallV Try.prog wish [.bool a, .bool b] H fun v H' => ∃ r, v = .bool r ∧ K r H'
theorem wishAnd : WishW wAnd (.func (.func 71) ⟨[]⟩ ⟨[]⟩) := fun a b H K hk => ⟨71, ⟨[]⟩, ⟨[]⟩, rfl, by kernel_rfl, by
  apply vc_post_And_1
  unfold wAnd at hk
  refine brB_of (fun h => ⟨_, rfl, ?_⟩) (fun h => ⟨_, rfl, ?_⟩)
  · rw [h] at hk; exact hk
  · rw [h] at hk; exact hk⟩
theorem wishOr : WishW wOr (.func (.func 95) ⟨[]⟩ ⟨[]⟩) := fun a b H K hk => ⟨95, ⟨[]⟩, ⟨[]⟩, rfl, by kernel_rfl, by
  apply vc_post_Or_1
  exact ⟨_, rfl, hk⟩⟩
theorem wishNot : WishW wNot (.func (.func 96) ⟨[]⟩ ⟨[]⟩) := fun a b H K hk => ⟨96, ⟨[]⟩, ⟨[]⟩, rfl, by kernel_rfl, by
  apply vc_post_Not_1
  unfold wNot at hk
  refine brB_of (fun h => ⟨_, rfl, ?_⟩) (fun h => ⟨_, rfl, ?_⟩)
  · rw [h] at hk; exact hk
  · rw [h] at hk; exact hk⟩

theorem merge_ok {w : Bool → Bool → Bool} {wish : Value} {a b : Option Addr} {n c m d : Nat} {X Y : List Int} {H : Heap} {K : Option Addr → Nat → Nat → Heap → Prop} (hw : WishW w wish) (hx : Sl encInt H a n c X) (hy : Sl encInt H b m d Y)
    (hlen : n + m ≤ 1000000000) (hk : ∀ a' n' c' H', Own encInt 3 H.size H' a' n' c' (mrgW w X Y) → Fr [] H H' → K a' n' c' H') :
    CallH Try.prog fn_post_merge_int_ ⟨[.slice a n c, .slice b m d, wish]⟩ H fun v H' => ∃ a n c, v = .slice a n c ∧ K a n c H' := by
  apply vc_post_merge_int_
  refine ⟨fun vs H' => match vs with
      | [.slice a n c, .slice b m d, .slice o p q] => ∃ xs ys os, Sl encInt H a n c xs ∧ Sl encInt H b m d ys ∧ Own encInt 3 H.size H' o p q os ∧ os ++ mrgW w xs ys = mrgW w X Y ∧ p + n + m ≤ 1000000000 ∧ Fr [] H H'
      | _ => False,
    fun vs _ => match vs with | [.slice _ n _, .slice _ m _, _] => n + m | _ => 0, ⟨X, Y, [], hx, hy, Own.nil _ _ _ _, rfl, by omega, Fr.refl _ _⟩, ?_⟩
  rintro J a n c b m d o p q H2 ⟨xs, ys, os, hx, hy, ho, he, hsz, hf⟩
  have hn := hx.len
  have hm := hy.len
  have hp := ho.1
  have hcx := hx.cap
  have hcy := hy.cap
  -- what comes of a step that yields z, and leaves these
  have step : ∀ (r : Bool) (z : Int) {a' b' : Option Addr} {n' c' m' d' : Nat} {xs' ys' : List Int}, Sl encInt H a' n' c' xs' → Sl encInt H b' m' d' ys' → n' + m' < n + m → os ++ putIf r z (mrgW w xs' ys') = mrgW w X Y →
      brB r (∀ (b1 : Nat) (H5 : Heap), New H2 b1 (.cells ⟨[.int .i64 z]⟩ 3) H5 → SemWp Try.prog (Builtin.append_ ⟨[40, 40]⟩ 40 ⟨[.slice o p q, .slice (some ⟨b1, 0, none⟩) 1 1]⟩) H5 fun v H6 => ∃ a8 n5 c3, v = .slice a8 n5 c3 ∧
          (∃ xs ys os, Sl encInt H a' n' c' xs ∧ Sl encInt H b' m' d' ys ∧ Own encInt 3 H.size H6 a8 n5 c3 os ∧ os ++ mrgW w xs ys = mrgW w X Y ∧ n5 + n' + m' ≤ 1000000000 ∧ Fr [] H H6) ∧ n' + m' < n + m)
        ((∃ xs ys os, Sl encInt H a' n' c' xs ∧ Sl encInt H b' m' d' ys ∧ Own encInt 3 H.size H2 o p q os ∧ os ++ mrgW w xs ys = mrgW w X Y ∧ p + n' + m' ≤ 1000000000 ∧ Fr [] H H2) ∧ n' + m' < n + m) := by
    intro r z a' b' n' c' m' d' xs' ys' h1 h2 hlt he'
    refine brB_of (fun hr => ?_) (fun hr => ?_)
    · subst hr
      exact ap_one (E := encInt) z slice40 elem3 ho hf rfl (by omega) fun _ o2 p2 q2 H6 h6 hf6 _ => ⟨⟨xs', ys', _, h1, h2, h6, by rw [← he']; simp [putIf], by have := h6.1; simp at this; omega, hf6⟩, hlt⟩
    · subst hr
      exact ⟨⟨xs', ys', os, h1, h2, ho, by simpa [putIf] using he', by omega, hf⟩, hlt⟩
  have tail : ∀ {a : Option Addr} {n c : Nat} {x : Int} {l : List Int}, Sl encInt H a n c (x :: l) → Sl encInt H (slA c 1 1 a) ((n : Int).toNat - 1) (c - 1) l := fun {a n c x l} h => by
    have h2 := h.drop (k := 1) (by have := h.len; simp at this; omega)
    rwa [Int.toNat_natCast]
  cases xs with
  | nil =>
    have hn0 : n = 0 := hn
    subst hn0
    cases ys with
    | nil =>
      have hm0 : m = 0 := hm
      subst hm0
      rw [mrgW, List.append_nil] at he
      rw [he] at ho
      refine ⟨fun _ _ => False, brB_of (fun h => by simp at h) (fun _ => brB_of (fun h => by simp at h) (fun _ => ⟨_, _, _, rfl, hk _ _ _ _ ho hf⟩)), fun _ _ h => h.elim⟩
    | cons y ys =>
      have hm1 : m = ys.length + 1 := by simpa using hm
      refine ⟨fun _ H' => H' = H2, brB_of (fun h => by simp at h) (fun _ => brB_of (fun _ => rfl) (fun h => by simp at h; omega)), ?_⟩
      rintro J H3 rfl
      refine ⟨fun vs H' => vs = [.bool false] ∧ H' = H3, brB_of (fun h => by simp at h; omega) (fun _ => brB_of (fun h => by simp at h) (fun _ => ⟨rfl, rfl⟩)), ?_⟩
      rintro J b1 H4 ⟨hb1, rfl⟩
      simp only [List.cons.injEq, Value.bool.injEq, and_true] at hb1
      subst hb1
      refine ⟨fun vs H' => vs = [.bool true] ∧ H' = H4, brB_of (fun _ => ⟨rfl, rfl⟩) (fun h => by simp at h), ?_⟩
      rintro J b2 H5 ⟨hb2, rfl⟩
      simp only [List.cons.injEq, Value.bool.injEq, and_true] at hb2
      subst hb2
      refine (hy.keep hf).head (decide_eq_true (by omega)) fun ad ea hc => ⟨_, ldI hc, chk_of ⟨by omega, by omega, by omega⟩ (hw _ _ _ _ ?_)⟩
      rw [mrgW] at he
      exact step _ y hx (tail hy) (by omega) he
  | cons x xs =>
    have hn1 : n = xs.length + 1 := by simpa using hn
    cases ys with
    | nil =>
      have hm0 : m = 0 := hm
      subst hm0
      refine ⟨fun _ H' => H' = H2, brB_of (fun _ => rfl) (fun h => by simp at h; omega), ?_⟩
      rintro J H3 rfl
      refine ⟨fun vs H' => vs = [.bool true] ∧ H' = H3, brB_of (fun _ => ⟨rfl, rfl⟩) (fun h => by simp at h), ?_⟩
      rintro J b1 H4 ⟨hb1, rfl⟩
      simp only [List.cons.injEq, Value.bool.injEq, and_true] at hb1
      subst hb1
      refine ⟨fun vs H' => vs = [.bool false] ∧ H' = H4, brB_of (fun h => by simp at h; omega) (fun _ => brB_of (fun h => by simp at h) (fun _ => ⟨rfl, rfl⟩)), ?_⟩
      rintro J b2 H5 ⟨hb2, rfl⟩
      simp only [List.cons.injEq, Value.bool.injEq, and_true] at hb2
      subst hb2
      refine (hx.keep hf).head (decide_eq_true (by omega)) fun ad ea hc => ⟨_, ldI hc, chk_of ⟨by omega, by omega, by omega⟩ (hw _ _ _ _ ?_)⟩
      rw [mrgW] at he
      exact step _ x (tail hx) hy (by omega) he
    | cons y ys =>
      have hm1 : m = ys.length + 1 := by simpa using hm
      refine ⟨fun _ H' => H' = H2, brB_of (fun _ => rfl) (fun h => by simp at h; omega), ?_⟩
      rintro J H3 rfl
      refine ⟨fun vs H' => vs = [.bool (decide (x ≤ y))] ∧ H' = H3, brB_of (fun h => by simp at h; omega) (fun _ => brB_of (fun _ => ?_) (fun h => by simp at h; omega)), ?_⟩
      · exact (hx.keep hf).head (decide_eq_true (by omega)) fun ad ea hc => ⟨_, ldI hc, (hy.keep hf).head (decide_eq_true (by omega)) fun bd eb hd => ⟨_, ldI hd, rfl, rfl⟩⟩
      rintro J b1 H4 ⟨hb1, rfl⟩
      simp only [List.cons.injEq, Value.bool.injEq, and_true] at hb1
      subst hb1
      refine ⟨fun vs H' => vs = [.bool (decide (y ≤ x))] ∧ H' = H4, brB_of (fun h => by simp at h; omega) (fun _ => brB_of (fun _ => ?_) (fun h => by simp at h; omega)), ?_⟩
      · exact (hy.keep hf).head (decide_eq_true (by omega)) fun ad ea hc => ⟨_, ldI hc, (hx.keep hf).head (decide_eq_true (by omega)) fun bd eb hd => ⟨_, ldI hd, rfl, rfl⟩⟩
      rintro J b2 H5 ⟨hb2, rfl⟩
      simp only [List.cons.injEq, Value.bool.injEq, and_true] at hb2
      subst hb2
      rw [mrgW] at he
      rcases Int.lt_trichotomy x y with h | h | h
      · rw [if_pos h] at he
        rw [decide_eq_true (show x ≤ y by omega), decide_eq_false (show ¬ y ≤ x by omega)]
        refine (hx.keep hf).head (decide_eq_true (by omega)) fun ad ea hc => ⟨_, ldI hc, chk_of ⟨by omega, by omega, by omega⟩ (hw _ _ _ _ ?_)⟩
        exact step _ x (tail hx) hy (by omega) he
      · rw [if_neg (by omega), if_neg (by omega)] at he
        rw [decide_eq_true (show x ≤ y by omega), decide_eq_true (show y ≤ x by omega)]
        refine (hx.keep hf).head (decide_eq_true (by omega)) fun ad ea hc => ⟨_, ldI hc, chk_of ⟨by omega, by omega, by omega⟩ ?_⟩
        refine (hy.keep hf).head (decide_eq_true (by omega)) fun ad ea hc => ⟨_, ldI hc, chk_of ⟨by omega, by omega, by omega⟩ (hw _ _ _ _ ?_)⟩
        exact step _ y (tail hx) (tail hy) (by omega) he
      · rw [if_neg (by omega), if_pos h] at he
        rw [decide_eq_false (show ¬ x ≤ y by omega), decide_eq_true (show y ≤ x by omega)]
        refine (hy.keep hf).head (decide_eq_true (by omega)) fun ad ea hc => ⟨_, ldI hc, chk_of ⟨by omega, by omega, by omega⟩ (hw _ _ _ _ ?_)⟩
        exact step _ y hx (tail hy) (by omega) he

theorem And_ok {a b : Option Addr} {n c m d : Nat} {X Y : List Int} {H : Heap} {K : Option Addr → Nat → Nat → Heap → Prop} (hx : Sl encInt H a n c X) (hy : Sl encInt H b m d Y)
    (hlen : n + m ≤ 1000000000) (hk : ∀ a' n' c' H', Own encInt 3 H.size H' a' n' c' (mrgW wAnd X Y) → Fr [] H H' → K a' n' c' H') :
    CallH Try.prog fn_post_And ⟨[.slice a n c, .slice b m d]⟩ H fun v H' => ∃ a n c, v = .slice a n c ∧ K a n c H' := by
  apply vc_post_And
  exact merge_ok wishAnd hx hy hlen fun a' n' c' H' h1 h2 => ⟨_, _, _, rfl, hk _ _ _ _ h1 h2⟩
theorem Or_ok {a b : Option Addr} {n c m d : Nat} {X Y : List Int} {H : Heap} {K : Option Addr → Nat → Nat → Heap → Prop} (hx : Sl encInt H a n c X) (hy : Sl encInt H b m d Y)
    (hlen : n + m ≤ 1000000000) (hk : ∀ a' n' c' H', Own encInt 3 H.size H' a' n' c' (mrgW wOr X Y) → Fr [] H H' → K a' n' c' H') :
    CallH Try.prog fn_post_Or ⟨[.slice a n c, .slice b m d]⟩ H fun v H' => ∃ a n c, v = .slice a n c ∧ K a n c H' := by
  apply vc_post_Or
  exact merge_ok wishOr hx hy hlen fun a' n' c' H' h1 h2 => ⟨_, _, _, rfl, hk _ _ _ _ h1 h2⟩
theorem Not_ok {a b : Option Addr} {n c m d : Nat} {X Y : List Int} {H : Heap} {K : Option Addr → Nat → Nat → Heap → Prop} (hx : Sl encInt H a n c X) (hy : Sl encInt H b m d Y)
    (hlen : n + m ≤ 1000000000) (hk : ∀ a' n' c' H', Own encInt 3 H.size H' a' n' c' (mrgW wNot X Y) → Fr [] H H' → K a' n' c' H') :
    CallH Try.prog fn_post_Not ⟨[.slice a n c, .slice b m d]⟩ H fun v H' => ∃ a n c, v = .slice a n c ∧ K a n c H' := by
  apply vc_post_Not
  exact merge_ok wishNot hx hy hlen fun a' n' c' H' h1 h2 => ⟨_, _, _, rfl, hk _ _ _ _ h1 h2⟩
theorem CloneI_ok {H : Heap} {a : Option Addr} {n c : Nat} {l : List Int} {K : Option Addr → Nat → Nat → Heap → Prop} (hx : Sl encInt H a n c l) (hn : n ≤ 1000000000)
    (hk : ∀ a' n' c' H', Own encInt 3 H.size H' a' n' c' l → Fr [] H H' → K a' n' c' H') :
    CallH Try.prog fn_slices_Clone___int_int_ ⟨[.slice a n c]⟩ H fun v H' => ∃ a n c, v = .slice a n c ∧ K a n c H' := by
  apply vc_slices_Clone___int_int_
  refine brB_of (fun h => ?_) (fun h => ?_)
  · have : a = none := by simpa using h
    subst this
    have hl : l = [] := by
      rcases hx.arr with h | ⟨b, off, e, _⟩
      · exact h
      · cases e
    subst hl
    exact ⟨_, _, _, rfl, hk none 0 0 H (Own.nil _ _ _ _) (Fr.refl _ _)⟩
  · intro b H1 h1
    have ho0 : Own encInt 3 H.size H1 (some ⟨b, 0, none⟩) 0 0 [] := Own.made encInt 3 h1 (Nat.le_refl _)
    exact ap_own (E := encInt) slice40 elem3 ho0 h1.fr (hx.keep h1.fr) (by omega) fun a' n' c' H2 h2 hf2 _ => ⟨_, _, _, rfl, hk _ _ _ _ (by simpa using h2) hf2⟩

/-- Lists of numbers that rise, so many in all. -/
structure LIs (H : Heap) (hs : List Hd) (Xs : List (List Int)) : Prop where
  len : hs.length = Xs.length
  at' : ∀ (i : Nat) (h : Hd) (l : List Int), hs[i]? = some h → Xs[i]? = some l → Sl encInt H h.1 h.2.1 h.2.2 l
  ri : ∀ l ∈ Xs, Ri l
theorem LIs.keep {H H' : Heap} {hs : List Hd} {Xs : List (List Int)} (h : LIs H hs Xs) (hf : Fr [] H H') : LIs H' hs Xs := ⟨h.len, fun i x l hx hl => (h.at' i x l hx hl).keep hf, h.ri⟩
theorem ldH40 {H : Heap} {ad : Addr} {x : Hd} (h : CellsAt H ad (encH.cells x)) : Ld Try.prog 40 H ad (.slice x.1 x.2.1 x.2.2) := ld_one (by kernel_rfl) h

theorem Union_ok : ∀ (N : Nat) {H : Heap} {a : Option Addr} {n c : Nat} {hs : List Hd} {Xs : List (List Int)} {K : Option Addr → Nat → Nat → Heap → Prop}, n ≤ N → Sl encH H a n c hs → LIs H hs Xs → n ≤ 100000 → Xs.flatten.length ≤ 100000000 →
    (∀ a' n' c' H' os, Own encInt 3 H.size H' a' n' c' os → SetL os (fun z => ∃ l ∈ Xs, z ∈ l) → n' ≤ Xs.flatten.length → Fr [] H H' → K a' n' c' H') →
    CallH Try.prog fn_post_Union ⟨[.slice a n c]⟩ H fun v H' => ∃ a n c, v = .slice a n c ∧ K a n c H' := by
  intro N
  induction N with
  | zero =>
    intro H a n c hs Xs K hN hx hl hn4 htot hk
    apply vc_post_Union
    have hn0 : n = 0 := by omega
    subst hn0
    have hX : Xs = [] := List.eq_nil_of_length_eq_zero (by rw [← hl.len, ← hx.len])
    subst hX
    exact brB_of (fun _ => ⟨_, _, _, rfl, hk none 0 0 H [] (Own.nil _ _ _ _) ⟨Ri.nil, fun z => by simp⟩ (by simp) (Fr.refl _ _)⟩) (fun h => by simp at h)
  | succ N ih =>
    intro H a n c hs Xs K hN hx hl hn4 htot hk
    apply vc_post_Union
    have hlen := hx.len
    have hcap := hx.cap
    have hXl : Xs.length = n := by rw [← hl.len, ← hx.len]
    refine brB_of (fun h => ?_) (fun h => brB_of (fun h1 => ?_) (fun h1 => ?_))
    · have hn0 : n = 0 := by have h : (n : Int) = 0 := by simpa using h
                             omega
      have hX : Xs = [] := List.eq_nil_of_length_eq_zero (by omega)
      subst hX
      exact ⟨_, _, _, rfl, hk none 0 0 H [] (Own.nil _ _ _ _) ⟨Ri.nil, fun z => by simp⟩ (by simp) (Fr.refl _ _)⟩
    · have hn1 : n = 1 := by have h1 : (n : Int) = 1 := by simpa using h1
                             omega
      subst hn1
      obtain ⟨hd, rfl⟩ := one_of hlen.symm
      obtain ⟨l, rfl⟩ := one_of hXl
      have hs1 := hl.at' 0 hd l rfl rfl
      refine hx.head (decide_eq_true (by omega)) fun ad ea hc => ⟨_, _, _, ldH40 hc, ?_⟩
      simp at htot
      exact CloneI_ok hs1 (by have := hs1.len; omega) fun a' n' c' H' h1 h2 => ⟨_, _, _, rfl, hk a' n' c' H' l h1 ⟨hl.ri l (by simp), fun z => by simp⟩ (by simp [h1.1]) h2⟩
    · have hn2 : 2 ≤ n := by
        have h : (n : Int) ≠ 0 := by simpa using h
        have h1 : (n : Int) ≠ 1 := by simpa using h1
        omega
      have eh : IntKind.i64.wrap (Int.tdiv (n : Int) 2) = ((n / 2 : Nat) : Int) := by
        have : Int.tdiv (n : Int) 2 = ((n / 2 : Nat) : Int) := by rw [Int.tdiv_eq_ediv_of_nonneg (by omega)]; omega
        rw [this, wrap64_of (by omega) (by omega)]
      rw [eh]
      refine chk_of ⟨by omega, by omega, by omega⟩ (chk_of ⟨by omega, by omega, by omega⟩ ?_)
      rw [Int.toNat_natCast, Int.toNat_natCast, Nat.sub_zero, Nat.sub_zero]
      have h1 : Sl encH H a (n / 2) c (hs.take (n / 2)) := hx.take (by omega)
      have h2 : Sl encH H (slA c (n / 2) 1 a) (n - n / 2) (c - n / 2) (hs.drop (n / 2)) := hx.drop (by omega)
      have l1 : LIs H (hs.take (n / 2)) (Xs.take (n / 2)) := ⟨by simp [hl.len], (fun i x l hx hl' => by
        rw [List.getElem?_take] at hx hl'
        split at hx
        · exact hl.at' i x l hx (by rwa [if_pos ‹_›] at hl')
        · cases hx), fun l h => hl.ri l (List.mem_of_mem_take h)⟩
      have l2 : LIs H (hs.drop (n / 2)) (Xs.drop (n / 2)) := ⟨by simp [hl.len], (fun i x l hx hl' => by
        rw [List.getElem?_drop] at hx hl'
        exact hl.at' _ x l hx hl'), fun l h => hl.ri l (List.mem_of_mem_drop h)⟩
      have hsum : (Xs.take (n / 2)).flatten.length + (Xs.drop (n / 2)).flatten.length = Xs.flatten.length := by
        rw [← List.length_append, ← List.flatten_append, List.take_append_drop]
      refine ih (by omega) h1 l1 (by omega) (by omega) fun a1 n1 c1 H1 o1 ho1 hs1 hn1 hf1 => ?_
      refine ih (by omega) (h2.keep hf1) (l2.keep hf1) (by omega) (by omega) fun a2 n2 c2 H2 o2 ho2 hs2 hn2' hf2 => ?_
      have ho1' := ho1.keep hf2
      refine Or_ok ho1'.sl ho2.sl (by omega) fun a3 n3 c3 H3 ho3 hf3 => ⟨_, _, _, rfl, hk a3 n3 c3 H3 _ (ho3.base (Nat.le_trans hf1.size hf2.size)) ((hs1.or hs2).iff fun z => ?_) ?_ ((hf1.keep0 hf2).keep0 hf3)⟩
      · have hm : ∀ l, l ∈ Xs ↔ l ∈ Xs.take (n / 2) ∨ l ∈ Xs.drop (n / 2) := fun l => by rw [← List.mem_append, List.take_append_drop]
        refine ⟨fun h => h.elim (fun ⟨l, h, hz⟩ => ⟨l, (hm l).2 (.inl h), hz⟩) (fun ⟨l, h, hz⟩ => ⟨l, (hm l).2 (.inr h), hz⟩), fun ⟨l, h, hz⟩ => ?_⟩
        rcases (hm l).1 h with h | h
        · exact .inl ⟨l, h, hz⟩
        · exact .inr ⟨l, h, hz⟩
      · have := mrgW_len (w := wOr) o1 o2
        have := ho3.1
        have := ho1.1
        have := ho2.1
        omega
end Go.Proofs
