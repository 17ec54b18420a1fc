/- Turned by a program of mine (portall.py) out of the same text of another seat. -/
import Derived.Test.YtjclcccjdnllgaaGreatC02e
import Derived.Test.YtjclcccjdnllgaaGreatL02
import Derived.Test.YtjclcccjdnllgaaGreatVcC
set_option linter.unusedVariables false
open Go Go.GV
namespace Go.Proofs

theorem set_ok {a : Option Addr} {n c : Nat} {xs : List Smp} {x : Smp} {H : Heap} {K : Option Addr → Nat → Nat → Heap → Prop} (hx : Sl encS H a n c xs) (hn : n ≤ 1000000000)
    (hk : ∀ a' n' c' H', Own encS 107 H.size H' a' n' c' (setS xs x) → n' ≤ n + 1 → Fr [] H H' → K a' n' c' H') :
    CallH Tryz.prog fn_ref13_set ⟨[.slice a n c, vS x]⟩ H fun v H' => ∃ a n c, v = .slice a n c ∧ K a n c H' := by
  apply vc_ref13_set
  have hlx := hx.len
  intro b H1 hn1 b1 H2 hn2
  have hb2 : Fr [] H H2 := hn1.fr.keep0 hn2.fr
  refine ⟨fun vs H' => match vs with | [.slice o p q, .bool dn, .int _ i] => ∃ (k : Nat) (L : List Smp), i = k ∧ k ≤ n ∧ p ≤ k + dn.toNat ∧ Own encS 107 H1.size H' o p q L ∧ L ++ (if dn then (xs.drop k).filter (fun z => decide (z.1 ≠ x.1)) else setS (xs.drop k) x) = setS xs x ∧ Fr [] H1 H' | _ => False,
    fun vs _ => match vs with | [_, _, .int _ i] => n - i.toNat | _ => 0, ⟨0, [], rfl, by omega, by simp, Own.made encS 107 hn2 (Nat.le_refl _), by simp, hn2.fr⟩, ?_⟩
  rintro J o p q dn i H' ⟨k, L, rfl, hle, hpk, ho, he, hf2⟩
  have hf : Fr [] H H' := hn1.fr.keep0 hf2
  have hl := ho.1
  have hdn : dn.toNat ≤ 1 := by cases dn <;> decide
  have hv : Blk H1 ⟨b, 0, none⟩ [.int .i64 x.1, .int .i64 x.2] := hn1.blk
  refine brB_of (fun h0 => ?_) (fun h0 => ?_)
  · have h0' : k < n := by simpa using h0
    have hx1 : xs[k]? = some (xs[k]'(by omega)) := by simp
    have hdr : xs.drop k = xs[k]'(by omega) :: xs.drop (k + 1) := List.drop_eq_getElem_cons (by omega)
    generalize hy : xs[k]'(by omega) = y at hx1 hdr
    rw [hdr] at he
    refine ⟨fun vs H' => match vs with | [.slice o p q, .bool dn] => ∃ (L : List Smp), p ≤ k + dn.toNat ∧ Own encS 107 H1.size H' o p q L ∧ L ++ (if dn then (y :: xs.drop (k + 1)).filter (fun z => decide (z.1 ≠ x.1)) else setS (y :: xs.drop (k + 1)) x) = setS xs x ∧ (dn = false → y.1 < x.1) ∧ Fr [] H1 H' | _ => False, ?_, ?_⟩
    · refine brB_of (fun h1 => ?_) (fun h1 => ⟨L, hpk, ho, he, fun h => by simp [h] at h1, hf2⟩)
      have hd0 : dn = false := by simpa using h1
      subst hd0
      refine (hx.keep hf).get rfl hx1 (decide_eq_true (by omega)) fun ad ea hc => ⟨_, ldT hc, ?_⟩
      refine ⟨_, (hv.keep hf2).ld0 (by kernel_rfl) rfl, brB_of (fun h3 => ?_) (fun h3 => ⟨L, hpk, ho, he, fun _ => by simpa using h3, hf2⟩)⟩
      refine ⟨_, _, (hv.keep hf2).ldA0 (us := [.int .i64 x.1, .int .i64 x.2]) (by kernel_rfl) (by kernel_rfl) rfl, ?_⟩
      simp at hpk
      refine ap_one (E := encS) x slice22 elem26 ho hf2 rfl (by omega) fun _ o2 p2 q2 H4 hw2 hf4 _ => ⟨L ++ [x], ?_, hw2, ?_, fun h => (by cases h), hf4⟩
      · have hb2 := hw2.1
        simp at hb2 ⊢
        omega
      · rw [← he]
        simp only [Bool.false_eq_true, if_false, if_true]
        rw [setS_ge (by simpa using h3), List.append_assoc]
        rfl
    · rintro J2 o p q dn H3 ⟨L, hpk, ho, he, hlt, hf2⟩
      have hf : Fr [] H H3 := hn1.fr.keep0 hf2
      have hl := ho.1
      have hdn : dn.toNat ≤ 1 := by cases dn <;> decide
      rw [succ64 (by omega)]
      refine (hx.keep hf).get rfl hx1 (decide_eq_true (by omega)) fun ad ea hc => ⟨_, ldT hc, ?_⟩
      refine ⟨_, (hv.keep hf2).ld0 (by kernel_rfl) rfl, brB_of (fun h3 => ?_) (fun h3 => ?_)⟩
      · refine (hx.keep hf).get rfl hx1 (decide_eq_true (by omega)) fun ad ea hc => ⟨_, _, ldS hc, ?_⟩
        refine ap_one (E := encS) y slice22 elem26 ho hf2 rfl (by omega) fun _ o2 p2 q2 H4 hw2 hf4 _ => ⟨⟨k + 1, L ++ [y], rfl, by omega, ?_, hw2, ?_, hf4⟩, mu_lt h0'⟩
        · have hb2 := hw2.1
          simp at hb2 ⊢
          omega
        · rw [← he]
          cases dn with
          | true => simp only [if_true, List.filter_cons]; rw [if_pos (by simpa using h3)]; simp
          | false => simp only [Bool.false_eq_true, if_false]; rw [setS_lt (hlt rfl)]; simp
      · refine ⟨⟨k + 1, L, rfl, by omega, by omega, ho, ?_, hf2⟩, mu_lt h0'⟩
        have h3' : y.1 = x.1 := by simpa using h3
        rw [← he]
        cases dn with
        | true => simp only [if_true, List.filter_cons]; rw [if_neg (by simpa using h3')]
        | false => have := hlt rfl; omega
  · have e : xs.drop k = [] := List.drop_eq_nil_of_le (by simp at h0; omega)
    rw [e] at he
    refine brB_of (fun h1 => ?_) (fun h1 => ?_)
    · have hd0 : dn = false := by simpa using h1
      subst hd0
      simp at hpk
      refine ⟨_, _, (hv.keep hf2).ldA0 (us := [.int .i64 x.1, .int .i64 x.2]) (by kernel_rfl) (by kernel_rfl) rfl, ?_⟩
      refine ap_one (E := encS) x slice22 elem26 ho hf2 rfl (by omega) fun _ o2 p2 q2 H4 hw2 hf4 _ => ⟨_, _, _, rfl, hk _ _ _ _ ?_ ?_ (hn1.fr.keep0 hf4)⟩
      · rw [← he]; exact hw2.base hn1.fr.size
      · have hb2 := hw2.1
        simp at hb2
        omega
    · have hd0 : dn = true := by simpa using h1
      subst hd0
      simp at hpk he
      exact ⟨_, _, _, rfl, hk _ _ _ _ (by rw [← he]; exact ho.base hn1.fr.size) (by omega) hf⟩

theorem rMerge_ok {a b : Option Addr} {n c m d : Nat} {xs ys : List Smp} {H : Heap} {K : Option Addr → Nat → Nat → Heap → Prop} (hx : Sl encS H a n c xs) (hy : Sl encS H b m d ys) (hrx : Ris xs) (hry : Ris ys)
    (hn : n + m ≤ 100000000) (hk : ∀ a' n' c' H', Own encS 107 H.size H' a' n' c' (mrg xs ys) → Fr [] H H' → K a' n' c' H') :
    CallH Tryz.prog fn_ref13_Merge ⟨[.slice a n c, .slice b m d]⟩ H fun v H' => ∃ a n c, v = .slice a n c ∧ K a n c H' := by
  apply vc_ref13_Merge
  have hlx := hx.len
  have hly := hy.len
  intro b0 H1 hn1
  have ho0 : Own encS 107 H.size H1 (some ⟨b0, 0, none⟩) 0 0 [] := Own.made encS 107 hn1 (Nat.le_refl _)
  refine ap_own (E := encS) slice22 elem26 ho0 hn1.fr (hx.keep hn1.fr) (by omega) fun o p q H2 ho hf _ => ?_
  have hp := ho.1
  refine ⟨fun vs H' => match vs with | [.slice o p q, .int _ i] => ∃ (k : Nat) (L : List Smp), i = k ∧ k ≤ m ∧ p ≤ n + k ∧ Own encS 107 H.size H' o p q L ∧ (ys.drop k).foldl setS L = ys.foldl setS xs ∧ Fr [] H H' | _ => False,
    fun vs _ => match vs with | [_, .int _ i] => m - i.toNat | _ => 0, ⟨0, _, rfl, by omega, by simp at hp; omega, ho, rfl, hf⟩, ?_⟩
  rintro J o p q i H' ⟨k, L, rfl, hle, hpk, ho, he, hf⟩
  refine brB_of (fun h0 => ?_) (fun h0 => ?_)
  · have h0' : k < m := by simpa using h0
    have hy1 : ys[k]? = some (ys[k]'(by omega)) := by simp
    refine (hy.keep hf).get rfl hy1 (decide_eq_true (by omega)) fun ad ea hc => ⟨_, _, ldS hc, ?_⟩
    refine set_ok ho.sl (by omega) fun o2 p2 q2 H3 ho2 hp2 hf3 => ?_
    rw [succ64 (by omega)]
    refine ⟨⟨k + 1, _, rfl, by omega, by omega, ho2.base hf.size, ?_, hf.keep0 hf3⟩, mu_lt h0'⟩
    rw [← he, List.drop_eq_getElem_cons (show k < ys.length by omega), List.foldl_cons]
  · have e : ys.drop k = [] := List.drop_eq_nil_of_le (by simp at h0; omega)
    rw [e, fold_set _ _ hrx hry] at he
    simp only [List.foldl_nil] at he
    subst he
    exact ⟨_, _, _, rfl, hk _ _ _ _ ho hf⟩

end Go.Proofs
set_option linter.unusedVariables false
open Go Go.GV
namespace Go.Proofs

theorem zero26 : zeroOf Tryz.prog 107 = some (.agg ⟨[.int .i64 0, .int .i64 0]⟩) := by kernel_rfl

theorem Clone_ok {a : Option Addr} {n c : Nat} {xs : List Smp} {H : Heap} {K : Option Addr → Nat → Nat → Heap → Prop} (hx : Sl encS H a n c xs) (hn : n ≤ 1000000000)
    (hk : ∀ a' n' c' H', Own encS 107 H.size H' a' n' c' xs → Fr [] H H' → K a' n' c' H') :
    CallH Tryz.prog fn_slices_Clone___api_Sample_api_Sample_ ⟨[.slice a n c]⟩ H fun v H' => ∃ a n c, v = .slice a n c ∧ K a n c H' := by
  apply vc_slices_Clone___api_Sample_api_Sample_
  refine brB_of (fun h => ⟨_, _, _, rfl, ?_⟩) (fun h b H1 hn1 => ?_)
  · have : a = none := by simpa using h
    subst this
    have hxs : xs = [] := by
      rcases hx.arr with h | ⟨_, _, e, _⟩
      · exact h
      · cases e
    subst hxs
    exact hk none 0 0 H (Own.nil _ _ _ _) (Fr.refl _ _)
  · have ho0 : Own encS 107 H.size H1 (some ⟨b, 0, none⟩) 0 0 [] := Own.made encS 107 hn1 (Nat.le_refl _)
    refine ap_own (E := encS) slice22 elem26 ho0 hn1.fr (hx.keep hn1.fr) (by omega) fun o p q H2 ho hf _ => ⟨_, _, _, rfl, hk _ _ _ _ ho hf⟩

end Go.Proofs
namespace Go.Proofs
set_option linter.unusedVariables false
def Srt (l : List Smp) : Prop := l.Pairwise fun x y => x.1 ≤ y.1
def Stb (l m : List Smp) : Prop := ∀ t, l.filter (fun x => decide (x.1 = t)) = m.filter (fun x => decide (x.1 = t))
theorem Stb.refl (l : List Smp) : Stb l l := fun _ => rfl
theorem Stb.symm {l m : List Smp} (h : Stb l m) : Stb m l := fun t => (h t).symm
theorem Stb.trans {l m k : List Smp} (h : Stb l m) (h' : Stb m k) : Stb l k := fun t => (h t).trans (h' t)
theorem Stb.app {l m l' m' : List Smp} (h : Stb l m) (h' : Stb l' m') : Stb (l ++ l') (m ++ m') := fun t => by rw [List.filter_append, List.filter_append, h t, h' t]
theorem Stb.mem {l m : List Smp} (h : Stb l m) {x : Smp} : x ∈ l ↔ x ∈ m := by
  have e := h x.1
  constructor
  · intro hx
    have : x ∈ l.filter (fun y => decide (y.1 = x.1)) := List.mem_filter.2 ⟨hx, by simp⟩
    rw [e] at this; exact (List.mem_filter.1 this).1
  · intro hx
    have : x ∈ m.filter (fun y => decide (y.1 = x.1)) := List.mem_filter.2 ⟨hx, by simp⟩
    rw [← e] at this; exact (List.mem_filter.1 this).1
theorem Stb.swap {A B : List Smp} (h : ∀ x ∈ A, ∀ y ∈ B, y.1 < x.1) : Stb (A ++ B) (B ++ A) := fun t => by
  rw [List.filter_append, List.filter_append]
  by_cases hA : A.filter (fun x => decide (x.1 = t)) = []
  · rw [hA]; simp
  · by_cases hB : B.filter (fun x => decide (x.1 = t)) = []
    · rw [hB]; simp
    · obtain ⟨x, hx⟩ := List.exists_mem_of_ne_nil _ hA
      obtain ⟨y, hy⟩ := List.exists_mem_of_ne_nil _ hB
      have h1 := List.mem_filter.1 hx
      have h2 := List.mem_filter.1 hy
      have := h x h1.1 y h2.1
      have e1 := of_decide_eq_true h1.2
      have e2 := of_decide_eq_true h2.2
      omega
theorem Stb.swap1 {A : List Smp} {y : Smp} (h : ∀ x ∈ A, y.1 < x.1) : Stb (A ++ [y]) (y :: A) := Stb.swap (B := [y]) fun x hx z hz => by simp at hz; subst hz; exact h x hx
theorem Stb.front {B : List Smp} {x : Smp} (h : ∀ y ∈ B, y.1 < x.1) : Stb (x :: B) (B ++ [x]) := Stb.swap (A := [x]) fun z hz y hy => by simp at hz; subst hz; exact h y hy
theorem Stb.length {l m : List Smp} (h : Stb l m) : l.length = m.length := by
  induction l generalizing m with
  | nil =>
    cases m with
    | nil => rfl
    | cons y m => have := (h.mem (x := y)).2 (by simp); simp at this
  | cons x l ih =>
    have hx := (h.mem (x := x)).1 (by simp)
    have : ∃ u v, m = u ++ x :: v ∧ ∀ y ∈ u, y.1 ≠ x.1 := by
      have e := h x.1
      rw [List.filter_cons, if_pos (by simp)] at e
      clear ih h hx
      induction m with
      | nil => simp at e
      | cons z m ihm =>
        rw [List.filter_cons] at e
        split at e
        · rename_i hz
          simp only [List.cons.injEq] at e
          exact ⟨[], m, by rw [e.1]; rfl, by simp⟩
        · rename_i hz
          obtain ⟨u, v, rfl, hu⟩ := ihm e
          refine ⟨z :: u, v, rfl, fun y hy => ?_⟩
          rcases List.mem_cons.1 hy with rfl | hy
          · simpa using hz
          · exact hu y hy
    obtain ⟨u, v, rfl, hu⟩ := this
    have h' : Stb l (u ++ v) := fun t => by
      have e := h t
      rw [List.filter_cons, List.filter_append, List.filter_cons] at e
      rw [List.filter_append]
      by_cases ht : x.1 = t
      · subst ht
        rw [if_pos (by simp), if_pos (by simp)] at e
        have : u.filter (fun y => decide (y.1 = x.1)) = [] := List.filter_eq_nil_iff.2 fun y hy => by simpa using hu y hy
        rw [this] at e ⊢
        simpa using e
      · rw [if_neg (by simpa using ht), if_neg (by simpa using ht)] at e
        exact e
    have := ih h'
    simp at this ⊢; omega
theorem srt_app {A B : List Smp} (hA : Srt A) (hB : Srt B) (h : ∀ x ∈ A, ∀ y ∈ B, x.1 ≤ y.1) : Srt (A ++ B) := List.pairwise_append.2 ⟨hA, hB, h⟩
theorem Srt.left {A B : List Smp} (h : Srt (A ++ B)) : Srt A := (List.pairwise_append.1 h).1
theorem Srt.right {A B : List Smp} (h : Srt (A ++ B)) : Srt B := (List.pairwise_append.1 h).2.1
theorem Srt.across {A B : List Smp} (h : Srt (A ++ B)) : ∀ x ∈ A, ∀ y ∈ B, x.1 ≤ y.1 := (List.pairwise_append.1 h).2.2
theorem Srt.le {l : List Smp} (h : Srt l) {i j : Nat} {x y : Smp} (hij : i ≤ j) (hx : l[i]? = some x) (hy : l[j]? = some y) : x.1 ≤ y.1 := by
  rcases Nat.lt_or_ge i j with h1 | h1
  · obtain ⟨hi, rfl⟩ := List.getElem?_eq_some_iff.1 hx
    obtain ⟨hj, rfl⟩ := List.getElem?_eq_some_iff.1 hy
    exact List.pairwise_iff_getElem.1 h i j hi hj h1
  · have : i = j := by omega
    subst this
    rw [hx] at hy; cases hy; exact Int.le_refl _
theorem ends_le {A B : List Smp} (hA : Srt A) (hB : Srt B) (h : ∀ x y, A.getLast? = some x → B.head? = some y → x.1 ≤ y.1) : ∀ x ∈ A, ∀ y ∈ B, x.1 ≤ y.1 := fun x hx y hy => by
  have hA0 : A ≠ [] := by intro e; subst e; cases hx
  have hB0 : B ≠ [] := by intro e; subst e; cases hy
  obtain ⟨i, hi⟩ := List.getElem?_of_mem hx
  obtain ⟨j, hj⟩ := List.getElem?_of_mem hy
  have hiA := (List.getElem?_eq_some_iff.1 hi).1
  have h1 : x.1 ≤ (A.getLast hA0).1 := hA.le (i := i) (j := A.length - 1) (by omega) hi (by rw [← List.getLast?_eq_getElem?]; exact List.getLast?_eq_some_getLast hA0)
  obtain ⟨b, B', rfl⟩ := List.exists_cons_of_ne_nil hB0
  have h2 : b.1 ≤ y.1 := hB.le (i := 0) (j := j) (Nat.zero_le _) rfl hj
  have := h _ b (List.getLast?_eq_some_getLast hA0) rfl
  omega
theorem ends_lt {A B : List Smp} (hA : Srt A) (hB : Srt B) (h : ∀ x y, A.head? = some x → B.getLast? = some y → y.1 < x.1) : ∀ x ∈ A, ∀ y ∈ B, y.1 < x.1 := fun x hx y hy => by
  have hA0 : A ≠ [] := by intro e; subst e; cases hx
  have hB0 : B ≠ [] := by intro e; subst e; cases hy
  obtain ⟨i, hi⟩ := List.getElem?_of_mem hx
  obtain ⟨j, hj⟩ := List.getElem?_of_mem hy
  have hjB := (List.getElem?_eq_some_iff.1 hj).1
  have h1 : y.1 ≤ (B.getLast hB0).1 := hB.le (i := j) (j := B.length - 1) (by omega) hj (by rw [← List.getLast?_eq_getElem?]; exact List.getLast?_eq_some_getLast hB0)
  obtain ⟨a, A', rfl⟩ := List.exists_cons_of_ne_nil hA0
  have h2 : a.1 ≤ x.1 := hA.le (i := 0) (j := i) (Nat.zero_le _) rfl hi
  have := h a _ rfl (List.getLast?_eq_some_getLast hB0)
  omega

def Srtd (l m : List Smp) (a b : Nat) : Prop := ∃ P s s' Q, l = P ++ s ++ Q ∧ m = P ++ s' ++ Q ∧ P.length = a ∧ a + s.length = b ∧ Srt s' ∧ Stb s s'
theorem Srtd.len {l m : List Smp} {a b : Nat} (h : Srtd l m a b) : m.length = l.length := by
  obtain ⟨P, s, s', Q, rfl, rfl, _, _, _, h⟩ := h
  have := h.length
  simp only [List.length_append]; omega
end Go.Proofs
set_option linter.unusedVariables false
set_option maxRecDepth 100000
open Go Go.GV
namespace Go.Proofs

theorem mid0 {A B : List Smp} {w : Smp} {k : Nat} (h : A.length = k) : (A ++ w :: B)[k]? = some w := by subst h; simp
theorem mid1 {A B : List Smp} {w x : Smp} {k : Nat} (h : A.length + 1 = k) : (A ++ w :: x :: B)[k]? = some x := by
  subst h
  rw [List.getElem?_append_right (by omega)]
  simp
theorem mset0 {A B : List Smp} {w y : Smp} {k : Nat} (h : A.length = k) : (A ++ w :: B).set k y = A ++ y :: B := by subst h; simp
theorem mset1 {A B : List Smp} {w x y : Smp} {k : Nat} (h : A.length + 1 = k) : (A ++ w :: x :: B).set k y = A ++ w :: y :: B := by
  subst h
  rw [List.set_append_right _ _ (by omega)]
  simp
theorem cmpI_neg {x y : Int} : cmpI x y < 0 ↔ x < y := by unfold cmpI; split <;> (try split) <;> omega
theorem swap_two {base : Nat} {H : Heap} {a : Option Addr} {n c k : Nat} {A B L : List Smp} {w x : Smp} {i1 i2 : Int} {X : Heap → Prop} (ho : Own encS 107 base H a n c L) (eL : L = A ++ w :: x :: B) (hA : A.length = k) (e1 : i1 = ((k + 1 : Nat) : Int)) (e2 : i2 = (k : Int)) (b1 b2 : Bool) (h1 : b1 = true) (h2 : b2 = true)
    (hk : ∀ H', Own encS 107 base H' a n c (A ++ x :: w :: B) → Fr (blkL a) H H' → X H') :
    exSome a fun ad => chk b1 (∃ H'_2, St Tryz.prog 107 H (Addr.add ad (i1.toNat * 2)) (vS w) H'_2 ∧ exSome a fun ad => chk b2 (∃ H', St Tryz.prog 107 H'_2 (Addr.add ad (i2.toNat * 2)) (vS x) H' ∧ X H')) := by
  subst eL e1 e2
  have hl := ho.1
  simp at hl
  refine own_put (E := encS) (k := k + 1) w ho rfl (by omega) h1 rfl (by kernel_rfl) (by kernel_rfl) fun H2 ho2 hf2 => ?_
  rw [mset1 (by omega)] at ho2
  refine own_put (E := encS) (k := k) x ho2 rfl (by omega) h2 rfl (by kernel_rfl) (by kernel_rfl) fun H3 ho3 hf3 => ?_
  rw [mset0 hA] at ho3
  exact hk H3 ho3 (hf2.trans' hf3 (fun _ h _ => h) (fun _ h _ => h))
theorem insertionSort_ok {order : Value} (hT : ByT order) {base : Nat} {H : Heap} {a : Option Addr} {n c p q : Nat} {P s Q : List Smp} {K : Heap → Prop} (hx : Own encS 107 base H a n c (P ++ s ++ Q)) (hp : P.length = p) (hq : p + s.length = q) (hn : n ≤ 1000000000)
    (hk : ∀ H' s', Own encS 107 base H' a n c (P ++ s' ++ Q) → Srt s' → Stb s s' → Fr (blkL a) H H' → K H') :
    CallH Tryz.prog fn_slices_insertionSortCmpFunc_api_Sample_ ⟨[.slice a n c, .int .i64 p, .int .i64 q, order]⟩ H fun v H' => v = .tuple ⟨[]⟩ ∧ K H' := by
  apply vc_slices_insertionSortCmpFunc_api_Sample_
  have hl := hx.1
  simp at hl
  rw [succ64 (by omega)]
  refine ⟨fun vs H' => match vs with
      | [.int _ i] => ∃ (u u' v : List Smp), i = ((p + u.length : Nat) : Int) ∧ (s = u ++ v ∨ (s = [] ∧ u' = [] ∧ v = [] ∧ u.length = 1)) ∧ 1 ≤ u.length ∧ Own encS 107 base H' a n c (P ++ (u' ++ v) ++ Q) ∧ Srt u' ∧ (s ≠ [] → Stb u u') ∧ Fr (blkL a) H H'
      | _ => False,
    fun vs _ => match vs with | [.int _ i] => q + 1 - i.toNat | _ => 0, ?_, ?_⟩
  · cases s with
    | nil => exact ⟨[(0, 0)], [], [], rfl, .inr ⟨rfl, rfl, rfl, rfl⟩, Nat.le_refl _, hx, List.Pairwise.nil, fun h => absurd rfl h, Fr.refl _ _⟩
    | cons x s => exact ⟨[x], [x], s, rfl, .inl rfl, Nat.le_refl _, hx, by simp [Srt], fun _ => Stb.refl _, Fr.refl _ _⟩
  rintro J i H1 ⟨u, u', v, rfl, hs, hu1, ho, hS, hB, hf⟩
  refine brB_of (fun h0 => ?_) (fun h0 => ?_)
  · have h0' : p + u.length < q := by simp at h0; omega
    rcases hs with hs | ⟨rfl, _, _, h1⟩
    rotate_left
    · simp at hq; omega
    have hs0 : s ≠ [] := by intro e; subst e; simp at hq; omega
    have hB := hB hs0
    have hul := hB.length
    cases v with
    | nil => subst hs; simp at hq; omega
    | cons x v =>
      have hnl := ho.1
      simp only [List.length_append, List.length_cons] at hnl
      refine ⟨fun vs H' => match vs with
          | [.int _ j] => ∃ U V : List Smp, u' = U ++ V ∧ j = ((p + U.length : Nat) : Int) ∧ (∀ w ∈ V, x.1 < w.1) ∧ Own encS 107 base H' a n c (P ++ (U ++ x :: V ++ v) ++ Q) ∧ Fr (blkL a) H H'
          | _ => False,
        fun vs _ => match vs with | [.int _ j] => j.toNat | _ => 0, ⟨u', [], by simp, by rw [hul], by simp, by simpa using ho, hf⟩, ?_⟩
      rintro J j H2 ⟨U, V, rfl, rfl, hV, ho2, hf2⟩
      rw [List.length_append] at hul
      have fin : ∀ {H3 : Heap}, Own encS 107 base H3 a n c (P ++ (U ++ x :: V ++ v) ++ Q) → Fr (blkL a) H H3 → (∀ w ∈ U, w.1 ≤ x.1) →
          (∃ (u_1 u'_1 v_1 : List Smp), IntKind.i64.wrap (((p + u.length : Nat) : Int) + 1) = ((p + u_1.length : Nat) : Int) ∧ (s = u_1 ++ v_1 ∨ (s = [] ∧ u'_1 = [] ∧ v_1 = [] ∧ u_1.length = 1)) ∧ 1 ≤ u_1.length ∧ Own encS 107 base H3 a n c (P ++ (u'_1 ++ v_1) ++ Q) ∧ Srt u'_1 ∧ (s ≠ [] → Stb u_1 u'_1) ∧ Fr (blkL a) H H3) ∧ q + 1 - (IntKind.i64.wrap (((p + u.length : Nat) : Int) + 1)).toNat < q + 1 - (((p + u.length : Nat) : Int)).toNat := fun ho3 hf3 hU => by
        rw [succ64 (by omega)]
        refine ⟨⟨u ++ [x], U ++ x :: V, v, by simp; omega, .inl (by rw [hs]; simp), by simp, ho3, ?_, fun _ => ?_, hf3⟩, by omega⟩
        · refine srt_app hS.left (List.pairwise_cons.2 ⟨fun w hw => Int.le_of_lt (hV w hw), hS.right⟩) fun w hw z hz => ?_
          rcases List.mem_cons.1 hz with rfl | hz
          · exact hU w hw
          · exact hS.across w hw z hz
        · refine (hB.app (Stb.refl [x])).trans ?_
          rw [List.append_assoc]
          exact (Stb.refl U).app (Stb.swap1 hV)
      refine ⟨fun _ H' => ∃ U0 w, U = U0 ++ [w] ∧ x.1 < w.1 ∧ Own encS 107 base H' a n c (P ++ (U ++ x :: V ++ v) ++ Q) ∧ Fr (blkL a) H H', ?_, ?_⟩
      · refine brB_of (fun h1 => ?_) (fun h1 => fin ho2 hf2 fun w hw => ?_)
        · have hU0 : 0 < U.length := by simp at h1; omega
          obtain ⟨U0, w, rfl⟩ : ∃ U0 w, U = U0 ++ [w] := ⟨U.dropLast, U.getLast (by intro e; subst e; simp at hU0), (List.dropLast_concat_getLast _).symm⟩
          have eL : P ++ (U0 ++ [w] ++ x :: V ++ v) ++ Q = (P ++ U0) ++ w :: x :: (V ++ v ++ Q) := by simp
          simp only [List.length_append, List.length_cons, List.length_nil] at hul h0' hU0 ⊢
          rw [show p + (U0.length + (0 + 1)) = (p + U0.length) + 1 by omega, pred64 (by omega) (by omega)]
          refine ho2.sl.get (k := p + U0.length + 1) rfl (by rw [eL]; exact mid1 (by simp; omega)) (decide_eq_true (by omega)) fun ad ea hc => ⟨_, _, ldS hc, ?_⟩
          refine ho2.sl.get (k := p + U0.length) (by omega) (by rw [eL]; exact mid0 (by simp; omega)) (decide_eq_true (by omega)) fun ad ea hc => ⟨_, _, ldS hc, ?_⟩
          refine hT x w H2 _ fun H3 hf3 => brB_of (fun h2 => ⟨U0, w, rfl, cmpI_neg.1 (of_decide_eq_true h2), ho2.keep hf3, hf2.trans' hf3 (fun _ h _ => h) (by simp)⟩) (fun h2 => ?_)
          have h2' : ¬ x.1 < w.1 := fun h => of_decide_eq_false h2 (cmpI_neg.2 h)
          have := fin (ho2.keep hf3) (hf2.trans' hf3 (fun _ h _ => h) (by simp)) fun z hz => by
            rcases List.mem_append.1 hz with hz | hz
            · have := hS.left.across z hz w (by simp)
              omega
            · simp at hz; subst hz; omega
          exact this
        · have : U = [] := List.eq_nil_of_length_eq_zero (by simp at h1; omega)
          subst this; cases hw
      · rintro J H3 ⟨U0, w, rfl, hxw, ho3, hf3⟩
        have eL : P ++ (U0 ++ [w] ++ x :: V ++ v) ++ Q = (P ++ U0) ++ w :: x :: (V ++ v ++ Q) := by simp
        simp only [List.length_append, List.length_cons, List.length_nil] at hul h0' ⊢
        rw [show p + (U0.length + (0 + 1)) = (p + U0.length) + 1 by omega, pred64 (by omega) (by omega)]
        refine ho3.sl.get (k := p + U0.length) (by omega) (by rw [eL]; exact mid0 (by simp; omega)) (decide_eq_true (by omega)) fun ad ea hc => ⟨_, _, ldS hc, ?_⟩
        refine ho3.sl.get (k := p + U0.length + 1) rfl (by rw [eL]; exact mid1 (by simp; omega)) (decide_eq_true (by omega)) fun ad ea hc => ⟨_, _, ldS hc, ?_⟩
        refine swap_two (k := p + U0.length) ho3 eL (by simp; omega) rfl (by omega) _ _ (decide_eq_true (by omega)) (decide_eq_true (by omega)) fun H4 ho4 hf4 => ?_
        refine ⟨⟨U0, w :: V, by simp, by omega, fun z hz => ?_, by simpa using ho4, hf3.trans' hf4 (fun _ h _ => h) (fun _ h _ => h)⟩, ?_⟩
        · rcases List.mem_cons.1 hz with rfl | hz
          · exact hxw
          · exact hV z hz
        · show (((p + U0.length + 1 - 1 : Nat) : Int)).toNat < (((p + U0.length + 1 : Nat) : Int)).toNat
          omega
  · rcases hs with hs | ⟨rfl, rfl, rfl, h1⟩
    · have hv : v = [] := List.eq_nil_of_length_eq_zero (by subst hs; simp at hq h0; omega)
      subst hv
      rw [List.append_nil] at hs ho
      subst hs
      have hs0 : s ≠ [] := by intro e; subst e; simp at hu1
      exact ⟨rfl, hk H1 u' ho hS (hB hs0) hf⟩
    · exact ⟨rfl, hk H1 [] ho List.Pairwise.nil (Stb.refl _) hf⟩

theorem swapRange_ok {order : Value} {base : Nat} {H : Heap} {a : Option Addr} {n c p q : Nat} {L P X M Y Q : List Smp} {K : Heap → Prop} (hx : Own encS 107 base H a n c L) (eL : L = P ++ (X ++ (M ++ (Y ++ Q)))) (hp : P.length = p) (hq : p + X.length + M.length = q) (hXY : X.length = Y.length) (hn : n ≤ 1000000000)
    (hk : ∀ H', Own encS 107 base H' a n c (P ++ (Y ++ (M ++ (X ++ Q)))) → Fr (blkL a) H H' → K H') :
    CallH Tryz.prog fn_slices_swapRangeCmpFunc_api_Sample_ ⟨[.slice a n c, .int .i64 p, .int .i64 q, .int .i64 X.length, order]⟩ H fun v H' => v = .tuple ⟨[]⟩ ∧ K H' := by
  apply vc_slices_swapRangeCmpFunc_api_Sample_
  have hl := hx.1
  subst eL
  simp only [List.length_append] at hl
  refine ⟨fun vs H' => match vs with
      | [.int _ i] => ∃ (X1 X2 Y1 Y2 : List Smp), i = (X1.length : Int) ∧ X = X1 ++ X2 ∧ Y = Y1 ++ Y2 ∧ X1.length = Y1.length ∧ Own encS 107 base H' a n c (P ++ (Y1 ++ (X2 ++ (M ++ (X1 ++ (Y2 ++ Q)))))) ∧ Fr (blkL a) H H'
      | _ => False,
    fun vs _ => match vs with | [.int _ i] => X.length - i.toNat | _ => 0, ⟨[], X, [], Y, rfl, rfl, rfl, rfl, hx, Fr.refl _ _⟩, ?_⟩
  rintro J i H1 ⟨X1, X2, Y1, Y2, rfl, rfl, rfl, h12, ho, hf⟩
  simp only [List.length_append] at hXY hq hl
  have ew1 : IntKind.i64.wrap ((q : Int) + (X1.length : Nat)) = ((q + X1.length : Nat) : Int) := by rw [wrap64_of (by omega) (by omega)]; omega
  have ew2 : IntKind.i64.wrap ((p : Int) + (X1.length : Nat)) = ((p + X1.length : Nat) : Int) := by rw [wrap64_of (by omega) (by omega)]; omega
  refine brB_of (fun h0 => ?_) (fun h0 => ?_)
  · have h0' : X1.length < X1.length + X2.length := by simp at h0; omega
    cases X2 with
    | nil => simp at h0'
    | cons x X2 =>
      cases Y2 with
      | nil => simp at hXY; omega
      | cons y Y2 =>
        simp only [List.length_cons] at hXY hq hl
        rw [ew1, ew2]
        have e1 : P ++ (Y1 ++ (x :: X2 ++ (M ++ (X1 ++ (y :: Y2 ++ Q))))) = (P ++ Y1 ++ x :: X2 ++ M ++ X1) ++ y :: (Y2 ++ Q) := by simp
        have e2 : P ++ (Y1 ++ (x :: X2 ++ (M ++ (X1 ++ (y :: Y2 ++ Q))))) = (P ++ Y1) ++ x :: (X2 ++ M ++ X1 ++ y :: (Y2 ++ Q)) := by simp
        refine ho.sl.get (k := q + X1.length) rfl (by rw [e1]; exact mid0 (by simp; omega)) (decide_eq_true (by omega)) fun ad ea hc => ⟨_, _, ldS hc, ?_⟩
        refine ho.sl.get (k := p + X1.length) rfl (by rw [e2]; exact mid0 (by simp; omega)) (decide_eq_true (by omega)) fun ad ea hc => ⟨_, _, ldS hc, ?_⟩
        refine own_put (E := encS) (k := p + X1.length) y ho rfl (by omega) (decide_eq_true (by omega)) rfl (by kernel_rfl) (by kernel_rfl) fun H2 ho2 hf2 => ?_
        rw [e2, mset0 (by simp; omega)] at ho2
        have e3 : (P ++ Y1) ++ y :: (X2 ++ M ++ X1 ++ y :: (Y2 ++ Q)) = (P ++ Y1 ++ y :: X2 ++ M ++ X1) ++ y :: (Y2 ++ Q) := by simp
        refine own_put (E := encS) (k := q + X1.length) x ho2 rfl (by omega) (decide_eq_true (by omega)) rfl (by kernel_rfl) (by kernel_rfl) fun H3 ho3 hf3 => ?_
        rw [e3, mset0 (by simp; omega)] at ho3
        rw [succ64 (by omega)]
        refine ⟨⟨X1 ++ [x], X2, Y1 ++ [y], Y2, by simp, by simp, by simp, by simp; omega, by simpa using ho3, (hf.trans' hf2 (fun _ h _ => h) (fun _ h _ => h)).trans' hf3 (fun _ h _ => h) (fun _ h _ => h)⟩, mu_lt (by simp)⟩
  · have hX2 : X2 = [] := List.eq_nil_of_length_eq_zero (by simp at h0; omega)
    subst hX2
    have hY2 : Y2 = [] := List.eq_nil_of_length_eq_zero (by simp at hXY; omega)
    subst hY2
    simp only [List.append_nil, List.nil_append] at ho hk
    exact ⟨rfl, hk H1 ho hf⟩
theorem rotate_ok {order : Value} {base : Nat} {H : Heap} {a : Option Addr} {n c p m q : Nat} {L P X Y Q : List Smp} {K : Heap → Prop} (hx : Own encS 107 base H a n c L) (eL : L = P ++ (X ++ (Y ++ Q))) (hp : P.length = p) (hm : p + X.length = m) (hq : m + Y.length = q) (hX : 0 < X.length) (hY : 0 < Y.length) (hn : n ≤ 1000000000)
    (hk : ∀ H', Own encS 107 base H' a n c (P ++ (Y ++ (X ++ Q))) → Fr (blkL a) H H' → K H') :
    CallH Tryz.prog fn_slices_rotateCmpFunc_api_Sample_ ⟨[.slice a n c, .int .i64 p, .int .i64 m, .int .i64 q, order]⟩ H fun v H' => v = .tuple ⟨[]⟩ ∧ K H' := by
  apply vc_slices_rotateCmpFunc_api_Sample_
  have hl := hx.1
  subst eL
  simp only [List.length_append] at hl
  have ew1 : IntKind.i64.wrap ((m : Int) - p) = ((X.length : Nat) : Int) := by rw [wrap64_of (by omega) (by omega)]; omega
  have ew2 : IntKind.i64.wrap ((q : Int) - m) = ((Y.length : Nat) : Int) := by rw [wrap64_of (by omega) (by omega)]; omega
  rw [ew1, ew2]
  refine ⟨fun vs H' => match vs with
      | [.int _ i, .int _ j] => ∃ (P' X' Y' Q' : List Smp), i = (X'.length : Int) ∧ j = (Y'.length : Int) ∧ 0 < X'.length ∧ 0 < Y'.length ∧ P'.length + X'.length = m ∧ P' ++ (Y' ++ (X' ++ Q')) = P ++ (Y ++ (X ++ Q)) ∧ Own encS 107 base H' a n c (P' ++ (X' ++ (Y' ++ Q'))) ∧ Fr (blkL a) H H'
      | _ => False,
    fun vs _ => match vs with | [.int _ i, .int _ j] => i.toNat + j.toNat | _ => 0, ⟨P, X, Y, Q, rfl, rfl, hX, hY, by omega, rfl, hx, Fr.refl _ _⟩, ?_⟩
  rintro J i j H1 ⟨P', X', Y', Q', rfl, rfl, hX', hY', hPm, hE, ho, hf⟩
  have hol := ho.1
  simp only [List.length_append] at hol
  have w1 : IntKind.i64.wrap ((m : Int) - (X'.length : Nat)) = ((P'.length : Nat) : Int) := by rw [wrap64_of (by omega) (by omega)]; omega
  refine brB_of (fun h0 => ?_) (fun h0 => ?_)
  · have h0' : X'.length ≠ Y'.length := by intro e; rw [e] at h0; simp at h0
    rw [w1]
    refine brB_of (fun h1 => ?_) (fun h1 => ?_)
    · have h1' : Y'.length < X'.length := by simpa using h1
      obtain ⟨X1, X2, rfl, hX1⟩ : ∃ X1 X2, X' = X1 ++ X2 ∧ X1.length = Y'.length := ⟨X'.take Y'.length, X'.drop Y'.length, (List.take_append_drop _ _).symm, by simp; omega⟩
      simp only [List.length_append] at hPm hX' h1' hol
      have w2 : IntKind.i64.wrap (((X1 ++ X2).length : Nat) - ((Y'.length : Nat) : Int)) = ((X2.length : Nat) : Int) := by rw [List.length_append, wrap64_of (by omega) (by omega)]; omega
      rw [w2, ← hX1]
      refine swapRange_ok (P := P') (X := X1) (M := X2) (Y := Y') (Q := Q') ho (by simp) rfl (by omega) hX1 hn fun H2 ho2 hf2 => ?_
      rw [hX1]
      refine ⟨⟨P' ++ Y', X2, X1, Q', rfl, by rw [hX1], by omega, by omega, by simp; omega, by rw [← hE]; simp, by simpa using ho2, hf.trans' hf2 (fun _ h _ => h) (fun _ h _ => h)⟩, ?_⟩
      simp only [List.length_append]; omega
    · have h1' : X'.length < Y'.length := by simp at h1; omega
      obtain ⟨Y1, Y2, rfl, hY2⟩ : ∃ Y1 Y2, Y' = Y1 ++ Y2 ∧ Y2.length = X'.length := ⟨Y'.take (Y'.length - X'.length), Y'.drop (Y'.length - X'.length), (List.take_append_drop _ _).symm, by simp; omega⟩
      simp only [List.length_append] at hY' h1' hol
      have w2 : IntKind.i64.wrap (((Y1 ++ Y2).length : Nat) - ((X'.length : Nat) : Int)) = ((Y1.length : Nat) : Int) := by rw [List.length_append, wrap64_of (by omega) (by omega)]; omega
      have w3 : IntKind.i64.wrap (IntKind.i64.wrap ((m : Int) + (((Y1 ++ Y2).length : Nat) : Int)) - (X'.length : Nat)) = ((m + Y1.length : Nat) : Int) := by
        rw [List.length_append, wrap64_of (n := (m : Int) + _) (by omega) (by omega), wrap64_of (by omega) (by omega)]; omega
      rw [w2, w3]
      refine swapRange_ok (P := P') (X := X') (M := Y1) (Y := Y2) (Q := Q') ho (by simp) rfl (by omega) hY2.symm hn fun H2 ho2 hf2 => ?_
      refine ⟨⟨P', Y2, Y1, X' ++ Q', by rw [hY2], rfl, by omega, by omega, by omega, by rw [← hE]; simp, by simpa using ho2, hf.trans' hf2 (fun _ h _ => h) (fun _ h _ => h)⟩, ?_⟩
      simp only [List.length_append]; omega
  · have h0' : X'.length = Y'.length := by simp at h0; omega
    rw [w1]
    refine swapRange_ok (P := P') (X := X') (M := []) (Y := Y') (Q := Q') ho (by simp) rfl (by simp; omega) h0' hn fun H2 ho2 hf2 => ⟨rfl, ?_⟩
    refine hk H2 ?_ (hf.trans' hf2 (fun _ h _ => h) (fun _ h _ => h))
    rw [← hE]; simpa using ho2
end Go.Proofs
set_option linter.unusedVariables false
set_option maxRecDepth 100000
open Go Go.GV
namespace Go.Proofs

theorem two1 : (2 : Int) ^ min (Int.toNat 1) (IntKind.bits IntKind.u64) = 2 ^ 1 := by decide
theorem avg64 {i j : Nat} (h : i + j ≤ 4000000000) : IntKind.i64.wrap (Int.fdiv (IntKind.u64.wrap (IntKind.i64.wrap ((i : Int) + (j : Int)))) (2 ^ 1)) = (((i + j) / 2 : Nat) : Int) := by
  rw [wrap64_of (n := (i : Int) + j) (by omega) (by omega)]
  have : IntKind.u64.wrap ((i : Int) + (j : Int)) = ((i + j : Nat) : Int) := by
    rw [show (i : Int) + (j : Int) = ((i + j : Nat) : Int) by omega]
    exact IntWalk.u64_in _ ⟨by omega, by omega⟩
  rw [this, show ((2 : Int) ^ 1) = ((2 : Nat) : Int) by decide, Int.fdiv_eq_ediv_of_nonneg _ (by omega), ← Int.natCast_ediv]
  exact wrap64_of (by omega) (by omega)
theorem swap_two2 {base : Nat} {H : Heap} {a : Option Addr} {n c k : Nat} {A B L : List Smp} {w x : Smp} {i1 i2 : Int} {X : Heap → Prop} (ho : Own encS 107 base H a n c L) (eL : L = A ++ x :: w :: B) (hA : A.length = k) (e1 : i1 = ((k + 1 : Nat) : Int)) (e2 : i2 = (k : Int)) (b1 b2 : Bool) (h1 : b1 = true) (h2 : b2 = true)
    (hk : ∀ H', Own encS 107 base H' a n c (A ++ w :: x :: B) → Fr (blkL a) H H' → X H') :
    exSome a fun ad => chk b1 (∃ H'_2, St Tryz.prog 107 H (Addr.add ad (i2.toNat * 2)) (vS w) H'_2 ∧ exSome a fun ad => chk b2 (∃ H', St Tryz.prog 107 H'_2 (Addr.add ad (i1.toNat * 2)) (vS x) H' ∧ X H')) := by
  subst eL e1 e2
  have hl := ho.1
  simp at hl
  refine own_put (E := encS) (k := k) w ho rfl (by omega) h1 rfl (by kernel_rfl) (by kernel_rfl) fun H2 ho2 hf2 => ?_
  rw [mset0 (by omega)] at ho2
  refine own_put (E := encS) (k := k + 1) x ho2 rfl (by omega) h2 rfl (by kernel_rfl) (by kernel_rfl) fun H3 ho3 hf3 => ?_
  rw [mset1 (by omega)] at ho3
  exact hk H3 ho3 (hf2.trans' hf3 (fun _ h _ => h) (fun _ h _ => h))
theorem ins_front {U V : List Smp} {x : Smp} (h : Srt (U ++ V)) (h1 : ∀ u ∈ U, u.1 < x.1) (h2 : ∀ v ∈ V, x.1 ≤ v.1) : Srt (U ++ x :: V) ∧ Stb ([x] ++ (U ++ V)) (U ++ x :: V) := by
  refine ⟨srt_app h.left (List.pairwise_cons.2 ⟨h2, h.right⟩) fun u hu z hz => ?_, ?_⟩
  · rcases List.mem_cons.1 hz with rfl | hz
    · exact Int.le_of_lt (h1 u hu)
    · exact h.across u hu z hz
  · have := (Stb.front h1).app (Stb.refl V)
    simpa using this
theorem ins_back {U V : List Smp} {y : Smp} (h : Srt (U ++ V)) (h1 : ∀ u ∈ U, u.1 ≤ y.1) (h2 : ∀ v ∈ V, y.1 < v.1) : Srt (U ++ y :: V) ∧ Stb ((U ++ V) ++ [y]) (U ++ y :: V) := by
  refine ⟨srt_app h.left (List.pairwise_cons.2 ⟨fun v hv => Int.le_of_lt (h2 v hv), h.right⟩) fun u hu z hz => ?_, ?_⟩
  · rcases List.mem_cons.1 hz with rfl | hz
    · exact h1 u hu
    · exact h.across u hu z hz
  · have := (Stb.refl U).app (Stb.swap1 h2)
    simpa using this
theorem two_split {B : List Smp} {k : Nat} (h : k ≤ B.length) : ∃ U V, B = U ++ V ∧ U.length = k := ⟨B.take k, B.drop k, (List.take_append_drop _ _).symm, by simp; omega⟩
theorem in_mid {P A R : List Smp} {k : Nat} (h : P.length ≤ k) (h2 : k < P.length + A.length) : (P ++ (A ++ R))[k]? = A[k - P.length]? := by
  rw [List.getElem?_append_right h, List.getElem?_append_left (by omega)]

structure LtA (B : List Smp) (k : Nat) (v : Int) : Prop where
  h : ∃ z, B[k]? = some z ∧ z.1 < v
structure LeA (B : List Smp) (k : Nat) (v : Int) : Prop where
  h : ∃ z, B[k]? = some z ∧ z.1 ≤ v
structure GtA (B : List Smp) (k : Nat) (v : Int) : Prop where
  h : ∃ z, B[k]? = some z ∧ v < z.1
structure GeA (B : List Smp) (k : Nat) (v : Int) : Prop where
  h : ∃ z, B[k]? = some z ∧ v ≤ z.1
theorem sym1_ok {order : Value} (hT : ByT order) {base : Nat} {H : Heap} {a : Option Addr} {n c p m q : Nat} {L P B Q : List Smp} {x : Smp} {K : Heap → Prop} (ho : Own encS 107 base H a n c L) (eL : L = P ++ ([x] ++ (B ++ Q))) (hp : P.length = p) (hm : p + 1 = m) (hq : m + B.length = q) (hn : n ≤ 1000000000) (hB : Srt B)
    (hk : ∀ H' S, Own encS 107 base H' a n c (P ++ (S ++ Q)) → Srt S → Stb ([x] ++ B) S → Fr (blkL a) H H' → K H') :
    CallH Tryz.prog fn_slices_symMergeCmpFunc_api_Sample_ ⟨[.slice a n c, .int .i64 p, .int .i64 m, .int .i64 q, order]⟩ H fun v H' => v = .tuple ⟨[]⟩ ∧ K H' := by
  apply vc_slices_symMergeCmpFunc_api_Sample_
  have hl := ho.1
  subst eL
  simp only [List.length_append, List.length_cons, List.length_nil] at hl
  have ew : IntKind.i64.wrap ((m : Int) - p) = 1 := by rw [wrap64_of (by omega) (by omega)]; omega
  rw [ew]
  refine brB_of (fun _ => ?_) (fun h => by simp at h)
  refine ⟨fun vs H' => match vs with
      | [.int _ i, .int _ j] => ∃ i' j' : Nat, i = i' ∧ j = j' ∧ m ≤ i' ∧ i' ≤ j' ∧ j' ≤ q ∧ (i' = m ∨ LtA B (i' - 1 - m) x.1) ∧ (j' = q ∨ GeA B (j' - m) x.1) ∧ Own encS 107 base H' a n c (P ++ ([x] ++ (B ++ Q))) ∧ Fr (blkL a) H H'
      | _ => False,
    fun vs _ => match vs with | [.int _ i, .int _ j] => j.toNat - i.toNat | _ => 0, ⟨m, q, rfl, rfl, by omega, by omega, by omega, .inl rfl, .inl rfl, ho, Fr.refl _ _⟩, ?_⟩
  rintro J i j H1 ⟨i', j', rfl, rfl, h1, h2, h3, h4, h5, ho1, hf1⟩
  refine brB_of (fun h0 => ?_) (fun h0 => ?_)
  · have h0' : i' < j' := by simpa using h0
    rw [avg64 (by omega)]
    have hh1 : i' ≤ (i' + j') / 2 := by omega
    have hh2 : (i' + j') / 2 < j' := by omega
    generalize (i' + j') / 2 = h at hh1 hh2
    have hz : B[h - m]? = some (B[h - m]'(by omega)) := by simp
    generalize B[h - m]'(by omega) = z at hz
    have hz' : (P ++ ([x] ++ (B ++ Q)))[h]? = some z := by
      rw [← List.append_assoc, in_mid (by simp; omega) (by simp; omega)]
      rw [← hz]; congr 1; simp; omega
    refine ho1.sl.get (k := h) rfl hz' (decide_eq_true (by omega)) fun ad ea hc => ⟨_, _, ldS hc, ?_⟩
    refine ho1.sl.get (k := p) (x := x) rfl (by rw [in_mid (by omega) (by simp; omega), hp]; simp) (decide_eq_true (by omega)) fun ad ea hc => ⟨_, _, ldS hc, ?_⟩
    refine hT z x H1 _ fun H2 hf2 => ?_
    have ho2 := ho1.keep hf2
    have hf02 := hf1.trans' hf2 (T := blkL a) (fun _ h _ => h) (by simp)
    rw [succ64 (by omega)]
    refine brB_of (fun h6 => ⟨⟨h + 1, j', rfl, rfl, by omega, by omega, h3, .inr ⟨⟨z, hz, cmpI_neg.1 (of_decide_eq_true h6)⟩⟩, h5, ho2, hf02⟩, ?_⟩) (fun h6 => ⟨⟨i', h, rfl, rfl, h1, by omega, by omega, h4, .inr ⟨⟨z, hz, ?_⟩⟩, ho2, hf02⟩, ?_⟩)
    · show ((j' : Nat) : Int).toNat - ((h + 1 : Nat) : Int).toNat < ((j' : Nat) : Int).toNat - ((i' : Nat) : Int).toNat
      omega
    · have : ¬ z.1 < x.1 := fun h => of_decide_eq_false h6 (cmpI_neg.2 h)
      omega
    · show ((h : Nat) : Int).toNat - ((i' : Nat) : Int).toNat < ((j' : Nat) : Int).toNat - ((i' : Nat) : Int).toNat
      omega
  · have h0' : i' = j' := by simp at h0; omega
    subst h0'
    obtain ⟨U, V, rfl, hU⟩ := two_split (B := B) (k := i' - m) (by omega)
    have hUx : ∀ u ∈ U, u.1 < x.1 := fun u hu => by
      obtain ⟨k, hk⟩ := List.getElem?_of_mem hu
      have hkl := (List.getElem?_eq_some_iff.1 hk).1
      rcases h4 with h4 | ⟨⟨z, hz, h4⟩⟩
      · omega
      · have := hB.le (i := k) (j := i' - 1 - m) (by omega) (by rw [List.getElem?_append_left hkl]; exact hk) hz
        omega
    have hVx : ∀ v ∈ V, x.1 ≤ v.1 := fun v hv => by
      obtain ⟨k, hk⟩ := List.getElem?_of_mem hv
      have hkl := (List.getElem?_eq_some_iff.1 hk).1
      simp only [List.length_append] at hq
      rcases h5 with h5 | ⟨⟨z, hz, h5⟩⟩
      · omega
      · have := hB.le (i := i' - m) (j := U.length + k) (by omega) hz (by rw [List.getElem?_append_right (by omega)]; rw [← hk]; congr 1; omega)
        omega
    obtain ⟨r1, r2⟩ := ins_front hB hUx hVx
    have ew3 : IntKind.i64.wrap ((i' : Int) - 1) = ((i' - 1 : Nat) : Int) := pred64 (by omega) (by omega)
    rw [ew3]
    simp only [List.length_append] at hl hq
    refine ⟨fun vs H' => match vs with
        | [.int _ k] => ∃ U1 U2 : List Smp, U = U1 ++ U2 ∧ k = ((p + U1.length : Nat) : Int) ∧ Own encS 107 base H' a n c (P ++ U1 ++ x :: (U2 ++ (V ++ Q))) ∧ Fr (blkL a) H H'
        | _ => False,
      fun vs _ => match vs with | [.int _ k] => i' - k.toNat | _ => 0, ⟨[], U, rfl, rfl, by simpa using ho1, hf1⟩, ?_⟩
    rintro J k H2 ⟨U1, U2, rfl, rfl, ho2, hf2⟩
    simp only [List.length_append] at hU hl hq
    refine brB_of (fun h7 => ?_) (fun h7 => ?_)
    · have h7' : p + U1.length < i' - 1 := by simp at h7; omega
      cases U2 with
      | nil => simp at hU; omega
      | cons w U2 =>
        have eL : P ++ U1 ++ x :: (w :: U2 ++ (V ++ Q)) = (P ++ U1) ++ x :: w :: (U2 ++ (V ++ Q)) := by simp
        simp only [List.length_cons] at hU hl hq
        rw [succ64 (by omega)]
        refine ho2.sl.get (k := p + U1.length + 1) rfl (by rw [eL]; exact mid1 (by simp; omega)) (decide_eq_true (by omega)) fun ad ea hc => ⟨_, _, ldS hc, ?_⟩
        refine ho2.sl.get (k := p + U1.length) rfl (by rw [eL]; exact mid0 (by simp; omega)) (decide_eq_true (by omega)) fun ad ea hc => ⟨_, _, ldS hc, ?_⟩
        refine swap_two2 (k := p + U1.length) ho2 eL (by simp; omega) rfl rfl _ _ (decide_eq_true (by omega)) (decide_eq_true (by omega)) fun H4 ho4 hf4 => ?_
        refine ⟨⟨U1 ++ [w], U2, by simp, by simp; omega, by simpa using ho4, hf2.trans' hf4 (fun _ h _ => h) (fun _ h _ => h)⟩, ?_⟩
        show i' - ((p + U1.length + 1 : Nat) : Int).toNat < i' - ((p + U1.length : Nat) : Int).toNat
        omega
    · have : U2 = [] := List.eq_nil_of_length_eq_zero (by simp at h7; omega)
      subst this
      rw [List.append_nil] at r1 r2
      exact ⟨rfl, hk H2 (U1 ++ x :: V) (by simpa using ho2) r1 (by simpa using r2) hf2⟩
theorem sym2_ok {order : Value} (hT : ByT order) {base : Nat} {H : Heap} {a : Option Addr} {n c p m q : Nat} {L P A Q : List Smp} {y : Smp} {K : Heap → Prop} (ho : Own encS 107 base H a n c L) (eL : L = P ++ (A ++ ([y] ++ Q))) (hp : P.length = p) (hm : p + A.length = m) (hq : m + 1 = q) (hA2 : 2 ≤ A.length) (hn : n ≤ 1000000000) (hA : Srt A)
    (hk : ∀ H' S, Own encS 107 base H' a n c (P ++ (S ++ Q)) → Srt S → Stb (A ++ [y]) S → Fr (blkL a) H H' → K H') :
    CallH Tryz.prog fn_slices_symMergeCmpFunc_api_Sample_ ⟨[.slice a n c, .int .i64 p, .int .i64 m, .int .i64 q, order]⟩ H fun v H' => v = .tuple ⟨[]⟩ ∧ K H' := by
  apply vc_slices_symMergeCmpFunc_api_Sample_
  have hl := ho.1
  subst eL
  simp only [List.length_append, List.length_cons, List.length_nil] at hl
  have ew0 : IntKind.i64.wrap ((m : Int) - p) = ((A.length : Nat) : Int) := by rw [wrap64_of (by omega) (by omega)]; omega
  have ew : IntKind.i64.wrap ((q : Int) - m) = 1 := by rw [wrap64_of (by omega) (by omega)]; omega
  rw [ew, ew0]
  refine brB_of (fun h => by simp at h; omega) (fun _ => brB_of (fun _ => ?_) (fun h => by simp at h))
  refine ⟨fun vs H' => match vs with
      | [.int _ i, .int _ j] => ∃ i' j' : Nat, i = i' ∧ j = j' ∧ p ≤ i' ∧ i' ≤ j' ∧ j' ≤ m ∧ (i' = p ∨ LeA A (i' - 1 - p) y.1) ∧ (j' = m ∨ GtA A (j' - p) y.1) ∧ Own encS 107 base H' a n c (P ++ (A ++ ([y] ++ Q))) ∧ Fr (blkL a) H H'
      | _ => False,
    fun vs _ => match vs with | [.int _ i, .int _ j] => j.toNat - i.toNat | _ => 0, ⟨p, m, rfl, rfl, by omega, by omega, by omega, .inl rfl, .inl rfl, ho, Fr.refl _ _⟩, ?_⟩
  rintro J i j H1 ⟨i', j', rfl, rfl, h1, h2, h3, h4, h5, ho1, hf1⟩
  refine brB_of (fun h0 => ?_) (fun h0 => ?_)
  · have h0' : i' < j' := by simpa using h0
    rw [avg64 (by omega)]
    have hh1 : i' ≤ (i' + j') / 2 := by omega
    have hh2 : (i' + j') / 2 < j' := by omega
    generalize (i' + j') / 2 = h at hh1 hh2
    have hz : A[h - p]? = some (A[h - p]'(by omega)) := by simp
    generalize A[h - p]'(by omega) = z at hz
    refine ho1.sl.get (k := m) (x := y) rfl (by rw [← List.append_assoc, in_mid (by simp; omega) (by simp; omega)]; simp [hp, hm]) (decide_eq_true (by omega)) fun ad ea hc => ⟨_, _, ldS hc, ?_⟩
    refine ho1.sl.get (k := h) rfl (by rw [in_mid (by omega) (by omega), hp]; exact hz) (decide_eq_true (by omega)) fun ad ea hc => ⟨_, _, ldS hc, ?_⟩
    refine hT y z H1 _ fun H2 hf2 => ?_
    have ho2 := ho1.keep hf2
    have hf02 := hf1.trans' hf2 (T := blkL a) (fun _ h _ => h) (by simp)
    rw [succ64 (by omega)]
    refine brB_of (fun h6 => ⟨⟨h + 1, j', rfl, rfl, by omega, by omega, h3, .inr ⟨⟨z, hz, ?_⟩⟩, h5, ho2, hf02⟩, ?_⟩) (fun h6 => ⟨⟨i', h, rfl, rfl, h1, by omega, by omega, h4, .inr ⟨⟨z, hz, ?_⟩⟩, ho2, hf02⟩, ?_⟩)
    · have : ¬ y.1 < z.1 := fun h => by rw [decide_eq_true (cmpI_neg.2 h)] at h6; cases h6
      omega
    · show ((j' : Nat) : Int).toNat - ((h + 1 : Nat) : Int).toNat < ((j' : Nat) : Int).toNat - ((i' : Nat) : Int).toNat
      omega
    · have : decide (cmpI y.1 z.1 < 0) = true := by simpa using h6
      exact cmpI_neg.1 (of_decide_eq_true this)
    · show ((h : Nat) : Int).toNat - ((i' : Nat) : Int).toNat < ((j' : Nat) : Int).toNat - ((i' : Nat) : Int).toNat
      omega
  · have h0' : i' = j' := by simp at h0; omega
    subst h0'
    obtain ⟨U, V, rfl, hU⟩ := two_split (B := A) (k := i' - p) (by omega)
    simp only [List.length_append] at hm hl
    have hUx : ∀ u ∈ U, u.1 ≤ y.1 := fun u hu => by
      obtain ⟨k, hk⟩ := List.getElem?_of_mem hu
      have hkl := (List.getElem?_eq_some_iff.1 hk).1
      rcases h4 with h4 | ⟨⟨z, hz, h4⟩⟩
      · omega
      · have := hA.le (i := k) (j := i' - 1 - p) (by omega) (by rw [List.getElem?_append_left hkl]; exact hk) hz
        omega
    have hVx : ∀ v ∈ V, y.1 < v.1 := fun v hv => by
      obtain ⟨k, hk⟩ := List.getElem?_of_mem hv
      have hkl := (List.getElem?_eq_some_iff.1 hk).1
      rcases h5 with h5 | ⟨⟨z, hz, h5⟩⟩
      · omega
      · have := hA.le (i := i' - p) (j := U.length + k) (by omega) hz (by rw [List.getElem?_append_right (by omega)]; rw [← hk]; congr 1; omega)
        omega
    obtain ⟨r1, r2⟩ := ins_back hA hUx hVx
    refine ⟨fun vs H' => match vs with
        | [.int _ k] => ∃ V1 V2 : List Smp, V = V1 ++ V2 ∧ k = ((i' + V1.length : Nat) : Int) ∧ Own encS 107 base H' a n c (P ++ U ++ V1 ++ y :: (V2 ++ Q)) ∧ Fr (blkL a) H H'
        | _ => False,
      fun vs _ => match vs with | [.int _ k] => k.toNat | _ => 0, ⟨V, [], by simp, by omega, by simpa using ho1, hf1⟩, ?_⟩
    rintro J k H2 ⟨V1, V2, rfl, rfl, ho2, hf2⟩
    simp only [List.length_append] at hm hl
    refine brB_of (fun h7 => ?_) (fun h7 => ?_)
    · have h7' : 0 < V1.length := by simp at h7; omega
      obtain ⟨V0, w, rfl⟩ : ∃ V0 w, V1 = V0 ++ [w] := ⟨V1.dropLast, V1.getLast (by intro e; subst e; simp at h7'), (List.dropLast_concat_getLast _).symm⟩
      have eL : P ++ U ++ (V0 ++ [w]) ++ y :: (V2 ++ Q) = (P ++ U ++ V0) ++ w :: y :: (V2 ++ Q) := by simp
      simp only [List.length_append, List.length_cons, List.length_nil] at hm hl h7' ⊢
      rw [show i' + (V0.length + (0 + 1)) = (i' + V0.length) + 1 by omega, pred64 (by omega) (by omega)]
      refine ho2.sl.get (k := i' + V0.length) (by omega) (by rw [eL]; exact mid0 (by simp; omega)) (decide_eq_true (by omega)) fun ad ea hc => ⟨_, _, ldS hc, ?_⟩
      refine ho2.sl.get (k := i' + V0.length + 1) rfl (by rw [eL]; exact mid1 (by simp; omega)) (decide_eq_true (by omega)) fun ad ea hc => ⟨_, _, ldS hc, ?_⟩
      refine swap_two (k := i' + V0.length) ho2 eL (by simp; omega) rfl (by omega) _ _ (decide_eq_true (by omega)) (decide_eq_true (by omega)) fun H4 ho4 hf4 => ?_
      refine ⟨⟨V0, w :: V2, by simp, by omega, by simpa using ho4, hf2.trans' hf4 (fun _ h _ => h) (fun _ h _ => h)⟩, ?_⟩
      show (((i' + V0.length + 1 - 1 : Nat) : Int)).toNat < (((i' + V0.length + 1 : Nat) : Int)).toNat
      omega
    · have : V1 = [] := List.eq_nil_of_length_eq_zero (by simp at h7; omega)
      subst this
      exact ⟨rfl, hk H2 (U ++ y :: V2) (by simpa using ho2) (by simpa using r1) (by simpa using r2) hf2⟩
end Go.Proofs
set_option linter.unusedVariables false
set_option maxRecDepth 100000
open Go Go.GV
namespace Go.Proofs

structure Ends (A B : List Smp) (i j : Nat) : Prop where
  h : ∃ x y, A[i]? = some x ∧ B[j]? = some y ∧ x.1 ≤ y.1
structure EndsL (A B : List Smp) (i j : Nat) : Prop where
  h : ∃ x y, A[i]? = some x ∧ B[j]? = some y ∧ y.1 < x.1
theorem symMerge_ok {order : Value} (hT : ByT order) : ∀ (N : Nat) {base : Nat} {H : Heap} {a : Option Addr} {n c p m q : Nat} {L P A B Q : List Smp} {K : Heap → Prop} (hN : A.length + B.length ≤ N) (ho : Own encS 107 base H a n c L) (eL : L = P ++ (A ++ (B ++ Q))) (hp : P.length = p) (hm : p + A.length = m) (hq : m + B.length = q) (hA0 : 0 < A.length) (hB0 : 0 < B.length) (hn : n ≤ 1000000000) (hA : Srt A) (hB : Srt B)
    (hk : ∀ H' S, Own encS 107 base H' a n c (P ++ (S ++ Q)) → Srt S → Stb (A ++ B) S → Fr (blkL a) H H' → K H'),
    CallH Tryz.prog fn_slices_symMergeCmpFunc_api_Sample_ ⟨[.slice a n c, .int .i64 p, .int .i64 m, .int .i64 q, order]⟩ H fun v H' => v = .tuple ⟨[]⟩ ∧ K H' := by
  intro N
  induction N with
  | zero => intros; omega
  | succ N ih =>
  intro base H a n c p m q L P A B Q K hN ho eL hp hm hq hA0 hB0 hn hA hB hk
  by_cases hA1 : A.length = 1
  · obtain ⟨x, rfl⟩ : ∃ x, A = [x] := by cases A with | nil => simp at hA1 | cons x A => cases A with | nil => exact ⟨x, rfl⟩ | cons _ _ => simp at hA1
    exact sym1_ok hT ho eL hp hm hq hn hB hk
  by_cases hB1 : B.length = 1
  · obtain ⟨y, rfl⟩ : ∃ y, B = [y] := by cases B with | nil => simp at hB1 | cons x A => cases A with | nil => exact ⟨x, rfl⟩ | cons _ _ => simp at hB1
    exact sym2_ok hT ho eL hp hm hq (by omega) hn hA hk
  apply vc_slices_symMergeCmpFunc_api_Sample_
  have hl := ho.1
  subst eL
  simp only [List.length_append] at hl
  have ew0 : IntKind.i64.wrap ((m : Int) - p) = ((A.length : Nat) : Int) := by rw [wrap64_of (by omega) (by omega)]; omega
  have ew : IntKind.i64.wrap ((q : Int) - m) = ((B.length : Nat) : Int) := by rw [wrap64_of (by omega) (by omega)]; omega
  rw [ew, ew0, two1, avg64 (by omega)]
  refine brB_of (fun h => by simp at h; omega) (fun _ => brB_of (fun h => by simp at h; omega) (fun _ => ?_))
  have hmid1 : 2 * ((p + q) / 2) ≤ p + q := by omega
  have hmid2 : p + q ≤ 2 * ((p + q) / 2) + 1 := by omega
  generalize (p + q) / 2 = mid at hmid1 hmid2
  have ewn : IntKind.i64.wrap ((mid : Int) + m) = ((mid + m : Nat) : Int) := by rw [wrap64_of (by omega) (by omega)]; omega
  rw [ewn]
  refine ⟨fun vs H' => H' = H ∧ ∃ lo hi : Nat, vs = [.int .i64 lo, .int .i64 hi] ∧ p ≤ lo ∧ lo ≤ hi ∧ hi ≤ m ∧ hi ≤ mid ∧ mid + m ≤ lo + q ∧ (lo = p ∨ mid + m = lo + q) ∧ (hi = m ∨ hi = mid), ?_, ?_⟩
  · refine brB_of (fun h => ⟨rfl, mid + m - q, mid, ?_, ?_⟩) (fun h => ⟨rfl, p, m, rfl, ?_⟩)
    · have : mid < m := by simpa using h
      rw [wrap64_of (by omega) (by omega), show ((mid + m : Nat) : Int) - q = ((mid + m - q : Nat) : Int) by omega]
    · have : mid < m := by simpa using h
      omega
    · have : m ≤ mid := by simp at h; omega
      omega
  rintro J s0 r0 H1 ⟨rfl, lo, hi, e0, l1, l2, l3, l4, l5, l6, l7⟩
  simp only [List.cons.injEq, Value.int.injEq, true_and, and_true] at e0
  obtain ⟨rfl, rfl⟩ := e0
  refine ⟨fun vs H' => match vs with
      | [.int _ i, .int _ j] => ∃ i' j' : Nat, i = i' ∧ j = j' ∧ lo ≤ i' ∧ i' ≤ j' ∧ j' ≤ hi ∧ (i' = lo ∨ Ends A B (i' - 1 - p) (mid + m - i' - m)) ∧ (j' = hi ∨ EndsL A B (j' - p) (mid + m - 1 - j' - m)) ∧ Own encS 107 base H' a n c (P ++ (A ++ (B ++ Q))) ∧ Fr (blkL a) H1 H'
      | _ => False,
    fun vs _ => match vs with | [.int _ i, .int _ j] => j.toNat - i.toNat | _ => 0, ⟨lo, hi, rfl, rfl, by omega, by omega, by omega, .inl rfl, .inl rfl, ho, Fr.refl _ _⟩, ?_⟩
  rintro J i j H2 ⟨i', j', rfl, rfl, h1, h2, h3, h4, h5, ho2, hf2⟩
  refine brB_of (fun h0 => ?_) (fun h0 => ?_)
  · have h0' : i' < j' := by simpa using h0
    rw [avg64 (by omega)]
    have hh1 : i' ≤ (i' + j') / 2 := by omega
    have hh2 : (i' + j') / 2 < j' := by omega
    generalize (i' + j') / 2 = h at hh1 hh2
    have w1 : IntKind.i64.wrap (IntKind.i64.wrap (((mid + m : Nat) : Int) - 1) - (h : Int)) = ((mid + m - 1 - h : Nat) : Int) := by
      rw [wrap64_of (n := ((mid + m : Nat) : Int) - 1) (by omega) (by omega), wrap64_of (by omega) (by omega)]; omega
    rw [w1]
    have hy : B[mid + m - 1 - h - m]? = some (B[mid + m - 1 - h - m]'(by omega)) := by simp
    generalize B[mid + m - 1 - h - m]'(by omega) = y at hy
    have hx : A[h - p]? = some (A[h - p]'(by omega)) := by simp
    generalize A[h - p]'(by omega) = x at hx
    have hy' : (P ++ (A ++ (B ++ Q)))[mid + m - 1 - h]? = some y := by
      rw [← List.append_assoc, in_mid (by simp; omega) (by simp; omega), ← hy]; congr 1; simp; omega
    refine ho2.sl.get (k := mid + m - 1 - h) rfl hy' (decide_eq_true (by omega)) fun ad ea hc => ⟨_, _, ldS hc, ?_⟩
    refine ho2.sl.get (k := h) (x := x) rfl (by rw [in_mid (by omega) (by omega), hp]; exact hx) (decide_eq_true (by omega)) fun ad ea hc => ⟨_, _, ldS hc, ?_⟩
    refine hT y x H2 _ fun H3 hf3 => ?_
    have ho3 := ho2.keep hf3
    have hf03 := hf2.trans' hf3 (T := blkL a) (fun _ h _ => h) (by simp)
    rw [succ64 (by omega)]
    refine brB_of (fun h6 => ⟨⟨h + 1, j', rfl, rfl, by omega, by omega, h3, .inr ⟨x, y, by simpa using hx, ?_, ?_⟩, h5, ho3, hf03⟩, ?_⟩) (fun h6 => ⟨⟨i', h, rfl, rfl, h1, by omega, by omega, h4, .inr ⟨x, y, hx, hy, ?_⟩, ho3, hf03⟩, ?_⟩)
    · rw [← hy]; congr 1; omega
    · have : ¬ y.1 < x.1 := fun h => by rw [decide_eq_true (cmpI_neg.2 h)] at h6; cases h6
      omega
    · show ((j' : Nat) : Int).toNat - ((h + 1 : Nat) : Int).toNat < ((j' : Nat) : Int).toNat - ((i' : Nat) : Int).toNat
      omega
    · have : decide (cmpI y.1 x.1 < 0) = true := by simpa using h6
      exact cmpI_neg.1 (of_decide_eq_true this)
    · show ((h : Nat) : Int).toNat - ((i' : Nat) : Int).toNat < ((j' : Nat) : Int).toNat - ((i' : Nat) : Int).toNat
      omega
  have h0' : i' = j' := by simp at h0; omega
  subst h0'
  obtain ⟨A1, A2, rfl, hA1l⟩ := two_split (B := A) (k := i' - p) (by omega)
  obtain ⟨B1, B2, rfl, hB1l⟩ := two_split (B := B) (k := mid - i') (by omega)
  simp only [List.length_append] at hm hq hl hN hA0 hB0 hA1 hB1
  have hle : ∀ x ∈ A1, ∀ y ∈ B2, x.1 ≤ y.1 := by
    refine ends_le hA.left hB.right fun x y hx hy => ?_
    have hA1n : A1 ≠ [] := by intro e; subst e; cases hx
    have hA1p := List.length_pos_iff.2 hA1n
    have hB2n : B2 ≠ [] := by intro e; subst e; cases hy
    have hB2p := List.length_pos_iff.2 hB2n
    rcases h4 with h4 | ⟨⟨x', y', hx', hy', h4⟩⟩
    · omega
    · rw [List.getElem?_append_left (by omega)] at hx'
      rw [List.getElem?_append_right (by omega)] at hy'
      rw [List.getLast?_eq_getElem?, show A1.length - 1 = i' - 1 - p by omega] at hx
      rw [List.head?_eq_getElem?, show 0 = mid + m - i' - m - B1.length by omega] at hy
      rw [hx] at hx'
      rw [hy] at hy'
      cases hx'; cases hy'; exact h4
  have hlt : ∀ x ∈ A2, ∀ y ∈ B1, y.1 < x.1 := by
    refine ends_lt hA.right hB.left fun x y hx hy => ?_
    have hA2n : A2 ≠ [] := by intro e; subst e; cases hx
    have hA2p := List.length_pos_iff.2 hA2n
    have hB1n : B1 ≠ [] := by intro e; subst e; cases hy
    have hB1p := List.length_pos_iff.2 hB1n
    rcases h5 with h5 | ⟨⟨x', y', hx', hy', h5⟩⟩
    · omega
    · rw [List.getElem?_append_right (by omega)] at hx'
      rw [List.getElem?_append_left (by omega)] at hy'
      rw [List.head?_eq_getElem?, show 0 = i' - p - A1.length by omega] at hx
      rw [List.getLast?_eq_getElem?, show B1.length - 1 = mid + m - 1 - i' - m by omega] at hy
      rw [hx] at hx'
      rw [hy] at hy'
      cases hx'; cases hy'; exact h5
  have we : IntKind.i64.wrap (((mid + m : Nat) : Int) - (i' : Int)) = ((mid + m - i' : Nat) : Int) := by rw [wrap64_of (by omega) (by omega)]; omega
  rw [we]
  refine ⟨fun _ H' => Own encS 107 base H' a n c (P ++ (A1 ++ (B1 ++ (A2 ++ (B2 ++ Q))))) ∧ Fr (blkL a) H1 H', ?_, ?_⟩
  · have same : A2 = [] ∨ B1 = [] → Own encS 107 base H2 a n c (P ++ (A1 ++ (B1 ++ (A2 ++ (B2 ++ Q))))) ∧ Fr (blkL a) H1 H2 := fun h => ⟨by rcases h with rfl | rfl <;> simpa using ho2, hf2⟩
    refine brB_of (fun h6 => brB_of (fun h7 => ?_) (fun h7 => same (.inr (List.eq_nil_of_length_eq_zero (by simp at h7; omega))))) (fun h6 => same (.inl (List.eq_nil_of_length_eq_zero (by simp at h6; omega))))
    have h6' : i' < m := by simpa using h6
    have h7' : (m : Int) < ((mid + m - i' : Nat) : Int) := by simpa using h7
    refine rotate_ok (P := P ++ A1) (X := A2) (Y := B1) (Q := B2 ++ Q) ho2 (by simp) (by simp; omega) (by omega) (by omega) (by omega) (by omega) hn fun H3 ho3 hf3 => ⟨by simpa using ho3, hf2.trans' hf3 (fun _ h _ => h) (fun _ h _ => h)⟩
  rintro J H3 ⟨ho3, hf3⟩
  refine ⟨fun _ H' => ∃ S1, Own encS 107 base H' a n c (P ++ (S1 ++ (A2 ++ (B2 ++ Q)))) ∧ Srt S1 ∧ Stb (A1 ++ B1) S1 ∧ Fr (blkL a) H1 H', ?_, ?_⟩
  · have same : A1 = [] ∨ B1 = [] → ∃ S1, Own encS 107 base H3 a n c (P ++ (S1 ++ (A2 ++ (B2 ++ Q)))) ∧ Srt S1 ∧ Stb (A1 ++ B1) S1 ∧ Fr (blkL a) H1 H3 := fun h => ⟨A1 ++ B1, by simpa using ho3, by rcases h with rfl | rfl; exact hB.left; simpa using hA.left, Stb.refl _, hf3⟩
    refine brB_of (fun h6 => brB_of (fun h7 => ?_) (fun h7 => same (.inr (List.eq_nil_of_length_eq_zero (by simp at h7; omega))))) (fun h6 => same (.inl (List.eq_nil_of_length_eq_zero (by simp at h6; omega))))
    have h6' : p < i' := by simpa using h6
    have h7' : i' < mid := by simpa using h7
    refine ih (P := P) (A := A1) (B := B1) (Q := A2 ++ (B2 ++ Q)) (by omega) ho3 rfl hp (by omega) (by omega) (by omega) (by omega) hn hA.left hB.left fun H4 S1 ho4 hS1 hS2 hf4 => ⟨S1, ho4, hS1, hS2, hf3.trans' hf4 (fun _ h _ => h) (fun _ h _ => h)⟩
  rintro J H4 ⟨S1, ho4, hS1, hS2, hf4⟩
  have hS1l := hS2.length
  rw [List.length_append] at hS1l
  have fin : ∀ {H5 : Heap} {S2 : List Smp}, Own encS 107 base H5 a n c (P ++ (S1 ++ (S2 ++ Q))) → Srt S2 → Stb (A2 ++ B2) S2 → Fr (blkL a) H1 H5 → K H5 := fun {H5 S2} ho5 hS3 hS4 hf5 => by
    refine hk H5 (S1 ++ S2) (by simpa using ho5) (srt_app hS1 hS3 fun x hx y hy => ?_) ?_ hf5
    · rcases List.mem_append.1 (hS2.mem.2 hx) with hx | hx
      · rcases List.mem_append.1 (hS4.mem.2 hy) with hy | hy
        · exact hA.across x hx y hy
        · exact hle x hx y hy
      · rcases List.mem_append.1 (hS4.mem.2 hy) with hy | hy
        · exact Int.le_of_lt (hlt y hy x hx)
        · exact hB.across x hx y hy
    · have r1 : Stb ((A1 ++ A2) ++ (B1 ++ B2)) ((A1 ++ B1) ++ (A2 ++ B2)) := by
        have := ((Stb.refl A1).app (Stb.swap hlt)).app (Stb.refl B2)
        simpa using this
      exact r1.trans (hS2.app hS4)
  have same : A2 = [] ∨ B2 = [] → Value.tuple ⟨[]⟩ = .tuple ⟨[]⟩ ∧ K H4 := fun h => ⟨rfl, fin (S2 := A2 ++ B2) (by simpa using ho4) (by rcases h with rfl | rfl; exact hB.right; simpa using hA.right) (Stb.refl _) hf4⟩
  refine brB_of (fun h6 => brB_of (fun h7 => ?_) (fun h7 => same (.inr (List.eq_nil_of_length_eq_zero (by simp at h7; omega))))) (fun h6 => same (.inl (List.eq_nil_of_length_eq_zero (by simp at h6; omega))))
  have h6' : (mid : Int) < ((mid + m - i' : Nat) : Int) := by simpa using h6
  have h7' : ((mid + m - i' : Nat) : Int) < q := by simpa using h7
  refine ih (P := P ++ S1) (A := A2) (B := B2) (Q := Q) (by omega) ho4 (by simp) (by simp; omega) (by omega) (by omega) (by omega) (by omega) hn hA.right hB.right fun H5 S2 ho5 hS3 hS4 hf5 => ?_
  exact ⟨rfl, fin (by simpa using ho5) hS3 hS4 (hf4.trans' hf5 (fun _ h _ => h) (fun _ h _ => h))⟩
end Go.Proofs
set_option linter.unusedVariables false
set_option maxRecDepth 100000
open Go Go.GV
namespace Go.Proofs

structure Bks (bs : Nat) (Ss : List (List Smp)) : Prop where
  h : ∀ T ∈ Ss, T.length = bs ∧ Srt T
theorem Bks.len {bs : Nat} {Ss : List (List Smp)} (h : Bks bs Ss) : Ss.flatten.length = bs * Ss.length := by
  induction Ss with
  | nil => simp
  | cons T Ss ih =>
    have := (h.h T (by simp)).1
    have := ih ⟨fun U hU => h.h U (by simp [hU])⟩
    simp only [List.flatten_cons, List.length_append, List.length_cons, Nat.mul_add]; omega
theorem Bks.snoc {bs : Nat} {Ss : List (List Smp)} {T : List Smp} (h : Bks bs Ss) (h1 : T.length = bs) (h2 : Srt T) : Bks bs (Ss ++ [T]) := ⟨fun U hU => by
  rcases List.mem_append.1 hU with hU | hU
  · exact h.h U hU
  · simp at hU; subst hU; exact ⟨h1, h2⟩⟩
theorem Bks.tail {bs : Nat} {Ss : List (List Smp)} {T : List Smp} (h : Bks bs (T :: Ss)) : Bks bs Ss := ⟨fun U hU => h.h U (by simp [hU])⟩
theorem add64 {x y : Nat} (h : x + y ≤ 1000000000000) : IntKind.i64.wrap ((x : Int) + (y : Int)) = ((x + y : Nat) : Int) := by rw [wrap64_of (by omega) (by omega)]; omega
theorem stable_ok {order : Value} (hT : ByT order) {base : Nat} {H : Heap} {a : Option Addr} {n c : Nat} {xs : List Smp} {K : Heap → Prop} (hx : Own encS 107 base H a n c xs) (hn : n ≤ 1000000000)
    (hk : ∀ H' ys, Own encS 107 base H' a n c ys → Srt ys → Stb xs ys → Fr (blkL a) H H' → K H') :
    CallH Tryz.prog fn_slices_stableCmpFunc_api_Sample_ ⟨[.slice a n c, .int .i64 n, order]⟩ H fun v H' => v = .tuple ⟨[]⟩ ∧ K H' := by
  apply vc_slices_stableCmpFunc_api_Sample_
  have hl := hx.1
  refine ⟨fun vs H' => match vs with
      | [.int _ i, .int _ j] => ∃ (Ss : List (List Smp)) (R : List Smp), Bks 20 Ss ∧ i = ((20 * Ss.length : Nat) : Int) ∧ j = ((20 * Ss.length + 20 : Nat) : Int) ∧ 20 * Ss.length ≤ n ∧ Own encS 107 base H' a n c (Ss.flatten ++ R) ∧ Stb xs (Ss.flatten ++ R) ∧ Fr (blkL a) H H'
      | _ => False,
    fun vs _ => match vs with | [.int _ i, _] => n - i.toNat | _ => 0, ⟨[], xs, ⟨fun T h => by cases h⟩, rfl, rfl, by simp, hx, Stb.refl _, Fr.refl _ _⟩, ?_⟩
  rintro J i j H1 ⟨Ss, R, hB, rfl, rfl, hle, ho, hst, hf⟩
  have hol := ho.1
  have hbl := hB.len
  rw [List.length_append] at hol
  refine brB_of (fun h0 => ?_) (fun h0 => ?_)
  · have h0' : 20 * Ss.length + 20 ≤ n := by simp at h0; omega
    obtain ⟨X, R', rfl, hX⟩ := two_split (B := R) (k := 20) (by omega)
    refine insertionSort_ok hT (P := Ss.flatten) (s := X) (Q := R') (by simpa using ho) (by omega) (by omega) hn fun H2 X' ho2 hS hSt hf2 => ?_
    have hXl := hSt.length
    have ew : IntKind.i64.wrap (((20 * Ss.length + 20 : Nat) : Int) + 20) = ((20 * (Ss ++ [X']).length + 20 : Nat) : Int) := by
      rw [wrap64_of (by omega) (by omega)]; simp; omega
    refine ⟨⟨Ss ++ [X'], R', hB.snoc (by omega) hS, by simp; omega, ew, by simp; omega, by simpa using ho2, hst.trans ?_, hf.trans' hf2 (fun _ h _ => h) (fun _ h _ => h)⟩, ?_⟩
    · have := ((Stb.refl Ss.flatten).app hSt).app (Stb.refl R')
      simpa using this
    · show n - ((20 * Ss.length + 20 : Nat) : Int).toNat < n - ((20 * Ss.length : Nat) : Int).toNat
      omega
  have h0' : n < 20 * Ss.length + 20 := by simp at h0; omega
  refine insertionSort_ok hT (P := Ss.flatten) (s := R) (Q := []) (by simpa using ho) (by omega) (by omega) hn fun H2 R' ho2 hS hSt hf2 => ?_
  have hRl := hSt.length
  refine ⟨fun vs H' => match vs with
      | [.int _ k] => ∃ (bs : Nat) (Ss : List (List Smp)) (R : List Smp), k = bs ∧ 20 ≤ bs ∧ Bks bs Ss ∧ R.length < bs ∧ Srt R ∧ Own encS 107 base H' a n c (Ss.flatten ++ R) ∧ Stb xs (Ss.flatten ++ R) ∧ Fr (blkL a) H H'
      | _ => False,
    fun vs _ => match vs with | [.int _ k] => n - k.toNat | _ => 0, ⟨20, Ss, R', rfl, by omega, hB, by omega, hS, by simpa using ho2, ?_, hf.trans' hf2 (fun _ h _ => h) (fun _ h _ => h)⟩, ?_⟩
  · exact hst.trans ((Stb.refl Ss.flatten).app hSt)
  clear hB hle ho hst hf hol hbl h0 h0' ho2 hS hSt hRl hf2 Ss R R' H1 H2
  rintro J k H3 ⟨bs, Ss, R, rfl, hbs, hB, hR, hS, ho, hst, hf⟩
  have hol := ho.1
  have hbl := hB.len
  rw [List.length_append] at hol
  refine brB_of (fun h0 => ?_) (fun h0 => ?_)
  · have hbn : bs < n := by simpa using h0
    have ew2 : IntKind.i64.wrap (2 * (bs : Int)) = ((2 * bs : Nat) : Int) := by rw [wrap64_of (by omega) (by omega)]; omega
    have ew3 : IntKind.i64.wrap ((bs : Int) * 2) = ((2 * bs : Nat) : Int) := by rw [wrap64_of (by omega) (by omega)]; omega
    rw [ew2, ew3]
    have mu3 : n - ((2 * bs : Nat) : Int).toNat < n - ((bs : Nat) : Int).toNat := by omega
    refine ⟨fun vs H' => match vs with
        | [.int _ i, .int _ j] => ∃ (Ds Ss : List (List Smp)), Bks (2 * bs) Ds ∧ Bks bs Ss ∧ i = ((2 * bs * Ds.length : Nat) : Int) ∧ j = ((2 * bs * Ds.length + 2 * bs : Nat) : Int) ∧ Own encS 107 base H' a n c (Ds.flatten ++ (Ss.flatten ++ R)) ∧ Stb xs (Ds.flatten ++ (Ss.flatten ++ R)) ∧ Fr (blkL a) H H'
        | _ => False,
      fun vs _ => match vs with | [.int _ i, _] => n - i.toNat | _ => 0, ⟨[], Ss, ⟨fun T h => by cases h⟩, hB, by simp, by simp, ho, hst, hf⟩, ?_⟩
    clear hB ho hst hf hol hbl Ss
    rintro J i j H4 ⟨Ds, Ss, hD, hB, rfl, rfl, ho, hst, hf⟩
    have hol := ho.1
    have hbl := hB.len
    have hdl := hD.len
    simp only [List.length_append] at hol
    have hm1 : 2 * bs * Ds.length ≤ n := by omega
    have ew4 : IntKind.i64.wrap (((2 * bs * Ds.length : Nat) : Int) + (bs : Int)) = ((2 * bs * Ds.length + bs : Nat) : Int) := add64 (by omega)
    rw [ew4]
    refine brB_of (fun h1 => ?_) (fun h1 => ?_)
    · have h1' : 2 * bs * Ds.length + 2 * bs ≤ n := Int.ofNat_le.1 (of_decide_eq_true h1)
      match Ss, hB, hbl, ho, hst, hol with
      | [], _, hbl, _, _, hol => simp only [List.flatten_nil, List.length_nil, Nat.mul_zero, Nat.zero_add] at hbl hol; omega
      | [X], hB, hbl, _, _, hol => simp only [List.flatten_nil, List.flatten_cons, List.length_nil, List.length_cons, List.append_nil, Nat.mul_one, Nat.zero_add] at hbl hol; omega
      | X :: Y :: Ss, hB, hbl, ho, hst, hol =>
        have hX := hB.h X (by simp)
        have hY := hB.h Y (by simp)
        refine symMerge_ok hT _ (P := Ds.flatten) (A := X) (B := Y) (Q := Ss.flatten ++ R) (Nat.le_refl _) ho (by simp) (by omega) (by omega) (by omega) (by omega) (by omega) hn hX.2 hY.2 fun H5 Z ho5 hZ hZs hf5 => ?_
        have hZl := hZs.length
        rw [List.length_append] at hZl
        have ew5 : IntKind.i64.wrap (((2 * bs * Ds.length + 2 * bs : Nat) : Int) + ((2 * bs : Nat) : Int)) = ((2 * bs * (Ds ++ [Z]).length + 2 * bs : Nat) : Int) := by
          rw [add64 (by omega)]; simp [Nat.mul_add]
        refine ⟨⟨Ds ++ [Z], Ss, hD.snoc (by omega) hZ, hB.tail.tail, by simp [Nat.mul_add], ew5, by simpa using ho5, hst.trans ?_, hf.trans' hf5 (fun _ h _ => h) (fun _ h _ => h)⟩, ?_⟩
        · have := ((Stb.refl Ds.flatten).app hZs).app (Stb.refl (Ss.flatten ++ R))
          simpa using this
        · show n - ((2 * bs * Ds.length + 2 * bs : Nat) : Int).toNat < n - ((2 * bs * Ds.length : Nat) : Int).toNat
          omega
    have h1' : n < 2 * bs * Ds.length + 2 * bs := Nat.lt_of_not_le fun h => of_decide_eq_false h1 (Int.ofNat_le.2 h)
    refine brB_of (fun h2 => ?_) (fun h2 => ?_)
    · have h2' : 2 * bs * Ds.length + bs < n := Int.ofNat_lt.1 (of_decide_eq_true h2)
      match Ss, hB, hbl, ho, hst, hol with
      | [], _, hbl, _, _, hol => simp only [List.flatten_nil, List.length_nil, Nat.mul_zero, Nat.zero_add] at hbl hol; omega
      | X :: Y :: Ss, hB, hbl, ho, hst, hol =>
        simp only [List.flatten_cons, List.length_append, List.length_cons, Nat.mul_add, Nat.mul_one] at hbl hol; omega
      | [X], hB, hbl, ho, hst, hol =>
        have hX := hB.h X (by simp)
        simp only [List.flatten_nil, List.flatten_cons, List.length_nil, List.length_cons, List.append_nil, Nat.mul_one, Nat.zero_add] at ho hst hol hbl
        refine symMerge_ok hT _ (P := Ds.flatten) (A := X) (B := R) (Q := []) (Nat.le_refl _) ho (by simp) (by omega) (by omega) (by omega) (by omega) (by omega) hn hX.2 hS fun H5 Z ho5 hZ hZs hf5 => ?_
        have hZl := hZs.length
        rw [List.length_append] at hZl
        exact ⟨⟨2 * bs, Ds, Z, rfl, by omega, hD, by omega, hZ, by simpa using ho5, hst.trans ((Stb.refl Ds.flatten).app hZs), hf.trans' hf5 (fun _ h _ => h) (fun _ h _ => h)⟩, mu3⟩
    · have h2' : n ≤ 2 * bs * Ds.length + bs := Nat.le_of_not_lt fun h => of_decide_eq_false h2 (Int.ofNat_lt.2 h)
      match Ss, hB, hbl, ho, hst, hol with
      | [], _, hbl, ho, hst, hol => exact ⟨⟨2 * bs, Ds, R, rfl, by omega, hD, by omega, hS, by simpa using ho, by simpa using hst, hf⟩, mu3⟩
      | X :: Y :: Ss, hB, hbl, ho, hst, hol =>
        simp only [List.flatten_cons, List.length_append, List.length_cons, Nat.mul_add, Nat.mul_one] at hbl hol; omega
      | [X], hB, hbl, ho, hst, hol =>
        have hX := hB.h X (by simp)
        simp only [List.flatten_nil, List.flatten_cons, List.length_nil, List.length_cons, List.append_nil, Nat.mul_one, Nat.zero_add] at ho hst hol hbl
        have hR0 : R = [] := List.eq_nil_of_length_eq_zero (by omega)
        subst hR0
        exact ⟨⟨2 * bs, Ds, X, rfl, by omega, hD, by omega, hX.2, by simpa using ho, by simpa using hst, hf⟩, mu3⟩
  · have hbn : n ≤ bs := by simp at h0; omega
    refine ⟨rfl, hk H3 _ ho ?_ hst hf⟩
    match Ss, hB, hbl, hol with
    | [], _, _, _ => simpa using hS
    | X :: Y :: Ss, hB, hbl, hol =>
      simp only [List.flatten_cons, List.length_append, List.length_cons, Nat.mul_add, Nat.mul_one] at hbl hol; omega
    | [X], hB, hbl, hol =>
      have hX := hB.h X (by simp)
      simp only [List.flatten_nil, List.flatten_cons, List.length_nil, List.length_cons, List.append_nil, Nat.mul_one, Nat.zero_add] at hol hbl ⊢
      have hR0 : R = [] := List.eq_nil_of_length_eq_zero (by omega)
      subst hR0
      simpa using hX.2
theorem SortStable_ok {order : Value} (hT : ByT order) {base : Nat} {H : Heap} {a : Option Addr} {n c : Nat} {xs : List Smp} {K : Heap → Prop} (hx : Own encS 107 base H a n c xs) (hn : n ≤ 1000000000)
    (hk : ∀ H' ys, Own encS 107 base H' a n c ys → Srt ys → Stb xs ys → Fr (blkL a) H H' → K H') :
    CallH Tryz.prog fn_slices_SortStableFunc___api_Sample_api_Sample_ ⟨[.slice a n c, order]⟩ H fun v H' => v = .tuple ⟨[]⟩ ∧ K H' := by
  apply vc_slices_SortStableFunc___api_Sample_api_Sample_
  exact stable_ok hT hx hn fun H' ys h1 h2 h3 h4 => ⟨rfl, hk H' ys h1 h2 h3 h4⟩
end Go.Proofs
set_option linter.unusedVariables false
set_option maxRecDepth 100000
open Go Go.GV
namespace Go.Proofs

def mrgC {α : Type} (cf : α → α → Int) : List α → List α → List α
  | [], b => b
  | x :: a, [] => x :: a
  | x :: a, y :: b => if cf x y < 0 then x :: mrgC cf a (y :: b) else if cf x y = 0 then y :: mrgC cf a b else y :: mrgC cf (x :: a) b
termination_by a b => a.length + b.length
theorem mrgC_nil {α : Type} {cf : α → α → Int} (b : List α) : mrgC cf [] b = b := by unfold mrgC; rfl
theorem mrgC_nil' {α : Type} {cf : α → α → Int} : ∀ a : List α, mrgC cf a [] = a
  | [] => mrgC_nil _
  | x :: a => by unfold mrgC; rfl
theorem mrgC_cons {α : Type} {cf : α → α → Int} (x y : α) (a b : List α) : mrgC cf (x :: a) (y :: b) = if cf x y < 0 then x :: mrgC cf a (y :: b) else if cf x y = 0 then y :: mrgC cf a b else y :: mrgC cf (x :: a) b := by
  rw [mrgC]

abbrev Hd := Option Addr × Nat × Nat
abbrev Sr := Int × Hd
def encSr : Enc Sr := ⟨fun x => [.int .i64 x.1, .slice x.2.1 x.2.2.1 x.2.2.2], 2, fun _ => rfl, by decide, fun _ v h => by simp at h; rcases h with rfl | rfl <;> rfl⟩
abbrev vSr (x : Sr) : Value := .agg ⟨[.int .i64 x.1, .slice x.2.1 x.2.2.1 x.2.2.2]⟩
theorem elem68 : elemB Tryz.prog 92 2 32 = true := by kernel_rfl
theorem slice37 : sliceB Tryz.prog 52 92 = true := by kernel_rfl
theorem ldSr {H : Heap} {ad : Addr} {x : Sr} (h : CellsAt H ad (encSr.cells x)) : Ld Tryz.prog 92 H ad (vSr x) := ld_many (by kernel_rfl) (by kernel_rfl) h
theorem ldSr1 {H : Heap} {ad : Addr} {x : Sr} (h : CellsAt H ad (encSr.cells x)) : Ld Tryz.prog 90 H (ad.add 1) (.slice x.2.1 x.2.2.1 x.2.2.2) := ld_part (by kernel_rfl) h (j := 1) rfl
theorem ldSr0 {H : Heap} {ad : Addr} {x : Sr} (h : CellsAt H ad (encSr.cells x)) : Ld Tryz.prog 3 H ad (.int .i64 x.1) := ld_cell (by kernel_rfl) (by have := h 0 _ rfl; simpa [Addr.add] using this)
abbrev Rw := Int × Int × Int
def encRw : Enc Rw := ⟨fun x => [.int .i64 x.1, .int .i64 x.2.1, .int .i64 x.2.2], 3, fun _ => rfl, by decide, fun _ v h => by simp at h; rcases h with rfl | rfl | rfl <;> rfl⟩
abbrev vRw (x : Rw) : Value := .agg ⟨[.int .i64 x.1, .int .i64 x.2.1, .int .i64 x.2.2]⟩
theorem elem45 : elemB Tryz.prog 26 3 24 = true := by kernel_rfl
theorem slice34 : sliceB Tryz.prog 22 26 = true := by kernel_rfl
theorem ldRw {H : Heap} {ad : Addr} {x : Rw} (h : CellsAt H ad (encRw.cells x)) : Ld Tryz.prog 26 H ad (vRw x) := ld_many (by kernel_rfl) (by kernel_rfl) h
def cfSr (x y : Sr) : Int := cmpI x.1 y.1
def cfRw (x y : Rw) : Int := if cmpI x.1 y.1 ≠ 0 then cmpI x.1 y.1 else cmpI x.2.1 y.2.1
def ByS (order : Value) : Prop := ∀ (x y : Sr) (H : Heap) (K : Int → Heap → Prop), (∀ H', Fr [] H H' → K (cfSr x y) H') → CallV Tryz.prog order [vSr x, vSr y] H fun v H' => ∃ n, v = .int .i64 n ∧ K n H'
def ByR (order : Value) : Prop := ∀ (x y : Rw) (H : Heap) (K : Int → Heap → Prop), (∀ H', Fr [] H H' → K (cfRw x y) H') → CallV Tryz.prog order [vRw x, vRw y] H fun v H' => ∃ n, v = .int .i64 n ∧ K n H'
theorem byId_ok {x y : Sr} {H : Heap} {K : Int → Heap → Prop} (hk : ∀ H', Fr [] H H' → K (cfSr x y) H') : CallH Tryz.prog fn_series_Put_2 ⟨[vSr x, vSr y]⟩ H fun v H' => ∃ n, v = .int .i64 n ∧ K n H' := by
  apply vc_series_Put_2
  intro b H1 hn1 b1 H2 hn2
  have hf := hn1.fr.keep0 hn2.fr
  exact ⟨_, (hn1.blk.keep hn2.fr).ld0 (by kernel_rfl) rfl, _, hn2.blk.ld0 (by kernel_rfl) rfl, Compare_ok ⟨_, rfl, hk H2 hf⟩⟩
theorem byS : ByS (.func (.func 75) #[] #[]) := fun x y H K hk => ⟨75, #[], #[], rfl, by kernel_rfl, byId_ok hk⟩
theorem mergeS_ok {order : Value} {a b : Option Addr} {n c m d : Nat} {xs ys : List Sr} {H : Heap} {K : Option Addr → Nat → Nat → Heap → Prop} (ho : ByS order) (hx : Sl encSr H a n c xs) (hy : Sl encSr H b m d ys)
    (hlen : n + m ≤ 1000000000) (hk : ∀ a' n' c' H', Own encSr 92 H.size H' a' n' c' (mrgC cfSr xs ys) → Fr [] H H' → K a' n' c' H') :
    CallH Tryz.prog fn_series_merge_series_Series_ ⟨[.slice a n c, .slice b m d, order]⟩ H fun v H' => ∃ a n c, v = .slice a n c ∧ K a n c H' := by
  apply vc_series_merge_series_Series_
  rw [wrap64_of (by omega) (by omega)]
  refine mk_own (E := encSr) slice37 elem68 (by omega) (by omega) fun b0 H1 ho1 hf1 => ?_
  refine ⟨fun vs H' => match vs with
      | [.slice a n c, .slice b m d, .slice o p q] => ∃ zs us ws, Sl encSr H a n c zs ∧ Sl encSr H b m d us ∧ Own encSr 92 H.size H' o p q ws ∧ ws ++ mrgC cfSr zs us = mrgC cfSr xs ys ∧ p + n + m ≤ 1000000000 ∧ Fr [] H H'
      | _ => False,
    fun vs _ => match vs with | [.slice _ n _, .slice _ m _, _] => n + m | _ => 0, ⟨xs, ys, [], hx, hy, ho1, rfl, by omega, hf1⟩, ?_⟩
  rintro J a n c b m d o p q H2 ⟨zs, us, ws, hz, hu, hw, he, hsz, hf⟩
  have hn := hz.len
  have hm := hu.len
  have hp := hw.1
  have hcz := hz.cap
  have hcu := hu.cap
  have last : (zs = [] ∨ us = []) → SemWp Tryz.prog (Builtin.append_ ⟨[52, 52]⟩ 52 ⟨[.slice o p q, .slice a n c]⟩) H2 fun v H' => ∃ a n c, v = .slice a n c ∧ SemWp Tryz.prog (Builtin.append_ ⟨[52, 52]⟩ 52 ⟨[.slice a n c, .slice b m d]⟩) H' fun v H' => ∃ a n c, v = .slice a n c ∧ (∃ a_1 n_1 c_1, Value.slice a n c = .slice a_1 n_1 c_1 ∧ K a_1 n_1 c_1 H') := by
    intro he0
    refine ap_own (E := encSr) slice37 elem68 hw hf (hz.keep hf) (by omega) fun o2 p2 q2 H3 hw2 hf2 _ => ?_
    have hb2 := hw2.1
    refine ap_own (E := encSr) slice37 elem68 hw2 hf2 (hu.keep hf2) (by simp at hb2; omega) fun o3 p3 q3 H4 hw3 hf3 _ => ⟨_, _, _, rfl, hk _ _ _ _ ?_ hf3⟩
    rw [List.append_assoc] at hw3
    have : zs ++ us = mrgC cfSr zs us := by
      rcases he0 with rfl | rfl
      · rw [mrgC_nil]; rfl
      · rw [mrgC_nil']; simp
    rwa [this, he] at hw3
  refine ⟨fun _ H' => H' = H2 ∧ 0 < n ∧ 0 < m, brB_of (fun h0 => brB_of (fun h1 => ⟨rfl, by simpa using h0, by simpa using h1⟩) (fun h1 => last (.inr ?_))) (fun h0 => last (.inl ?_)), ?_⟩
  rotate_left 2
  · rintro J H2 ⟨rfl, h0, h1⟩
    cases zs with
    | nil => simp at hn; omega
    | cons x zs =>
    cases us with
    | nil => simp at hm; omega
    | cons y us =>
    simp only [List.length_cons] at hn hm
    have hz1 : Sl encSr H (slA c 1 2 a) ((n : Int).toNat - 1) (c - 1) zs := by
      have := hz.drop (k := 1) (by omega)
      rwa [Int.toNat_natCast]
    have hu1 : Sl encSr H (slA d 1 2 b) ((m : Int).toNat - 1) (d - 1) us := by
      have := hu.drop (k := 1) (by omega)
      rwa [Int.toNat_natCast]
    refine (hz.keep hf).head (decide_eq_true (by omega)) fun ad ea hc => ⟨_, _, _, _, ldSr hc, ?_⟩
    refine (hu.keep hf).head (decide_eq_true (by omega)) fun bd eb hd => ⟨_, _, _, _, ldSr hd, ?_⟩
    refine ho x y H2 _ fun H3 hf3 => ?_
    have hf' := hf.keep0 hf3
    have hw' := hw.keep hf3
    rw [mrgC_cons] at he
    refine brB_of (fun h2 => ?_) (fun h2 => brB_of (fun h3 => ?_) (fun h3 => ?_))
    · have hlt : cfSr x y < 0 := of_decide_eq_true h2
      rw [if_pos hlt] at he
      refine (hz.keep hf').head (decide_eq_true (by omega)) fun ad ea hc => ⟨_, _, _, _, ldSr hc, chk_of ⟨by omega, by omega, by omega⟩ ?_⟩
      refine ap_one (E := encSr) x slice37 elem68 hw' hf' rfl (by omega) fun _ o2 p2 q2 H4 hw2 hf2 _ => ?_
      have hb2 := hw2.1
      simp at hb2
      exact ⟨⟨zs, y :: us, ws ++ [x], hz1, hu, hw2, by rw [← he]; simp, by omega, hf2⟩, by show (n : Int).toNat - 1 + m < n + m; omega⟩
    · have hge : ¬ cfSr x y < 0 ∧ cfSr x y = 0 := ⟨of_decide_eq_false h2, by simpa using h3⟩
      rw [if_neg hge.1, if_pos hge.2] at he
      refine chk_of ⟨by omega, by omega, by omega⟩ ?_
      refine (hu.keep hf').head (decide_eq_true (by omega)) fun ad ea hc => ⟨_, _, _, _, ldSr hc, chk_of ⟨by omega, by omega, by omega⟩ ?_⟩
      refine ap_one (E := encSr) y slice37 elem68 hw' hf' rfl (by omega) fun _ o2 p2 q2 H4 hw2 hf2 _ => ?_
      have hb2 := hw2.1
      simp at hb2
      exact ⟨⟨zs, us, ws ++ [y], hz1, hu1, hw2, by rw [← he]; simp, by omega, hf2⟩, by show (n : Int).toNat - 1 + ((m : Int).toNat - 1) < n + m; omega⟩
    · have hge : ¬ cfSr x y < 0 ∧ ¬ cfSr x y = 0 := ⟨of_decide_eq_false h2, by simpa using h3⟩
      rw [if_neg hge.1, if_neg hge.2] at he
      refine (hu.keep hf').head (decide_eq_true (by omega)) fun ad ea hc => ⟨_, _, _, _, ldSr hc, chk_of ⟨by omega, by omega, by omega⟩ ?_⟩
      refine ap_one (E := encSr) y slice37 elem68 hw' hf' rfl (by omega) fun _ o2 p2 q2 H4 hw2 hf2 _ => ?_
      have hb2 := hw2.1
      simp at hb2
      exact ⟨⟨x :: zs, us, ws ++ [y], hz, hu1, hw2, by rw [← he]; simp, by omega, hf2⟩, by show n + ((m : Int).toNat - 1) < n + m; omega⟩
  · cases us with
    | nil => rfl
    | cons y us => simp at hm h1; omega
  · cases zs with
    | nil => rfl
    | cons y us => simp at hn h0; omega

theorem mergeR_ok {order : Value} {a b : Option Addr} {n c m d : Nat} {xs ys : List Rw} {H : Heap} {K : Option Addr → Nat → Nat → Heap → Prop} (ho : ByR order) (hx : Sl encRw H a n c xs) (hy : Sl encRw H b m d ys)
    (hlen : n + m ≤ 1000000000) (hk : ∀ a' n' c' H', Own encRw 26 H.size H' a' n' c' (mrgC cfRw xs ys) → Fr [] H H' → K a' n' c' H') :
    CallH Tryz.prog fn_series_merge_api_Row_ ⟨[.slice a n c, .slice b m d, order]⟩ H fun v H' => ∃ a n c, v = .slice a n c ∧ K a n c H' := by
  apply vc_series_merge_api_Row_
  rw [wrap64_of (by omega) (by omega)]
  refine mk_own (E := encRw) slice34 elem45 (by omega) (by omega) fun b0 H1 ho1 hf1 => ?_
  refine ⟨fun vs H' => match vs with
      | [.slice a n c, .slice b m d, .slice o p q] => ∃ zs us ws, Sl encRw H a n c zs ∧ Sl encRw H b m d us ∧ Own encRw 26 H.size H' o p q ws ∧ ws ++ mrgC cfRw zs us = mrgC cfRw xs ys ∧ p + n + m ≤ 1000000000 ∧ Fr [] H H'
      | _ => False,
    fun vs _ => match vs with | [.slice _ n _, .slice _ m _, _] => n + m | _ => 0, ⟨xs, ys, [], hx, hy, ho1, rfl, by omega, hf1⟩, ?_⟩
  rintro J a n c b m d o p q H2 ⟨zs, us, ws, hz, hu, hw, he, hsz, hf⟩
  have hn := hz.len
  have hm := hu.len
  have hp := hw.1
  have hcz := hz.cap
  have hcu := hu.cap
  have last : (zs = [] ∨ us = []) → SemWp Tryz.prog (Builtin.append_ ⟨[22, 22]⟩ 22 ⟨[.slice o p q, .slice a n c]⟩) H2 fun v H' => ∃ a n c, v = .slice a n c ∧ SemWp Tryz.prog (Builtin.append_ ⟨[22, 22]⟩ 22 ⟨[.slice a n c, .slice b m d]⟩) H' fun v H' => ∃ a n c, v = .slice a n c ∧ (∃ a_1 n_1 c_1, Value.slice a n c = .slice a_1 n_1 c_1 ∧ K a_1 n_1 c_1 H') := by
    intro he0
    refine ap_own (E := encRw) slice34 elem45 hw hf (hz.keep hf) (by omega) fun o2 p2 q2 H3 hw2 hf2 _ => ?_
    have hb2 := hw2.1
    refine ap_own (E := encRw) slice34 elem45 hw2 hf2 (hu.keep hf2) (by simp at hb2; omega) fun o3 p3 q3 H4 hw3 hf3 _ => ⟨_, _, _, rfl, hk _ _ _ _ ?_ hf3⟩
    rw [List.append_assoc] at hw3
    have : zs ++ us = mrgC cfRw zs us := by
      rcases he0 with rfl | rfl
      · rw [mrgC_nil]; rfl
      · rw [mrgC_nil']; simp
    rwa [this, he] at hw3
  refine ⟨fun _ H' => H' = H2 ∧ 0 < n ∧ 0 < m, brB_of (fun h0 => brB_of (fun h1 => ⟨rfl, by simpa using h0, by simpa using h1⟩) (fun h1 => last (.inr ?_))) (fun h0 => last (.inl ?_)), ?_⟩
  rotate_left 2
  · rintro J H2 ⟨rfl, h0, h1⟩
    cases zs with
    | nil => simp at hn; omega
    | cons x zs =>
    cases us with
    | nil => simp at hm; omega
    | cons y us =>
    simp only [List.length_cons] at hn hm
    have hz1 : Sl encRw H (slA c 1 3 a) ((n : Int).toNat - 1) (c - 1) zs := by
      have := hz.drop (k := 1) (by omega)
      rwa [Int.toNat_natCast]
    have hu1 : Sl encRw H (slA d 1 3 b) ((m : Int).toNat - 1) (d - 1) us := by
      have := hu.drop (k := 1) (by omega)
      rwa [Int.toNat_natCast]
    refine (hz.keep hf).head (decide_eq_true (by omega)) fun ad ea hc => ⟨_, _, _, ldRw hc, ?_⟩
    refine (hu.keep hf).head (decide_eq_true (by omega)) fun bd eb hd => ⟨_, _, _, ldRw hd, ?_⟩
    refine ho x y H2 _ fun H3 hf3 => ?_
    have hf' := hf.keep0 hf3
    have hw' := hw.keep hf3
    rw [mrgC_cons] at he
    refine brB_of (fun h2 => ?_) (fun h2 => brB_of (fun h3 => ?_) (fun h3 => ?_))
    · have hlt : cfRw x y < 0 := of_decide_eq_true h2
      rw [if_pos hlt] at he
      refine (hz.keep hf').head (decide_eq_true (by omega)) fun ad ea hc => ⟨_, _, _, ldRw hc, chk_of ⟨by omega, by omega, by omega⟩ ?_⟩
      refine ap_one (E := encRw) x slice34 elem45 hw' hf' rfl (by omega) fun _ o2 p2 q2 H4 hw2 hf2 _ => ?_
      have hb2 := hw2.1
      simp at hb2
      exact ⟨⟨zs, y :: us, ws ++ [x], hz1, hu, hw2, by rw [← he]; simp, by omega, hf2⟩, by show (n : Int).toNat - 1 + m < n + m; omega⟩
    · have hge : ¬ cfRw x y < 0 ∧ cfRw x y = 0 := ⟨of_decide_eq_false h2, by simpa using h3⟩
      rw [if_neg hge.1, if_pos hge.2] at he
      refine chk_of ⟨by omega, by omega, by omega⟩ ?_
      refine (hu.keep hf').head (decide_eq_true (by omega)) fun ad ea hc => ⟨_, _, _, ldRw hc, chk_of ⟨by omega, by omega, by omega⟩ ?_⟩
      refine ap_one (E := encRw) y slice34 elem45 hw' hf' rfl (by omega) fun _ o2 p2 q2 H4 hw2 hf2 _ => ?_
      have hb2 := hw2.1
      simp at hb2
      exact ⟨⟨zs, us, ws ++ [y], hz1, hu1, hw2, by rw [← he]; simp, by omega, hf2⟩, by show (n : Int).toNat - 1 + ((m : Int).toNat - 1) < n + m; omega⟩
    · have hge : ¬ cfRw x y < 0 ∧ ¬ cfRw x y = 0 := ⟨of_decide_eq_false h2, by simpa using h3⟩
      rw [if_neg hge.1, if_neg hge.2] at he
      refine (hu.keep hf').head (decide_eq_true (by omega)) fun ad ea hc => ⟨_, _, _, ldRw hc, chk_of ⟨by omega, by omega, by omega⟩ ?_⟩
      refine ap_one (E := encRw) y slice34 elem45 hw' hf' rfl (by omega) fun _ o2 p2 q2 H4 hw2 hf2 _ => ?_
      have hb2 := hw2.1
      simp at hb2
      exact ⟨⟨x :: zs, us, ws ++ [y], hz, hu1, hw2, by rw [← he]; simp, by omega, hf2⟩, by show n + ((m : Int).toNat - 1) < n + m; omega⟩
  · cases us with
    | nil => rfl
    | cons y us => simp at hm h1; omega
  · cases zs with
    | nil => rfl
    | cons y us => simp at hn h0; omega

end Go.Proofs
