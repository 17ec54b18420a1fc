/- Turned by a program of mine (portall.py) out of the same text of another seat. -/
import Derived.Test.YtjclcccjdnllgaaGreatC13b
import Derived.Test.YtjclcccjdnllgaaGreatC03b
set_option linter.unusedVariables false
set_option maxRecDepth 100000
open Go Go.GV
namespace Go.Proofs

theorem Or_ok {H : Heap} {a : Option Addr} {c : Nat} {x y : Int} {K : Int → Heap → Prop} (hx : Sl encInt H a 2 c [x, y]) (hk : K (if x ≠ 0 then x else y) H) :
    CallH Tryz.prog fn_cmp_Or_int_ ⟨[.slice a 2 c]⟩ H fun v H' => ∃ n, v = .int .i64 n ∧ K n H' := by
  apply vc_cmp_Or_int_
  refine ⟨fun vs H' => match vs with | [.int _ i] => H' = H ∧ (i = 0 ∨ (i = 1 ∧ x = 0) ∨ (i = 2 ∧ x = 0 ∧ y = 0)) | _ => False, fun vs _ => match vs with | [.int _ i] => 2 - i.toNat | _ => 0, ⟨rfl, .inl rfl⟩, ?_⟩
  rintro J i H1 ⟨rfl, h⟩
  rcases h with rfl | ⟨rfl, hx0⟩ | ⟨rfl, hx0, hy0⟩
  · refine brB_of (fun _ => ?_) (fun h => by simp at h)
    refine hx.get (k := 0) rfl rfl (decide_eq_true (by omega)) fun ad ea hc => ⟨_, ld_one (by kernel_rfl) hc, brB_of (fun h => ⟨_, rfl, ?_⟩) (fun h => ?_)⟩
    · rw [if_pos (by simpa using h)] at hk; exact hk
    · exact ⟨⟨rfl, .inr (.inl ⟨by decide, by simpa using h⟩)⟩, show 2 - (IntKind.i64.wrap (0 + 1)).toNat < 2 - (0 : Int).toNat by decide⟩
  · refine brB_of (fun _ => ?_) (fun h => by simp at h)
    refine hx.get (k := 1) rfl rfl (decide_eq_true (by omega)) fun ad ea hc => ⟨_, ld_one (by kernel_rfl) hc, brB_of (fun h => ⟨_, rfl, ?_⟩) (fun h => ?_)⟩
    · rw [if_neg (by simpa using hx0)] at hk; exact hk
    · exact ⟨⟨rfl, .inr (.inr ⟨by decide, hx0, by simpa using h⟩)⟩, show 2 - (IntKind.i64.wrap (1 + 1)).toNat < 2 - (1 : Int).toNat by decide⟩
  · refine brB_of (fun h => by simp at h) (fun _ => ⟨_, rfl, ?_⟩)
    rw [if_neg (by simpa using hx0), hy0] at hk; exact hk
theorem byRow_ok {x y : Rw} {H : Heap} {K : Int → Heap → Prop} (hk : ∀ H', Fr [] H H' → K (cfRw x y) H') : CallH Tryz.prog fn_series_byRow ⟨[vRw x, vRw y]⟩ H fun v H' => ∃ n, v = .int .i64 n ∧ K n H' := by
  apply vc_series_byRow
  intro b H1 hn1 b1 H2 hn2
  have hf := hn1.fr.keep0 hn2.fr
  have g1 : Blk H2 ⟨b, 0, none⟩ (encRw.cells x) := hn1.blk.keep hn2.fr
  have g2 : Blk H2 ⟨b1, 0, none⟩ (encRw.cells y) := hn2.blk
  refine ⟨_, g1.ld0 (by kernel_rfl) rfl, _, g2.ld0 (by kernel_rfl) rfl, _, g1.ldK (j := 1) (by kernel_rfl) rfl, _, g2.ldK (j := 1) (by kernel_rfl) rfl, ?_⟩
  refine Compare_ok ⟨g2.ldK (j := 1) (by kernel_rfl) rfl, g1.ldK (j := 1) (by kernel_rfl) rfl, Compare_ok ?_⟩
  intro b3 H3 hn3
  have hs : Sl encInt H3 (some ⟨b3, 0, none⟩) 2 2 [cmpI x.1 y.1, cmpI x.2.1 y.2.1] := by
    refine ⟨rfl, Nat.le_refl _, .inr ⟨b3, 0, rfl, fun i z hz j v hv => ?_⟩⟩
    have hj0 : j = 0 := by
      have : (encInt.cells z).length = 1 := rfl
      have := (List.getElem?_eq_some_iff.1 hv).1
      omega
    subst hj0
    have hv2 : v = .int .i64 z := by simpa [encInt] using hv.symm
    subst hv2
    rw [cell_of_blk hn3.get]
    have e : encInt.sz = 1 := rfl
    rw [e]
    match i with
    | 0 => simp at hz; subst hz; rfl
    | 1 => simp at hz; subst hz; rfl
    | k + 2 => simp at hz
  exact Or_ok hs ⟨_, rfl, hk H3 (hf.keep0 hn3.fr)⟩
theorem byR : ByR (.func (.func 58) #[] #[]) := fun x y H K hk => ⟨58, #[], #[], rfl, by kernel_rfl, byRow_ok hk⟩

theorem Reverse_ok {base : Nat} {H : Heap} {a : Option Addr} {n c : Nat} {xs : List Smp} {K : Heap → Prop} (hx : Own encS 107 base H a n c xs) (hn : n ≤ 1000000000) (hk : ∀ H', Own encS 107 base H' a n c xs.reverse → Fr (blkL a) H H' → K H') :
    CallH Tryz.prog fn_slices_Reverse___api_Sample_api_Sample_ ⟨[.slice a n c]⟩ H fun v H' => v = .tuple ⟨[]⟩ ∧ K H' := by
  apply vc_slices_Reverse___api_Sample_api_Sample_
  have hl := hx.1
  rw [wrap64_of (n := (n : Int) - 1) (by omega) (by omega)]
  refine ⟨fun vs H' => match vs with
      | [.int _ i, .int _ j] => ∃ A M B : List Smp, xs = A ++ (M ++ B) ∧ A.length = B.length ∧ i = (A.length : Int) ∧ j = (n : Int) - 1 - A.length ∧ Own encS 107 base H' a n c (B.reverse ++ (M ++ A.reverse)) ∧ Fr (blkL a) H H'
      | _ => False,
    fun vs _ => match vs with | [.int _ i, _] => n - i.toNat | _ => 0, ⟨[], xs, [], by simp, rfl, rfl, by simp, by simpa using hx, Fr.refl _ _⟩, ?_⟩
  rintro J i j H1 ⟨A, M, B, rfl, hAB, rfl, rfl, ho, hf⟩
  simp only [List.length_append] at hl
  refine brB_of (fun h0 => ?_) (fun h0 => ?_)
  · have h0' : 2 ≤ M.length := by have := of_decide_eq_true h0; omega
    obtain ⟨x, M, rfl⟩ : ∃ x M', M = x :: M' := by cases M with | nil => simp at h0' | cons x M => exact ⟨x, M, rfl⟩
    obtain ⟨M, y, rfl⟩ : ∃ M' y, M = M' ++ [y] := ⟨M.dropLast, M.getLast (by intro e; subst e; simp at h0'), (List.dropLast_concat_getLast _).symm⟩
    simp only [List.length_append, List.length_cons, List.length_nil] at hl h0'
    have ej : (n : Int) - 1 - A.length = ((A.length + M.length + 1 : Nat) : Int) := by omega
    rw [ej]
    have e1 : B.reverse ++ ((x :: (M ++ [y])) ++ A.reverse) = B.reverse ++ x :: (M ++ y :: A.reverse) := by simp
    have e2 : B.reverse ++ ((x :: (M ++ [y])) ++ A.reverse) = (B.reverse ++ x :: M) ++ y :: A.reverse := by simp
    refine ho.sl.get (k := A.length + M.length + 1) rfl (by rw [e2]; exact mid0 (by simp; omega)) (decide_eq_true (by omega)) fun ad ea hc => ⟨_, _, ldS hc, ?_⟩
    refine ho.sl.get (k := A.length) rfl (by rw [e1]; exact mid0 (by simp; omega)) (decide_eq_true (by omega)) fun ad ea hc => ⟨_, _, ldS hc, ?_⟩
    refine own_put (E := encS) (k := A.length) y ho rfl (by omega) (decide_eq_true (by omega)) rfl (by kernel_rfl) (by kernel_rfl) fun H2 ho2 hf2 => ?_
    rw [e1, mset0 (by simp; omega)] at ho2
    have e3 : B.reverse ++ y :: (M ++ y :: A.reverse) = (B.reverse ++ y :: M) ++ y :: A.reverse := by simp
    refine own_put (E := encS) (k := A.length + M.length + 1) x ho2 rfl (by omega) (decide_eq_true (by omega)) rfl (by kernel_rfl) (by kernel_rfl) fun H3 ho3 hf3 => ?_
    rw [e3, mset0 (by simp; omega)] at ho3
    rw [succ64 (by omega), pred64 (by omega) (by omega)]
    refine ⟨⟨A ++ [x], M, y :: B, by simp, by simp; omega, by simp, by simp; omega, by simpa using ho3, (hf.trans' hf2 (fun _ h _ => h) (fun _ h _ => h)).trans' hf3 (fun _ h _ => h) (fun _ h _ => h)⟩, ?_⟩
    show n - ((A.length + 1 : Nat) : Int).toNat < n - ((A.length : Nat) : Int).toNat
    omega
  · have h0' : M.length ≤ 1 := by have := of_decide_eq_false h0; omega
    refine ⟨rfl, hk H1 ?_ hf⟩
    have : M.reverse = M := by
      match M, h0' with
      | [], _ => rfl
      | [x], _ => rfl
    simpa [this] using ho

def ddF (p : Option Int) : List Smp → List Smp
  | [] => []
  | x :: l => if p = some x.1 then ddF (some x.1) l else x :: ddF (some x.1) l
def lastT (p : Option Int) (u : List Smp) : Option Int := match u.getLast? with | some y => some y.1 | none => p
theorem ddF_snoc (x : Smp) : ∀ (u : List Smp) (p : Option Int), ddF p (u ++ [x]) = ddF p u ++ (if lastT p u = some x.1 then [] else [x])
  | [], p => by
    unfold lastT
    simp only [List.nil_append, List.getLast?_nil]
    show (if p = some x.1 then ddF (some x.1) [] else x :: ddF (some x.1) []) = [] ++ (if p = some x.1 then [] else [x])
    by_cases h : p = some x.1
    · rw [if_pos h, if_pos h]; rfl
    · rw [if_neg h, if_neg h]; rfl
  | y :: u, p => by
    have ih := ddF_snoc x u (some y.1)
    have e : lastT p (y :: u) = lastT (some y.1) u := by
      unfold lastT
      rw [List.getLast?_cons]
      cases u.getLast? <;> rfl
    rw [e]
    show (if p = some y.1 then ddF (some y.1) (u ++ [x]) else y :: ddF (some y.1) (u ++ [x])) = (if p = some y.1 then ddF (some y.1) u else y :: ddF (some y.1) u) ++ _
    rw [ih]
    split <;> simp
def dd (l : List Smp) : List Smp := ddF none l
theorem dd_take {xs : List Smp} {k : Nat} {x y : Smp} (hy : xs[k]? = some y) (hx : xs[k + 1]? = some x) : dd (xs.take (k + 2)) = dd (xs.take (k + 1)) ++ (if y.1 = x.1 then [] else [x]) := by
  have e : xs.take (k + 2) = xs.take (k + 1) ++ [x] := by rw [List.take_add_one, hx]; rfl
  have e2 : lastT none (xs.take (k + 1)) = some y.1 := by
    unfold lastT
    rw [show xs.take (k + 1) = xs.take k ++ [y] by rw [List.take_add_one, hy]; rfl]
    simp
  unfold dd
  rw [e, ddF_snoc, e2]
  simp
theorem dd_one {xs : List Smp} (h : xs ≠ []) : dd (xs.take 1) = xs.take 1 := by
  cases xs with
  | nil => exact absurd rfl h
  | cons x l => rfl
def Tells2 (D : Value) : Prop := ∀ (x y : Smp) (H : Heap) (K : Bool → Heap → Prop), (∀ H', Fr [] H H' → K (x.1 == y.1) H') → CallV Tryz.prog D [vS x, vS y] H fun v H' => ∃ b, v = .bool b ∧ K b H'
theorem tells_eq : Tells2 (.func (.func 74) #[] #[]) := fun x y H K hk => ⟨74, #[], #[], rfl, by kernel_rfl, by
  apply vc_series_Put_1
  intro b H1 hn1 b1 H2 hn2
  exact ⟨_, (hn1.blk.keep hn2.fr).ld0 (by kernel_rfl) rfl, _, hn2.blk.ld0 (by kernel_rfl) rfl, _, rfl, hk H2 (hn1.fr.keep0 hn2.fr)⟩⟩
theorem dd_len (p : Option Int) : ∀ l : List Smp, (ddF p l).length ≤ l.length
  | [] => Nat.le_refl _
  | x :: l => by
    have ih := dd_len (some x.1) l
    show (if p = some x.1 then ddF (some x.1) l else x :: ddF (some x.1) l).length ≤ _
    split <;> simp <;> omega
theorem Compact_ok {D : Value} {base : Nat} {a : Option Addr} {n c : Nat} {xs : List Smp} {H : Heap} {K : Option Addr → Nat → Nat → Heap → Prop} (hD : Tells2 D) (ho : Own encS 107 base H a n c xs) (hn : n ≤ 1000000000)
    (hk : ∀ n' H', Own encS 107 base H' a n' c (dd xs) → n' ≤ n → Fr (blkL a) H H' → K a n' c H') :
    CallH Tryz.prog fn_slices_CompactFunc___api_Sample_api_Sample_ ⟨[.slice a n c, D]⟩ H fun v H' => ∃ a n c, v = .slice a n c ∧ K a n c H' := by
  apply vc_slices_CompactFunc___api_Sample_api_Sample_
  have hl := ho.1
  refine brB_of (fun h => ⟨_, _, _, rfl, hk n H ?_ (Nat.le_refl _) (Fr.refl _ _)⟩) (fun h => ?_)
  · have h2 : xs.length < 2 := by simp at h; omega
    match xs, h2 with
    | [], _ => exact ho
    | [x], _ => exact ho
  have h2 : 2 ≤ n := by simp at h; omega
  have hne : xs ≠ [] := by intro e; subst e; simp at hl; omega
  refine ⟨fun vs H' => match vs with | [.int _ i] => ∃ k : Nat, i = ((k + 1 : Nat) : Int) ∧ k + 1 ≤ n ∧ dd (xs.take (k + 1)) = xs.take (k + 1) ∧ Fr [] H H' | _ => False,
    fun vs _ => match vs with | [.int _ i] => n - i.toNat | _ => 0, ⟨0, rfl, by omega, dd_one hne, Fr.refl _ _⟩, ?_⟩
  rintro J i H1 ⟨k, rfl, hkn, hdd, hf⟩
  have ho1 := ho.keep hf
  refine brB_of (fun h0 => ?_) (fun h0 => ?_)
  · have h0' : k + 1 < n := by simp at h0; omega
    have hx1 : xs[k + 1]? = some (xs[k + 1]'(by omega)) := by simp
    generalize xs[k + 1]'(by omega) = x at hx1
    have hy1 : xs[k]? = some (xs[k]'(by omega)) := by simp
    generalize xs[k]'(by omega) = y at hy1
    have hd2 := dd_take hy1 hx1
    rw [pred64 (by omega) (by omega), show k + 1 - 1 = k by omega, succ64 (by omega)]
    refine ho1.sl.get rfl hx1 (decide_eq_true (by omega)) fun ad ea hc => ⟨_, _, ldS hc, ?_⟩
    refine ho1.sl.get rfl hy1 (decide_eq_true (by omega)) fun ad ea hc => ⟨_, _, ldS hc, ?_⟩
    refine hD x y H1 _ fun H2 hf2 => ?_
    have hf02 := hf.keep0 hf2
    refine brB_of (fun h3 => ?_) (fun h3 => ⟨⟨k + 1, rfl, by omega, ?_, hf02⟩, ?_⟩)
    rotate_left
    · rw [hd2, if_neg (by intro e; simp [e] at h3), hdd, List.take_add_one (i := k + 1), hx1]; rfl
    · show n - ((k + 1 + 1 : Nat) : Int).toNat < n - ((k + 1 : Nat) : Int).toNat
      omega
    have hxy : x.1 = y.1 := by simpa using h3
    refine chk_of ⟨by omega, by omega, by have := ho1.sl.cap; omega⟩ ?_
    simp only [Int.toNat_natCast]
    refine ⟨fun vs H' => match vs with | [.int _ i, .int _ j] => ∃ (m q : Nat) (ws : List Smp), i = m ∧ j = ((q + 1 : Nat) : Int) ∧ m ≤ k + 1 + q ∧ k + 1 + q + 1 ≤ n ∧ Own encS 107 base H' a n c ws ∧ ws.take m = dd (xs.take (k + 1 + q + 1)) ∧ ws.drop (k + 1 + q) = xs.drop (k + 1 + q) ∧ Fr (blkL a) H H' | _ => False,
      fun vs _ => match vs with | [_, .int _ i] => n - i.toNat | _ => 0, ⟨k + 1, 0, xs, rfl, rfl, by omega, by omega, ho1.keep hf2, ?_, rfl, hf02.mono (by simp)⟩, ?_⟩
    · rw [hd2, if_pos hxy.symm, hdd, List.append_nil]
    rintro J i j H3 ⟨m, q, ws, rfl, rfl, hmq, hqn, how, htk, hdr, hf3⟩
    have hlw := how.1
    refine brB_of (fun h4 => ?_) (fun h4 => ?_)
    · have h4' : k + 1 + q + 1 < n := by have := of_decide_eq_true h4; omega
      have hx2 : xs[k + 1 + q + 1]? = some (xs[k + 1 + q + 1]'(by omega)) := by simp
      generalize xs[k + 1 + q + 1]'(by omega) = x2 at hx2
      have hy2 : xs[k + 1 + q]? = some (xs[k + 1 + q]'(by omega)) := by simp
      generalize xs[k + 1 + q]'(by omega) = y2 at hy2
      have hwx : ws[k + 1 + q + 1]? = some x2 := by
        have := congrArg (fun l => l[1]?) hdr
        simp only [List.getElem?_drop] at this
        rw [show k + 1 + q + 1 = k + 1 + q + 1 from rfl, this, hx2]
      have hwy : ws[k + 1 + q]? = some y2 := by
        have := congrArg (fun l => l[0]?) hdr
        simp only [List.getElem?_drop, Nat.add_zero] at this
        rw [this, hy2]
      have hd3 := dd_take hy2 hx2
      have hdr2 : ws.drop (k + 1 + (q + 1)) = xs.drop (k + 1 + (q + 1)) := by
        have := congrArg (fun l => l.drop 1) hdr
        simpa [List.drop_drop, Nat.add_assoc] using this
      have hcut := how.sl.drop (k := k + 1) (by omega)
      rw [pred64 (by omega) (by omega), show q + 1 - 1 = q by omega]
      have g1 : (ws.drop (k + 1))[q + 1]? = some x2 := by rw [List.getElem?_drop]; exact hwx
      have g2 : (ws.drop (k + 1))[q]? = some y2 := by rw [List.getElem?_drop]; exact hwy
      refine hcut.get (k := q + 1) rfl g1 (decide_eq_true (by omega)) fun ad ea hc => ⟨_, _, ldS hc, ?_⟩
      refine hcut.get rfl g2 (decide_eq_true (by omega)) fun ad ea hc => ⟨_, _, ldS hc, ?_⟩
      refine hD x2 y2 H3 _ fun H4 hf4 => ?_
      have how4 := how.keep hf4
      have hf04 := hf3.trans' hf4 (T := blkL a) (fun _ h _ => h) (by simp)
      have mu4 : n - ((q + 1 + 1 : Nat) : Int).toNat < n - ((q + 1 : Nat) : Int).toNat := by omega
      refine brB_of (fun h5 => ?_) (fun h5 => by rw [succ64 (by omega)]; exact ⟨⟨m, q + 1, ws, rfl, rfl, by omega, by omega, how4, by
          show ws.take m = dd (xs.take (k + 1 + q + 2))
          rw [hd3, if_pos (by have : x2.1 = y2.1 := by simpa using h5
                              exact this.symm), htk, List.append_nil], hdr2, hf04⟩, mu4⟩)
      · refine (hcut.keep hf4).get rfl g1 (decide_eq_true (by omega)) fun ad ea hc => ⟨_, _, ldS hc, ?_⟩
        rw [succ64 (by omega), succ64 (by omega)]
        refine own_put (E := encS) x2 how4 rfl (by omega) (decide_eq_true (by omega)) rfl (by kernel_rfl) (by kernel_rfl) fun H5 how5 hf5 => ⟨⟨m + 1, q + 1, _, rfl, rfl, by omega, by omega, how5, ?_, ?_, hf04.trans' hf5 (fun _ h _ => h) (fun _ h _ => h)⟩, mu4⟩
        · show (ws.set m x2).take (m + 1) = dd (xs.take (k + 1 + q + 2))
          rw [hd3, if_neg (by intro e; simp [e] at h5), ← htk, List.take_add_one, List.take_set_of_le (Nat.le_refl _), List.getElem?_set_self (by omega)]
          rfl
        · rw [List.drop_set_of_lt (by omega)]; exact hdr2
    · have h4' : k + 1 + q + 1 = n := by have := of_decide_eq_false h4; omega
      have hcap := how.sl.cap
      refine chk_of ⟨by omega, by omega, by omega⟩ ?_
      simp only [Int.toNat_natCast]
      refine clear_tail (E := encS) slice22 zero26 rfl (by simp [Value.oneCell']) how (by omega) fun H4 how4 hf4 => chk_of ⟨by omega, by omega, by omega⟩ ?_
      refine ⟨_, _, _, rfl, hk _ H4 ?_ (by omega) (hf3.trans' hf4 (fun _ h _ => h) (fun _ h _ => h))⟩
      rw [htk, List.take_of_length_le (by omega)] at how4
      simpa using how4
  · have h0' : k + 1 = n := by simp at h0; omega
    refine ⟨_, _, _, rfl, hk n H1 ?_ (Nat.le_refl _) (hf.mono (by simp))⟩
    rw [List.take_of_length_le (by omega)] at hdd
    rw [hdd]; exact ho1

theorem Search_ok {order : Value} (hS : ByS order) {a : Option Addr} {n c : Nat} {xs : List Sr} {t : Sr} {H : Heap} {K : Int → Bool → Heap → Prop} (hx : Sl encSr H a n c xs) (hn : n ≤ 1000000000) (hr : xs.Pairwise fun x y => x.1 < y.1)
    (hyes : ∀ (k : Nat) x H', xs[k]? = some x → x.1 = t.1 → Fr [] H H' → K k true H') (hno : (∀ x ∈ xs, x.1 ≠ t.1) → ∀ (m : Int) H', Fr [] H H' → K m false H') :
    CallH Tryz.prog fn_slices_BinarySearchFunc___series_Series_series_Series_series_Series_ ⟨[.slice a n c, vSr t, order]⟩ H fun v H' => ∃ m b, v = .tuple ⟨[.int .i64 m, .bool b]⟩ ∧ K m b H' := by
  apply vc_slices_BinarySearchFunc___series_Series_series_Series_series_Series_
  intro b H1 hn1
  have hl := hx.len
  have hlt : ∀ {i j : Nat} {x y : Sr}, i < j → xs[i]? = some x → xs[j]? = some y → x.1 < y.1 := fun {i j x y} hij hx hy => by
    obtain ⟨hi, rfl⟩ := List.getElem?_eq_some_iff.1 hx
    obtain ⟨hj, rfl⟩ := List.getElem?_eq_some_iff.1 hy
    exact List.pairwise_iff_getElem.1 hr i j hi hj hij
  refine ⟨fun vs H' => match vs with
      | [.int _ i, .int _ j] => ∃ p q : Nat, i = p ∧ j = q ∧ p ≤ q ∧ q ≤ n ∧ (∀ k x, k < p → xs[k]? = some x → x.1 < t.1) ∧ (∀ k x, q ≤ k → xs[k]? = some x → t.1 ≤ x.1) ∧ Fr [] H1 H'
      | _ => False,
    fun vs _ => match vs with | [.int _ i, .int _ j] => j.toNat - i.toNat | _ => 0, ⟨0, n, rfl, rfl, by omega, by omega, fun k x h => by omega, fun k x h hx => by have := (List.getElem?_eq_some_iff.1 hx).1; omega, Fr.refl _ _⟩, ?_⟩
  rintro J i j H2 ⟨p, q, rfl, rfl, hpq, hqn, hlo, hhi, hf⟩
  have hf02 := hn1.fr.keep0 hf
  have hb : Blk H2 ⟨b, 0, none⟩ (encSr.cells t) := hn1.blk.keep hf
  have hld : ∀ {H' : Heap}, Fr [] H2 H' → Ld Tryz.prog 92 H' ⟨b, 0, none⟩ (vSr t) := fun hf' => (hb.keep hf').ldA0 (us := encSr.cells t) (by kernel_rfl) (by kernel_rfl) rfl
  refine brB_of (fun h0 => ?_) (fun h0 => ?_)
  · have h0' : p < q := by simpa using h0
    rw [avg64 (by omega)]
    have hh1 : p ≤ (p + q) / 2 := by omega
    have hh2 : (p + q) / 2 < q := by omega
    generalize (p + q) / 2 = h at hh1 hh2
    have hz : xs[h]? = some (xs[h]'(by omega)) := by simp
    generalize xs[h]'(by omega) = z at hz
    refine (hx.keep hf02).get (k := h) rfl hz (decide_eq_true (by omega)) fun ad ea hc => ⟨_, _, _, _, ldSr hc, _, _, _, _, hld (Fr.refl _ _), ?_⟩
    refine hS z t H2 _ fun H3 hf3 => ?_
    rw [succ64 (by omega)]
    refine brB_of (fun h6 => ⟨⟨h + 1, q, rfl, rfl, by omega, hqn, fun k x hk hx => ?_, hhi, hf.keep0 hf3⟩, ?_⟩) (fun h6 => ⟨⟨p, h, rfl, rfl, by omega, by omega, hlo, fun k x hk hx => ?_, hf.keep0 hf3⟩, ?_⟩)
    · have h6 : z.1 < t.1 := cmpI_neg.1 (of_decide_eq_true h6)
      rcases Nat.lt_or_ge k h with h7 | h7
      · have := hlt h7 hx hz; omega
      · have : k = h := by omega
        subst this
        rw [hz] at hx; cases hx; exact h6
    · show ((q : Nat) : Int).toNat - ((h + 1 : Nat) : Int).toNat < ((q : Nat) : Int).toNat - ((p : Nat) : Int).toNat
      omega
    · have h6 : ¬ z.1 < t.1 := fun h => of_decide_eq_false h6 (cmpI_neg.2 h)
      rcases Nat.lt_or_ge h k with h7 | h7
      · have := hlt h7 hz hx; omega
      · have : k = h := by omega
        subst this
        rw [hz] at hx; cases hx; omega
    · show ((h : Nat) : Int).toNat - ((p : Nat) : Int).toNat < ((q : Nat) : Int).toNat - ((p : Nat) : Int).toNat
      omega
  · have h0' : p = q := by simp at h0; omega
    subst h0'
    have none' : (∀ x, xs[p]? = some x → x.1 ≠ t.1) → ∀ x ∈ xs, x.1 ≠ t.1 := fun h x hx => by
      obtain ⟨k, hk⟩ := List.getElem?_of_mem hx
      rcases Nat.lt_or_ge k p with h7 | h7
      · have := hlo k x h7 hk; omega
      · rcases Nat.lt_or_ge p k with h8 | h8
        · have hpl : p < xs.length := by have := (List.getElem?_eq_some_iff.1 hk).1; omega
          have hz : xs[p]? = some xs[p] := by simp
          have h9 := hhi p _ (Nat.le_refl _) hz
          have := hlt h8 hz hk
          omega
        · have : k = p := by omega
          subst this
          exact h x hk
    refine brB_of (fun h1 => ?_) (fun h1 => ⟨_, _, rfl, hno (none' fun x hx => ?_) _ H2 hf02⟩)
    · have h1' : p < n := by simpa using h1
      have hz : xs[p]? = some (xs[p]'(by omega)) := by simp
      generalize xs[p]'(by omega) = z at hz
      refine (hx.keep hf02).get (k := p) rfl hz (decide_eq_true (by omega)) fun ad ea hc => ⟨_, _, _, _, ldSr hc, _, _, _, _, hld (Fr.refl _ _), ?_⟩
      refine hS z t H2 _ fun H3 hf3 => ⟨_, _, rfl, ?_⟩
      have hf03 := hf02.keep0 hf3
      unfold cfSr
      by_cases e : z.1 = t.1
      · have : (cmpI z.1 t.1 == 0) = true := by rw [e]; unfold cmpI; simp
        rw [this]; exact hyes p z H3 hz e hf03
      · have : (cmpI z.1 t.1 == 0) = false := by unfold cmpI; split; rfl; split; rfl; omega
        rw [this]
        exact hno (none' fun x hx => by rw [hz] at hx; cases hx; exact e) _ H3 hf03
    · have := (List.getElem?_eq_some_iff.1 hx).1
      simp at h1; omega
end Go.Proofs
namespace Go.Proofs
set_option linter.unusedVariables false
def valQ (l : List Smp) (t : Int) : Option Int := (l.find? fun x => decide (x.1 = t)).map (·.2)
theorem valQ_nil (t : Int) : valQ [] t = none := rfl
theorem valQ_cons (x : Smp) (l : List Smp) (t : Int) : valQ (x :: l) t = if x.1 = t then some x.2 else valQ l t := by
  unfold valQ
  rw [List.find?_cons]
  by_cases h : x.1 = t
  · rw [if_pos h, decide_eq_true h]; rfl
  · rw [if_neg h, decide_eq_false h]
theorem valQ_app (a b : List Smp) (t : Int) : valQ (a ++ b) t = (valQ a t).or (valQ b t) := by
  induction a with
  | nil => rw [List.nil_append, valQ_nil]; rfl
  | cons x a ih =>
    rw [List.cons_append, valQ_cons, valQ_cons, ih]
    split <;> rfl
theorem valQ_none {l : List Smp} {t : Int} : valQ l t = none ↔ ∀ x ∈ l, x.1 ≠ t := by
  induction l with
  | nil => simp [valQ_nil]
  | cons x l ih =>
    rw [valQ_cons]
    by_cases h : x.1 = t
    · rw [if_pos h]; simp [h]
    · rw [if_neg h, ih]; simp [h]
theorem valQ_mem {l : List Smp} {t v : Int} (h : valQ l t = some v) : (t, v) ∈ l := by
  induction l with
  | nil => simp [valQ_nil] at h
  | cons x l ih =>
    rw [valQ_cons] at h
    by_cases h1 : x.1 = t
    · rw [if_pos h1] at h
      simp only [Option.some.injEq] at h
      rw [show (t, v) = x from Prod.ext h1.symm h.symm]; simp
    · rw [if_neg h1] at h
      exact List.mem_cons_of_mem _ (ih h)
theorem valQ_ris {l : List Smp} (hr : Ris l) {x : Smp} (h : x ∈ l) : valQ l x.1 = some x.2 := by
  induction l with
  | nil => cases h
  | cons y l ih =>
    have hc := ris_cons.1 hr
    rw [valQ_cons]
    rcases List.mem_cons.1 h with rfl | h
    · rw [if_pos rfl]
    · rw [if_neg (by have := hc.1 x h; omega)]; exact ih hc.2 h
theorem ris_eq : ∀ {a b : List Smp}, Ris a → Ris b → (∀ t, valQ a t = valQ b t) → a = b
  | [], [], _, _, _ => rfl
  | [], y :: b, _, _, h => by have := h y.1; rw [valQ_nil, valQ_cons, if_pos rfl] at this; cases this
  | x :: a, [], _, _, h => by have := h x.1; rw [valQ_nil, valQ_cons, if_pos rfl] at this; cases this
  | x :: a, y :: b, ha, hb, h => by
    have ha' := ris_cons.1 ha
    have hb' := ris_cons.1 hb
    have hxy : x.1 = y.1 := by
      rcases Int.lt_trichotomy x.1 y.1 with h1 | h1 | h1
      · have := h x.1
        rw [valQ_cons, if_pos rfl] at this
        have h2 : valQ (y :: b) x.1 = none := valQ_none.2 fun z hz => by
          rcases List.mem_cons.1 hz with rfl | hz
          · omega
          · have := hb'.1 z hz; omega
        rw [h2] at this; cases this
      · exact h1
      · have := h y.1
        rw [valQ_cons (x := y), if_pos rfl] at this
        have h2 : valQ (x :: a) y.1 = none := valQ_none.2 fun z hz => by
          rcases List.mem_cons.1 hz with rfl | hz
          · omega
          · have := ha'.1 z hz; omega
        rw [h2] at this; cases this
    have hv : x.2 = y.2 := by
      have := h x.1
      rw [valQ_cons, if_pos rfl, valQ_cons, if_pos hxy.symm] at this
      simpa using this
    have e : x = y := Prod.ext hxy hv
    subst e
    rw [ris_eq ha'.2 hb'.2 fun t => by
      by_cases ht : x.1 = t
      · subst ht
        rw [valQ_none.2 fun z hz => by have := ha'.1 z hz; omega, valQ_none.2 fun z hz => by have := hb'.1 z hz; omega]
      · have := h t
        rw [valQ_cons, valQ_cons, if_neg ht, if_neg ht] at this; exact this]
theorem valQ_mrg : ∀ (a b : List Smp) (t : Int), Ris a → Ris b → valQ (mrg a b) t = (valQ b t).or (valQ a t)
  | [], b, t, _, _ => by rw [mrg_nil, valQ_nil]; simp
  | x :: a, [], t, _, _ => by rw [mrg_nil', valQ_nil]; rfl
  | x :: a, y :: b, t, ha, hb => by
    have ha' := ris_cons.1 ha
    have hb' := ris_cons.1 hb
    rw [mrg_cons]
    split
    · rename_i h
      rw [valQ_cons, valQ_mrg a (y :: b) t ha'.2 hb, valQ_cons x a]
      by_cases ht : x.1 = t
      · rw [if_pos ht, if_pos ht, valQ_none.2 fun z hz => by
          rcases List.mem_cons.1 hz with rfl | hz
          · omega
          · have := hb'.1 z hz; omega]
        rfl
      · rw [if_neg ht, if_neg ht]
    · split
      · rename_i h h2
        rw [valQ_cons, valQ_mrg a b t ha'.2 hb'.2, valQ_cons x a, valQ_cons y b]
        by_cases ht : y.1 = t
        · rw [if_pos ht, if_pos ht]; rfl
        · rw [if_neg ht, if_neg ht, if_neg (by omega)]
      · rename_i h h2
        rw [valQ_cons, valQ_mrg (x :: a) b t ha hb'.2, valQ_cons y b]
        split <;> rfl
termination_by a b => a.length + b.length
def FinP (g f : List Smp) : Prop := ∃ ys, Srt ys ∧ Stb g.reverse ys ∧ f = dd ys
theorem ddF_gt : ∀ (l : List Smp) (p : Int), Srt l → (∀ x ∈ l, p ≤ x.1) → ∀ x ∈ ddF (some p) l, p < x.1
  | [], _, _, _, x, h => by cases h
  | y :: l, p, hs, hp, x, h => by
    have hs' := List.pairwise_cons.1 hs
    have h' : x ∈ (if some p = some y.1 then ddF (some y.1) l else y :: ddF (some y.1) l) := h
    split at h'
    · rename_i e
      simp only [Option.some.injEq] at e
      subst e
      exact ddF_gt l _ hs'.2 (fun z hz => hs'.1 z hz) x h'
    · rename_i e
      have hy := hp y (by simp)
      have hne : p ≠ y.1 := fun e' => e (by rw [e'])
      rcases List.mem_cons.1 h' with rfl | h'
      · omega
      · have := ddF_gt l y.1 hs'.2 (fun z hz => hs'.1 z hz) x h'
        omega
theorem ddF_ris : ∀ (l : List Smp) (p : Option Int), Srt l → Ris (ddF p l)
  | [], _, _ => Ris.nil
  | y :: l, p, hs => by
    have hs' := List.pairwise_cons.1 hs
    show Ris (if p = some y.1 then ddF (some y.1) l else y :: ddF (some y.1) l)
    split
    · exact ddF_ris l _ hs'.2
    · exact ris_cons.2 ⟨ddF_gt l y.1 hs'.2 (fun z hz => hs'.1 z hz), ddF_ris l _ hs'.2⟩
theorem ddF_val : ∀ (l : List Smp) (p : Option Int) (t : Int), Srt l → (∀ q, p = some q → ∀ x ∈ l, q ≤ x.1) → p ≠ some t → valQ (ddF p l) t = valQ l t
  | [], _, _, _, _, _ => rfl
  | y :: l, p, t, hs, hp, hpt => by
    have hs' := List.pairwise_cons.1 hs
    show valQ (if p = some y.1 then ddF (some y.1) l else y :: ddF (some y.1) l) t = _
    have rest : y.1 ≠ t → valQ (ddF (some y.1) l) t = valQ l t := fun h => ddF_val l (some y.1) t hs'.2 (fun q e x hx => by simp only [Option.some.injEq] at e; subst e; exact hs'.1 x hx) (fun e => h (by simpa using e))
    rw [valQ_cons]
    split
    · rename_i e
      have hne : y.1 ≠ t := fun e' => hpt (by rw [e, e'])
      rw [if_neg hne, rest hne]
    · rw [valQ_cons]
      by_cases h : y.1 = t
      · rw [if_pos h, if_pos h]
      · rw [if_neg h, if_neg h, rest h]
theorem valQ_filter (l : List Smp) (t : Int) : valQ l t = ((l.filter fun x => decide (x.1 = t)).head?).map (·.2) := by
  induction l with
  | nil => rfl
  | cons x l ih =>
    rw [valQ_cons, List.filter_cons]
    by_cases h : x.1 = t
    · rw [if_pos h, if_pos (by simpa using h)]; rfl
    · rw [if_neg h, if_neg (by simpa using h)]; exact ih
theorem FinP.ris {g f : List Smp} (h : FinP g f) : Ris f := by
  obtain ⟨ys, h1, _, rfl⟩ := h
  exact ddF_ris ys none h1
theorem FinP.val {g f : List Smp} (h : FinP g f) (t : Int) : valQ f t = valQ g.reverse t := by
  obtain ⟨ys, h1, h2, rfl⟩ := h
  unfold dd
  rw [ddF_val ys none t h1 (fun q e => by cases e) (by simp), valQ_filter, valQ_filter, h2 t]
theorem FinP.ne {g f : List Smp} (h : FinP g f) (hg : g ≠ []) : f ≠ [] := by
  obtain ⟨x, hx⟩ := List.exists_mem_of_ne_nil _ hg
  have h1 : valQ g.reverse x.1 ≠ none := fun e => valQ_none.1 e x (by simpa using hx) rfl
  intro e
  subst e
  exact h1 (by rw [← h.val]; rfl)
abbrev Srs := Int × List Smp
def RightS (ss : List Srs) : Prop := ss.Pairwise (fun a b => a.1 < b.1) ∧ ∀ s ∈ ss, s.2 ≠ [] ∧ Ris s.2
def valS (ss : List Srs) (id t : Int) : Option Int := match ss with
  | [] => none
  | s :: ss => if s.1 = id then valQ s.2 t else valS ss id t
theorem valS_cons (s : Srs) (ss : List Srs) (id t : Int) : valS (s :: ss) id t = if s.1 = id then valQ s.2 t else valS ss id t := rfl
theorem valS_none {ss : List Srs} {id t : Int} (h : ∀ s ∈ ss, s.1 ≠ id) : valS ss id t = none := by
  induction ss with
  | nil => rfl
  | cons s ss ih => rw [valS_cons, if_neg (h s (by simp))]; exact ih fun x hx => h x (by simp [hx])
theorem RightS.nil : RightS [] := ⟨List.Pairwise.nil, fun s h => by cases h⟩
theorem RightS.cons {s : Srs} {ss : List Srs} : RightS (s :: ss) ↔ (∀ x ∈ ss, s.1 < x.1) ∧ (s.2 ≠ [] ∧ Ris s.2) ∧ RightS ss := by
  unfold RightS
  rw [List.pairwise_cons]
  constructor
  · rintro ⟨⟨h1, h2⟩, h3⟩
    exact ⟨h1, h3 s (by simp), h2, fun x hx => h3 x (by simp [hx])⟩
  · rintro ⟨h1, h2, h3, h4⟩
    refine ⟨⟨h1, h3⟩, fun x hx => ?_⟩
    rcases List.mem_cons.1 hx with rfl | hx
    · exact h2
    · exact h4 x hx
theorem right_eq : ∀ {a b : List Srs}, RightS a → RightS b → (∀ id t, valS a id t = valS b id t) → a = b
  | [], [], _, _, _ => rfl
  | [], y :: b, _, hb, h => by
    obtain ⟨_, ⟨h1, h2⟩, _⟩ := RightS.cons.1 hb
    obtain ⟨x, hx⟩ := List.exists_mem_of_ne_nil _ h1
    have := h y.1 x.1
    rw [valS_cons, if_pos rfl, valQ_ris h2 hx] at this
    cases this
  | x :: a, [], ha, _, h => by
    obtain ⟨_, ⟨h1, h2⟩, _⟩ := RightS.cons.1 ha
    obtain ⟨z, hz⟩ := List.exists_mem_of_ne_nil _ h1
    have := h x.1 z.1
    rw [valS_cons, if_pos rfl, valQ_ris h2 hz] at this
    cases this
  | x :: a, y :: b, ha, hb, h => by
    obtain ⟨a1, ⟨a2, a3⟩, a4⟩ := RightS.cons.1 ha
    obtain ⟨b1, ⟨b2, b3⟩, b4⟩ := RightS.cons.1 hb
    have hxy : x.1 = y.1 := by
      rcases Int.lt_trichotomy x.1 y.1 with h1 | h1 | h1
      · obtain ⟨z, hz⟩ := List.exists_mem_of_ne_nil _ a2
        have := h x.1 z.1
        rw [valS_cons, if_pos rfl, valQ_ris a3 hz, valS_none fun s hs => by
          rcases List.mem_cons.1 hs with rfl | hs
          · omega
          · have := b1 s hs; omega] at this
        cases this
      · exact h1
      · obtain ⟨z, hz⟩ := List.exists_mem_of_ne_nil _ b2
        have := h y.1 z.1
        rw [valS_cons y, if_pos rfl, valQ_ris b3 hz, valS_none fun s hs => by
          rcases List.mem_cons.1 hs with rfl | hs
          · omega
          · have := a1 s hs; omega] at this
        cases this
    have hL : x.2 = y.2 := ris_eq a3 b3 fun t => by
      have := h x.1 t
      rw [valS_cons, if_pos rfl, valS_cons, if_pos hxy.symm] at this
      exact this
    have e : x = y := Prod.ext hxy hL
    subst e
    rw [right_eq a4 b4 fun id t => by
      by_cases hi : x.1 = id
      · subst hi
        rw [valS_none fun s hs => by have := a1 s hs; omega, valS_none fun s hs => by have := b1 s hs; omega]
      · have := h id t
        rw [valS_cons, valS_cons, if_neg hi, if_neg hi] at this; exact this]
def cfP (x y : Srs) : Int := cmpI x.1 y.1
theorem cmpI_zero {x y : Int} : cmpI x y = 0 ↔ x = y := by unfold cmpI; split <;> (try split) <;> omega
theorem mem_mrgC {α : Type} {cf : α → α → Int} {z : α} : ∀ (a b : List α), z ∈ mrgC cf a b → z ∈ a ∨ z ∈ b
  | [], b, h => by rw [mrgC_nil] at h; exact .inr h
  | x :: a, [], h => by rw [mrgC_nil'] at h; exact .inl h
  | x :: a, y :: b, h => by
    rw [mrgC_cons] at h
    split at h
    · rcases List.mem_cons.1 h with rfl | h
      · exact .inl (by simp)
      · exact (mem_mrgC a (y :: b) h).elim (fun h => .inl (by simp [h])) .inr
    · split at h
      · rcases List.mem_cons.1 h with rfl | h
        · exact .inr (by simp)
        · exact (mem_mrgC a b h).elim (fun h => .inl (by simp [h])) fun h => .inr (by simp [h])
      · rcases List.mem_cons.1 h with rfl | h
        · exact .inr (by simp)
        · exact (mem_mrgC (x :: a) b h).elim .inl fun h => .inr (by simp [h])
termination_by a b => a.length + b.length
theorem right_mrg : ∀ {a b : List Srs}, RightS a → RightS b → RightS (mrgC cfP a b) ∧ ∀ id t, valS (mrgC cfP a b) id t = if ∃ s ∈ b, s.1 = id then valS b id t else valS a id t
  | [], b, ha, hb => by
    rw [mrgC_nil]
    refine ⟨hb, fun id t => ?_⟩
    split
    · rfl
    · rename_i h
      exact valS_none fun s hs e => h ⟨s, hs, e⟩
  | x :: a, [], ha, hb => by
    rw [mrgC_nil']
    exact ⟨ha, fun id t => by rw [if_neg (by simp)]⟩
  | x :: a, y :: b, ha, hb => by
    obtain ⟨a1, a2, a4⟩ := RightS.cons.1 ha
    obtain ⟨b1, b2, b4⟩ := RightS.cons.1 hb
    rw [mrgC_cons]
    by_cases h1 : cfP x y < 0
    · have h1' : x.1 < y.1 := cmpI_neg.1 h1
      rw [if_pos h1]
      obtain ⟨r1, r2⟩ := right_mrg a4 hb
      refine ⟨RightS.cons.2 ⟨fun z hz => ?_, a2, r1⟩, fun id t => ?_⟩
      · rcases mem_mrgC _ _ hz with hz | hz
        · exact a1 z hz
        · rcases List.mem_cons.1 hz with rfl | hz
          · exact h1'
          · have := b1 z hz; omega
      · rw [valS_cons, r2, valS_cons x a]
        by_cases hi : x.1 = id
        · have hno : ¬ ∃ s ∈ y :: b, s.1 = id := by
            rintro ⟨s, hs, e⟩
            rcases List.mem_cons.1 hs with rfl | hs
            · omega
            · have := b1 s hs; omega
          rw [if_pos hi, if_neg hno, if_pos hi]
        · rw [if_neg hi, if_neg hi]
    · rw [if_neg h1]
      have h1' : ¬ x.1 < y.1 := fun h => h1 (cmpI_neg.2 h)
      by_cases h2 : cfP x y = 0
      · have h2' : x.1 = y.1 := cmpI_zero.1 h2
        rw [if_pos h2]
        obtain ⟨r1, r2⟩ := right_mrg a4 b4
        refine ⟨RightS.cons.2 ⟨fun z hz => ?_, b2, r1⟩, fun id t => ?_⟩
        · rcases mem_mrgC _ _ hz with hz | hz
          · have := a1 z hz; omega
          · exact b1 z hz
        · rw [valS_cons, r2]
          by_cases hi : y.1 = id
          · rw [if_pos hi, if_pos ⟨y, by simp, hi⟩, valS_cons, if_pos hi]
          · rw [if_neg hi, valS_cons y b, if_neg hi, valS_cons x a, if_neg (show ¬ x.1 = id by omega)]
            by_cases he : ∃ s ∈ b, s.1 = id
            · obtain ⟨s, hs, e⟩ := he
              rw [if_pos ⟨s, hs, e⟩, if_pos ⟨s, by simp [hs], e⟩]
            · rw [if_neg he, if_neg]
              rintro ⟨s, hs, e⟩
              rcases List.mem_cons.1 hs with rfl | hs
              · exact hi e
              · exact he ⟨s, hs, e⟩
      · rw [if_neg h2]
        have h2' : y.1 < x.1 := by
          have : x.1 ≠ y.1 := fun e => h2 (cmpI_zero.2 e)
          omega
        obtain ⟨r1, r2⟩ := right_mrg ha b4
        refine ⟨RightS.cons.2 ⟨fun z hz => ?_, b2, r1⟩, fun id t => ?_⟩
        · rcases mem_mrgC _ _ hz with hz | hz
          · rcases List.mem_cons.1 hz with rfl | hz
            · exact h2'
            · have := a1 z hz; omega
          · exact b1 z hz
        · rw [valS_cons, r2]
          by_cases hi : y.1 = id
          · rw [if_pos hi, if_pos ⟨y, by simp, hi⟩, valS_cons, if_pos hi]
          · rw [if_neg hi, valS_cons y b, if_neg hi]
            by_cases he : ∃ s ∈ b, s.1 = id
            · obtain ⟨s, hs, e⟩ := he
              rw [if_pos ⟨s, hs, e⟩, if_pos ⟨s, by simp [hs], e⟩]
            · rw [if_neg he, if_neg]
              rintro ⟨s, hs, e⟩
              rcases List.mem_cons.1 hs with rfl | hs
              · exact hi e
              · exact he ⟨s, hs, e⟩
termination_by a b => a.length + b.length
def put1 (ss : List Srs) (x : Rw) : List Srs := match ss with
  | [] => [(x.2.1, [(x.1, x.2.2)])]
  | s :: ss => if x.2.1 < s.1 then (x.2.1, [(x.1, x.2.2)]) :: s :: ss else if s.1 = x.2.1 then (s.1, mrg s.2 [(x.1, x.2.2)]) :: ss else s :: put1 ss x
theorem ris_one (x : Smp) : Ris [x] := by simp [Ris]
theorem mrg_ne {a b : List Smp} (hb : b ≠ []) (ha : Ris a) (hb' : Ris b) : mrg a b ≠ [] := by
  obtain ⟨x, hx⟩ := List.exists_mem_of_ne_nil _ hb
  intro e
  have := valQ_mrg a b x.1 ha hb'
  rw [e, valQ_nil, valQ_ris hb' hx] at this
  cases this
theorem mem_put1 {x : Rw} {z : Srs} : ∀ {ss : List Srs}, z ∈ put1 ss x → z.1 = x.2.1 ∨ z ∈ ss
  | [], h => by simp [put1] at h; subst h; exact .inl rfl
  | s :: ss, h => by
    unfold put1 at h
    split at h
    · rcases List.mem_cons.1 h with rfl | h
      · exact .inl rfl
      · exact .inr h
    · split at h
      · rename_i e
        rcases List.mem_cons.1 h with rfl | h
        · exact .inl e
        · exact .inr (by simp [h])
      · rcases List.mem_cons.1 h with rfl | h
        · exact .inr (by simp)
        · exact (mem_put1 h).imp id fun h => by simp [h]
theorem right_put1 {x : Rw} : ∀ {ss : List Srs}, RightS ss → RightS (put1 ss x) ∧ ∀ id t, valS (put1 ss x) id t = if x.2.1 = id ∧ x.1 = t then some x.2.2 else valS ss id t
  | [], _ => by
    refine ⟨RightS.cons.2 ⟨by simp, ⟨by simp, ris_one _⟩, RightS.nil⟩, fun id t => ?_⟩
    show (if x.2.1 = id then valQ [(x.1, x.2.2)] t else none) = _
    rw [valQ_cons, valQ_nil]
    by_cases h1 : x.2.1 = id <;> by_cases h2 : x.1 = t <;> simp [h1, h2, valS]
  | s :: ss, h => by
    obtain ⟨a1, a2, a4⟩ := RightS.cons.1 h
    unfold put1
    split
    · rename_i h1
      refine ⟨RightS.cons.2 ⟨fun z hz => ?_, ⟨by simp, ris_one _⟩, h⟩, fun id t => ?_⟩
      · show x.2.1 < z.1
        rcases List.mem_cons.1 hz with rfl | hz
        · exact h1
        · have := a1 z hz; omega
      · rw [valS_cons, valQ_cons, valQ_nil]
        by_cases h2 : x.2.1 = id
        · subst h2
          rw [if_pos rfl]
          have : valS (s :: ss) x.2.1 t = none := valS_none fun z hz => by
            rcases List.mem_cons.1 hz with rfl | hz
            · omega
            · have := a1 z hz; omega
          rw [this]; simp
        · rw [if_neg h2]; simp [h2]
    · split
      · rename_i h1 h2
        refine ⟨RightS.cons.2 ⟨a1, ⟨mrg_ne (by simp) a2.2 (ris_one _), ris_mrg _ _ a2.2 (ris_one _)⟩, a4⟩, fun id t => ?_⟩
        rw [valS_cons, valS_cons]
        show (if s.1 = id then valQ (mrg s.2 [(x.1, x.2.2)]) t else valS ss id t) = _
        rw [valQ_mrg _ _ _ a2.2 (ris_one _), valQ_cons, valQ_nil]
        by_cases h3 : s.1 = id
        · have h4 : x.2.1 = id := by omega
          rw [if_pos h3, if_pos h3]
          by_cases h5 : x.1 = t
          · rw [if_pos h5, if_pos ⟨h4, h5⟩]; rfl
          · rw [if_neg h5, if_neg (fun h => h5 h.2)]; rfl
        · rw [if_neg h3, if_neg h3, if_neg (fun h => h3 (by omega))]
      · rename_i h1 h2
        obtain ⟨r1, r2⟩ := right_put1 (x := x) a4
        refine ⟨RightS.cons.2 ⟨fun z hz => ?_, a2, r1⟩, fun id t => ?_⟩
        · rcases mem_put1 hz with e | hz
          · omega
          · exact a1 z hz
        · rw [valS_cons, valS_cons, r2]
          by_cases h3 : s.1 = id
          · rw [if_pos h3, if_pos h3, if_neg (fun h => h2 (by omega))]
          · rw [if_neg h3, if_neg h3]
def putR (ss : List Srs) (rows : List Rw) : List Srs := rows.foldl put1 ss
def ofId (rows : List Rw) (id : Int) : List Smp := (rows.filter fun x => decide (x.2.1 = id)).map fun x => (x.1, x.2.2)
theorem ofId_cons (x : Rw) (rows : List Rw) (id : Int) : ofId (x :: rows) id = if x.2.1 = id then (x.1, x.2.2) :: ofId rows id else ofId rows id := by
  unfold ofId
  rw [List.filter_cons]
  by_cases h : x.2.1 = id
  · rw [if_pos h, if_pos (by simpa using h)]; rfl
  · rw [if_neg h, if_neg (by simpa using h)]
theorem ofId_snoc (x : Rw) (rows : List Rw) (id : Int) : ofId (rows ++ [x]) id = ofId rows id ++ if x.2.1 = id then [(x.1, x.2.2)] else [] := by
  unfold ofId
  rw [List.filter_append, List.map_append, List.filter_cons]
  by_cases h : x.2.1 = id
  · rw [if_pos h, if_pos (by simpa using h)]; rfl
  · rw [if_neg h, if_neg (by simpa using h)]; rfl
theorem right_putR : ∀ {rows : List Rw} {ss : List Srs}, RightS ss → RightS (putR ss rows) ∧ ∀ id t, valS (putR ss rows) id t = (valQ (ofId rows id).reverse t).or (valS ss id t)
  | [], ss, h => ⟨h, fun id t => rfl⟩
  | x :: rows, ss, h => by
    obtain ⟨r1, r2⟩ := right_put1 (x := x) h
    obtain ⟨q1, q2⟩ := right_putR (rows := rows) r1
    refine ⟨q1, fun id t => ?_⟩
    show valS (putR (put1 ss x) rows) id t = _
    rw [q2, r2, ofId_cons]
    by_cases h1 : x.2.1 = id
    · rw [if_pos h1, List.reverse_cons, valQ_app, valQ_cons, valQ_nil]
      by_cases h2 : x.1 = t
      · rw [if_pos ⟨h1, h2⟩, if_pos h2]
        cases valQ (ofId rows id).reverse t <;> rfl
      · rw [if_neg (fun h => h2 h.2), if_neg h2]
        cases valQ (ofId rows id).reverse t <;> rfl
    · rw [if_neg h1, if_neg (fun h => h1 h.1)]
theorem putR_app (ss : List Srs) (a b : List Rw) : putR (putR ss a) b = putR ss (a ++ b) := by unfold putR; rw [List.foldl_append]
theorem put_eq {ss more : List Srs} {rows : List Rw} (hs : RightS ss) (hm : RightS more) (hk : ∀ id, (∃ s ∈ more, s.1 = id) ↔ ofId rows id ≠ [])
    (hv : ∀ s ∈ more, ∀ t, valQ s.2 t = (valQ (ofId rows s.1).reverse t).or (valS ss s.1 t)) : mrgC cfP ss more = putR ss rows := by
  obtain ⟨r1, r2⟩ := right_mrg hs hm
  obtain ⟨q1, q2⟩ := right_putR (rows := rows) hs
  refine right_eq r1 q1 fun id t => ?_
  rw [r2, q2]
  by_cases h : ∃ s ∈ more, s.1 = id
  · rw [if_pos h]
    obtain ⟨s, hsm, rfl⟩ := h
    rw [← hv s hsm t]
    have : ∀ {l : List Srs}, RightS l → s ∈ l → valS l s.1 t = valQ s.2 t := by
      intro l
      induction l with
      | nil => intro _ h; cases h
      | cons y l ih =>
        intro hl h
        obtain ⟨a1, _, a4⟩ := RightS.cons.1 hl
        rw [valS_cons]
        rcases List.mem_cons.1 h with rfl | h
        · rw [if_pos rfl]
        · rw [if_neg (by have := a1 s h; omega)]; exact ih a4 h
    exact this hm hsm
  · rw [if_neg h]
    have : ofId rows id = [] := Classical.byContradiction fun h' => h ((hk id).2 h')
    rw [this]; rfl
end Go.Proofs
namespace Go.Proofs
set_option linter.unusedVariables false
def kLt (a b : Rw) : Prop := a.1 < b.1 ∨ (a.1 = b.1 ∧ a.2.1 < b.2.1)
instance (a b : Rw) : Decidable (kLt a b) := inferInstanceAs (Decidable (_ ∨ _))
def kEq (a b : Rw) : Prop := a.1 = b.1 ∧ a.2.1 = b.2.1
theorem cfRw_neg {a b : Rw} : cfRw a b < 0 ↔ kLt a b := by
  unfold cfRw kLt cmpI
  split <;> (repeat' split) <;> omega
theorem cfRw_zero {a b : Rw} : cfRw a b = 0 ↔ kEq a b := by
  unfold cfRw kEq cmpI
  split <;> (repeat' split) <;> omega
theorem kLt_trans {a b c : Rw} (h : kLt a b) (h' : kLt b c) : kLt a c := by unfold kLt at *; omega
theorem kLt_irr {a : Rw} : ¬ kLt a a := by unfold kLt; omega
theorem kLt_tri (a b : Rw) : kLt a b ∨ kEq a b ∨ kLt b a := by unfold kLt kEq; omega
theorem kLt_ne {a b : Rw} (h : kLt a b) : ¬ kEq a b := by unfold kLt kEq at *; omega
def FineR (l : List Rw) : Prop := l.Pairwise kLt
theorem FineR.nil : FineR [] := List.Pairwise.nil
theorem FineR.cons {x : Rw} {l : List Rw} : FineR (x :: l) ↔ (∀ y ∈ l, kLt x y) ∧ FineR l := List.pairwise_cons
theorem fine_eq : ∀ {a b : List Rw}, FineR a → FineR b → (∀ x, x ∈ a ↔ x ∈ b) → a = b
  | [], [], _, _, _ => rfl
  | [], y :: b, _, _, h => by have := (h y).2 (by simp); cases this
  | x :: a, [], _, _, h => by have := (h x).1 (by simp); cases this
  | x :: a, y :: b, ha, hb, h => by
    have ha' := FineR.cons.1 ha
    have hb' := FineR.cons.1 hb
    have e : x = y := by
      rcases List.mem_cons.1 ((h x).1 (by simp)) with e | h1
      · exact e
      · rcases List.mem_cons.1 ((h y).2 (by simp)) with e | h2
        · exact e.symm
        · exact absurd (kLt_trans (hb'.1 x h1) (ha'.1 y h2)) kLt_irr
    subst e
    rw [fine_eq ha'.2 hb'.2 fun z => ?_]
    have := h z
    simp only [List.mem_cons] at this
    constructor
    · intro hz
      rcases this.1 (.inr hz) with rfl | h1
      · exact absurd (ha'.1 z hz) kLt_irr
      · exact h1
    · intro hz
      rcases this.2 (.inr hz) with rfl | h1
      · exact absurd (hb'.1 z hz) kLt_irr
      · exact h1
theorem fine_mrg : ∀ {a b : List Rw}, FineR a → FineR b → (∀ x ∈ a, ∀ y ∈ b, ¬ kEq x y) → FineR (mrgC cfRw a b) ∧ ∀ z, z ∈ mrgC cfRw a b ↔ z ∈ a ∨ z ∈ b
  | [], b, _, hb, _ => by rw [mrgC_nil]; exact ⟨hb, fun z => by simp⟩
  | x :: a, [], ha, _, _ => by rw [mrgC_nil']; exact ⟨ha, fun z => by simp⟩
  | x :: a, y :: b, ha, hb, hd => by
    have ha' := FineR.cons.1 ha
    have hb' := FineR.cons.1 hb
    rw [mrgC_cons]
    have h0 : ¬ cfRw x y = 0 := fun h => hd x (by simp) y (by simp) (cfRw_zero.1 h)
    by_cases h1 : cfRw x y < 0
    · rw [if_pos h1]
      have h1' := cfRw_neg.1 h1
      obtain ⟨r1, r2⟩ := fine_mrg ha'.2 hb fun u hu v hv => hd u (by simp [hu]) v hv
      refine ⟨FineR.cons.2 ⟨fun z hz => ?_, r1⟩, fun z => ?_⟩
      · rcases (r2 z).1 hz with hz | hz
        · exact ha'.1 z hz
        · rcases List.mem_cons.1 hz with rfl | hz
          · exact h1'
          · exact kLt_trans h1' (hb'.1 z hz)
      · simp only [List.mem_cons, r2]
        constructor
        · rintro (h | h | h | h)
          · exact .inl (.inl h)
          · exact .inl (.inr h)
          · exact .inr (.inl h)
          · exact .inr (.inr h)
        · rintro ((h | h) | (h | h))
          · exact .inl h
          · exact .inr (.inl h)
          · exact .inr (.inr (.inl h))
          · exact .inr (.inr (.inr h))
    · rw [if_neg h1, if_neg h0]
      have h1' : kLt y x := by
        rcases kLt_tri x y with h | h | h
        · exact absurd (cfRw_neg.2 h) h1
        · exact absurd (cfRw_zero.2 h) h0
        · exact h
      obtain ⟨r1, r2⟩ := fine_mrg ha hb'.2 fun u hu v hv => hd u hu v (by simp [hv])
      refine ⟨FineR.cons.2 ⟨fun z hz => ?_, r1⟩, fun z => ?_⟩
      · rcases (r2 z).1 hz with hz | hz
        · rcases List.mem_cons.1 hz with rfl | hz
          · exact h1'
          · exact kLt_trans h1' (ha'.1 z hz)
        · exact hb'.1 z hz
      · simp only [List.mem_cons, r2]
        constructor
        · rintro (h | (h | h) | h)
          · exact .inr (.inl h)
          · exact .inl (.inl h)
          · exact .inl (.inr h)
          · exact .inr (.inr h)
        · rintro ((h | h) | (h | h))
          · exact .inr (.inl (.inl h))
          · exact .inr (.inl (.inr h))
          · exact .inl h
          · exact .inr (.inr h)
termination_by a b => a.length + b.length
def ownR (s : Srs) : List Rw := s.2.map fun p => (p.1, s.1, p.2)
theorem ownR_fine {s : Srs} (h : Ris s.2) : FineR (ownR s) := List.pairwise_map.2 (h.imp fun h => .inl h)
theorem ownR_mem {s : Srs} {x : Rw} : x ∈ ownR s ↔ x.2.1 = s.1 ∧ (x.1, x.2.2) ∈ s.2 := by
  unfold ownR
  rw [List.mem_map]
  constructor
  · rintro ⟨p, hp, rfl⟩; exact ⟨rfl, hp⟩
  · rintro ⟨h1, h2⟩; exact ⟨_, h2, by rw [← h1]⟩
def RowsOf (ss : List Srs) (l : List Rw) : Prop := FineR l ∧ ∀ x, x ∈ l ↔ ∃ s ∈ ss, x ∈ ownR s
theorem RowsOf.nil : RowsOf [] [] := ⟨FineR.nil, fun x => by simp⟩
theorem ids_take {ss : List Srs} (h : RightS ss) {k : Nat} {s : Srs} (hs : ss[k]? = some s) : ∀ t ∈ ss.take k, t.1 ≠ s.1 := fun t ht => by
  obtain ⟨i, hi⟩ := List.getElem?_of_mem ht
  rw [List.getElem?_take] at hi
  split at hi
  · rename_i hik
    obtain ⟨h1, rfl⟩ := List.getElem?_eq_some_iff.1 hi
    obtain ⟨h2, rfl⟩ := List.getElem?_eq_some_iff.1 hs
    have := List.pairwise_iff_getElem.1 h.1 i k h1 h2 hik
    omega
  · cases hi
theorem RowsOf.step {ss : List Srs} (h : RightS ss) {k : Nat} {s : Srs} (hs : ss[k]? = some s) {l : List Rw} (hl : RowsOf (ss.take k) l) : RowsOf (ss.take (k + 1)) (mrgC cfRw l (ownR s)) := by
  have hsr := (h.2 s (List.mem_of_getElem? hs)).2
  obtain ⟨r1, r2⟩ := fine_mrg hl.1 (ownR_fine hsr) fun x hx y hy hk => by
    obtain ⟨t, ht, hxt⟩ := (hl.2 x).1 hx
    have h1 := (ownR_mem.1 hxt).1
    have h2 := (ownR_mem.1 hy).1
    exact ids_take h hs t ht (by rw [← h1, ← h2]; exact hk.2)
  refine ⟨r1, fun x => ?_⟩
  rw [r2, hl.2, List.take_add_one, hs]
  constructor
  · rintro (⟨t, ht, hx⟩ | hx)
    · exact ⟨t, by simp [ht], hx⟩
    · exact ⟨s, by simp, hx⟩
  · rintro ⟨t, ht, hx⟩
    rcases List.mem_append.1 ht with ht | ht
    · exact .inl ⟨t, ht, hx⟩
    · simp at ht; subst ht; exact .inr hx
theorem valS_iff {ss : List Srs} (h : RightS ss) (x : Rw) : (∃ s ∈ ss, x ∈ ownR s) ↔ valS ss x.2.1 x.1 = some x.2.2 := by
  induction ss with
  | nil => simp [valS]
  | cons s ss ih =>
    obtain ⟨h1, h2, h3⟩ := RightS.cons.1 h
    rw [valS_cons]
    by_cases hi : s.1 = x.2.1
    · rw [if_pos hi]
      constructor
      · rintro ⟨t, ht, hx⟩
        have hx' := ownR_mem.1 hx
        rcases List.mem_cons.1 ht with rfl | ht
        · exact valQ_ris h2.2 hx'.2
        · have := h1 t ht; omega
      · intro hv
        exact ⟨s, by simp, ownR_mem.2 ⟨hi.symm, valQ_mem hv⟩⟩
    · rw [if_neg hi, ← ih h3]
      constructor
      · rintro ⟨t, ht, hx⟩
        rcases List.mem_cons.1 ht with rfl | ht
        · exact absurd (ownR_mem.1 hx).1.symm hi
        · exact ⟨t, ht, hx⟩
      · rintro ⟨t, ht, hx⟩
        exact ⟨t, by simp [ht], hx⟩
theorem RowsOf.eq {ss : List Srs} {l m : List Rw} (h : RowsOf ss l) (h' : RowsOf ss m) : l = m := fine_eq h.1 h'.1 fun x => by rw [h.2, h'.2]
theorem ofId_ris {rows : List Rw} (h : FineR rows) (id : Int) : Ris (ofId rows id) := by
  unfold ofId Ris
  refine List.pairwise_map.2 ?_
  have := (List.Pairwise.filter (fun x : Rw => decide (x.2.1 = id)) h)
  refine (List.Pairwise.and_mem.1 this).imp fun {x y} hxy => ?_
  obtain ⟨hx, hy, hk⟩ := hxy
  have h1 := of_decide_eq_true (List.mem_filter.1 hx).2
  have h2 := of_decide_eq_true (List.mem_filter.1 hy).2
  show x.1 < y.1
  unfold kLt at hk; omega
theorem ofId_mem {rows : List Rw} {x : Rw} : (x.1, x.2.2) ∈ ofId rows x.2.1 ↔ x ∈ rows := by
  unfold ofId
  rw [List.mem_map]
  constructor
  · rintro ⟨y, hy, e⟩
    have h1 := List.mem_filter.1 hy
    have h2 := of_decide_eq_true h1.2
    simp only [Prod.mk.injEq] at e
    have : y = x := Prod.ext e.1 (Prod.ext h2 e.2)
    rw [← this]; exact h1.1
  · intro h
    exact ⟨x, List.mem_filter.2 ⟨h, by simp⟩, rfl⟩
theorem rows_split {rows : List Rw} (h : FineR rows) : RowsOf (putR [] rows) rows := by
  obtain ⟨r1, r2⟩ := right_putR (rows := rows) RightS.nil
  refine ⟨h, fun x => ?_⟩
  rw [valS_iff r1, r2]
  have e : valS [] x.2.1 x.1 = none := rfl
  rw [e, Option.or_none]
  constructor
  · intro hx
    have hm := ofId_mem.2 hx
    cases hv : valQ (ofId rows x.2.1).reverse x.1 with
    | none => exact absurd rfl (valQ_none.1 hv (x.1, x.2.2) (by simpa using hm))
    | some v =>
      have h1 := valQ_mem hv
      rw [List.mem_reverse] at h1
      have h2 := valQ_ris (ofId_ris h x.2.1) h1
      have h3 := valQ_ris (ofId_ris h x.2.1) hm
      simp only at h2 h3
      rw [h2] at h3; exact h3
  · intro hv
    have h1 := valQ_mem hv
    rw [List.mem_reverse] at h1
    exact ofId_mem.1 h1
def rqR (x : Rw) (done : Bool) : List Rw → List Rw
  | [] => if done then [] else [x]
  | y :: l => (if done = false ∧ kLt x y then [x] else []) ++ y :: rqR x (if done = false ∧ kLt x y then true else done) l
theorem rqR_done {x : Rw} : ∀ l : List Rw, rqR x true l = l
  | [] => rfl
  | y :: l => by unfold rqR; rw [if_neg (by simp), if_neg (by simp), rqR_done l]; rfl
theorem rqR_fine {x : Rw} : ∀ {l : List Rw}, FineR l → (∀ y ∈ l, ¬ kEq x y) → FineR (rqR x false l) ∧ ∀ z, z ∈ rqR x false l ↔ z = x ∨ z ∈ l
  | [], _, _ => ⟨FineR.cons.2 ⟨by simp, FineR.nil⟩, fun z => by simp [rqR]⟩
  | y :: l, h, hd => by
    have h' := FineR.cons.1 h
    unfold rqR
    by_cases h1 : kLt x y
    · rw [if_pos ⟨rfl, h1⟩, if_pos ⟨rfl, h1⟩, rqR_done]
      refine ⟨FineR.cons.2 ⟨fun z hz => ?_, h⟩, fun z => by simp⟩
      rcases List.mem_cons.1 hz with rfl | hz
      · exact h1
      · exact kLt_trans h1 (h'.1 z hz)
    · rw [if_neg (fun hh => h1 hh.2), if_neg (fun hh => h1 hh.2)]
      have h2 : kLt y x := by
        rcases kLt_tri x y with h | h | h
        · exact absurd h h1
        · exact absurd h (hd y (by simp))
        · exact h
      obtain ⟨r1, r2⟩ := rqR_fine h'.2 fun z hz => hd z (by simp [hz])
      refine ⟨FineR.cons.2 ⟨fun z hz => ?_, r1⟩, fun z => ?_⟩
      · rcases (r2 z).1 hz with rfl | hz
        · exact h2
        · exact h'.1 z hz
      · simp only [List.nil_append, List.mem_cons, r2]
        constructor
        · rintro (h | h | h)
          · exact .inr (.inl h)
          · exact .inl h
          · exact .inr (.inr h)
        · rintro (h | h | h)
          · exact .inr (.inl h)
          · exact .inl h
          · exact .inr (.inr h)
def RowsTo (ss : List Srs) (k j : Nat) (l : List Rw) : Prop := FineR l ∧ ∀ x, x ∈ l ↔ (∃ s ∈ ss.take k, x ∈ ownR s) ∨ ∃ s, ss[k]? = some s ∧ x ∈ (ownR s).take j
theorem RowsTo.start {ss : List Srs} {k : Nat} {l : List Rw} (h : RowsOf (ss.take k) l) : RowsTo ss k 0 l := ⟨h.1, fun x => by rw [h.2]; simp⟩
theorem RowsTo.done {ss : List Srs} {k j : Nat} {l : List Rw} {s : Srs} (h : RowsTo ss k j l) (hs : ss[k]? = some s) (hj : s.2.length ≤ j) : RowsOf (ss.take (k + 1)) l := ⟨h.1, fun x => by
  rw [h.2, List.take_add_one, hs]
  have e : (ownR s).take j = ownR s := List.take_of_length_le (by unfold ownR; simpa using hj)
  constructor
  · rintro (⟨t, ht, hx⟩ | ⟨t, ht, hx⟩)
    · exact ⟨t, by simp [ht], hx⟩
    · cases ht
      rw [e] at hx
      exact ⟨s, by simp, hx⟩
  · rintro ⟨t, ht, hx⟩
    rcases List.mem_append.1 ht with ht | ht
    · exact .inl ⟨t, ht, hx⟩
    · simp at ht; subst ht
      exact .inr ⟨_, rfl, by rw [e]; exact hx⟩⟩
theorem RowsTo.step {ss : List Srs} (hr : RightS ss) {k j : Nat} {l : List Rw} {s : Srs} {p : Smp} (h : RowsTo ss k j l) (hs : ss[k]? = some s) (hp : s.2[j]? = some p) : RowsTo ss k (j + 1) (rqR (p.1, s.1, p.2) false l) := by
  have hsr := (hr.2 s (List.mem_of_getElem? hs)).2
  have hg : (ownR s)[j]? = some (p.1, s.1, p.2) := by unfold ownR; rw [List.getElem?_map, hp]; rfl
  obtain ⟨r1, r2⟩ := rqR_fine (x := (p.1, s.1, p.2)) h.1 fun y hy hk => by
    rcases (h.2 y).1 hy with ⟨t, ht, hx⟩ | ⟨t, ht, hx⟩
    · have h1 := (ownR_mem.1 hx).1
      exact ids_take hr hs t ht (by rw [← h1]; exact hk.2.symm)
    · rw [hs] at ht; cases ht
      obtain ⟨i, hi⟩ := List.getElem?_of_mem hx
      rw [List.getElem?_take] at hi
      split at hi
      · rename_i hij
        obtain ⟨h1, e1⟩ := List.getElem?_eq_some_iff.1 hi
        obtain ⟨h2, e2⟩ := List.getElem?_eq_some_iff.1 hg
        have := List.pairwise_iff_getElem.1 (ownR_fine hsr) i j h1 h2 hij
        rw [e1, e2] at this
        exact kLt_ne this ⟨hk.1.symm, hk.2.symm⟩
      · cases hi
  refine ⟨r1, fun x => ?_⟩
  rw [r2, h.2]
  constructor
  · rintro (rfl | hx | ⟨t, ht, hx⟩)
    · exact .inr ⟨s, hs, by rw [List.take_add_one, hg]; simp⟩
    · exact .inl hx
    · exact .inr ⟨t, ht, List.take_subset_take_left _ (Nat.le_succ j) hx⟩
  · rintro (hx | ⟨t, ht, hx⟩)
    · exact .inr (.inl hx)
    · rw [hs] at ht; cases ht
      rw [List.take_add_one, hg] at hx
      rcases List.mem_append.1 hx with hx | hx
      · exact .inr (.inr ⟨s, hs, hx⟩)
      · simp at hx; exact .inl hx
def SetR (x : Rw) (there : Bool) (M W : List Rw) : Prop := FineR M ∧ FineR W ∧ (∀ z, ¬ kEq z x → (z ∈ M ↔ z ∈ W)) ∧ (∀ z ∈ M, kEq z x → z = x) ∧
  (there = true → (∀ z ∈ M, ¬ kEq z x) ∧ ∀ z ∈ W, ¬ kEq z x) ∧ (there = false → x ∈ M)
theorem SetR.hit {x : Rw} {there : Bool} {M W : List Rw} {z : Rw} (h : SetR x there (z :: M) W) (hz : kEq z x) : z = x ∧ ∃ W', SetR x true M W' ∧ ((∃ w, W = w :: W' ∧ kEq w x) ∨ (W' = W ∧ ∀ w, W.head? = some w → ¬ kEq w x)) := by
  obtain ⟨h1, h2, h3, h4, h5, h6⟩ := h
  have h1' := FineR.cons.1 h1
  have hzx := h4 z (by simp) hz
  have hMn : ∀ y ∈ M, ¬ kEq y x := fun y hy hk => by
    have := h4 y (by simp [hy]) hk
    rw [this, ← hzx] at hy
    exact kLt_irr (h1'.1 z hy)
  refine ⟨hzx, ?_⟩
  have rest : ∀ {W'}, FineR W' → (∀ y ∈ W', ¬ kEq y x) → (∀ y, ¬ kEq y x → (y ∈ W' ↔ y ∈ W)) → SetR x true M W' := fun g1 g2 g3 =>
    ⟨h1'.2, g1, fun y hy => by
      rw [g3 y hy, ← h3 y hy]
      constructor
      · intro h; simp [h]
      · intro h
        rcases List.mem_cons.1 h with rfl | h
        · exact absurd hz hy
        · exact h, fun y hy hk => absurd hk (hMn y hy), fun _ => ⟨hMn, g2⟩, fun h => by cases h⟩
  cases W with
  | nil => exact ⟨[], rest FineR.nil (by simp) (by simp), .inr ⟨rfl, by simp⟩⟩
  | cons w W =>
    have h2' := FineR.cons.1 h2
    by_cases hw : kEq w x
    · refine ⟨W, rest h2'.2 (fun y hy hk => ?_) (fun y hy => ?_), .inl ⟨w, rfl, hw⟩⟩
      · exact kLt_ne (h2'.1 y hy) ⟨by rw [hw.1, hk.1], by rw [hw.2, hk.2]⟩
      · constructor
        · intro h; simp [h]
        · intro h
          rcases List.mem_cons.1 h with rfl | h
          · exact absurd hw hy
          · exact h
    · refine ⟨w :: W, rest h2 (fun y hy hk => ?_) (fun _ _ => Iff.rfl), .inr ⟨rfl, fun y hy => by simp at hy; subst hy; exact hw⟩⟩
      rcases List.mem_cons.1 hy with rfl | hy
      · exact hw hk
      · have hwm := (h3 w hw).2 (by simp)
        rcases List.mem_cons.1 hwm with e | hwm
        · exact hw (e ▸ hz)
        · have g1 := h1'.1 w hwm
          have g2 := h2'.1 y hy
          have g3 := kLt_trans g1 g2
          exact kLt_ne g3 ⟨by rw [hz.1, hk.1], by rw [hz.2, hk.2]⟩
theorem SetR.fin {x : Rw} {there : Bool} {W : List Rw} (h : SetR x there [] W) : there = true ∧ W = [] := by
  obtain ⟨h1, h2, h3, h4, h5, h6⟩ := h
  cases there with
  | false => exact absurd (h6 rfl) (by simp)
  | true =>
    refine ⟨rfl, ?_⟩
    cases W with
    | nil => rfl
    | cons w W => exact absurd ((h3 w ((h5 rfl).2 w (by simp))).2 (by simp)) (by simp)

def rAt (l : List Rw) (i : Nat) : Rw := l[i]?.getD (0, 0, 0)
def rT (l : List Rw) (i : Nat) : Int := (rAt l i).1
def firstC (c : List Rw) : Int := rT c 0
def lastC (c : List Rw) : Int := rT c (c.length - 1)
def rowB (c : List Rw) (i : Nat) : List UInt8 := uintL (rT c i - rT c (i - 1)).toNat ++ (uintL (rAt c i).2.1.toNat ++ intL (rAt c i).2.2)
def blkTo (c : List Rw) (j : Nat) : List UInt8 := (List.range j).flatMap (rowB c)
def blkR (c : List Rw) : List UInt8 := blkTo c c.length
def hdR (c : List Rw) : List UInt8 := uintL (firstC c).toNat ++ (uintL (lastC c - firstC c).toNat ++ uintL (blkR c).length)
def chR (l : List Rw) (i : Nat) : List Rw := (l.drop (16 * i)).take 16
def nC (n : Nat) : Nat := (n + 15) / 16
def hdsR (l : List Rw) (m : Nat) : List UInt8 := (List.range m).flatMap fun i => hdR (chR l i)
def bdsR (l : List Rw) (m : Nat) : List UInt8 := (List.range m).flatMap fun i => blkR (chR l i)
def encR (l : List Rw) : List UInt8 := uintL l.length ++ (hdsR l (nC l.length) ++ bdsR l (nC l.length))
structure RowsP (l : List Rw) : Prop where
  len : l.length ≤ 5000
  fine : FineR l
  lo : ∀ x ∈ l, (0 ≤ x.1 ∧ x.1 < 1099511627776) ∧ (0 ≤ x.2.1 ∧ x.2.1 < 200) ∧ I64 x.2.2
theorem rAt_get {l : List Rw} {i : Nat} (h : i < l.length) : l[i]? = some (rAt l i) := by
  unfold rAt; rw [List.getElem?_eq_getElem h]; rfl
theorem rAt_of {l : List Rw} {i : Nat} {x : Rw} (h : l[i]? = some x) : rAt l i = x := by unfold rAt; rw [h]; rfl
theorem RowsP.at {l : List Rw} (h : RowsP l) {i : Nat} (hi : i < l.length) : (0 ≤ rT l i ∧ rT l i < 1099511627776) ∧ (0 ≤ (rAt l i).2.1 ∧ (rAt l i).2.1 < 200) ∧ I64 (rAt l i).2.2 := h.lo _ (List.mem_of_getElem? (rAt_get hi))
theorem FineR.at {l : List Rw} (h : FineR l) {i j : Nat} (hij : i < j) (hj : j < l.length) : kLt (rAt l i) (rAt l j) := by
  have := (List.pairwise_iff_getElem.1 h) i j (by omega) hj hij
  have h1 := rAt_get (l := l) (i := i) (by omega)
  have h2 := rAt_get hj
  rw [List.getElem?_eq_getElem (by omega)] at h1 h2
  rw [← Option.some.inj h1, ← Option.some.inj h2]
  exact this
theorem FineR.mono {l : List Rw} (h : FineR l) {i j : Nat} (hij : i ≤ j) (hj : j < l.length) : rT l i ≤ rT l j := by
  by_cases e : i = j
  · subst e; exact Int.le_refl _
  · have := h.at (i := i) (j := j) (by omega) hj
    unfold kLt at this
    unfold rT
    omega
theorem chR_get (l : List Rw) (i k : Nat) : (chR l i)[k]? = if k < 16 then l[16 * i + k]? else none := by
  unfold chR
  rw [List.getElem?_take]
  split
  · rw [List.getElem?_drop]
  · rfl
theorem chR_len (l : List Rw) (i : Nat) : (chR l i).length = min (l.length - 16 * i) 16 := by
  unfold chR; rw [List.length_take, List.length_drop]; omega
theorem chR_at (l : List Rw) {i k : Nat} (hk : k < 16) : rAt (chR l i) k = rAt l (16 * i + k) := by
  unfold rAt; rw [chR_get, if_pos hk]
theorem RowsP.ch {l : List Rw} (h : RowsP l) (i : Nat) : RowsP (chR l i) := by
  refine ⟨by rw [chR_len]; omega, ?_, fun x hx => h.lo x (List.mem_of_mem_drop (List.mem_of_mem_take hx))⟩
  exact h.fine.sublist ((List.take_sublist _ _).trans (List.drop_sublist _ _))
theorem RowsP.first_last {c : List Rw} (h : RowsP c) (hc : c ≠ []) : 0 ≤ firstC c ∧ firstC c ≤ lastC c ∧ lastC c < 1099511627776 := by
  have hl : 0 < c.length := List.length_pos_iff.2 hc
  exact ⟨(h.at hl).1.1, h.fine.mono (by omega) (by omega), (h.at (i := c.length - 1) (by omega)).1.2⟩
theorem RowsP.next {l : List Rw} (h : RowsP l) {j : Nat} (h0 : 0 < j) (hj : 16 * j < l.length) : lastC (chR l (j - 1)) ≤ firstC (chR l j) := by
  unfold lastC firstC rT
  rw [chR_at l (by rw [chR_len]; omega), chR_at l (by omega)]
  exact h.fine.mono (i := 16 * (j - 1) + ((chR l (j - 1)).length - 1)) (j := 16 * j + 0) (by rw [chR_len]; omega) (by omega)
theorem blkTo_succ (c : List Rw) (j : Nat) : blkTo c (j + 1) = blkTo c j ++ rowB c j := by
  unfold blkTo; rw [List.range_succ, List.flatMap_append]; simp
theorem hdsR_succ (l : List Rw) (m : Nat) : hdsR l (m + 1) = hdsR l m ++ hdR (chR l m) := by
  unfold hdsR; rw [List.range_succ, List.flatMap_append]; simp
theorem bdsR_succ (l : List Rw) (m : Nat) : bdsR l (m + 1) = bdsR l m ++ blkR (chR l m) := by
  unfold bdsR; rw [List.range_succ, List.flatMap_append]; simp
theorem rng_split {α : Type} (f : Nat → List α) {i m : Nat} (h : i < m) : ∃ r, (List.range m).flatMap f = (List.range i).flatMap f ++ (f i ++ r) := by
  induction m with
  | zero => omega
  | succ m ih =>
    rw [List.range_succ, List.flatMap_append]
    by_cases e : i = m
    · subst e; exact ⟨[], by simp⟩
    · obtain ⟨r, hr⟩ := ih (by omega)
      exact ⟨r ++ f m, by rw [hr]; simp⟩
theorem rowB_len {c : List Rw} (h : RowsP c) {i : Nat} (hi : i < c.length) : (rowB c i).length ≤ 30 := by
  unfold rowB
  rw [List.length_append, List.length_append]
  have h1 := h.at hi
  have h2 := (h.at (i := i - 1) (by omega)).1
  have u1 := uintL_len10 (n := (rT c i - rT c (i - 1)).toNat) (by omega)
  have u2 := uintL_len10 (n := (rAt c i).2.1.toNat) (by omega)
  have u3 := uintL_len10 (foldN_lt h1.2.2)
  unfold intL; omega
theorem blkTo_len {c : List Rw} (h : RowsP c) {j : Nat} (hj : j ≤ c.length) : (blkTo c j).length ≤ 30 * j := by
  induction j with
  | zero => simp [blkTo]
  | succ j ih =>
    rw [blkTo_succ, List.length_append]
    have := rowB_len h (i := j) (by omega)
    have := ih (by omega)
    omega
theorem blkR_len {c : List Rw} (h : RowsP c) (hc : c.length ≤ 16) : (blkR c).length ≤ 480 := by
  have := blkTo_len h (Nat.le_refl c.length)
  unfold blkR; omega
theorem ch_ne {l : List Rw} {i : Nat} (h : 16 * i < l.length) : chR l i ≠ [] := by
  intro e
  have := chR_len l i
  rw [e] at this; simp at this; omega
theorem hdR_len {c : List Rw} (h : RowsP c) (hne : c ≠ []) (hc : c.length ≤ 16) : (hdR c).length ≤ 30 := by
  unfold hdR
  rw [List.length_append, List.length_append]
  have h1 := h.first_last hne
  have h2 := blkR_len h hc
  have u1 := uintL_len10 (n := (firstC c).toNat) (by omega)
  have u2 := uintL_len10 (n := (lastC c - firstC c).toNat) (by omega)
  have u3 := uintL_len10 (n := (blkR c).length) (by omega)
  omega
theorem hdsR_len {l : List Rw} (h : RowsP l) {m : Nat} (hm : 16 * m < l.length + 16) : (hdsR l m).length ≤ 30 * m := by
  induction m with
  | zero => simp [hdsR]
  | succ m ih =>
    rw [hdsR_succ, List.length_append]
    have := hdR_len (h.ch m) (ch_ne (by omega)) (by rw [chR_len]; omega)
    have := ih (by omega)
    omega
theorem bdsR_len {l : List Rw} (h : RowsP l) (m : Nat) : (bdsR l m).length ≤ 480 * m := by
  induction m with
  | zero => simp [bdsR]
  | succ m ih =>
    rw [bdsR_succ, List.length_append]
    have := blkR_len (h.ch m) (by rw [chR_len]; omega)
    omega
theorem nC_le {n : Nat} (h : n ≤ 5000) : nC n ≤ 313 := by unfold nC; omega
theorem all_ch (l : List Rw) : (List.range (nC l.length)).flatMap (chR l) = l := by
  have key : ∀ m, (List.range m).flatMap (chR l) = l.take (16 * m) := by
    intro m
    induction m with
    | zero => simp
    | succ m ih =>
      rw [List.range_succ, List.flatMap_append, ih]
      simp only [List.flatMap_cons, List.flatMap_nil, List.append_nil]
      unfold chR
      rw [show 16 * (m + 1) = 16 * m + 16 by omega, List.take_add]
  rw [key, List.take_of_length_le (by unfold nC; omega)]
def inRw (f t : Int) (x : Rw) : Bool := decide (f ≤ x.1) && decide (x.1 < t)
theorem ch_out {c : List Rw} (h : RowsP c) (f t : Int) (hn : ¬ (max (firstC c) f < min (lastC c + 1) t)) : c.filter (inRw f t) = [] := by
  rw [List.filter_eq_nil_iff]
  intro x hx hi
  obtain ⟨i, hi'⟩ := List.mem_iff_getElem?.1 hx
  have hlt := (List.getElem?_eq_some_iff.1 hi').1
  have h1 := h.fine.mono (i := 0) (j := i) (by omega) hlt
  have h2 := h.fine.mono (i := i) (j := c.length - 1) (by omega) (by omega)
  have e : rT c i = x.1 := by unfold rT; rw [rAt_of hi']
  unfold inRw at hi
  simp only [Bool.and_eq_true, decide_eq_true_eq] at hi
  unfold firstC lastC at hn
  omega
theorem filter_allR {l : List Rw} (h : RowsP l) : l.filter (inRw 0 1099511627776) = l := by
  rw [List.filter_eq_self]
  intro x hx
  have := (h.lo x hx).1
  unfold inRw
  simp; omega

theorem rw_ext {a b : Rw} (h1 : a.1 = b.1) (h2 : a.2.1 = b.2.1) (h3 : a.2.2 = b.2.2) : a = b := Prod.ext h1 (Prod.ext h2 h3)
theorem blk_inj {c d : List Rw} (hc : RowsP c) (hd : RowsP d) (hl : c.length = d.length) (hf : firstC c = firstC d) (h : blkR c = blkR d) : c = d := by
  have key : ∀ j, j ≤ c.length → (∀ i, i < j → rAt c i = rAt d i) ∧ blkTo c j = blkTo d j := by
    intro j
    induction j with
    | zero => exact fun _ => ⟨fun i h => by omega, rfl⟩
    | succ j ih =>
      intro hj
      obtain ⟨h1, h2⟩ := ih (by omega)
      obtain ⟨r, hr⟩ := rng_split (rowB c) (i := j) (m := c.length) (by omega)
      obtain ⟨q, hq⟩ := rng_split (rowB d) (i := j) (m := d.length) (by omega)
      have hr : blkR c = blkTo c j ++ (rowB c j ++ r) := hr
      have hq : blkR d = blkTo d j ++ (rowB d j ++ q) := hq
      rw [hr, hq, h2] at h
      have h := List.append_cancel_left h
      have h3 := h
      unfold rowB intL at h3
      simp only [List.append_assoc] at h3
      obtain ⟨e1, h3⟩ := uint_eq h3
      obtain ⟨e2, h3⟩ := uint_eq h3
      obtain ⟨e3, h3⟩ := uint_eq h3
      have ac := hc.at (i := j) (by omega)
      have ad := hd.at (i := j) (by omega)
      have mc := hc.fine.mono (i := j - 1) (j := j) (by omega) (by omega)
      have md := hd.fine.mono (i := j - 1) (j := j) (by omega) (by omega)
      have ep : rT c (j - 1) = rT d (j - 1) := by
        by_cases h0 : j = 0
        · subst h0; exact hf
        · unfold rT; rw [h1 (j - 1) (by omega)]
      have e4 : foldN (rAt c j).2.2 = foldN (rAt d j).2.2 := e3
      have : rAt c j = rAt d j := by
        refine rw_ext ?_ (by omega) (by rw [← unfold_fold (rAt c j).2.2, e4, unfold_fold])
        show rT c j = rT d j
        omega
      refine ⟨fun i hi => ?_, ?_⟩
      · by_cases e : i = j
        · subst e; exact this
        · exact h1 i (by omega)
      · have e1' : rT c j = rT d j := by unfold rT; rw [this]
        rw [blkTo_succ, blkTo_succ, h2]
        unfold rowB
        rw [e1', ep, this]
  refine List.ext_getElem? fun i => ?_
  by_cases hi : i < c.length
  · rw [rAt_get hi, rAt_get (by omega), (key c.length (Nat.le_refl _)).1 i hi]
  · rw [List.getElem?_eq_none (by omega), List.getElem?_eq_none (by omega)]
theorem encR_inj {l m : List Rw} (hl : RowsP l) (hm : RowsP m) (h : encR l = encR m) : l = m := by
  unfold encR at h
  obtain ⟨hlen, h⟩ := uint_eq h
  rw [← hlen] at h
  generalize hn : nC l.length = n at *
  have hch : ∀ i, i < n → 16 * i < l.length := fun i hi => by rw [← hn] at hi; unfold nC at hi; omega
  have heads : ∀ j, j ≤ n → (∀ i, i < j → firstC (chR l i) = firstC (chR m i) ∧ (blkR (chR l i)).length = (blkR (chR m i)).length) ∧ hdsR l j = hdsR m j := by
    intro j
    induction j with
    | zero => exact fun _ => ⟨fun i h => by omega, rfl⟩
    | succ j ih =>
      intro hj
      obtain ⟨h1, h2⟩ := ih (by omega)
      obtain ⟨r, hr⟩ := rng_split (fun i => hdR (chR l i)) (i := j) (m := n) (by omega)
      obtain ⟨q, hq⟩ := rng_split (fun i => hdR (chR m i)) (i := j) (m := n) (by omega)
      have hr : hdsR l n = hdsR l j ++ (hdR (chR l j) ++ r) := hr
      have hq : hdsR m n = hdsR m j ++ (hdR (chR m j) ++ q) := hq
      rw [hr, hq, h2] at h
      simp only [List.append_assoc] at h
      have h3 := List.append_cancel_left h
      unfold hdR at h3
      simp only [List.append_assoc] at h3
      obtain ⟨e1, h3⟩ := uint_eq h3
      obtain ⟨e2, h3⟩ := uint_eq h3
      obtain ⟨e3, h3⟩ := uint_eq h3
      have f1 := (hl.ch j).first_last (ch_ne (hch j (by omega)))
      have f2 := (hm.ch j).first_last (ch_ne (by rw [← hlen]; exact hch j (by omega)))
      refine ⟨fun i hi => ?_, ?_⟩
      · by_cases e : i = j
        · subst e; exact ⟨by omega, e3⟩
        · exact h1 i (by omega)
      · rw [hdsR_succ, hdsR_succ, h2]
        unfold hdR
        rw [e1, e2, e3]
  have hh := heads n (Nat.le_refl _)
  rw [hh.2] at h
  have hb := List.append_cancel_left h
  have bodies : ∀ j, j ≤ n → (∀ i, i < j → blkR (chR l i) = blkR (chR m i)) ∧ bdsR l j = bdsR m j := by
    intro j
    induction j with
    | zero => exact fun _ => ⟨fun i h => by omega, rfl⟩
    | succ j ih =>
      intro hj
      obtain ⟨h1, h2⟩ := ih (by omega)
      obtain ⟨r, hr⟩ := rng_split (fun i => blkR (chR l i)) (i := j) (m := n) (by omega)
      obtain ⟨q, hq⟩ := rng_split (fun i => blkR (chR m i)) (i := j) (m := n) (by omega)
      have hr : bdsR l n = bdsR l j ++ (blkR (chR l j) ++ r) := hr
      have hq : bdsR m n = bdsR m j ++ (blkR (chR m j) ++ q) := hq
      rw [hr, hq, h2] at hb
      have h3 := List.append_cancel_left hb
      have e := (List.append_inj h3 (hh.1 j (by omega)).2).1
      refine ⟨fun i hi => ?_, by rw [bdsR_succ, bdsR_succ, h2, e]⟩
      by_cases e' : i = j
      · subst e'; exact e
      · exact h1 i (by omega)
  have chs : ∀ i, i < n → chR l i = chR m i := fun i hi =>
    blk_inj (hl.ch i) (hm.ch i) (by rw [chR_len, chR_len, hlen]) (hh.1 i hi).1 ((bodies n (Nat.le_refl _)).1 i hi)
  rw [← all_ch l, ← all_ch m, ← hlen, hn]
  have : ∀ n', n' ≤ n → (List.range n').flatMap (chR l) = (List.range n').flatMap (chR m) := by
    intro n'
    induction n' with
    | zero => exact fun _ => rfl
    | succ k ih =>
      intro hk
      rw [List.range_succ, List.flatMap_append, List.flatMap_append, ih (by omega)]
      simp [chs k (by omega)]
  exact this n (Nat.le_refl _)

structure MajP (ss : List Srs) : Prop where
  right : RightS ss
  lo : ∀ s ∈ ss, (0 ≤ s.1 ∧ s.1 < 200) ∧ SmpP s.2
def tblM (ss : List Srs) : List UInt8 := ss.flatMap fun s => uintL s.1.toNat ++ uintL (encD s.2).length
def bdyM (ss : List Srs) : List UInt8 := ss.flatMap fun s => encD s.2
def encM (ss : List Srs) : List UInt8 := uintL ss.length ++ (tblM ss ++ bdyM ss)
theorem rise_len {l : List Int} (hp : l.Pairwise (· < ·)) {a b : Int} (h : ∀ x ∈ l, a ≤ x ∧ x < b) : l.length ≤ (b - a).toNat := by
  induction l generalizing a with
  | nil => simp
  | cons x l ih =>
    have h1 := h x (by simp)
    have := ih (List.pairwise_cons.1 hp).2 (a := x + 1) fun y hy => ⟨by have := (List.pairwise_cons.1 hp).1 y hy; omega, (h y (by simp [hy])).2⟩
    rw [List.length_cons]; omega
theorem MajP.len {ss : List Srs} (h : MajP ss) : ss.length ≤ 200 := by
  have := rise_len (l := ss.map (·.1)) (a := 0) (b := 200) (by rw [List.pairwise_map]; exact h.right.1) fun x hx => by
    obtain ⟨s, hs, rfl⟩ := List.mem_map.1 hx
    exact (h.lo s hs).1
  simpa using this
theorem tailL_len (l : List Smp) : (tailL l).length ≤ 2 + 176 * l.length := by
  unfold tailL
  split
  · simp
  · rw [List.length_cons, List.length_cons]
    have h1 := pack_len (bitsTo l (bestN (tsL l)) (bestN (vsL l)) (l.length - 1))
    have h2 := bitsTo_len l (bestN_le (tsL l)) (bestN_le (vsL l)) (l.length - 1)
    omega
theorem encD_len {l : List Smp} (h : SmpP l) : (encD l).length ≤ 1000000 := by
  unfold encD
  rw [List.length_append, List.length_append]
  have h1 := uintL_len10 (n := l.length) (by have := h.len; omega)
  have h2 := headL_len h
  have h3 := tailL_len l
  have := h.len
  omega
theorem bdyM_len {ss : List Srs} (h : ∀ s ∈ ss, SmpP s.2) : (bdyM ss).length ≤ 1000000 * ss.length := by
  induction ss with
  | nil => simp [bdyM]
  | cons s ss ih =>
    unfold bdyM at ih ⊢
    rw [List.flatMap_cons, List.length_append, List.length_cons]
    have := encD_len (h s (by simp))
    have := ih fun x hx => h x (by simp [hx])
    omega
theorem tblM_len {ss : List Srs} (h : ∀ s ∈ ss, (0 ≤ s.1 ∧ s.1 < 200) ∧ SmpP s.2) : (tblM ss).length ≤ 20 * ss.length := by
  induction ss with
  | nil => simp [tblM]
  | cons s ss ih =>
    unfold tblM at ih ⊢
    rw [List.flatMap_cons, List.length_append, List.length_append, List.length_cons]
    have h0 := h s (by simp)
    have h1 := uintL_len10 (n := s.1.toNat) (by omega)
    have h2 := uintL_len10 (n := (encD s.2).length) (by have := encD_len h0.2; omega)
    have := ih fun x hx => h x (by simp [hx])
    omega
theorem tblM_snoc (ss : List Srs) (s : Srs) : tblM (ss ++ [s]) = tblM ss ++ (uintL s.1.toNat ++ uintL (encD s.2).length) := by unfold tblM; rw [List.flatMap_append]; simp
theorem bdyM_snoc (ss : List Srs) (s : Srs) : bdyM (ss ++ [s]) = bdyM ss ++ encD s.2 := by unfold bdyM; rw [List.flatMap_append]; simp
abbrev Z := Nat × Nat
def tabL (zs : List Z) : List UInt8 := zs.flatMap fun z => uintL z.1 ++ uintL z.2
def sumZ (zs : List Z) : Nat := (zs.map (·.2)).sum
structure TabP (s : ByteArray) (zs : List Z) : Prop where
  rise : zs.Pairwise fun a b => a.1 < b.1
  lo : ∀ z ∈ zs, z.1 < 200
  s : ∃ r, bl s = uintL zs.length ++ (tabL zs ++ r) ∧ r.length = sumZ zs
theorem TabP.len {s : ByteArray} {zs : List Z} (h : TabP s zs) : zs.length ≤ 200 := by
  have := rise_len (l := zs.map fun z => (z.1 : Int)) (a := 0) (b := 200) (by rw [List.pairwise_map]; exact h.rise.imp fun h => by omega) fun x hx => by
    obtain ⟨z, hz, rfl⟩ := List.mem_map.1 hx
    have := h.lo z hz
    omega
  simpa using this
theorem tabL_snoc (zs : List Z) (z : Z) : tabL (zs ++ [z]) = tabL zs ++ (uintL z.1 ++ uintL z.2) := by unfold tabL; rw [List.flatMap_append]; simp
theorem tabL_cons (z : Z) (zs : List Z) : tabL (z :: zs) = uintL z.1 ++ (uintL z.2 ++ tabL zs) := by unfold tabL; rw [List.flatMap_cons]; simp
theorem tabL_app (a b : List Z) : tabL (a ++ b) = tabL a ++ tabL b := by unfold tabL; rw [List.flatMap_append]
theorem sumZ_snoc (zs : List Z) (z : Z) : sumZ (zs ++ [z]) = sumZ zs + z.2 := by unfold sumZ; simp
theorem sumZ_app (a b : List Z) : sumZ (a ++ b) = sumZ a + sumZ b := by unfold sumZ; simp
theorem tabL_inj : ∀ {a b : List Z} {x y : List UInt8}, a.length = b.length → tabL a ++ x = tabL b ++ y → a = b ∧ x = y
  | [], [], _, _, _, h => ⟨rfl, h⟩
  | [], _ :: _, _, _, hl, _ => by simp at hl
  | _ :: _, [], _, _, hl, _ => by simp at hl
  | z :: a, w :: b, x, y, hl, h => by
    rw [tabL_cons, tabL_cons] at h
    simp only [List.append_assoc] at h
    obtain ⟨e1, h⟩ := uint_eq h
    obtain ⟨e2, h⟩ := uint_eq h
    obtain ⟨e3, e4⟩ := tabL_inj (by simpa using hl) h
    exact ⟨by rw [e3, Prod.ext e1 e2], e4⟩
theorem TabP.uniq {s : ByteArray} {zs zs' : List Z} (h : TabP s zs) (h' : TabP s zs') : zs = zs' := by
  obtain ⟨r, h1, _⟩ := h.s
  obtain ⟨r', h2, _⟩ := h'.s
  rw [h1] at h2
  obtain ⟨e1, h2⟩ := uint_eq h2
  exact (tabL_inj e1 h2).1
def zsM (ss : List Srs) : List Z := ss.map fun s => (s.1.toNat, (encD s.2).length)
theorem tabL_zsM (ss : List Srs) : tabL (zsM ss) = tblM ss := by
  unfold tabL zsM tblM
  rw [List.flatMap_map]
theorem sumZ_zsM (ss : List Srs) : sumZ (zsM ss) = (bdyM ss).length := by
  unfold sumZ zsM bdyM
  rw [List.length_flatMap, List.map_map]; rfl
theorem MajP.tab {ss : List Srs} {s : ByteArray} (h : MajP ss) (hs : bl s = encM ss) : TabP s (zsM ss) := by
  refine ⟨?_, fun z hz => ?_, bdyM ss, ?_, (sumZ_zsM ss).symm⟩
  · unfold zsM
    rw [List.pairwise_map]
    refine List.Pairwise.imp_of_mem (fun ha hb hlt => ?_) h.right.1
    have := (h.lo _ ha).1
    have := (h.lo _ hb).1
    simp only
    omega
  · unfold zsM at hz
    obtain ⟨x, hx, rfl⟩ := List.mem_map.1 hz
    have := (h.lo x hx).1
    simp only
    omega
  · rw [hs, tabL_zsM]
    unfold encM
    rw [show (zsM ss).length = ss.length by simp [zsM]]
def posZ (zs : List Z) : Nat := (uintL zs.length).length + (tabL zs).length
def offZ (zs : List Z) (i : Nat) : Nat := sumZ (zs.take i)
theorem offZ_succ {zs : List Z} {i : Nat} {z : Z} (h : zs[i]? = some z) : offZ zs (i + 1) = offZ zs i + z.2 := by
  unfold offZ; rw [List.take_add_one, h]; exact sumZ_snoc _ _
theorem offZ_le (zs : List Z) (i : Nat) : offZ zs i ≤ sumZ zs := by
  have := sumZ_app (zs.take i) (zs.drop i)
  rw [List.take_append_drop] at this
  unfold offZ; omega
theorem TabP.size {s : ByteArray} {zs : List Z} (h : TabP s zs) : posZ zs + sumZ zs = s.size := by
  obtain ⟨r, h1, h2⟩ := h.s
  have := congrArg List.length h1
  rw [bl_len, List.length_append, List.length_append] at this
  unfold posZ; omega
theorem TabP.drop {s : ByteArray} {zs : List Z} (h : TabP s zs) : ∃ r, (bl s).drop (posZ zs) = r ∧ r.length = sumZ zs ∧ bl s = uintL zs.length ++ (tabL zs ++ r) := by
  obtain ⟨r, h1, h2⟩ := h.s
  refine ⟨r, ?_, h2, h1⟩
  have := drop_pre (l := bl s) (k := 0) (x := uintL zs.length) (y := tabL zs ++ r) (by rw [List.drop_zero]; exact h1)
  have := drop_pre this
  unfold posZ
  rwa [Nat.zero_add] at this
def pieceZ (s : ByteArray) (zs : List Z) (i : Nat) : ByteArray := s.extract (posZ zs + offZ zs i) (posZ zs + offZ zs (i + 1))
theorem bl_piece {s : ByteArray} {zs : List Z} {i : Nat} {z : Z} (h : zs[i]? = some z) : bl (pieceZ s zs i) = (((bl s).drop (posZ zs)).drop (offZ zs i)).take z.2 := by
  unfold pieceZ
  rw [bl_ext, offZ_succ h, List.drop_take, List.drop_drop, show posZ zs + (offZ zs i + z.2) - (posZ zs + offZ zs i) = z.2 by omega]
theorem bdyM_piece : ∀ {ss : List Srs} {i : Nat} {x : Srs}, ss[i]? = some x → ((bdyM ss).drop (offZ (zsM ss) i)).take (encD x.2).length = encD x.2
  | [], _, _, h => by simp at h
  | y :: ss, 0, x, h => by
    simp at h; subst h
    unfold bdyM
    rw [List.flatMap_cons]
    have : offZ (zsM (y :: ss)) 0 = 0 := by simp [offZ, sumZ]
    rw [this, List.drop_zero, List.take_left]
  | y :: ss, i + 1, x, h => by
    have ih := bdyM_piece (ss := ss) (i := i) (by simpa using h)
    have e : offZ (zsM (y :: ss)) (i + 1) = (encD y.2).length + offZ (zsM ss) i := by simp [offZ, zsM, sumZ]
    have e2 : bdyM (y :: ss) = encD y.2 ++ bdyM ss := by unfold bdyM; rw [List.flatMap_cons]
    rw [e, e2, ← List.drop_drop, List.drop_left]
    exact ih
theorem MajP.piece {ss : List Srs} {s : ByteArray} (h : MajP ss) (hs : bl s = encM ss) {i : Nat} {x : Srs} (hx : ss[i]? = some x) : bl (pieceZ s (zsM ss) i) = encD x.2 := by
  have hz : (zsM ss)[i]? = some (x.1.toNat, (encD x.2).length) := by unfold zsM; rw [List.getElem?_map, hx]; rfl
  rw [bl_piece hz]
  obtain ⟨r, h1, h2, h3⟩ := (h.tab hs).drop
  have : r = bdyM ss := by
    rw [hs] at h3
    unfold encM at h3
    rw [tabL_zsM, show (zsM ss).length = ss.length by simp [zsM]] at h3
    exact (List.append_cancel_left (List.append_cancel_left h3)).symm
  rw [h1, this]
  exact bdyM_piece hx
theorem encM_of {s : ByteArray} {zs : List Z} {ss : List Srs} (h : TabP s zs) (hl : ss.length = zs.length) (hss : ∀ i z x, zs[i]? = some z → ss[i]? = some x → x.1 = z.1 ∧ bl (pieceZ s zs i) = encD x.2) : bl s = encM ss := by
  obtain ⟨r, h1, h2, h3⟩ := h.drop
  have hz : ∀ i z, zs[i]? = some z → (((r.drop (offZ zs i)).take z.2).length = z.2) := fun i z hz => by
    have a1 := offZ_succ hz
    have a2 := offZ_le zs (i + 1)
    rw [List.length_take, List.length_drop]
    omega
  have key : ∀ j, j ≤ zs.length → zs.take j = zsM (ss.take j) ∧ r.take (offZ zs j) = bdyM (ss.take j) := by
    intro j
    induction j with
    | zero => exact fun _ => ⟨rfl, by simp [offZ, sumZ, bdyM]⟩
    | succ j ih =>
      intro hj
      obtain ⟨i1, i2⟩ := ih (by omega)
      have g1 := List.getElem?_eq_getElem (l := zs) (i := j) (by omega)
      have g2 := List.getElem?_eq_getElem (l := ss) (i := j) (by omega)
      obtain ⟨q1, q2⟩ := hss j _ _ g1 g2
      rw [bl_piece g1, h1] at q2
      have q3 := hz j _ g1
      rw [q2] at q3
      refine ⟨?_, ?_⟩
      · rw [List.take_add_one, List.take_add_one, g1, g2, i1]
        unfold zsM
        rw [List.map_append]
        simp only [Option.toList_some, List.map_cons, List.map_nil]
        congr 2
        exact Prod.ext (by simp only; omega) q3.symm
      · rw [List.take_add_one, g2]
        simp only [Option.toList_some]
        rw [bdyM_snoc, ← i2, ← q2, offZ_succ g1, List.take_add]
  have k := key zs.length (Nat.le_refl _)
  rw [List.take_of_length_le (Nat.le_refl _), List.take_of_length_le (by omega)] at k
  have e : offZ zs zs.length = r.length := by unfold offZ; rw [List.take_of_length_le (Nat.le_refl _), h2]
  rw [e, List.take_of_length_le (Nat.le_refl _)] at k
  rw [h3, k.2, ← hl]
  unfold encM
  rw [← tabL_zsM, ← k.1]
theorem encM_inj {ss ts : List Srs} (hs : MajP ss) (ht : MajP ts) (h : encM ss = encM ts) : ss = ts := by
  let s : ByteArray := ⟨(encM ss).toArray⟩
  have h1 : bl s = encM ss := bl_mk _
  have h2 : bl s = encM ts := by rw [h1, h]
  have hu := (hs.tab h1).uniq (ht.tab h2)
  have hl : ss.length = ts.length := by
    have := congrArg List.length hu
    simpa [zsM] using this
  refine List.ext_getElem? fun i => ?_
  by_cases hi : i < ss.length
  · have g1 := List.getElem?_eq_getElem hi
    have g2 := List.getElem?_eq_getElem (l := ts) (i := i) (by omega)
    have p1 := hs.piece h1 g1
    have p2 := ht.piece h2 g2
    rw [← hu, p1] at p2
    have m1 := hs.lo _ (List.mem_of_getElem? g1)
    have m2 := ht.lo _ (List.mem_of_getElem? g2)
    have e := encD_inj m1.2 m2.2 (x := []) (y := []) p2
    have ei := congrArg (fun l => l[i]?) hu
    unfold zsM at ei
    simp only [List.getElem?_map, g1, g2, Option.map_some, Option.some.injEq, Prod.mk.injEq] at ei
    rw [g1, g2]
    congr 1
    exact Prod.ext (by omega) e
  · rw [List.getElem?_eq_none (by omega), List.getElem?_eq_none (by omega)]
end Go.Proofs
