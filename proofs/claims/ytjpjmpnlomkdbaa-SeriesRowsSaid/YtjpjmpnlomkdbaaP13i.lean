/- A part of a proof: see the last text of this claim. -/
import Derived.Test.YtjpjmpnlomkdbaaP13h
set_option linter.unusedVariables false
set_option maxRecDepth 100000
open Go Go.GV
namespace Go.Proofs

theorem Or_ok {H : Heap} {a : Option Addr} {c : Nat} {x y : Int} {K : Int → Heap → Prop} (hx : Sl encInt H a 2 c [x, y]) (hk : K (if x ≠ 0 then x else y) H) :
    CallH Try.prog fn_cmp_Or_int_ ⟨[.slice a 2 c]⟩ H fun v H' => ∃ n, v = .int .i64 n ∧ K n H' := by
  apply vc_cmp_Or_int_
  refine ⟨fun vs H' => match vs with | [.int _ i] => H' = H ∧ (i = 0 ∨ (i = 1 ∧ x = 0) ∨ (i = 2 ∧ x = 0 ∧ y = 0)) | _ => False, fun vs _ => match vs with | [.int _ i] => 2 - i.toNat | _ => 0, ⟨rfl, .inl rfl⟩, ?_⟩
  rintro J i H1 ⟨rfl, h⟩
  rcases h with rfl | ⟨rfl, hx0⟩ | ⟨rfl, hx0, hy0⟩
  · refine brB_of (fun _ => ?_) (fun h => by simp at h)
    refine hx.get (k := 0) rfl rfl (decide_eq_true (by omega)) fun ad ea hc => ⟨_, ld_one (by kernel_rfl) hc, brB_of (fun h => ⟨_, rfl, ?_⟩) (fun h => ?_)⟩
    · rw [if_pos (by simpa using h)] at hk; exact hk
    · exact ⟨⟨rfl, .inr (.inl ⟨by decide, by simpa using h⟩)⟩, show 2 - (IntKind.i64.wrap (0 + 1)).toNat < 2 - (0 : Int).toNat by decide⟩
  · refine brB_of (fun _ => ?_) (fun h => by simp at h)
    refine hx.get (k := 1) rfl rfl (decide_eq_true (by omega)) fun ad ea hc => ⟨_, ld_one (by kernel_rfl) hc, brB_of (fun h => ⟨_, rfl, ?_⟩) (fun h => ?_)⟩
    · rw [if_neg (by simpa using hx0)] at hk; exact hk
    · exact ⟨⟨rfl, .inr (.inr ⟨by decide, hx0, by simpa using h⟩)⟩, show 2 - (IntKind.i64.wrap (1 + 1)).toNat < 2 - (1 : Int).toNat by decide⟩
  · refine brB_of (fun h => by simp at h) (fun _ => ⟨_, rfl, ?_⟩)
    rw [if_neg (by simpa using hx0), hy0] at hk; exact hk
theorem byRow_ok {x y : Rw} {H : Heap} {K : Int → Heap → Prop} (hk : ∀ H', Fr [] H H' → K (cfRw x y) H') : CallH Try.prog fn_series_byRow ⟨[vRw x, vRw y]⟩ H fun v H' => ∃ n, v = .int .i64 n ∧ K n H' := by
  apply vc_series_byRow
  intro b H1 hn1 b1 H2 hn2
  have hf := hn1.fr.keep0 hn2.fr
  have g1 : Blk H2 ⟨b, 0, none⟩ (encRw.cells x) := hn1.blk.keep hn2.fr
  have g2 : Blk H2 ⟨b1, 0, none⟩ (encRw.cells y) := hn2.blk
  refine ⟨_, g1.ld0 (by kernel_rfl) rfl, _, g2.ld0 (by kernel_rfl) rfl, _, g1.ldK (j := 1) (by kernel_rfl) rfl, _, g2.ldK (j := 1) (by kernel_rfl) rfl, ?_⟩
  refine Compare_ok ⟨g2.ldK (j := 1) (by kernel_rfl) rfl, g1.ldK (j := 1) (by kernel_rfl) rfl, Compare_ok ?_⟩
  intro b3 H3 hn3
  have hs : Sl encInt H3 (some ⟨b3, 0, none⟩) 2 2 [cmpI x.1 y.1, cmpI x.2.1 y.2.1] := by
    refine ⟨rfl, Nat.le_refl _, .inr ⟨b3, 0, rfl, fun i z hz j v hv => ?_⟩⟩
    have hj0 : j = 0 := by
      have : (encInt.cells z).length = 1 := rfl
      have := (List.getElem?_eq_some_iff.1 hv).1
      omega
    subst hj0
    have hv2 : v = .int .i64 z := by simpa [encInt] using hv.symm
    subst hv2
    rw [cell_of_blk hn3.get]
    have e : encInt.sz = 1 := rfl
    rw [e]
    match i with
    | 0 => simp at hz; subst hz; rfl
    | 1 => simp at hz; subst hz; rfl
    | k + 2 => simp at hz
  exact Or_ok hs ⟨_, rfl, hk H3 (hf.keep0 hn3.fr)⟩
theorem byR : ByR (.func (.func 49) #[] #[]) := fun x y H K hk => ⟨49, #[], #[], rfl, by kernel_rfl, byRow_ok hk⟩

theorem Reverse_ok {base : Nat} {H : Heap} {a : Option Addr} {n c : Nat} {xs : List Smp} {K : Heap → Prop} (hx : Own encS 26 base H a n c xs) (hn : n ≤ 1000000000) (hk : ∀ H', Own encS 26 base H' a n c xs.reverse → Fr (blkL a) H H' → K H') :
    CallH Try.prog fn_slices_Reverse___api_Sample_api_Sample_ ⟨[.slice a n c]⟩ H fun v H' => v = .tuple ⟨[]⟩ ∧ K H' := by
  apply vc_slices_Reverse___api_Sample_api_Sample_
  have hl := hx.1
  rw [wrap64_of (n := (n : Int) - 1) (by omega) (by omega)]
  refine ⟨fun vs H' => match vs with
      | [.int _ i, .int _ j] => ∃ A M B : List Smp, xs = A ++ (M ++ B) ∧ A.length = B.length ∧ i = (A.length : Int) ∧ j = (n : Int) - 1 - A.length ∧ Own encS 26 base H' a n c (B.reverse ++ (M ++ A.reverse)) ∧ Fr (blkL a) H H'
      | _ => False,
    fun vs _ => match vs with | [.int _ i, _] => n - i.toNat | _ => 0, ⟨[], xs, [], by simp, rfl, rfl, by simp, by simpa using hx, Fr.refl _ _⟩, ?_⟩
  rintro J i j H1 ⟨A, M, B, rfl, hAB, rfl, rfl, ho, hf⟩
  simp only [List.length_append] at hl
  refine brB_of (fun h0 => ?_) (fun h0 => ?_)
  · have h0' : 2 ≤ M.length := by have := of_decide_eq_true h0; omega
    obtain ⟨x, M, rfl⟩ : ∃ x M', M = x :: M' := by cases M with | nil => simp at h0' | cons x M => exact ⟨x, M, rfl⟩
    obtain ⟨M, y, rfl⟩ : ∃ M' y, M = M' ++ [y] := ⟨M.dropLast, M.getLast (by intro e; subst e; simp at h0'), (List.dropLast_concat_getLast _).symm⟩
    simp only [List.length_append, List.length_cons, List.length_nil] at hl h0'
    have ej : (n : Int) - 1 - A.length = ((A.length + M.length + 1 : Nat) : Int) := by omega
    rw [ej]
    have e1 : B.reverse ++ ((x :: (M ++ [y])) ++ A.reverse) = B.reverse ++ x :: (M ++ y :: A.reverse) := by simp
    have e2 : B.reverse ++ ((x :: (M ++ [y])) ++ A.reverse) = (B.reverse ++ x :: M) ++ y :: A.reverse := by simp
    refine ho.sl.get (k := A.length + M.length + 1) rfl (by rw [e2]; exact mid0 (by simp; omega)) (decide_eq_true (by omega)) fun ad ea hc => ⟨_, _, ldS hc, ?_⟩
    refine ho.sl.get (k := A.length) rfl (by rw [e1]; exact mid0 (by simp; omega)) (decide_eq_true (by omega)) fun ad ea hc => ⟨_, _, ldS hc, ?_⟩
    refine own_put (E := encS) (k := A.length) y ho rfl (by omega) (decide_eq_true (by omega)) rfl (by kernel_rfl) (by kernel_rfl) fun H2 ho2 hf2 => ?_
    rw [e1, mset0 (by simp; omega)] at ho2
    have e3 : B.reverse ++ y :: (M ++ y :: A.reverse) = (B.reverse ++ y :: M) ++ y :: A.reverse := by simp
    refine own_put (E := encS) (k := A.length + M.length + 1) x ho2 rfl (by omega) (decide_eq_true (by omega)) rfl (by kernel_rfl) (by kernel_rfl) fun H3 ho3 hf3 => ?_
    rw [e3, mset0 (by simp; omega)] at ho3
    rw [succ64 (by omega), pred64 (by omega) (by omega)]
    refine ⟨⟨A ++ [x], M, y :: B, by simp, by simp; omega, by simp, by simp; omega, by simpa using ho3, (hf.trans' hf2 (fun _ h _ => h) (fun _ h _ => h)).trans' hf3 (fun _ h _ => h) (fun _ h _ => h)⟩, ?_⟩
    show n - ((A.length + 1 : Nat) : Int).toNat < n - ((A.length : Nat) : Int).toNat
    omega
  · have h0' : M.length ≤ 1 := by have := of_decide_eq_false h0; omega
    refine ⟨rfl, hk H1 ?_ hf⟩
    have : M.reverse = M := by
      match M, h0' with
      | [], _ => rfl
      | [x], _ => rfl
    simpa [this] using ho

/-! one of each time, of neighbours -/
def ddF (p : Option Int) : List Smp → List Smp
  | [] => []
  | x :: l => if p = some x.1 then ddF (some x.1) l else x :: ddF (some x.1) l
def lastT (p : Option Int) (u : List Smp) : Option Int := match u.getLast? with | some y => some y.1 | none => p
theorem ddF_snoc (x : Smp) : ∀ (u : List Smp) (p : Option Int), ddF p (u ++ [x]) = ddF p u ++ (if lastT p u = some x.1 then [] else [x])
  | [], p => by
    unfold lastT
    simp only [List.nil_append, List.getLast?_nil]
    show (if p = some x.1 then ddF (some x.1) [] else x :: ddF (some x.1) []) = [] ++ (if p = some x.1 then [] else [x])
    by_cases h : p = some x.1
    · rw [if_pos h, if_pos h]; rfl
    · rw [if_neg h, if_neg h]; rfl
  | y :: u, p => by
    have ih := ddF_snoc x u (some y.1)
    have e : lastT p (y :: u) = lastT (some y.1) u := by
      unfold lastT
      rw [List.getLast?_cons]
      cases u.getLast? <;> rfl
    rw [e]
    show (if p = some y.1 then ddF (some y.1) (u ++ [x]) else y :: ddF (some y.1) (u ++ [x])) = (if p = some y.1 then ddF (some y.1) u else y :: ddF (some y.1) u) ++ _
    rw [ih]
    split <;> simp
def dd (l : List Smp) : List Smp := ddF none l
theorem dd_take {xs : List Smp} {k : Nat} {x y : Smp} (hy : xs[k]? = some y) (hx : xs[k + 1]? = some x) : dd (xs.take (k + 2)) = dd (xs.take (k + 1)) ++ (if y.1 = x.1 then [] else [x]) := by
  have e : xs.take (k + 2) = xs.take (k + 1) ++ [x] := by rw [List.take_add_one, hx]; rfl
  have e2 : lastT none (xs.take (k + 1)) = some y.1 := by
    unfold lastT
    rw [show xs.take (k + 1) = xs.take k ++ [y] by rw [List.take_add_one, hy]; rfl]
    simp
  unfold dd
  rw [e, ddF_snoc, e2]
  simp
theorem dd_one {xs : List Smp} (h : xs ≠ []) : dd (xs.take 1) = xs.take 1 := by
  cases xs with
  | nil => exact absurd rfl h
  | cons x l => rfl
def Tells2 (D : Value) : Prop := ∀ (x y : Smp) (H : Heap) (K : Bool → Heap → Prop), (∀ H', Fr [] H H' → K (x.1 == y.1) H') → CallV Try.prog D [vS x, vS y] H fun v H' => ∃ b, v = .bool b ∧ K b H'
theorem tells_eq : Tells2 (.func (.func 42) #[] #[]) := fun x y H K hk => ⟨42, #[], #[], rfl, by kernel_rfl, by
  apply vc_series_Put_1
  intro b H1 hn1 b1 H2 hn2
  exact ⟨_, (hn1.blk.keep hn2.fr).ld0 (by kernel_rfl) rfl, _, hn2.blk.ld0 (by kernel_rfl) rfl, _, rfl, hk H2 (hn1.fr.keep0 hn2.fr)⟩⟩
theorem dd_len (p : Option Int) : ∀ l : List Smp, (ddF p l).length ≤ l.length
  | [] => Nat.le_refl _
  | x :: l => by
    have ih := dd_len (some x.1) l
    show (if p = some x.1 then ddF (some x.1) l else x :: ddF (some x.1) l).length ≤ _
    split <;> simp <;> omega
theorem Compact_ok {D : Value} {base : Nat} {a : Option Addr} {n c : Nat} {xs : List Smp} {H : Heap} {K : Option Addr → Nat → Nat → Heap → Prop} (hD : Tells2 D) (ho : Own encS 26 base H a n c xs) (hn : n ≤ 1000000000)
    (hk : ∀ n' H', Own encS 26 base H' a n' c (dd xs) → n' ≤ n → Fr (blkL a) H H' → K a n' c H') :
    CallH Try.prog fn_slices_CompactFunc___api_Sample_api_Sample_ ⟨[.slice a n c, D]⟩ H fun v H' => ∃ a n c, v = .slice a n c ∧ K a n c H' := by
  apply vc_slices_CompactFunc___api_Sample_api_Sample_
  have hl := ho.1
  refine brB_of (fun h => ⟨_, _, _, rfl, hk n H ?_ (Nat.le_refl _) (Fr.refl _ _)⟩) (fun h => ?_)
  · have h2 : xs.length < 2 := by simp at h; omega
    match xs, h2 with
    | [], _ => exact ho
    | [x], _ => exact ho
  have h2 : 2 ≤ n := by simp at h; omega
  have hne : xs ≠ [] := by intro e; subst e; simp at hl; omega
  refine ⟨fun vs H' => match vs with | [.int _ i] => ∃ k : Nat, i = ((k + 1 : Nat) : Int) ∧ k + 1 ≤ n ∧ dd (xs.take (k + 1)) = xs.take (k + 1) ∧ Fr [] H H' | _ => False,
    fun vs _ => match vs with | [.int _ i] => n - i.toNat | _ => 0, ⟨0, rfl, by omega, dd_one hne, Fr.refl _ _⟩, ?_⟩
  rintro J i H1 ⟨k, rfl, hkn, hdd, hf⟩
  have ho1 := ho.keep hf
  refine brB_of (fun h0 => ?_) (fun h0 => ?_)
  · have h0' : k + 1 < n := by simp at h0; omega
    have hx1 : xs[k + 1]? = some (xs[k + 1]'(by omega)) := by simp
    generalize xs[k + 1]'(by omega) = x at hx1
    have hy1 : xs[k]? = some (xs[k]'(by omega)) := by simp
    generalize xs[k]'(by omega) = y at hy1
    have hd2 := dd_take hy1 hx1
    rw [pred64 (by omega) (by omega), show k + 1 - 1 = k by omega, succ64 (by omega)]
    refine ho1.sl.get rfl hx1 (decide_eq_true (by omega)) fun ad ea hc => ⟨_, _, ldS hc, ?_⟩
    refine ho1.sl.get rfl hy1 (decide_eq_true (by omega)) fun ad ea hc => ⟨_, _, ldS hc, ?_⟩
    refine hD x y H1 _ fun H2 hf2 => ?_
    have hf02 := hf.keep0 hf2
    refine brB_of (fun h3 => ?_) (fun h3 => ⟨⟨k + 1, rfl, by omega, ?_, hf02⟩, ?_⟩)
    rotate_left
    · rw [hd2, if_neg (by intro e; simp [e] at h3), hdd, List.take_add_one (i := k + 1), hx1]; rfl
    · show n - ((k + 1 + 1 : Nat) : Int).toNat < n - ((k + 1 : Nat) : Int).toNat
      omega
    have hxy : x.1 = y.1 := by simpa using h3
    refine chk_of ⟨by omega, by omega, by have := ho1.sl.cap; omega⟩ ?_
    simp only [Int.toNat_natCast]
    -- the rest is drawn together
    refine ⟨fun vs H' => match vs with | [.int _ i, .int _ j] => ∃ (m q : Nat) (ws : List Smp), i = m ∧ j = ((q + 1 : Nat) : Int) ∧ m ≤ k + 1 + q ∧ k + 1 + q + 1 ≤ n ∧ Own encS 26 base H' a n c ws ∧ ws.take m = dd (xs.take (k + 1 + q + 1)) ∧ ws.drop (k + 1 + q) = xs.drop (k + 1 + q) ∧ Fr (blkL a) H H' | _ => False,
      fun vs _ => match vs with | [_, .int _ i] => n - i.toNat | _ => 0, ⟨k + 1, 0, xs, rfl, rfl, by omega, by omega, ho1.keep hf2, ?_, rfl, hf02.mono (by simp)⟩, ?_⟩
    · rw [hd2, if_pos hxy.symm, hdd, List.append_nil]
    rintro J i j H3 ⟨m, q, ws, rfl, rfl, hmq, hqn, how, htk, hdr, hf3⟩
    have hlw := how.1
    refine brB_of (fun h4 => ?_) (fun h4 => ?_)
    · have h4' : k + 1 + q + 1 < n := by have := of_decide_eq_true h4; omega
      have hx2 : xs[k + 1 + q + 1]? = some (xs[k + 1 + q + 1]'(by omega)) := by simp
      generalize xs[k + 1 + q + 1]'(by omega) = x2 at hx2
      have hy2 : xs[k + 1 + q]? = some (xs[k + 1 + q]'(by omega)) := by simp
      generalize xs[k + 1 + q]'(by omega) = y2 at hy2
      have hwx : ws[k + 1 + q + 1]? = some x2 := by
        have := congrArg (fun l => l[1]?) hdr
        simp only [List.getElem?_drop] at this
        rw [show k + 1 + q + 1 = k + 1 + q + 1 from rfl, this, hx2]
      have hwy : ws[k + 1 + q]? = some y2 := by
        have := congrArg (fun l => l[0]?) hdr
        simp only [List.getElem?_drop, Nat.add_zero] at this
        rw [this, hy2]
      have hd3 := dd_take hy2 hx2
      have hdr2 : ws.drop (k + 1 + (q + 1)) = xs.drop (k + 1 + (q + 1)) := by
        have := congrArg (fun l => l.drop 1) hdr
        simpa [List.drop_drop, Nat.add_assoc] using this
      have hcut := how.sl.drop (k := k + 1) (by omega)
      rw [pred64 (by omega) (by omega), show q + 1 - 1 = q by omega]
      have g1 : (ws.drop (k + 1))[q + 1]? = some x2 := by rw [List.getElem?_drop]; exact hwx
      have g2 : (ws.drop (k + 1))[q]? = some y2 := by rw [List.getElem?_drop]; exact hwy
      refine hcut.get (k := q + 1) rfl g1 (decide_eq_true (by omega)) fun ad ea hc => ⟨_, _, ldS hc, ?_⟩
      refine hcut.get rfl g2 (decide_eq_true (by omega)) fun ad ea hc => ⟨_, _, ldS hc, ?_⟩
      refine hD x2 y2 H3 _ fun H4 hf4 => ?_
      have how4 := how.keep hf4
      have hf04 := hf3.trans' hf4 (T := blkL a) (fun _ h _ => h) (by simp)
      have mu4 : n - ((q + 1 + 1 : Nat) : Int).toNat < n - ((q + 1 : Nat) : Int).toNat := by omega
      refine brB_of (fun h5 => ?_) (fun h5 => by rw [succ64 (by omega)]; exact ⟨⟨m, q + 1, ws, rfl, rfl, by omega, by omega, how4, by
          show ws.take m = dd (xs.take (k + 1 + q + 2))
          rw [hd3, if_pos (by have : x2.1 = y2.1 := by simpa using h5
                              exact this.symm), htk, List.append_nil], hdr2, hf04⟩, mu4⟩)
      · refine (hcut.keep hf4).get rfl g1 (decide_eq_true (by omega)) fun ad ea hc => ⟨_, _, ldS hc, ?_⟩
        rw [succ64 (by omega), succ64 (by omega)]
        refine own_put (E := encS) x2 how4 rfl (by omega) (decide_eq_true (by omega)) rfl (by kernel_rfl) (by kernel_rfl) fun H5 how5 hf5 => ⟨⟨m + 1, q + 1, _, rfl, rfl, by omega, by omega, how5, ?_, ?_, hf04.trans' hf5 (fun _ h _ => h) (fun _ h _ => h)⟩, mu4⟩
        · show (ws.set m x2).take (m + 1) = dd (xs.take (k + 1 + q + 2))
          rw [hd3, if_neg (by intro e; simp [e] at h5), ← htk, List.take_add_one, List.take_set_of_le (Nat.le_refl _), List.getElem?_set_self (by omega)]
          rfl
        · rw [List.drop_set_of_lt (by omega)]; exact hdr2
    · have h4' : k + 1 + q + 1 = n := by have := of_decide_eq_false h4; omega
      have hcap := how.sl.cap
      refine chk_of ⟨by omega, by omega, by omega⟩ ?_
      simp only [Int.toNat_natCast]
      refine clear_tail (E := encS) slice22 zero26 rfl (by simp [Value.oneCell']) how (by omega) fun H4 how4 hf4 => chk_of ⟨by omega, by omega, by omega⟩ ?_
      refine ⟨_, _, _, rfl, hk _ H4 ?_ (by omega) (hf3.trans' hf4 (fun _ h _ => h) (fun _ h _ => h))⟩
      rw [htk, List.take_of_length_le (by omega)] at how4
      simpa using how4
  · have h0' : k + 1 = n := by simp at h0; omega
    refine ⟨_, _, _, rfl, hk n H1 ?_ (Nat.le_refl _) (hf.mono (by simp))⟩
    rw [List.take_of_length_le (by omega)] at hdd
    rw [hdd]; exact ho1

/-- Looked for by its id. -/
theorem Search_ok {order : Value} (hS : ByS order) {a : Option Addr} {n c : Nat} {xs : List Sr} {t : Sr} {H : Heap} {K : Int → Bool → Heap → Prop} (hx : Sl encSr H a n c xs) (hn : n ≤ 1000000000) (hr : xs.Pairwise fun x y => x.1 < y.1)
    (hyes : ∀ (k : Nat) x H', xs[k]? = some x → x.1 = t.1 → Fr [] H H' → K k true H') (hno : (∀ x ∈ xs, x.1 ≠ t.1) → ∀ (m : Int) H', Fr [] H H' → K m false H') :
    CallH Try.prog fn_slices_BinarySearchFunc___series_Series_series_Series_series_Series_ ⟨[.slice a n c, vSr t, order]⟩ H fun v H' => ∃ m b, v = .tuple ⟨[.int .i64 m, .bool b]⟩ ∧ K m b H' := by
  apply vc_slices_BinarySearchFunc___series_Series_series_Series_series_Series_
  intro b H1 hn1
  have hl := hx.len
  have hlt : ∀ {i j : Nat} {x y : Sr}, i < j → xs[i]? = some x → xs[j]? = some y → x.1 < y.1 := fun {i j x y} hij hx hy => by
    obtain ⟨hi, rfl⟩ := List.getElem?_eq_some_iff.1 hx
    obtain ⟨hj, rfl⟩ := List.getElem?_eq_some_iff.1 hy
    exact List.pairwise_iff_getElem.1 hr i j hi hj hij
  refine ⟨fun vs H' => match vs with
      | [.int _ i, .int _ j] => ∃ p q : Nat, i = p ∧ j = q ∧ p ≤ q ∧ q ≤ n ∧ (∀ k x, k < p → xs[k]? = some x → x.1 < t.1) ∧ (∀ k x, q ≤ k → xs[k]? = some x → t.1 ≤ x.1) ∧ Fr [] H1 H'
      | _ => False,
    fun vs _ => match vs with | [.int _ i, .int _ j] => j.toNat - i.toNat | _ => 0, ⟨0, n, rfl, rfl, by omega, by omega, fun k x h => by omega, fun k x h hx => by have := (List.getElem?_eq_some_iff.1 hx).1; omega, Fr.refl _ _⟩, ?_⟩
  rintro J i j H2 ⟨p, q, rfl, rfl, hpq, hqn, hlo, hhi, hf⟩
  have hf02 := hn1.fr.keep0 hf
  have hb : Blk H2 ⟨b, 0, none⟩ (encSr.cells t) := hn1.blk.keep hf
  have hld : ∀ {H' : Heap}, Fr [] H2 H' → Ld Try.prog 68 H' ⟨b, 0, none⟩ (vSr t) := fun hf' => (hb.keep hf').ldA0 (us := encSr.cells t) (by kernel_rfl) (by kernel_rfl) rfl
  refine brB_of (fun h0 => ?_) (fun h0 => ?_)
  · have h0' : p < q := by simpa using h0
    rw [avg64 (by omega)]
    have hh1 : p ≤ (p + q) / 2 := by omega
    have hh2 : (p + q) / 2 < q := by omega
    generalize (p + q) / 2 = h at hh1 hh2
    have hz : xs[h]? = some (xs[h]'(by omega)) := by simp
    generalize xs[h]'(by omega) = z at hz
    refine (hx.keep hf02).get (k := h) rfl hz (decide_eq_true (by omega)) fun ad ea hc => ⟨_, _, _, _, ldSr hc, _, _, _, _, hld (Fr.refl _ _), ?_⟩
    refine hS z t H2 _ fun H3 hf3 => ?_
    rw [succ64 (by omega)]
    refine brB_of (fun h6 => ⟨⟨h + 1, q, rfl, rfl, by omega, hqn, fun k x hk hx => ?_, hhi, hf.keep0 hf3⟩, ?_⟩) (fun h6 => ⟨⟨p, h, rfl, rfl, by omega, by omega, hlo, fun k x hk hx => ?_, hf.keep0 hf3⟩, ?_⟩)
    · have h6 : z.1 < t.1 := cmpI_neg.1 (of_decide_eq_true h6)
      rcases Nat.lt_or_ge k h with h7 | h7
      · have := hlt h7 hx hz; omega
      · have : k = h := by omega
        subst this
        rw [hz] at hx; cases hx; exact h6
    · show ((q : Nat) : Int).toNat - ((h + 1 : Nat) : Int).toNat < ((q : Nat) : Int).toNat - ((p : Nat) : Int).toNat
      omega
    · have h6 : ¬ z.1 < t.1 := fun h => of_decide_eq_false h6 (cmpI_neg.2 h)
      rcases Nat.lt_or_ge h k with h7 | h7
      · have := hlt h7 hz hx; omega
      · have : k = h := by omega
        subst this
        rw [hz] at hx; cases hx; omega
    · show ((h : Nat) : Int).toNat - ((p : Nat) : Int).toNat < ((q : Nat) : Int).toNat - ((p : Nat) : Int).toNat
      omega
  · have h0' : p = q := by simp at h0; omega
    subst h0'
    have none' : (∀ x, xs[p]? = some x → x.1 ≠ t.1) → ∀ x ∈ xs, x.1 ≠ t.1 := fun h x hx => by
      obtain ⟨k, hk⟩ := List.getElem?_of_mem hx
      rcases Nat.lt_or_ge k p with h7 | h7
      · have := hlo k x h7 hk; omega
      · rcases Nat.lt_or_ge p k with h8 | h8
        · have hpl : p < xs.length := by have := (List.getElem?_eq_some_iff.1 hk).1; omega
          have hz : xs[p]? = some xs[p] := by simp
          have h9 := hhi p _ (Nat.le_refl _) hz
          have := hlt h8 hz hk
          omega
        · have : k = p := by omega
          subst this
          exact h x hk
    refine brB_of (fun h1 => ?_) (fun h1 => ⟨_, _, rfl, hno (none' fun x hx => ?_) _ H2 hf02⟩)
    · have h1' : p < n := by simpa using h1
      have hz : xs[p]? = some (xs[p]'(by omega)) := by simp
      generalize xs[p]'(by omega) = z at hz
      refine (hx.keep hf02).get (k := p) rfl hz (decide_eq_true (by omega)) fun ad ea hc => ⟨_, _, _, _, ldSr hc, _, _, _, _, hld (Fr.refl _ _), ?_⟩
      refine hS z t H2 _ fun H3 hf3 => ⟨_, _, rfl, ?_⟩
      have hf03 := hf02.keep0 hf3
      unfold cfSr
      by_cases e : z.1 = t.1
      · have : (cmpI z.1 t.1 == 0) = true := by rw [e]; unfold cmpI; simp
        rw [this]; exact hyes p z H3 hz e hf03
      · have : (cmpI z.1 t.1 == 0) = false := by unfold cmpI; split; rfl; split; rfl; omega
        rw [this]
        exact hno (none' fun x hx => by rw [hz] at hx; cases hx; exact e) _ H3 hf03
    · have := (List.getElem?_eq_some_iff.1 hx).1
      simp at h1; omega
end Go.Proofs
