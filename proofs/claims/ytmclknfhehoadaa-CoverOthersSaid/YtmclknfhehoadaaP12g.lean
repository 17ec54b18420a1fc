/- A part of a proof: see the last text of this claim. -/
import Derived.Test.YtmclknfhehoadaaP12f
set_option linter.unusedVariables false
open Go Go.GV
namespace Go.Proofs

theorem wrapU {n : Int} (h1 : 0 ≤ n) (h2 : n < 18446744073709551616) : IntKind.u64.wrap n = n := by
  have : IntKind.u64.wrap n = n % 18446744073709551616 := by
    unfold IntKind.wrap
    rfl
  omega
theorem half {i j : Nat} (hi : i ≤ 1000000000) (hj : j ≤ 1000000000) : IntKind.i64.wrap (Int.fdiv (IntKind.u64.wrap (IntKind.i64.wrap ((i : Int) + j))) ((2 : Int) ^ 1)) = (((i + j) / 2 : Nat) : Int) := by
  rw [wrap64_of (n := (i : Int) + j) (by omega) (by omega), wrapU (by omega) (by omega)]
  have e : Int.fdiv ((i : Int) + j) ((2 : Int) ^ 1) = (((i + j) / 2 : Nat) : Int) := by
    rw [Int.fdiv_eq_ediv_of_nonneg _ (by decide)]
    have : ((2 : Int) ^ 1) = 2 := by decide
    rw [this]; omega
  rw [e, wrap64_of (by omega) (by omega)]

/-- A function value that tells of numbers below n whether p, in heaps such as G. -/
def TellsI (D : Value) (n : Nat) (p : Nat → Bool) (G : Heap → Prop) : Prop := ∀ (i : Nat) (H : Heap) (K : Bool → Heap → Prop), i < n → G H → K (p i) H → CallV Try.prog D [.int .i64 i] H fun v H' => ∃ b, v = .bool b ∧ K b H'
theorem Search_ok {D : Value} {n : Nat} {p : Nat → Bool} {G : Heap → Prop} {H : Heap} {K : Int → Heap → Prop} (hD : TellsI D n p G) (hG : G H) (hn : n ≤ 1000000000)
    (hk : ∀ i : Nat, i ≤ n → (0 < i → p (i - 1) = false) → (i < n → p i = true) → K i H) :
    CallH Try.prog fn_sort_Search ⟨[.int .i64 n, D]⟩ H fun v H' => ∃ r, v = .int .i64 r ∧ K r H' := by
  apply vc_sort_Search
  refine ⟨fun vs H' => match vs with | [.int _ i, .int _ j] => ∃ k m : Nat, i = k ∧ j = m ∧ k ≤ m ∧ m ≤ n ∧ (0 < k → p (k - 1) = false) ∧ (m < n → p m = true) ∧ H' = H | _ => False,
    fun vs _ => match vs with | [.int _ i, .int _ j] => (j - i).toNat | _ => 0, ⟨0, n, rfl, rfl, by omega, by omega, by omega, by omega, rfl⟩, ?_⟩
  rintro J i j H' ⟨k, m, rfl, rfl, hkm, hmn, h1, h2, rfl⟩
  refine brB_of (fun g => ?_) (fun g => ⟨_, rfl, ?_⟩)
  · have g' : k < m := by simpa using g
    rw [half (i := k) (j := m) (by omega) (by omega)]
    refine hD ((k + m) / 2) H' _ (by omega) hG (brB_of (fun h => ?_) (fun h => ?_))
    · rw [succ64 (i := (k + m) / 2) (by omega)]
      exact ⟨⟨(k + m) / 2 + 1, m, rfl, rfl, by omega, hmn, fun _ => by simpa using h, h2, rfl⟩, show ((m : Int) - (((k + m) / 2 + 1 : Nat) : Int)).toNat < ((m : Int) - (k : Int)).toNat by omega⟩
    · exact ⟨⟨k, (k + m) / 2, rfl, rfl, by omega, by omega, h1, fun _ => by simpa using h, rfl⟩, show ((((k + m) / 2 : Nat) : Int) - (k : Int)).toNat < ((m : Int) - (k : Int)).toNat by omega⟩
  · have : k = m := by simp at g; omega
    subst this
    exact hk k hmn h1 h2

/-- Of one series' normal tombs the first that ends behind a time tells. -/
theorem first_tells {own : List Tmb} {id t : Int} (hN : Nrm own) (hid : ∀ x ∈ own, x.1 = id) {i : Nat} (hi : i ≤ own.length)
    (h1 : ∀ x, 0 < i → own[i - 1]? = some x → ¬ x.2.2 > t) (h2 : ∀ x, own[i]? = some x → x.2.2 > t) :
    own.any (atB id t) = (match own[i]? with | some x => decide (x.2.1 ≤ t) | none => false) := by
  have lt : ∀ a b (x y : Tmb), a < b → own[a]? = some x → own[b]? = some y → x.2.2 < y.2.1 := fun a b x y hab hx hy => by
    obtain ⟨ha, rfl⟩ := List.getElem?_eq_some_iff.1 hx
    obtain ⟨hb, rfl⟩ := List.getElem?_eq_some_iff.1 hy
    have := List.pairwise_iff_getElem.1 hN.1 a b ha hb hab
    have e1 := hid _ (List.getElem_mem ha)
    have e2 := hid _ (List.getElem_mem hb)
    unfold gap at this
    omega
  have fl : ∀ a (x : Tmb), own[a]? = some x → x.2.1 < x.2.2 ∧ x.1 = id := fun a x hx => by
    have hm := List.mem_of_getElem? hx
    exact ⟨hN.2 x hm, hid x hm⟩
  have key : own.any (atB id t) = true ↔ ∃ x, own[i]? = some x ∧ x.2.1 ≤ t := by
    rw [List.any_eq_true]
    constructor
    · rintro ⟨x, hx, h⟩
      unfold atB at h
      simp only [Bool.and_eq_true, beq_iff_eq, decide_eq_true_eq] at h
      obtain ⟨j, hj⟩ := List.mem_iff_getElem?.1 hx
      have hjl := (List.getElem?_eq_some_iff.1 hj).1
      have hij : i ≤ j := by
        rcases Nat.lt_or_ge j i with hlt | hge
        · exfalso
          have hp : own[i - 1]? = some (own[i - 1]'(by omega)) := by simp
          have hq := h1 _ (by omega) hp
          rcases Nat.lt_or_ge j (i - 1) with h3 | h3
          · have := lt _ _ _ _ h3 hj hp
            have := (fl _ _ hp).1
            omega
          · have : j = i - 1 := by omega
            subst this
            rw [hj] at hp
            have e := Option.some.inj hp
            rw [← e] at hq
            omega
        · exact hge
      have hp : own[i]? = some (own[i]'(by omega)) := by simp
      refine ⟨_, hp, ?_⟩
      have hq := h2 _ hp
      rcases Nat.lt_or_ge i j with h3 | h3
      · have := lt _ _ _ _ h3 hp hj
        omega
      · have : j = i := by omega
        subst this
        rw [hj] at hp
        have e := Option.some.inj hp
        rw [← e]
        omega
    · rintro ⟨x, hx, h⟩
      refine ⟨x, List.mem_of_getElem? hx, ?_⟩
      have h3 := h2 x hx
      have h4 := fl _ _ hx
      unfold atB
      simp only [Bool.and_eq_true, beq_iff_eq, decide_eq_true_eq]
      exact ⟨h4.2, h, h3⟩
  rw [Bool.eq_iff_iff, key]
  cases hp : own[i]? with
  | none => simp
  | some x => simp

/-- The tombs of one series. -/
def ownT (id : Int) (l : List Tmb) : List Tmb := l.filter fun x => !(x.1 != id)
theorem any_own (id t : Int) (l : List Tmb) : (ownT id l).any (atB id t) = l.any (atB id t) := by
  induction l with
  | nil => rfl
  | cons x l ih =>
    unfold ownT at ih ⊢
    rw [List.filter_cons]
    split
    · rw [List.any_cons, List.any_cons, ih]
    · rename_i h
      rw [List.any_cons, ih]
      have : atB id t x = false := by
        unfold atB
        have : (x.1 == id) = false := by simpa using h
        rw [this]; rfl
      rw [this, Bool.false_or]
theorem own_id {id : Int} {l : List Tmb} : ∀ x ∈ ownT id l, x.1 = id := fun x hx => by
  have := (List.mem_filter.1 hx).2
  simpa using this
theorem own_nrm {id : Int} {l : List Tmb} (h : Nrm l) : Nrm (ownT id l) := ⟨h.1.filter _, fun x hx => h.2 x (List.mem_filter.1 hx).1⟩

theorem tells_other {id : Int} {b : Nat} : Tells (.func (.func 32) #[] #[.pointer (some ⟨b, 0, none⟩)]) (fun x => x.1 != id) (fun H => Blk H ⟨b, 0, none⟩ [.int .i64 id]) := by
  intro x H K hg hk
  refine ⟨32, #[], _, rfl, by kernel_rfl, ?_⟩
  apply vc_cover_Left_1
  intro b1 H1 hn1
  exact ⟨_, hn1.blk.ldK (j := 0) (by kernel_rfl) rfl, _, (hg.keep hn1.fr).ld0 (by kernel_rfl) rfl, _, rfl, hk H1 hn1.fr⟩

theorem tells_left {id : Int} {b : Nat} {o : Option Addr} {p q : Nat} {own : List Tmb} (hN : Nrm own) (hid : ∀ x ∈ own, x.1 = id) (hp : p ≤ 1000000) :
    TellsS (.func (.func 35) #[] #[.pointer (some ⟨b, 0, none⟩)]) (fun s => own.any (atB id s.1)) (fun H => Blk H ⟨b, 0, none⟩ [.slice o p q] ∧ Sl encT H o p q own) := by
  rintro s H K ⟨hb, hs⟩ hk
  refine ⟨35, #[], _, rfl, by kernel_rfl, ?_⟩
  apply vc_cover_Left_2
  intro b1 H1 hn1
  have hb1 := hb.keep hn1.fr
  have hs1 := hs.keep hn1.fr
  have hl := hs1.len
  have hld : Ld Try.prog 22 H1 ⟨b, 0, none⟩ (.slice o p q) := hb1.ld0 (by kernel_rfl) rfl
  refine ⟨_, _, _, hld, ?_⟩
  refine Search_ok (n := p) (p := fun i => match own[i]? with | some x => decide (x.2.2 > s.1) | none => false) (G := fun H => H = H1) ?_ rfl (by omega) fun i hi h1 h2 => ⟨_, _, _, hld, ?_⟩
  · rintro i H2 K2 hi rfl hk2
    refine ⟨37, #[], _, rfl, by kernel_rfl, ?_⟩
    apply vc_cover_Left_2_1
    have hx : own[i]? = some (own[i]'(by omega)) := by simp
    refine ⟨_, _, _, hld, hs1.get rfl hx (decide_eq_true (by omega)) fun ad ea hc => ⟨_, ldTo hc, _, hn1.blk.ldK (j := 0) (by kernel_rfl) rfl, _, rfl, ?_⟩⟩
    simp only [hx] at hk2
    exact hk2
  · have hf := first_tells (t := s.1) hN hid (i := i) (by omega) (fun x h0 hx => by
      have := h1 h0
      simp only [hx] at this
      simpa using this) (fun x hx => by
      have := h2 (by have := (List.getElem?_eq_some_iff.1 hx).1; omega)
      simp only [hx] at this
      simpa using this)
    have hk' := hk H1 hn1.fr
    simp only [hf] at hk'
    refine brB_of (fun g => ⟨_, _, _, hld, ?_⟩) (fun g => ⟨_, rfl, ?_⟩)
    · have g' : i < p := by simpa using g
      have hx : own[i]? = some (own[i]'(by omega)) := by simp
      refine hs1.get rfl hx (decide_eq_true (by omega)) fun ad ea hc => ⟨_, ldF hc, _, hn1.blk.ldK (j := 0) (by kernel_rfl) rfl, _, rfl, ?_⟩
      simp only [hx] at hk'
      exact hk'
    · have hx : own[i]? = none := List.getElem?_eq_none (by simp at g; omega)
      simp only [hx] at hk'
      exact hk'

/-- What tombs leave of samples. -/
def leftS (xs : List Tmb) (id : Int) (ss : List Smp) : List Smp := ss.filter fun s => !xs.any (atB id s.1)
theorem Left_ok {a : Option Addr} {n c : Nat} {xs : List Tmb} {id : Int} {sa : Option Addr} {m d : Nat} {ss : List Smp} {H : Heap} {K : Option Addr → Nat → Nat → Heap → Prop} (hx : Sl encT H a n c xs) (hn : n ≤ 100000) (hs : Sl encS H sa m d ss) (hm : m ≤ 100000)
    (hk : ∀ a' n' c' H', Own encS 36 H.size H' a' n' c' (leftS xs id ss) → n' ≤ m → Fr [] H H' → K a' n' c' H') :
    CallH Try.prog fn_cover_Left ⟨[.slice a n c, .int .i64 id, .slice sa m d]⟩ H fun v H' => ∃ a n c, v = .slice a n c ∧ K a n c H' := by
  apply vc_cover_Left
  intro b H1 hn1
  refine Norm_ok (hx.keep hn1.fr) hn fun a2 n2 c2 H2 ys ho2 hN2 hn2 hf2 => ?_
  refine var_blk (by kernel_rfl) (by kernel_rfl) (by simp [Value.cells, Value.oneCell']) rfl fun b1 H3 hb1 hB hf3 => ⟨_, _, _, hB.ld0 (by kernel_rfl) rfl, ?_⟩
  have ho3 := ho2.keep hf3
  have hne : ∀ k ∈ blkL a2, k ≠ b ∧ k ≠ b1 := fun k hk => by
    have h1 := ho2.ge k hk
    have h2 := hn1.eq
    have h3 := hn1.size
    omega
  have hf13 := hf2.keep0 hf3
  refine DeleteFunc_ok (G := fun H => Blk H ⟨b, 0, none⟩ [.int .i64 id]) tells_other (fun H' hf => (hn1.blk.keep hf13).fr hf fun h => (hne _ h).1 rfl) ho3 (by omega) fun n4 H4 ho4 hn4 hf4 => ?_
  have hf14 : Fr [] H1 H4 := hf13.keep hf4 fun k hk => (ho2.ge k hk).1
  refine (hB.fr hf4 fun h => (hne _ h).2 rfl).st0 (by kernel_rfl) (by kernel_rfl) (by simp [Value.cells, Value.oneCell']) (by simp [Value.cells]) fun H5 hB5 hf5 => ?_
  have hB5 : Blk H5 ⟨b1, 0, none⟩ [.slice a2 n4 c2] := hB5
  have ho5 : Own encT 28 H1.size H5 a2 n4 c2 (ownT id ys) := ho4.fr hf5 fun ad e h => by
    have := hne ad.block (by simp [blkL, e])
    simp at h
    omega
  have hf15 : Fr [] H1 H5 := hf14.keep hf5 fun k hk => by simp at hk; have := hf2.size; omega
  have hf05 := hn1.fr.keep0 hf15
  refine CloneS_ok (hs.keep hf05) (by omega) fun a6 n6 c6 H6 ho6 hf6 => ?_
  have hn6 := ho6.1
  have hlm := hs.len
  refine DeleteFuncS_ok (tells_left (id := id) (b := b1) (o := a2) (p := n4) (q := c2) (own_nrm hN2.1) own_id (by omega)) (fun H' hf => ⟨(hB5.keep hf6).fr hf fun h => ?_, ((ho5.keep hf6).sl).fr hf fun ad e h => ?_⟩) ho6 (by omega) fun n7 H7 ho7 hn7 hf7 => ⟨_, _, _, rfl, ?_⟩
  · have := (ho6.ge _ h).1
    have h2 : b1 < H5.size := hB5.lt
    have h3 : H5.size ≤ b1 := this
    omega
  · have h1 := (ho6.ge _ h).1
    have h2 := (ho5.ge ad.block (by simp [blkL, e])).2
    omega
  · have hf06 := hf05.keep0 hf6
    refine hk _ _ _ _ ?_ (by omega) (hf06.keep hf7 fun k hk => by have := (ho6.ge k hk).1; have := hf05.size; omega)
    have e : (ss.filter fun x => !(ownT id ys).any (atB id x.1)) = leftS xs id ss := by
      unfold leftS
      congr 1
      funext s
      rw [any_own, isN_any hN2]
    rw [e] at ho7
    exact ho7.base hf05.size

theorem rLeft_ok {a : Option Addr} {n c : Nat} {xs : List Tmb} {id : Int} {sa : Option Addr} {m d : Nat} {ss : List Smp} {H : Heap} {K : Option Addr → Nat → Nat → Heap → Prop} (hx : Sl encT H a n c xs) (hn : n ≤ 100000) (hs : Sl encS H sa m d ss) (hm : m ≤ 100000)
    (hk : ∀ a' n' c' H', Own encS 36 H.size H' a' n' c' (leftS xs id ss) → n' ≤ m → Fr [] H H' → K a' n' c' H') :
    CallH Try.prog fn_ref12_Left ⟨[.slice a n c, .int .i64 id, .slice sa m d]⟩ H fun v H' => ∃ a n c, v = .slice a n c ∧ K a n c H' := by
  apply vc_ref12_Left
  have hls := hs.len
  intro b H1 hn1
  refine ⟨fun vs H' => match vs with | [.slice o p q, .int _ i] => ∃ k : Nat, i = k ∧ k ≤ m ∧ p ≤ k ∧ Own encS 36 H.size H' o p q (leftS xs id (ss.take k)) ∧ Fr [] H H' | _ => False,
    fun vs _ => match vs with | [_, .int _ i] => m - i.toNat | _ => 0, ⟨0, rfl, by omega, by omega, Own.made encS 36 hn1 (Nat.le_refl _), hn1.fr⟩, ?_⟩
  rintro J o p q i H2 ⟨k, rfl, hkm, hpk, ho, hf⟩
  refine brB_of (fun g => ?_) (fun g => ⟨_, _, _, rfl, ?_⟩)
  · have g' : k < m := by simpa using g
    have hxi : ss[k]? = some (ss[k]'(by omega)) := by simp
    have htk : ss.take (k + 1) = ss.take k ++ [ss[k]'(by omega)] := by rw [List.take_add_one, hxi]; rfl
    generalize ss[k]'(by omega) = s at hxi htk
    rw [succ64 (by omega)]
    refine (hs.keep hf).get rfl hxi (decide_eq_true (by omega)) fun ad ea hc => ⟨_, ldT hc, ?_⟩
    refine rCovers_ok (hx.keep hf) (by omega) ?_
    refine brB_of (fun h => ?_) (fun h => ?_)
    · refine (hs.keep hf).get rfl hxi (decide_eq_true (by omega)) fun ad ea hc => ⟨_, _, ldS hc, ?_⟩
      refine ap_one (E := encS) s slice33 elem36 ho hf rfl (by omega) fun _ o3 p3 q3 H3 ho3 hf3 _ => ⟨⟨k + 1, rfl, by omega, ?_, ?_, hf3⟩, mu_lt g'⟩
      · have h1 := ho3.1
        have h2 := ho.1
        rw [List.length_append] at h1
        simp at h1
        omega
      · have : leftS xs id (ss.take (k + 1)) = leftS xs id (ss.take k) ++ [s] := by
          unfold leftS
          rw [htk, List.filter_append, List.filter_cons, if_pos h]
          rfl
        rw [this]
        exact ho3
    · refine ⟨⟨k + 1, rfl, by omega, by omega, ?_, hf⟩, mu_lt g'⟩
      have : leftS xs id (ss.take (k + 1)) = leftS xs id (ss.take k) := by
        unfold leftS
        rw [htk, List.filter_append, List.filter_cons, if_neg (by rw [h]; decide)]
        simp
      rw [this]
      exact ho
  · have hkm' : k = m := by simp at g; omega
    have : ss.take k = ss := List.take_of_length_le (by omega)
    rw [this] at ho
    exact hk _ _ _ _ ho (by omega) hf

theorem SameS_ok {a b : Option Addr} {n c m d : Nat} {xs ys : List Smp} {H : Heap} {K : Bool → Heap → Prop} (hx : Sl encS H a n c xs) (hy : Sl encS H b m d ys) (hn : n ≤ 1000000000) (hk : K (decide (xs = ys)) H) :
    CallH Try.prog fn_law12_same ⟨[.slice a n c, .slice b m d]⟩ H fun v H' => ∃ r, v = .bool r ∧ K r H' := by
  apply vc_law12_same
  have hlx := hx.len
  have hly := hy.len
  refine brB_of (fun h => ⟨_, rfl, ?_⟩) (fun h => ?_)
  · have : ¬ xs = ys := fun e => by subst e; simp at h; omega
    rwa [decide_eq_false this] at hk
  have hnm : n = m := by simp at h; omega
  refine ⟨fun vs H' => match vs with | [.int _ i] => ∃ k : Nat, i = k ∧ k ≤ n ∧ xs.take k = ys.take k ∧ H' = H | _ => False,
    fun vs _ => match vs with | [.int _ i] => n - i.toNat | _ => 0, ⟨0, rfl, by omega, by simp, rfl⟩, ?_⟩
  rintro J i H' ⟨k, rfl, hle, ht, rfl⟩
  refine brB_of (fun h0 => ?_) (fun h0 => ⟨_, rfl, ?_⟩)
  · have h0' : k < n := by simpa using h0
    have hx1 : xs[k]? = some (xs[k]'(by omega)) := by simp
    have hy1 : ys[k]? = some (ys[k]'(by omega)) := by simp
    refine hx.get rfl hx1 (decide_eq_true (by omega)) fun ad ea hc => ⟨_, _, ldS hc, ?_⟩
    refine hy.get rfl hy1 (decide_eq_true (by omega)) fun bd eb hd => ⟨_, _, ldS hd, ?_⟩
    refine brB_of (fun h2 => ⟨_, rfl, ?_⟩) (fun h2 => ?_)
    · have : ¬ xs = ys := fun e => by subst e; simp at h2
      rwa [decide_eq_false this] at hk
    · rw [succ64 (by omega)]
      refine ⟨⟨k + 1, rfl, by omega, ?_, rfl⟩, mu_lt h0'⟩
      rw [List.take_add_one, List.take_add_one, hx1, hy1, ht]
      simp at h2
      rw [show xs[k]'(by omega) = ys[k]'(by omega) from Prod.ext h2.1 h2.2]
  · have e1 : xs.take k = xs := List.take_of_length_le (by simp at h0; omega)
    have e2 : ys.take k = ys := List.take_of_length_le (by simp at h0; omega)
    rw [e1, e2] at ht
    rwa [decide_eq_true ht] at hk
end Go.Proofs
