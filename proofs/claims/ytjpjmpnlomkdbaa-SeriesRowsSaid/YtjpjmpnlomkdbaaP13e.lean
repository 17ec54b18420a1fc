/- A part of a proof: see the last text of this claim. -/
import Derived.Test.YtjpjmpnlomkdbaaP13d
set_option linter.unusedVariables false
set_option maxRecDepth 100000
open Go Go.GV
namespace Go.Proofs

theorem two1 : (2 : Int) ^ min (Int.toNat 1) (IntKind.bits IntKind.u64) = 2 ^ 1 := by decide
theorem avg64 {i j : Nat} (h : i + j ≤ 4000000000) : IntKind.i64.wrap (Int.fdiv (IntKind.u64.wrap (IntKind.i64.wrap ((i : Int) + (j : Int)))) (2 ^ 1)) = (((i + j) / 2 : Nat) : Int) := by
  rw [wrap64_of (n := (i : Int) + j) (by omega) (by omega)]
  have : IntKind.u64.wrap ((i : Int) + (j : Int)) = ((i + j : Nat) : Int) := by
    rw [show (i : Int) + (j : Int) = ((i + j : Nat) : Int) by omega]
    exact IntWalk.u64_in _ ⟨by omega, by omega⟩
  rw [this, show ((2 : Int) ^ 1) = ((2 : Nat) : Int) by decide, Int.fdiv_eq_ediv_of_nonneg _ (by omega), ← Int.natCast_ediv]
  exact wrap64_of (by omega) (by omega)
/-- The like, the lower one stored first. -/
theorem swap_two2 {base : Nat} {H : Heap} {a : Option Addr} {n c k : Nat} {A B L : List Smp} {w x : Smp} {i1 i2 : Int} {X : Heap → Prop} (ho : Own encS 26 base H a n c L) (eL : L = A ++ x :: w :: B) (hA : A.length = k) (e1 : i1 = ((k + 1 : Nat) : Int)) (e2 : i2 = (k : Int)) (b1 b2 : Bool) (h1 : b1 = true) (h2 : b2 = true)
    (hk : ∀ H', Own encS 26 base H' a n c (A ++ w :: x :: B) → Fr (blkL a) H H' → X H') :
    exSome a fun ad => chk b1 (∃ H'_2, St Try.prog 26 H (Addr.add ad (i2.toNat * 2)) (vS w) H'_2 ∧ exSome a fun ad => chk b2 (∃ H', St Try.prog 26 H'_2 (Addr.add ad (i1.toNat * 2)) (vS x) H' ∧ X H')) := by
  subst eL e1 e2
  have hl := ho.1
  simp at hl
  refine own_put (E := encS) (k := k) w ho rfl (by omega) h1 rfl (by kernel_rfl) (by kernel_rfl) fun H2 ho2 hf2 => ?_
  rw [mset0 (by omega)] at ho2
  refine own_put (E := encS) (k := k + 1) x ho2 rfl (by omega) h2 rfl (by kernel_rfl) (by kernel_rfl) fun H3 ho3 hf3 => ?_
  rw [mset1 (by omega)] at ho3
  exact hk H3 ho3 (hf2.trans' hf3 (fun _ h _ => h) (fun _ h _ => h))
/-- The one stands ahead of those that are not below it. -/
theorem ins_front {U V : List Smp} {x : Smp} (h : Srt (U ++ V)) (h1 : ∀ u ∈ U, u.1 < x.1) (h2 : ∀ v ∈ V, x.1 ≤ v.1) : Srt (U ++ x :: V) ∧ Stb ([x] ++ (U ++ V)) (U ++ x :: V) := by
  refine ⟨srt_app h.left (List.pairwise_cons.2 ⟨h2, h.right⟩) fun u hu z hz => ?_, ?_⟩
  · rcases List.mem_cons.1 hz with rfl | hz
    · exact Int.le_of_lt (h1 u hu)
    · exact h.across u hu z hz
  · have := (Stb.front h1).app (Stb.refl V)
    simpa using this
theorem ins_back {U V : List Smp} {y : Smp} (h : Srt (U ++ V)) (h1 : ∀ u ∈ U, u.1 ≤ y.1) (h2 : ∀ v ∈ V, y.1 < v.1) : Srt (U ++ y :: V) ∧ Stb ((U ++ V) ++ [y]) (U ++ y :: V) := by
  refine ⟨srt_app h.left (List.pairwise_cons.2 ⟨fun v hv => Int.le_of_lt (h2 v hv), h.right⟩) fun u hu z hz => ?_, ?_⟩
  · rcases List.mem_cons.1 hz with rfl | hz
    · exact h1 u hu
    · exact h.across u hu z hz
  · have := (Stb.refl U).app (Stb.swap1 h2)
    simpa using this
theorem two_split {B : List Smp} {k : Nat} (h : k ≤ B.length) : ∃ U V, B = U ++ V ∧ U.length = k := ⟨B.take k, B.drop k, (List.take_append_drop _ _).symm, by simp; omega⟩
theorem in_mid {P A R : List Smp} {k : Nat} (h : P.length ≤ k) (h2 : k < P.length + A.length) : (P ++ (A ++ R))[k]? = A[k - P.length]? := by
  rw [List.getElem?_append_right h, List.getElem?_append_left (by omega)]

structure LtA (B : List Smp) (k : Nat) (v : Int) : Prop where
  h : ∃ z, B[k]? = some z ∧ z.1 < v
structure LeA (B : List Smp) (k : Nat) (v : Int) : Prop where
  h : ∃ z, B[k]? = some z ∧ z.1 ≤ v
structure GtA (B : List Smp) (k : Nat) (v : Int) : Prop where
  h : ∃ z, B[k]? = some z ∧ v < z.1
structure GeA (B : List Smp) (k : Nat) (v : Int) : Prop where
  h : ∃ z, B[k]? = some z ∧ v ≤ z.1
theorem sym1_ok {order : Value} (hT : ByT order) {base : Nat} {H : Heap} {a : Option Addr} {n c p m q : Nat} {L P B Q : List Smp} {x : Smp} {K : Heap → Prop} (ho : Own encS 26 base H a n c L) (eL : L = P ++ ([x] ++ (B ++ Q))) (hp : P.length = p) (hm : p + 1 = m) (hq : m + B.length = q) (hn : n ≤ 1000000000) (hB : Srt B)
    (hk : ∀ H' S, Own encS 26 base H' a n c (P ++ (S ++ Q)) → Srt S → Stb ([x] ++ B) S → Fr (blkL a) H H' → K H') :
    CallH Try.prog fn_slices_symMergeCmpFunc_api_Sample_ ⟨[.slice a n c, .int .i64 p, .int .i64 m, .int .i64 q, order]⟩ H fun v H' => v = .tuple ⟨[]⟩ ∧ K H' := by
  apply vc_slices_symMergeCmpFunc_api_Sample_
  have hl := ho.1
  subst eL
  simp only [List.length_append, List.length_cons, List.length_nil] at hl
  have ew : IntKind.i64.wrap ((m : Int) - p) = 1 := by rw [wrap64_of (by omega) (by omega)]; omega
  rw [ew]
  refine brB_of (fun _ => ?_) (fun h => by simp at h)
  refine ⟨fun vs H' => match vs with
      | [.int _ i, .int _ j] => ∃ i' j' : Nat, i = i' ∧ j = j' ∧ m ≤ i' ∧ i' ≤ j' ∧ j' ≤ q ∧ (i' = m ∨ LtA B (i' - 1 - m) x.1) ∧ (j' = q ∨ GeA B (j' - m) x.1) ∧ Own encS 26 base H' a n c (P ++ ([x] ++ (B ++ Q))) ∧ Fr (blkL a) H H'
      | _ => False,
    fun vs _ => match vs with | [.int _ i, .int _ j] => j.toNat - i.toNat | _ => 0, ⟨m, q, rfl, rfl, by omega, by omega, by omega, .inl rfl, .inl rfl, ho, Fr.refl _ _⟩, ?_⟩
  rintro J i j H1 ⟨i', j', rfl, rfl, h1, h2, h3, h4, h5, ho1, hf1⟩
  refine brB_of (fun h0 => ?_) (fun h0 => ?_)
  · have h0' : i' < j' := by simpa using h0
    rw [avg64 (by omega)]
    have hh1 : i' ≤ (i' + j') / 2 := by omega
    have hh2 : (i' + j') / 2 < j' := by omega
    generalize (i' + j') / 2 = h at hh1 hh2
    have hz : B[h - m]? = some (B[h - m]'(by omega)) := by simp
    generalize B[h - m]'(by omega) = z at hz
    have hz' : (P ++ ([x] ++ (B ++ Q)))[h]? = some z := by
      rw [← List.append_assoc, in_mid (by simp; omega) (by simp; omega)]
      rw [← hz]; congr 1; simp; omega
    refine ho1.sl.get (k := h) rfl hz' (decide_eq_true (by omega)) fun ad ea hc => ⟨_, _, ldS hc, ?_⟩
    refine ho1.sl.get (k := p) (x := x) rfl (by rw [in_mid (by omega) (by simp; omega), hp]; simp) (decide_eq_true (by omega)) fun ad ea hc => ⟨_, _, ldS hc, ?_⟩
    refine hT z x H1 _ fun H2 hf2 => ?_
    have ho2 := ho1.keep hf2
    have hf02 := hf1.trans' hf2 (T := blkL a) (fun _ h _ => h) (by simp)
    rw [succ64 (by omega)]
    refine brB_of (fun h6 => ⟨⟨h + 1, j', rfl, rfl, by omega, by omega, h3, .inr ⟨⟨z, hz, cmpI_neg.1 (of_decide_eq_true h6)⟩⟩, h5, ho2, hf02⟩, ?_⟩) (fun h6 => ⟨⟨i', h, rfl, rfl, h1, by omega, by omega, h4, .inr ⟨⟨z, hz, ?_⟩⟩, ho2, hf02⟩, ?_⟩)
    · show ((j' : Nat) : Int).toNat - ((h + 1 : Nat) : Int).toNat < ((j' : Nat) : Int).toNat - ((i' : Nat) : Int).toNat
      omega
    · have : ¬ z.1 < x.1 := fun h => of_decide_eq_false h6 (cmpI_neg.2 h)
      omega
    · show ((h : Nat) : Int).toNat - ((i' : Nat) : Int).toNat < ((j' : Nat) : Int).toNat - ((i' : Nat) : Int).toNat
      omega
  · have h0' : i' = j' := by simp at h0; omega
    subst h0'
    obtain ⟨U, V, rfl, hU⟩ := two_split (B := B) (k := i' - m) (by omega)
    have hUx : ∀ u ∈ U, u.1 < x.1 := fun u hu => by
      obtain ⟨k, hk⟩ := List.getElem?_of_mem hu
      have hkl := (List.getElem?_eq_some_iff.1 hk).1
      rcases h4 with h4 | ⟨⟨z, hz, h4⟩⟩
      · omega
      · have := hB.le (i := k) (j := i' - 1 - m) (by omega) (by rw [List.getElem?_append_left hkl]; exact hk) hz
        omega
    have hVx : ∀ v ∈ V, x.1 ≤ v.1 := fun v hv => by
      obtain ⟨k, hk⟩ := List.getElem?_of_mem hv
      have hkl := (List.getElem?_eq_some_iff.1 hk).1
      simp only [List.length_append] at hq
      rcases h5 with h5 | ⟨⟨z, hz, h5⟩⟩
      · omega
      · have := hB.le (i := i' - m) (j := U.length + k) (by omega) hz (by rw [List.getElem?_append_right (by omega)]; rw [← hk]; congr 1; omega)
        omega
    obtain ⟨r1, r2⟩ := ins_front hB hUx hVx
    have ew3 : IntKind.i64.wrap ((i' : Int) - 1) = ((i' - 1 : Nat) : Int) := pred64 (by omega) (by omega)
    rw [ew3]
    simp only [List.length_append] at hl hq
    refine ⟨fun vs H' => match vs with
        | [.int _ k] => ∃ U1 U2 : List Smp, U = U1 ++ U2 ∧ k = ((p + U1.length : Nat) : Int) ∧ Own encS 26 base H' a n c (P ++ U1 ++ x :: (U2 ++ (V ++ Q))) ∧ Fr (blkL a) H H'
        | _ => False,
      fun vs _ => match vs with | [.int _ k] => i' - k.toNat | _ => 0, ⟨[], U, rfl, rfl, by simpa using ho1, hf1⟩, ?_⟩
    rintro J k H2 ⟨U1, U2, rfl, rfl, ho2, hf2⟩
    simp only [List.length_append] at hU hl hq
    refine brB_of (fun h7 => ?_) (fun h7 => ?_)
    · have h7' : p + U1.length < i' - 1 := by simp at h7; omega
      cases U2 with
      | nil => simp at hU; omega
      | cons w U2 =>
        have eL : P ++ U1 ++ x :: (w :: U2 ++ (V ++ Q)) = (P ++ U1) ++ x :: w :: (U2 ++ (V ++ Q)) := by simp
        simp only [List.length_cons] at hU hl hq
        rw [succ64 (by omega)]
        refine ho2.sl.get (k := p + U1.length + 1) rfl (by rw [eL]; exact mid1 (by simp; omega)) (decide_eq_true (by omega)) fun ad ea hc => ⟨_, _, ldS hc, ?_⟩
        refine ho2.sl.get (k := p + U1.length) rfl (by rw [eL]; exact mid0 (by simp; omega)) (decide_eq_true (by omega)) fun ad ea hc => ⟨_, _, ldS hc, ?_⟩
        refine swap_two2 (k := p + U1.length) ho2 eL (by simp; omega) rfl rfl _ _ (decide_eq_true (by omega)) (decide_eq_true (by omega)) fun H4 ho4 hf4 => ?_
        refine ⟨⟨U1 ++ [w], U2, by simp, by simp; omega, by simpa using ho4, hf2.trans' hf4 (fun _ h _ => h) (fun _ h _ => h)⟩, ?_⟩
        show i' - ((p + U1.length + 1 : Nat) : Int).toNat < i' - ((p + U1.length : Nat) : Int).toNat
        omega
    · have : U2 = [] := List.eq_nil_of_length_eq_zero (by simp at h7; omega)
      subst this
      rw [List.append_nil] at r1 r2
      exact ⟨rfl, hk H2 (U1 ++ x :: V) (by simpa using ho2) r1 (by simpa using r2) hf2⟩
theorem sym2_ok {order : Value} (hT : ByT order) {base : Nat} {H : Heap} {a : Option Addr} {n c p m q : Nat} {L P A Q : List Smp} {y : Smp} {K : Heap → Prop} (ho : Own encS 26 base H a n c L) (eL : L = P ++ (A ++ ([y] ++ Q))) (hp : P.length = p) (hm : p + A.length = m) (hq : m + 1 = q) (hA2 : 2 ≤ A.length) (hn : n ≤ 1000000000) (hA : Srt A)
    (hk : ∀ H' S, Own encS 26 base H' a n c (P ++ (S ++ Q)) → Srt S → Stb (A ++ [y]) S → Fr (blkL a) H H' → K H') :
    CallH Try.prog fn_slices_symMergeCmpFunc_api_Sample_ ⟨[.slice a n c, .int .i64 p, .int .i64 m, .int .i64 q, order]⟩ H fun v H' => v = .tuple ⟨[]⟩ ∧ K H' := by
  apply vc_slices_symMergeCmpFunc_api_Sample_
  have hl := ho.1
  subst eL
  simp only [List.length_append, List.length_cons, List.length_nil] at hl
  have ew0 : IntKind.i64.wrap ((m : Int) - p) = ((A.length : Nat) : Int) := by rw [wrap64_of (by omega) (by omega)]; omega
  have ew : IntKind.i64.wrap ((q : Int) - m) = 1 := by rw [wrap64_of (by omega) (by omega)]; omega
  rw [ew, ew0]
  refine brB_of (fun h => by simp at h; omega) (fun _ => brB_of (fun _ => ?_) (fun h => by simp at h))
  refine ⟨fun vs H' => match vs with
      | [.int _ i, .int _ j] => ∃ i' j' : Nat, i = i' ∧ j = j' ∧ p ≤ i' ∧ i' ≤ j' ∧ j' ≤ m ∧ (i' = p ∨ LeA A (i' - 1 - p) y.1) ∧ (j' = m ∨ GtA A (j' - p) y.1) ∧ Own encS 26 base H' a n c (P ++ (A ++ ([y] ++ Q))) ∧ Fr (blkL a) H H'
      | _ => False,
    fun vs _ => match vs with | [.int _ i, .int _ j] => j.toNat - i.toNat | _ => 0, ⟨p, m, rfl, rfl, by omega, by omega, by omega, .inl rfl, .inl rfl, ho, Fr.refl _ _⟩, ?_⟩
  rintro J i j H1 ⟨i', j', rfl, rfl, h1, h2, h3, h4, h5, ho1, hf1⟩
  refine brB_of (fun h0 => ?_) (fun h0 => ?_)
  · have h0' : i' < j' := by simpa using h0
    rw [avg64 (by omega)]
    have hh1 : i' ≤ (i' + j') / 2 := by omega
    have hh2 : (i' + j') / 2 < j' := by omega
    generalize (i' + j') / 2 = h at hh1 hh2
    have hz : A[h - p]? = some (A[h - p]'(by omega)) := by simp
    generalize A[h - p]'(by omega) = z at hz
    refine ho1.sl.get (k := m) (x := y) rfl (by rw [← List.append_assoc, in_mid (by simp; omega) (by simp; omega)]; simp [hp, hm]) (decide_eq_true (by omega)) fun ad ea hc => ⟨_, _, ldS hc, ?_⟩
    refine ho1.sl.get (k := h) rfl (by rw [in_mid (by omega) (by omega), hp]; exact hz) (decide_eq_true (by omega)) fun ad ea hc => ⟨_, _, ldS hc, ?_⟩
    refine hT y z H1 _ fun H2 hf2 => ?_
    have ho2 := ho1.keep hf2
    have hf02 := hf1.trans' hf2 (T := blkL a) (fun _ h _ => h) (by simp)
    rw [succ64 (by omega)]
    refine brB_of (fun h6 => ⟨⟨h + 1, j', rfl, rfl, by omega, by omega, h3, .inr ⟨⟨z, hz, ?_⟩⟩, h5, ho2, hf02⟩, ?_⟩) (fun h6 => ⟨⟨i', h, rfl, rfl, h1, by omega, by omega, h4, .inr ⟨⟨z, hz, ?_⟩⟩, ho2, hf02⟩, ?_⟩)
    · have : ¬ y.1 < z.1 := fun h => by rw [decide_eq_true (cmpI_neg.2 h)] at h6; cases h6
      omega
    · show ((j' : Nat) : Int).toNat - ((h + 1 : Nat) : Int).toNat < ((j' : Nat) : Int).toNat - ((i' : Nat) : Int).toNat
      omega
    · have : decide (cmpI y.1 z.1 < 0) = true := by simpa using h6
      exact cmpI_neg.1 (of_decide_eq_true this)
    · show ((h : Nat) : Int).toNat - ((i' : Nat) : Int).toNat < ((j' : Nat) : Int).toNat - ((i' : Nat) : Int).toNat
      omega
  · have h0' : i' = j' := by simp at h0; omega
    subst h0'
    obtain ⟨U, V, rfl, hU⟩ := two_split (B := A) (k := i' - p) (by omega)
    simp only [List.length_append] at hm hl
    have hUx : ∀ u ∈ U, u.1 ≤ y.1 := fun u hu => by
      obtain ⟨k, hk⟩ := List.getElem?_of_mem hu
      have hkl := (List.getElem?_eq_some_iff.1 hk).1
      rcases h4 with h4 | ⟨⟨z, hz, h4⟩⟩
      · omega
      · have := hA.le (i := k) (j := i' - 1 - p) (by omega) (by rw [List.getElem?_append_left hkl]; exact hk) hz
        omega
    have hVx : ∀ v ∈ V, y.1 < v.1 := fun v hv => by
      obtain ⟨k, hk⟩ := List.getElem?_of_mem hv
      have hkl := (List.getElem?_eq_some_iff.1 hk).1
      rcases h5 with h5 | ⟨⟨z, hz, h5⟩⟩
      · omega
      · have := hA.le (i := i' - p) (j := U.length + k) (by omega) hz (by rw [List.getElem?_append_right (by omega)]; rw [← hk]; congr 1; omega)
        omega
    obtain ⟨r1, r2⟩ := ins_back hA hUx hVx
    refine ⟨fun vs H' => match vs with
        | [.int _ k] => ∃ V1 V2 : List Smp, V = V1 ++ V2 ∧ k = ((i' + V1.length : Nat) : Int) ∧ Own encS 26 base H' a n c (P ++ U ++ V1 ++ y :: (V2 ++ Q)) ∧ Fr (blkL a) H H'
        | _ => False,
      fun vs _ => match vs with | [.int _ k] => k.toNat | _ => 0, ⟨V, [], by simp, by omega, by simpa using ho1, hf1⟩, ?_⟩
    rintro J k H2 ⟨V1, V2, rfl, rfl, ho2, hf2⟩
    simp only [List.length_append] at hm hl
    refine brB_of (fun h7 => ?_) (fun h7 => ?_)
    · have h7' : 0 < V1.length := by simp at h7; omega
      obtain ⟨V0, w, rfl⟩ : ∃ V0 w, V1 = V0 ++ [w] := ⟨V1.dropLast, V1.getLast (by intro e; subst e; simp at h7'), (List.dropLast_concat_getLast _).symm⟩
      have eL : P ++ U ++ (V0 ++ [w]) ++ y :: (V2 ++ Q) = (P ++ U ++ V0) ++ w :: y :: (V2 ++ Q) := by simp
      simp only [List.length_append, List.length_cons, List.length_nil] at hm hl h7' ⊢
      rw [show i' + (V0.length + (0 + 1)) = (i' + V0.length) + 1 by omega, pred64 (by omega) (by omega)]
      refine ho2.sl.get (k := i' + V0.length) (by omega) (by rw [eL]; exact mid0 (by simp; omega)) (decide_eq_true (by omega)) fun ad ea hc => ⟨_, _, ldS hc, ?_⟩
      refine ho2.sl.get (k := i' + V0.length + 1) rfl (by rw [eL]; exact mid1 (by simp; omega)) (decide_eq_true (by omega)) fun ad ea hc => ⟨_, _, ldS hc, ?_⟩
      refine swap_two (k := i' + V0.length) ho2 eL (by simp; omega) rfl (by omega) _ _ (decide_eq_true (by omega)) (decide_eq_true (by omega)) fun H4 ho4 hf4 => ?_
      refine ⟨⟨V0, w :: V2, by simp, by omega, by simpa using ho4, hf2.trans' hf4 (fun _ h _ => h) (fun _ h _ => h)⟩, ?_⟩
      show (((i' + V0.length + 1 - 1 : Nat) : Int)).toNat < (((i' + V0.length + 1 : Nat) : Int)).toNat
      omega
    · have : V1 = [] := List.eq_nil_of_length_eq_zero (by simp at h7; omega)
      subst this
      exact ⟨rfl, hk H2 (U ++ y :: V2) (by simpa using ho2) (by simpa using r1) (by simpa using r2) hf2⟩
end Go.Proofs
