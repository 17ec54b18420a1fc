/- A part of a proof: see the last text of this claim. -/
import Derived.Test.YtddfciphdbdemaaP07l
set_option linter.unusedVariables false
set_option maxRecDepth 100000
open Go Go.GV
namespace Go.Proofs

theorem setL_len {os : List Int} {p : Int → Prop} {N : Nat} (h : SetL os p) (hp : ∀ z, p z → ∃ k : Nat, z = k ∧ k < N) : os.length ≤ N := by
  have hnd : os.Nodup := by
    unfold List.Nodup
    exact h.1.imp fun h => by omega
  have := nodup_len (m := (List.range N).map fun k : Nat => (k : Int)) hnd fun z hz => by
    obtain ⟨k, e, hk⟩ := hp z ((h.2 z).1 hz)
    exact List.mem_map.2 ⟨k, List.mem_range.2 hk, e.symm⟩
  simpa using this
theorem hitAll_lt {L : List Lbls} {ms : List Mch} {z : Int} (h : HitAll L ms z) : ∃ k : Nat, z = k ∧ k < L.length := by
  obtain ⟨k, l, e, hk, _⟩ := h
  exact ⟨k, e, (List.getElem?_eq_some_iff.1 hk).1⟩
theorem hit_lt {L : List Lbls} {m : Mch} {z : Int} (h : Hit L m z) : ∃ k : Nat, z = k ∧ k < L.length := by
  obtain ⟨k, l, e, hk, _⟩ := h
  exact ⟨k, e, (List.getElem?_eq_some_iff.1 hk).1⟩

/-- Matchers, and their sets' memory. -/
structure MsH (H : Heap) (xs : List Mat) (ms : List Mch) : Prop where
  len : xs.length = ms.length
  at' : ∀ (i : Nat) (x : Mat) (m : Mch), xs[i]? = some x → ms[i]? = some m → MatH H x m
theorem MsH.keep {H H' : Heap} {xs : List Mat} {ms : List Mch} (h : MsH H xs ms) (hf : Fr [] H H') : MsH H' xs ms := ⟨h.len, fun i x m hx hm => (h.at' i x m hx hm).keep hf⟩
theorem var_mat {H : Heap} {x : Mat} {zs : List Value} {K : Nat → Heap → Prop} (hz : zs.length = 4)
    (k : ∀ b H', H.size ≤ b → MatB H' b x → Fr [] H H' → K b H') :
    ∀ b H', New H b (.cells ⟨zs⟩ 47) H' → ∃ H'_1, St Try.prog 47 H' ⟨b, 0, none⟩ (vM x) H'_1 ∧ K b H'_1 :=
  var_blk (by kernel_rfl) (by kernel_rfl) (fun v h => by simp [Value.cells] at h; rcases h with rfl | rfl | rfl | rfl <;> rfl) hz k

theorem Select_ok {H : Heap} {xb : Nat} {U : List Nat} {L : List Lbls} {a : Option Addr} {n c : Nat} {xs : List Mat} {ms : List Mch} {K : Option Addr → Nat → Nat → Int → Heap → Prop} (h : IdxH H xb U L) (hx : Sl encM H a n c xs) (hm : MsH H xs ms) (hn : n ≤ 1000000000)
    (hno : ¬ (∀ m ∈ ms, ChkM m) → ∀ H', Fr [] H H' → K none 0 0 50 H')
    (hyes : (∀ m ∈ ms, ChkM m) → ∀ a' n' c' H' os, Own encInt 3 H.size H' a' n' c' os → SetL os (HitAll L ms) → n' ≤ 200 → Fr [] H H' → K a' n' c' 0 H') :
    CallH Try.prog fn_index_Index_Select ⟨[.pointer (some ⟨xb, 0, none⟩), .slice a n c]⟩ H fun v H' => ∃ a n c e, v = .tuple ⟨[.slice a n c, .int .i64 e]⟩ ∧ K a n c e H' := by
  apply vc_index_Index_Select
  have hlx := hx.len
  have hlen := h.1.len
  have hml := hm.len
  have bound : ∀ {os : List Int} {j : Nat}, SetL os (HitAll L (ms.take j)) → os.length ≤ 200 := fun hs => Nat.le_trans (setL_len hs fun z hz => hitAll_lt hz) hlen
  refine every_ok h fun a1 n1 c1 H1 ho1 hf1 => ?_
  refine ⟨fun vs H' => match vs with | [.slice a n c, .int _ i] => ∃ (k : Nat) (os : List Int), i = k ∧ k ≤ xs.length ∧ Own encInt 3 H.size H' a n c os ∧ SetL os (HitAll L (ms.take k)) ∧ (∀ m ∈ ms.take k, ChkM m) ∧ Fr [] H H' | _ => False,
    fun vs _ => match vs with | [_, .int _ i] => xs.length - i.toNat | _ => 0, ⟨0, _, rfl, by omega, ho1, (every_set L.length).iff fun z => (hitAll_nil L z).symm, by simp, hf1⟩, ?_⟩
  rintro J a2 n2 c2 i H2 ⟨k, os, rfl, hle, ho, hs, hck, hf⟩
  refine brB_of (fun h0 => ?_) (fun h0 => ⟨_, _, _, _, rfl, ?_⟩)
  · have h0' : k < n := by simpa using h0
    have hx1 : xs[k]? = some (xs[k]'(by omega)) := by simp
    have hm1 : ms[k]? = some (ms[k]'(by omega)) := by simp
    generalize xs[k]'(by omega) = x at hx1
    generalize ms[k]'(by omega) = m at hm1
    have hM := hm.at' k x m hx1 hm1
    have hsn : ms.take (k + 1) = ms.take k ++ [m] := by rw [List.take_add_one, hm1]; rfl
    refine (hx.keep hf).get rfl hx1 (decide_eq_true (by omega)) fun ad ea hc => ⟨_, _, _, _, _, _, ldM hc, ?_⟩
    refine var_mat rfl fun b H3 hb hv hf3 => ⟨_, _, _, _, _, _, hv.lA, ?_⟩
    have hf3' := hf.keep0 hf3
    refine MCheck_ok (hM.keep hf3') fun H4 hf4 => ?_
    have hf4' := hf3'.keep0 hf4
    by_cases hc : ¬ ChkM m
    · rw [chkM_no hc]
      exact ⟨_, _, _, _, rfl, hno (fun hh => hc (hh m (List.mem_of_getElem? hm1))) H4 hf4'⟩
    have hc := Classical.not_not.1 hc
    rw [chkM_yes hc]
    refine brB_of (fun h => by simp at h) (fun _ => ⟨_, _, _, _, _, _, (hv.keep hf4).lA, ?_⟩)
    refine of_ok (h.keep hf4') (hM.keep hf4') fun a5 n5 c5 H5 o5 ho5 hs5 hn5 hf5 => ?_
    have ho' := ((ho.keep hf3).keep hf4).keep hf5
    have hb1 := bound hs
    have hol := ho.1
    refine And_ok ho'.sl ho5.sl (by omega) fun a6 n6 c6 H6 ho6 hf6 => ?_
    have hf6' := (hf4'.keep0 hf5).keep0 hf6
    rw [succ64 (by omega)]
    have hs6 : SetL (mrgW wAnd os o5) (HitAll L (ms.take (k + 1))) := (hs.and hs5).iff fun z => by rw [hsn, hitAll_snoc]
    refine ⟨⟨k + 1, _, rfl, by omega, ho6.base (by have := hf4'.size; have := hf5.size; omega), hs6, fun y hy => ?_, hf6'⟩, mu_lt (by omega)⟩
    rw [hsn] at hy
    rcases List.mem_append.1 hy with h | h
    · exact hck y h
    · simp at h; subst h; exact hc
  · have hkn : ms.take k = ms := List.take_of_length_le (by simp at h0; omega)
    rw [hkn] at hck hs
    have := bound (j := ms.length) (by rw [List.take_length]; exact hs)
    exact hyes hck a2 n2 c2 H2 os ho hs (by have := ho.1; omega) hf

open Classical in
theorem rAll_ok {a b : Option Addr} {n c p d : Nat} {xs : List Mat} {ms : List Mch} {l : Lbls} {H : Heap} {K : Bool → Heap → Prop} (hx : Sl encM H a n c xs) (hm : MsH H xs ms) (hn : n ≤ 1000000000) (hl : Sl encL H b p d l) (hp : p ≤ 1000000000)
    (hk : ∀ H', Fr [] H H' → K (decide (∀ m ∈ ms, oneV m (getV l m.2.1) = true)) H') :
    CallH Try.prog fn_ref05_All ⟨[.slice a n c, .slice b p d]⟩ H fun v H' => ∃ r, v = .bool r ∧ K r H' := by
  apply vc_ref05_All
  have hlx := hx.len
  have hml := hm.len
  refine ⟨fun vs H' => match vs with | [.int _ i] => ∃ k : Nat, i = k ∧ k ≤ n ∧ (∀ m ∈ ms.take k, oneV m (getV l m.2.1) = true) ∧ Fr [] H H' | _ => False,
    fun vs _ => match vs with | [.int _ i] => n - i.toNat | _ => 0, ⟨0, rfl, by omega, by simp, Fr.refl _ _⟩, ?_⟩
  rintro J i H1 ⟨k, rfl, hle, hall, hf⟩
  refine brB_of (fun h0 => ?_) (fun h0 => ⟨_, rfl, ?_⟩)
  · have h0' : k < n := by simpa using h0
    have hx1 : xs[k]? = some (xs[k]'(by omega)) := by simp
    have hm1 : ms[k]? = some (ms[k]'(by omega)) := by simp
    generalize xs[k]'(by omega) = x at hx1
    generalize ms[k]'(by omega) = m at hm1
    have hM := hm.at' k x m hx1 hm1
    refine (hx.keep hf).get rfl hx1 (decide_eq_true (by omega)) fun ad ea hc => ⟨_, _, _, _, _, _, ldM hc, ?_⟩
    refine rOne_ok (hM.keep hf) (hl.keep hf) hp fun H2 hf2 => ?_
    have hf2' := hf.keep0 hf2
    refine brB_of (fun h => ⟨_, rfl, ?_⟩) (fun h => ?_)
    · have : ¬ ∀ m ∈ ms, oneV m (getV l m.2.1) = true := fun hh => by
        have := hh m (List.mem_of_getElem? hm1)
        rw [this] at h; cases h
      have hK := hk H2 hf2'
      rwa [decide_eq_false this] at hK
    · rw [succ64 (by omega)]
      refine ⟨⟨k + 1, rfl, by omega, fun y hy => ?_, hf2'⟩, mu_lt h0'⟩
      rw [List.take_add_one, hm1] at hy
      rcases List.mem_append.1 hy with h1 | h1
      · exact hall y h1
      · simp at h1; subst h1; simpa using h
  · have hkn : ms.take k = ms := List.take_of_length_le (by simp at h0; omega)
    rw [hkn] at hall
    have hK := hk H1 hf
    rwa [decide_eq_true hall] at hK

theorem rSelect_ok {H : Heap} {yb : Nat} {U : List Nat} {L : List Lbls} {a : Option Addr} {n c : Nat} {xs : List Mat} {ms : List Mch} {K : Option Addr → Nat → Nat → Int → Heap → Prop} (h : RefH H yb U L) (hw : WfI L) (hx : Sl encM H a n c xs) (hm : MsH H xs ms) (hn : n ≤ 1000000000)
    (hno : ¬ (∀ m ∈ ms, ChkM m) → ∀ H', Fr [] H H' → K none 0 0 50 H')
    (hyes : (∀ m ∈ ms, ChkM m) → ∀ a' n' c' H' os, Own encInt 3 H.size H' a' n' c' os → SetL os (HitAll L ms) → n' ≤ 200 → Fr [] H H' → K a' n' c' 0 H') :
    CallH Try.prog fn_ref07_Index_Select ⟨[.pointer (some ⟨yb, 0, none⟩), .slice a n c]⟩ H fun v H' => ∃ a n c e, v = .tuple ⟨[.slice a n c, .int .i64 e]⟩ ∧ K a n c e H' := by
  apply vc_ref07_Index_Select
  have hlx := hx.len
  have hml := hm.len
  have hlen := hw.len
  obtain ⟨a0, n0, c0, hs, h1, h2, h3, _⟩ := id h
  have e0 : n0 = L.length := by rw [h2.1, h3.1]
  have hb : Blk H ⟨yb, 0, none⟩ [.slice a0 n0 c0] := ⟨yb, _, rfl, h1⟩
  refine ⟨fun vs H' => match vs with | [.int _ i] => ∃ k : Nat, i = k ∧ k ≤ n ∧ (∀ m ∈ ms.take k, ChkM m) ∧ Fr [] H H' | _ => False,
    fun vs _ => match vs with | [.int _ i] => n - i.toNat | _ => 0, ⟨0, rfl, by omega, by simp, Fr.refl _ _⟩, ?_⟩
  rintro J i H1 ⟨k, rfl, hle, hck, hf⟩
  refine brB_of (fun h0 => ?_) (fun h0 => ?_)
  · have h0' : k < n := by simpa using h0
    have hx1 : xs[k]? = some (xs[k]'(by omega)) := by simp
    have hm1 : ms[k]? = some (ms[k]'(by omega)) := by simp
    generalize xs[k]'(by omega) = x at hx1
    generalize ms[k]'(by omega) = m at hm1
    have hM := hm.at' k x m hx1 hm1
    refine (hx.keep hf).get rfl hx1 (decide_eq_true (by omega)) fun ad ea hc => ⟨_, _, _, _, _, _, ldM hc, ?_⟩
    refine rMCheck_ok (hM.keep hf) fun H2 hf2 => ?_
    have hf2' := hf.keep0 hf2
    by_cases hc : ¬ ChkM m
    · rw [chkM_no hc]
      exact ⟨_, _, _, _, rfl, hno (fun hh => hc (hh m (List.mem_of_getElem? hm1))) H2 hf2'⟩
    have hc := Classical.not_not.1 hc
    rw [chkM_yes hc, succ64 (by omega)]
    refine brB_of (fun h => by simp at h) (fun _ => ⟨⟨k + 1, rfl, by omega, fun y hy => ?_, hf2'⟩, mu_lt h0'⟩)
    rw [List.take_add_one, hm1] at hy
    rcases List.mem_append.1 hy with h1 | h1
    · exact hck y h1
    · simp at h1; subst h1; exact hc
  have hkn : ms.take k = ms := List.take_of_length_le (by simp at h0; omega)
  rw [hkn] at hck
  have hs0 : SetL [] (fun z => HitAll L ms z ∧ z < ((0 : Nat) : Int)) := by
    refine ⟨Ri.nil, fun z => ⟨fun h => (by cases h), fun h => ?_⟩⟩
    obtain ⟨⟨k, l, e, _⟩, hz⟩ := h
    omega
  intro b2 H2 hn2
  have hf2 := hf.keep0 hn2.fr
  refine ⟨fun vs H' => match vs with | [.slice a n c, .int _ i] => ∃ (k : Nat) (os : List Int), i = k ∧ k ≤ n0 ∧ Own encInt 3 H.size H' a n c os ∧ SetL os (fun z => HitAll L ms z ∧ z < (k : Int)) ∧ n ≤ k ∧ Fr [] H H' | _ => False,
    fun vs _ => match vs with | [_, .int _ i] => n0 - i.toNat | _ => 0, ⟨0, [], rfl, by omega, Own.made encInt 3 hn2 hf.size, hs0, by omega, hf2⟩, ?_⟩
  rintro J a3 n3 c3 i H3 ⟨k, os, rfl, hle, ho, hs3, hnk, hf3⟩
  have hb3 := hb.keep hf3
  refine ⟨_, _, _, hb3.ld0 (by kernel_rfl) rfl, brB_of (fun h0 => ?_) (fun h0 => ⟨_, _, _, _, rfl, ?_⟩)⟩
  · have h0' : k < n0 := by simpa using h0
    have hx1 : hs[k]? = some (hs[k]'(by have := h2.1; omega)) := by simp
    have hl1 : L[k]? = some (L[k]'(by omega)) := by simp
    generalize hs[k]'(by have := h2.1; omega) = hd at hx1
    generalize L[k]'(by omega) = l at hl1
    have hl := (h3.2 _ _ _ hx1 hl1).1.keep hf3
    have hc8 := (hw.chk l (List.mem_of_getElem? hl1)).1
    refine ⟨_, _, _, hb3.ld0 (by kernel_rfl) rfl, (h2.sl.keep hf3).get rfl hx1 (decide_eq_true (by omega)) fun ad ea hc => ⟨_, _, _, ldH hc, ?_⟩⟩
    refine rAll_ok (hx.keep hf3) (hm.keep hf3) hn hl.sl (by have := hl.1; omega) fun H4 hf4 => ?_
    have hf4' := hf3.keep0 hf4
    have step : ∀ z : Int, (HitAll L ms z ∧ z < ((k + 1 : Nat) : Int)) ↔ (HitAll L ms z ∧ z < (k : Int)) ∨ (z = k ∧ ∀ m ∈ ms, oneV m (getV l m.2.1) = true) := fun z => by
      constructor
      · rintro ⟨⟨k', l', e, hk', hh⟩, hz⟩
        rcases Nat.lt_or_ge k' k with h | h
        · exact .inl ⟨⟨k', l', e, hk', hh⟩, by omega⟩
        · have : k' = k := by omega
          subst this
          rw [hl1] at hk'; cases hk'
          exact .inr ⟨e, hh⟩
      · rintro (⟨h, hz⟩ | ⟨e, hh⟩)
        · exact ⟨h, by omega⟩
        · exact ⟨⟨k, l, e, hl1, hh⟩, by omega⟩
    rw [succ64 (by omega)]
    refine brB_of (fun hb => ?_) (fun hb => ?_)
    · have hall := of_decide_eq_true hb
      refine ap_one (E := encInt) (k : Int) slice40 elem3 (ho.keep hf4) hf4' rfl (by omega) fun _ o5 p5 q5 H5 ho5 hf5 _ => ?_
      refine ⟨⟨k + 1, _, rfl, by omega, ho5, ⟨hs3.1.snoc fun x hx => ((hs3.2 x).1 hx).2, fun z => ?_⟩, ?_, hf5⟩, mu_lt h0'⟩
      · rw [List.mem_append, hs3.2 z]
        refine Iff.trans ?_ (step z).symm
        simp only [List.mem_singleton]
        exact ⟨fun h => h.elim .inl fun h => .inr ⟨h, hall⟩, fun h => h.elim .inl fun h => .inr h.1⟩
      · have := ho5.1; have := ho.1; simp at *; omega
    · have hall := of_decide_eq_false hb
      refine ⟨⟨k + 1, os, rfl, by omega, ho.keep hf4, hs3.iff fun z => ?_, by omega, hf4'⟩, mu_lt h0'⟩
      exact Iff.trans ⟨.inl, fun h => h.elim id fun h => absurd h.2 hall⟩ (step z).symm
  · have hkn' : k = n0 := by simp at h0; omega
    subst hkn'
    refine hyes hck a3 n3 c3 H3 os ho (hs3.iff fun z => ⟨fun h => h.1, fun h => ⟨h, ?_⟩⟩) (by omega) hf3
    obtain ⟨k', e, hk'⟩ := hitAll_lt h
    omega

theorem rSameI_ok {a b : Option Addr} {n c m d : Nat} {xs ys : List Int} {H : Heap} {K : Bool → Heap → Prop} (hx : Sl encInt H a n c xs) (hy : Sl encInt H b m d ys) (hn : n ≤ 1000000000) (hk : K (decide (xs = ys)) H) :
    CallH Try.prog fn_ref06_Same ⟨[.slice a n c, .slice b m d]⟩ H fun v H' => ∃ r, v = .bool r ∧ K r H' := by
  apply vc_ref06_Same
  have hlx := hx.len
  have hly := hy.len
  refine brB_of (fun h => ⟨_, rfl, ?_⟩) (fun h => ?_)
  · have : ¬ xs = ys := fun e => by subst e; simp at h; omega
    rwa [decide_eq_false this] at hk
  have hnm : n = m := by simp at h; omega
  refine ⟨fun vs H' => match vs with | [.int _ i] => ∃ k : Nat, i = k ∧ k ≤ n ∧ xs.take k = ys.take k ∧ H' = H | _ => False,
    fun vs _ => match vs with | [.int _ i] => n - i.toNat | _ => 0, ⟨0, rfl, by omega, by simp, rfl⟩, ?_⟩
  rintro J i H' ⟨k, rfl, hle, ht, rfl⟩
  refine brB_of (fun h0 => ?_) (fun h0 => ⟨_, rfl, ?_⟩)
  · have h0' : k < n := by simpa using h0
    have hx1 : xs[k]? = some (xs[k]'(by omega)) := by simp
    have hy1 : ys[k]? = some (ys[k]'(by omega)) := by simp
    generalize xs[k]'(by omega) = x at hx1
    generalize ys[k]'(by omega) = y at hy1
    refine hx.get rfl hx1 (decide_eq_true (by omega)) fun ad ea hc => ⟨_, ldI hc, ?_⟩
    refine hy.get rfl hy1 (decide_eq_true (by omega)) fun bd eb hd => ⟨_, ldI hd, ?_⟩
    refine brB_of (fun h2 => ⟨_, rfl, ?_⟩) (fun h2 => ?_)
    · have : ¬ xs = ys := fun e => by subst e; rw [hx1] at hy1; cases hy1; simp at h2
      rwa [decide_eq_false this] at hk
    · rw [succ64 (by omega)]
      refine ⟨⟨k + 1, rfl, by omega, ?_, rfl⟩, mu_lt h0'⟩
      rw [List.take_add_one, List.take_add_one, hx1, hy1, ht]
      simp at h2
      rw [h2]
  · have e1 : xs.take k = xs := List.take_of_length_le (by simp at h0; omega)
    have e2 : ys.take k = ys := List.take_of_length_le (by simp at h0; omega)
    rw [e1, e2] at ht
    rwa [decide_eq_true ht] at hk

/-- Matchers that came in. -/
def MsS (H : Heap) (xs : List Mat) (ms : List Mch) : Prop := xs.length = ms.length ∧ ∀ (i : Nat) (x : Mat) (m : Mch), xs[i]? = some x → ms[i]? = some m → m.1 = x.1 ∧ m.2.1 = x.2.1 ∧ m.2.2.1 = x.2.2.1 ∧ Sl encStr H x.2.2.2.1 x.2.2.2.2.1 x.2.2.2.2.2 m.2.2.2
theorem MsS.keep {H H' : Heap} {xs : List Mat} {ms : List Mch} (h : MsS H xs ms) (hf : Fr [] H H') : MsS H' xs ms := ⟨h.1, fun i x m hx hm => by
  obtain ⟨h1, h2, h3, h4⟩ := h.2 i x m hx hm
  exact ⟨h1, h2, h3, h4.keep hf⟩⟩
theorem MsS.to {H : Heap} {xs : List Mat} {ms : List Mch} (h : MsS H xs ms) (hl : ∀ x ∈ xs, x.2.2.2.2.1 ≤ 20) : MsH H xs ms := ⟨h.1, fun i x m hx hm => by
  obtain ⟨h1, h2, h3, h4⟩ := h.2 i x m hx hm
  exact ⟨h1, h2, h3, h4, by have := hl x (List.mem_of_getElem? hx); omega⟩⟩
theorem ldM1 {H : Heap} {ad : Addr} {x : Mat} (h : CellsAt H ad (encM.cells x)) : Ld Try.prog 9 H (ad.add 1) (.string x.2.1) := ld_part (by kernel_rfl) h (j := 1) rfl
theorem ldM2 {H : Heap} {ad : Addr} {x : Mat} (h : CellsAt H ad (encM.cells x)) : Ld Try.prog 9 H (ad.add 2) (.string x.2.2.1) := ld_part (by kernel_rfl) h (j := 2) rfl
theorem ldM3 {H : Heap} {ad : Addr} {x : Mat} (h : CellsAt H ad (encM.cells x)) : Ld Try.prog 45 H (ad.add 3) (.slice x.2.2.2.1 x.2.2.2.2.1 x.2.2.2.2.2) := ld_part (by kernel_rfl) h (j := 3) rfl
theorem large_ok {H : Heap} {a : Option Addr} {n c : Nat} {xs : List Mat} {ms : List Mch} {K : Bool → Heap → Prop} (hx : Sl encM H a n c xs) (hm : MsS H xs ms) (hyes : K true H) (hno : n ≤ 20 → (∀ x ∈ xs, x.2.2.2.2.1 ≤ 20) → K false H) :
    CallH Try.prog fn_law07_large ⟨[.slice a n c]⟩ H fun v H' => ∃ b, v = .bool b ∧ K b H' := by
  apply vc_law07_large
  have hlx := hx.len
  refine brB_of (fun h => ⟨_, rfl, hyes⟩) (fun h => ?_)
  have hn20 : n ≤ 20 := by simp at h; omega
  refine ⟨fun vs H' => match vs with | [.int _ i] => ∃ k : Nat, i = k ∧ k ≤ n ∧ (∀ x ∈ xs.take k, x.2.2.2.2.1 ≤ 20) ∧ H' = H | _ => False,
    fun vs _ => match vs with | [.int _ i] => n - i.toNat | _ => 0, ⟨0, rfl, by omega, by simp, rfl⟩, ?_⟩
  rintro J i H1 ⟨k, rfl, hle, hall, rfl⟩
  refine brB_of (fun h0 => ?_) (fun h0 => ⟨_, rfl, ?_⟩)
  · have h0' : k < n := by simpa using h0
    have hx1 : xs[k]? = some (xs[k]'(by omega)) := by simp
    generalize xs[k]'(by omega) = x at hx1
    have hm1 : ms[k]? = some (ms[k]'(by have := hm.1; omega)) := by simp
    generalize ms[k]'(by have := hm.1; omega) = m at hm1
    obtain ⟨_, _, _, hset⟩ := hm.2 k x m hx1 hm1
    have hsl := hset.len
    have at0 : ∀ {Q : Addr → Prop}, (∀ ad, a = some ad → CellsAt H1 (ad.add ((k : Int).toNat * encM.sz)) (encM.cells x) → Q ad) → exSome a fun ad => chk (decide ((0 : Int) ≤ k ∧ (k : Int) < n)) (Q ad) := fun hK => hx.get rfl hx1 (decide_eq_true (by omega)) hK
    refine ⟨fun _ H' => H' = H1 ∧ x.2.2.2.2.1 ≤ 20, ?_, ?_⟩
    · refine ⟨fun _ H' => H' = H1 ∧ x.2.2.2.2.1 ≤ 20, ?_, ?_⟩
      · refine at0 fun ad ea hc => ⟨_, ldM1 hc, brB_of (fun _ => ⟨_, rfl, hyes⟩) (fun _ => at0 fun ad ea hc => ⟨_, ldM2 hc, brB_of (fun _ => ⟨_, rfl, hyes⟩) (fun _ => at0 fun ad ea hc => ⟨_, _, _, ldM3 hc, brB_of (fun _ => ⟨_, rfl, hyes⟩) (fun h => ⟨rfl, by simp at h; omega⟩)⟩)⟩)⟩
      · rintro J H2 ⟨rfl, h20⟩
        refine ⟨fun vs H' => match vs with | [.int _ i] => ∃ j : Nat, i = j ∧ j ≤ x.2.2.2.2.1 ∧ H' = H2 | _ => False,
          fun vs _ => match vs with | [.int _ i] => x.2.2.2.2.1 - i.toNat | _ => 0, ⟨0, rfl, by omega, rfl⟩, ?_⟩
        rintro J i H3 ⟨j, rfl, hj, rfl⟩
        refine at0 fun ad ea hc => ⟨_, _, _, ldM3 hc, brB_of (fun h1 => ?_) (fun _ => ⟨rfl, h20⟩)⟩
        have h1' : j < x.2.2.2.2.1 := by simpa using h1
        have hy1 : m.2.2.2[j]? = some (m.2.2.2[j]'(by omega)) := by simp
        refine at0 fun ad ea hc => ⟨_, _, _, ldM3 hc, hset.get rfl hy1 (decide_eq_true (by omega)) fun ad ea hc => ⟨_, ldS9 hc, brB_of (fun _ => ⟨_, rfl, hyes⟩) (fun _ => ?_)⟩⟩
        rw [succ64 (by omega)]
        exact ⟨⟨j + 1, rfl, by omega, rfl⟩, mu_lt h1'⟩
    · rintro J H2 ⟨rfl, h20⟩
      rw [succ64 (by omega)]
      refine ⟨⟨k + 1, rfl, by omega, fun y hy => ?_, rfl⟩, mu_lt h0'⟩
      rw [List.take_add_one, hx1] at hy
      rcases List.mem_append.1 hy with h1 | h1
      · exact hall y h1
      · simp at h1; subst h1; exact h20
  · have hkn : xs.take k = xs := List.take_of_length_le (by simp at h0; omega)
    rw [hkn] at hall
    exact hno hn20 hall
end Go.Proofs
