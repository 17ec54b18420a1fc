/- A part of a proof: see the last text of this claim. -/
import Derived.Test.YtddfciphdbdemaaQ07c
set_option linter.unusedVariables false
set_option maxRecDepth 100000
open Go Go.GV
namespace Go.Proofs

theorem rHas_ok {a : Option Addr} {n c : Nat} {A : List Int} {x : Int} {H : Heap} {K : Bool → Heap → Prop} (hx : Sl encInt H a n c A) (hn : n ≤ 1000000000) (hk : K (decide (x ∈ A)) H) :
    CallH Try.prog fn_ref06_Has ⟨[.slice a n c, .int .i64 x]⟩ H fun v H' => ∃ b, v = .bool b ∧ K b H' := by
  apply vc_ref06_Has
  have hlx := hx.len
  refine ⟨fun vs H' => match vs with | [.int _ i] => ∃ k : Nat, i = k ∧ k ≤ n ∧ (∀ y ∈ A.take k, y ≠ x) ∧ H' = H | _ => False,
    fun vs _ => match vs with | [.int _ i] => n - i.toNat | _ => 0, ⟨0, rfl, by omega, by simp, rfl⟩, ?_⟩
  rintro J i H1 ⟨k, rfl, hle, hall, rfl⟩
  refine brB_of (fun h0 => ?_) (fun h0 => ⟨_, rfl, ?_⟩)
  · have h0' : k < n := by simpa using h0
    have hx1 : A[k]? = some (A[k]'(by omega)) := by simp
    generalize A[k]'(by omega) = y at hx1
    refine hx.get rfl hx1 (decide_eq_true (by omega)) fun ad ea hc => ⟨_, ldI hc, ?_⟩
    refine brB_of (fun h => ⟨_, rfl, ?_⟩) (fun h => ?_)
    · have h : y = x := by simpa using h
      have : x ∈ A := by rw [← h]; exact List.mem_of_getElem? hx1
      rwa [decide_eq_true this] at hk
    · rw [succ64 (by omega)]
      refine ⟨⟨k + 1, rfl, by omega, fun z hz => ?_, rfl⟩, mu_lt h0'⟩
      rcases (mem_take_iff hx1 z).1 hz with h1 | h1
      · exact hall z h1
      · subst h1; simpa using h
  · have hkn : A.take k = A := List.take_of_length_le (by simp at h0; omega)
    rw [hkn] at hall
    have : ¬ x ∈ A := fun h => hall x h rfl
    rwa [decide_eq_false this] at hk
theorem rAnd_ok {a b : Option Addr} {n c m d : Nat} {A B : List Int} {H : Heap} {K : Option Addr → Nat → Nat → Heap → Prop} (hx : Sl encInt H a n c A) (hy : Sl encInt H b m d B) (hA : Ri A) (hn : n ≤ 1000000000) (hm : m ≤ 1000000000)
    (hk : ∀ a' n' c' H' os, Own encInt 3 H.size H' a' n' c' os → SetL os (fun z => z ∈ A ∧ z ∈ B) → Fr [] H H' → K a' n' c' H') :
    CallH Try.prog fn_ref06_And ⟨[.slice a n c, .slice b m d]⟩ H fun v H' => ∃ a n c, v = .slice a n c ∧ K a n c H' := by
  apply vc_ref06_And
  have hlx := hx.len
  intro b0 H1 hn1
  refine ⟨fun vs H' => match vs with
      | [.slice o p q, .int _ i] => ∃ (i' : Nat) (os : List Int), i = i' ∧ i' ≤ n ∧ Own encInt 3 H.size H' o p q os ∧ SetL os (fun z => z ∈ A.take i' ∧ z ∈ B) ∧ p ≤ i' ∧ Fr [] H H'
      | _ => False,
    fun vs _ => match vs with | [_, .int _ i] => n - i.toNat | _ => 0, ⟨0, [], rfl, by omega, Own.made encInt 3 hn1 (Nat.le_refl _), ⟨Ri.nil, by simp⟩, by omega, hn1.fr⟩, ?_⟩
  rintro J o p q ii H2 ⟨i, os, rfl, hin, ho, hs, hp, hf⟩
  refine brB_of (fun h0 => ?_) (fun h0 => ⟨_, _, _, rfl, ?_⟩)
  · have h0' : i < n := by simpa using h0
    have hx1 : A[i]? = some (A[i]'(by omega)) := by simp
    generalize A[i]'(by omega) = x at hx1
    refine (hx.keep hf).get rfl hx1 (decide_eq_true (by omega)) fun ad ea hc => ⟨_, ldI hc, rHas_ok (hy.keep hf) hm ?_⟩
    have hol := ho.1
    rw [succ64 (by omega)]
    refine brB_of (fun h1 => ?_) (fun h1 => ?_)
    · have h1 := of_decide_eq_true h1
      refine (hx.keep hf).get rfl hx1 (decide_eq_true (by omega)) fun ad ea hc => ⟨_, ldI hc, ?_⟩
      refine ap_one (E := encInt) x slice40 elem3 ho hf rfl (by omega) fun _ o5 p5 q5 H5 ho5 hf5 _ => ?_
      refine ⟨⟨i + 1, _, rfl, by omega, ho5, ⟨hs.1.snoc fun z hz => ?_, fun z => ?_⟩, by have := ho5.1; simp at this; omega, hf5⟩, mu_lt h0'⟩
      · obtain ⟨j, hj⟩ := List.mem_iff_getElem?.1 ((hs.2 z).1 hz).1
        rw [List.getElem?_take] at hj
        split at hj
        · exact ri_lt hA ‹_› hj hx1
        · cases hj
      · rw [List.mem_append, hs.2 z]
        show (z ∈ A.take i ∧ z ∈ B) ∨ z ∈ [x] ↔ (z ∈ A.take (i + 1) ∧ z ∈ B)
        rw [mem_take_iff hx1, List.mem_singleton]
        constructor
        · rintro (⟨h, h'⟩ | h)
          · exact ⟨.inl h, h'⟩
          · subst h; exact ⟨.inr rfl, h1⟩
        · rintro ⟨h | h, h'⟩
          · exact .inl ⟨h, h'⟩
          · exact .inr h
    · have h1 := of_decide_eq_false h1
      refine ⟨⟨i + 1, os, rfl, by omega, ho, hs.iff fun z => ?_, by omega, hf⟩, mu_lt h0'⟩
      rw [mem_take_iff hx1]
      constructor
      · rintro ⟨h, h'⟩; exact ⟨.inl h, h'⟩
      · rintro ⟨h | h, h'⟩
        · exact ⟨h, h'⟩
        · subst h; exact absurd h' h1
  · have hAt : A.take i = A := List.take_of_length_le (by simp at h0; omega)
    exact hk o p q H2 os ho (by rw [hAt] at hs; exact hs) hf

theorem SelR.set {L : List Lbls} {ms : List Mch} {e : Int} {os : List Int} (h : SelR L ms e os) (ha : AllM ms) : SetL os (HitAll L ms) := by
  rcases h with ⟨_, _, h⟩ | ⟨_, h, _⟩
  · exact h
  · exact absurd ha h
theorem MsH.app {H : Heap} {xs ys : List Mat} {ms ns : List Mch} (h : MsH H xs ms) (h' : MsH H ys ns) : MsH H (xs ++ ys) (ms ++ ns) := by
  refine ⟨by simp [h.len, h'.len], fun i x m hx hm => ?_⟩
  rcases Nat.lt_or_ge i xs.length with hi | hi
  · rw [List.getElem?_append_left hi] at hx
    rw [List.getElem?_append_left (by rw [← h.len]; exact hi)] at hm
    exact h.at' i x m hx hm
  · rw [List.getElem?_append_right hi] at hx
    rw [List.getElem?_append_right (by rw [← h.len]; exact hi), ← h.len] at hm
    exact h'.at' _ x m hx hm
theorem allM_app (ms ns : List Mch) : AllM (ms ++ ns) ↔ AllM ms ∧ AllM ns := by
  unfold AllM
  simp only [List.mem_append]
  exact ⟨fun h => ⟨fun m hm => h m (.inl hm), fun m hm => h m (.inr hm)⟩, fun h m hm => hm.elim (h.1 m) (h.2 m)⟩
/-- Two lists of matchers in memory, one behind the other. -/
theorem two_ok {H : Heap} {aa ba : Option Addr} {an ac bn bc : Nat} {xs ys : List Mat} {K : Option Addr → Nat → Nat → Heap → Prop} (hx : Sl encM H aa an ac xs) (hy : Sl encM H ba bn bc ys) (hn : an ≤ 20) (hm : bn ≤ 20)
    (hk : ∀ a n c H', Own encM 47 H.size H' a n c (xs ++ ys) → Fr [] H H' → K a n c H') :
    ∀ (b : Nat) (H1 : Heap), New H b (.cells ⟨[]⟩ 47) H1 → SemWp Try.prog (Builtin.append_ ⟨[38, 38]⟩ 38 ⟨[.slice (some ⟨b, 0, none⟩) 0 0, .slice aa an ac]⟩) H1 fun v H' => ∃ a n c, v = .slice a n c ∧ SemWp Try.prog (Builtin.append_ ⟨[38, 38]⟩ 38 ⟨[.slice a n c, .slice ba bn bc]⟩) H' fun v H' => ∃ a n c, v = .slice a n c ∧ K a n c H' := by
  intro b H1 hn1
  have ho0 : Own encM 47 H.size H1 (some ⟨b, 0, none⟩) 0 0 [] := Own.made encM 47 hn1 (Nat.le_refl _)
  refine ap_own (E := encM) slice38 elem47 ho0 hn1.fr (hx.keep hn1.fr) (by omega) fun a1 n1 c1 H2 ho1 hf1 _ => ?_
  have hl1 := ho1.1
  have hlx := hx.len
  simp only [List.nil_append] at ho1 hl1
  exact ap_own (E := encM) slice38 elem47 ho1 hf1 (hy.keep hf1) (by omega) fun a2 n2 c2 H3 ho2 hf2 _ => hk a2 n2 c2 H3 ho2 hf2

theorem Both_ok {la aa ba : Option Addr} {ln lc an ac bn bc : Nat} {hs : List Hd} {L : List Lbls} {xs ys : List Mat} {ms ns : List Mch} {H : Heap} (ha : Sl encH H la ln lc hs) (hl : LLs H hs L) (hx : Sl encM H aa an ac xs) (hm : MsS H xs ms) (hy : Sl encM H ba bn bc ys) (hn : MsS H ys ns) :
    CallH Try.prog fn_law07_IndexBoth ⟨[.slice la ln lc, .slice aa an ac, .slice ba bn bc]⟩ H fun v H' => v = .bool true ∧ Fr [] H H' := by
  apply vc_law07_IndexBoth
  refine ⟨fun _ H' => H' = H ∧ Light L ∧ (an ≤ 20 ∧ MsH H xs ms) ∧ bn ≤ 20 ∧ MsH H ys ns, ?_, ?_⟩
  · exact heavy_ok ha hl ⟨rfl, Fr.refl _ _⟩ fun hL => large_ok hx hm ⟨rfl, Fr.refl _ _⟩ fun h1 h2 => large_ok hy hn ⟨rfl, Fr.refl _ _⟩ fun h3 h4 => ⟨rfl, hL, ⟨h1, hm.to h2⟩, h3, hn.to h4⟩
  rintro J H1 ⟨rfl, hL, ⟨han, hM⟩, hbn, hN⟩
  refine made_ok ha hl hL fun H2 xb yb U V hb => ?_
  refine brB_of (fun h => by cases h) (fun _ => ?_)
  have hW := hb.idx.1
  generalize madeL L = M at hb hW
  have hlx := hx.len
  have hly := hy.len
  refine two_ok (hx.keep hb.fr) (hy.keep hb.fr) han hbn fun a3 n3 c3 H3 ho3 hf3 => ?_
  have hb3 := hb.keep hf3
  refine two_ok (hy.keep hb3.fr) (hx.keep hb3.fr) hbn han fun a4 n4 c4 H4 ho4 hf4 => ?_
  have hb4 := hb3.keep hf4
  have hl3 := ho3.1
  have hl4 := ho4.1
  rw [List.length_append] at hl3 hl4
  refine Select_any hb4.idx (hx.keep hb4.fr) (hM.keep hb4.fr) (by omega) fun a5 n5 c5 H5 os5 e5 ho5 hs5 hn5 hf5 => ?_
  have hb5 := hb4.keep hf5
  refine Select_any hb5.idx (hy.keep hb5.fr) (hN.keep hb5.fr) (by omega) fun a6 n6 c6 H6 os6 e6 ho6 hs6 hn6 hf6 => ?_
  have hb6 := hb5.keep hf6
  have hf46 := hf5.keep0 hf6
  refine Select_any hb6.idx (ho3.keep (hf4.keep0 hf46)).sl ((hM.app hN).keep hb6.fr) (by omega) fun a7 n7 c7 H7 os7 e7 ho7 hs7 hn7 hf7 => ?_
  have hb7 := hb6.keep hf7
  refine Select_any hb7.idx (ho4.keep (hf46.keep0 hf7)).sl ((hN.app hM).keep hb7.fr) (by omega) fun a8 n8 c8 H8 os8 e8 ho8 hs8 hn8 hf8 => ?_
  have hb8 := hb7.keep hf8
  refine odd_ok hb8.idx fun a n c H9 hf9 => ?_
  have hb9 := hb8.keep hf9
  have z5 := hs5.e0
  have z6 := hs6.e0
  have z7 := hs7.e0
  have z8 := hs8.e0
  rw [allM_app] at z7 z8
  refine ⟨fun _ H' => H' = H9, ?_, ?_⟩
  · by_cases hA : AllM ms <;> by_cases hB : AllM ns <;> simp only [hA, hB, and_self, and_true, true_and, and_false, false_and, iff_true, iff_false] at z5 z6 z7 z8
    · subst z5 z6 z7 z8; exact rfl
    · have q6 : (e6 == 0) = false := by simpa using z6
      have q7 : (e7 == 0) = false := by simpa using z7
      have q8 : (e8 == 0) = false := by simpa using z8
      subst z5
      rw [q6, q7, q8]; exact rfl
    · have q5 : (e5 == 0) = false := by simpa using z5
      have q7 : (e7 == 0) = false := by simpa using z7
      have q8 : (e8 == 0) = false := by simpa using z8
      rw [q5, q7, q8]; exact rfl
    · have q5 : (e5 == 0) = false := by simpa using z5
      have q7 : (e7 == 0) = false := by simpa using z7
      have q8 : (e8 == 0) = false := by simpa using z8
      rw [q5, q7, q8]; exact rfl
  rintro J H10 rfl
  have hf49 := ((hf46.keep0 hf7).keep0 hf8).keep0 hf9
  refine rSelect_any hb9.ref hW (ho3.keep (hf4.keep0 hf49)).sl ((hM.app hN).keep hb9.fr) (by omega) fun a11 n11 c11 H11 os11 e11 ho11 hs11 hn11 hf11 => ?_
  have hb11 := hb9.keep hf11
  obtain ⟨_, rfl⟩ := hs7.same hs11
  refine brB_of (fun _ => ⟨rfl, hb11.fr⟩) (fun h7 => ?_)
  have h7 : e7 = 0 := by simpa using h7
  have hall := z7.1 h7
  have hS5 := hs5.set hall.1
  have hS6 := hs6.set hall.2
  have hS7 := hs7.set ((allM_app _ _).2 hall)
  have hS8 := hs8.set ((allM_app _ _).2 ⟨hall.2, hall.1⟩)
  have f5 := ((((hf6.keep0 hf7).keep0 hf8).keep0 hf9).keep0 hf11)
  have f7 := (hf8.keep0 hf9).keep0 hf11
  refine rAnd_ok (ho5.keep f5).sl (ho6.keep (((hf7.keep0 hf8).keep0 hf9).keep0 hf11)).sl hS5.1 (by omega) (by omega) fun a12 n12 c12 H12 os12 ho12 hS12 hf12 => ?_
  have e12 : os7 = os12 := hS7.eq (hS12.iff fun z => by rw [hS5.2 z, hS6.2 z, hitAll_app])
  have e8' : os7 = os8 := hS7.eq (hS8.iff fun z => by rw [hitAll_app, hitAll_app, and_comm])
  refine rSameI_ok ((ho7.keep f7).keep hf12).sl ho12.sl (by omega) ?_
  rw [decide_eq_true e12]
  refine brB_of (fun _ => ?_) (fun h => by cases h)
  refine rSameI_ok ((ho7.keep f7).keep hf12).sl (((ho8.keep hf9).keep hf11).keep hf12).sl (by omega) ?_
  rw [decide_eq_true e8']
  refine brB_of (fun _ => ?_) (fun h => by cases h)
  refine rSameI_ok ((ho7.keep f7).keep hf12).sl (ho11.keep hf12).sl (by omega) ?_
  rw [decide_eq_true rfl]
  exact ⟨rfl, hb11.fr.keep0 hf12⟩
end Go.Proofs
