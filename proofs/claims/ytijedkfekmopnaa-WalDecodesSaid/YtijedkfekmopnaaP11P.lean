/- A part of a proof: see the last text of this claim. -/
import Derived.Test.YtijedkfekmopnaaP11O
set_option linter.unusedVariables false
set_option maxRecDepth 100000
open Go Go.GV
namespace Go.Proofs

theorem GoodR.inj {r r' : Rc} (h : GoodR r) (h' : GoodR r') (e : encR r = encR r') : r = r' := by
  have hk : r.k = r'.k ∧ bodyR r = bodyR r' := by
    unfold encR at e
    obtain ⟨e1, e2⟩ := uint_eq (show uintL r.k.toNat ++ bodyR r = uintL r'.k.toNat ++ bodyR r' from e)
    have := h.fine.k
    have := h'.fine.k
    exact ⟨by omega, e2⟩
  obtain ⟨hk, e⟩ := hk
  have hF := h.fine
  have hF' := h'.fine
  have hk0 := hF.k
  rcases (by omega : r.k = 0 ∨ r.k = 1 ∨ r.k = 2 ∨ r.k = 3) with h1 | h1 | h1 | h1
  · have h2 : r'.k = 0 := by omega
    have e1 : bodyR r = textL (pS r.l) := by unfold bodyR; rw [if_pos h1]
    have e2 : bodyR r' = textL (pS r'.l) := by unfold bodyR; rw [if_pos h2]
    rw [e1, e2] at e
    obtain ⟨e3, _⟩ := text_eq (x := []) (y := []) (by simpa using e)
    have e4 := congrArg bl e3
    rw [bl_pS, bl_pS] at e4
    have := print_inj (h.chk h1).2.1 (h'.chk h2).2.1 e4
    rw [sole0 hF h1, sole0 hF' h2, this]
  · have h2 : r'.k = 1 := by omega
    have e1 : bodyR r = uintL r.rows.length ++ r.rows.flatMap rowL := by unfold bodyR; rw [if_neg (by omega), if_pos h1]
    have e2 : bodyR r' = uintL r'.rows.length ++ r'.rows.flatMap rowL := by unfold bodyR; rw [if_neg (by omega), if_pos h2]
    rw [e1, e2] at e
    obtain ⟨e3, e4⟩ := uint_eq e
    have inj : ∀ {L L' : List Row}, L.length = L'.length → (∀ x ∈ L, RowP x) → (∀ x ∈ L', RowP x) → L.flatMap rowL = L'.flatMap rowL → L = L' := by
      intro L
      induction L with
      | nil => intro L' hl _ _ _; cases L' with | nil => rfl | cons _ _ => simp at hl
      | cons x L ih =>
        intro L' hl g1 g2 e
        cases L' with
        | nil => simp at hl
        | cons y L' =>
          simp only [List.flatMap_cons] at e
          unfold rowL at e
          simp only [List.append_assoc] at e
          have p1 := g1 x (by simp)
          have p2 := g2 y (by simp)
          obtain ⟨a1, e⟩ := uint_eq (show uintL x.1.toNat ++ _ = uintL y.1.toNat ++ _ from e)
          obtain ⟨a2, e⟩ := uint_eq (show uintL x.2.1.toNat ++ _ = uintL y.2.1.toNat ++ _ from e)
          obtain ⟨a3, e⟩ := intL_eq e
          have hx : x = y := Prod.ext (by have := p1.1; have := p2.1; omega) (Prod.ext (by have := p1.2; have := p2.2; omega) a3)
          rw [hx, ih (by simpa using hl) (fun z hz => g1 z (by simp [hz])) (fun z hz => g2 z (by simp [hz])) e]
    rw [sole1 hF h1, sole1 hF' h2, inj e3 hF.row hF'.row e4]
  · have h2 : r'.k = 2 := by omega
    have e1 : bodyR r = uintL r.tombs.length ++ r.tombs.flatMap tombL := by unfold bodyR; rw [if_neg (by omega), if_neg (by omega), if_pos h1]
    have e2 : bodyR r' = uintL r'.tombs.length ++ r'.tombs.flatMap tombL := by unfold bodyR; rw [if_neg (by omega), if_neg (by omega), if_pos h2]
    rw [e1, e2] at e
    obtain ⟨e3, e4⟩ := uint_eq e
    have inj : ∀ {L L' : List Row}, L.length = L'.length → (∀ x ∈ L, TombP x) → (∀ x ∈ L', TombP x) → L.flatMap tombL = L'.flatMap tombL → L = L' := by
      intro L
      induction L with
      | nil => intro L' hl _ _ _; cases L' with | nil => rfl | cons _ _ => simp at hl
      | cons x L ih =>
        intro L' hl g1 g2 e
        cases L' with
        | nil => simp at hl
        | cons y L' =>
          simp only [List.flatMap_cons] at e
          unfold tombL at e
          simp only [List.append_assoc] at e
          have p1 := g1 x (by simp)
          have p2 := g2 y (by simp)
          obtain ⟨a1, e⟩ := uint_eq (show uintL x.1.toNat ++ _ = uintL y.1.toNat ++ _ from e)
          obtain ⟨a2, e⟩ := uint_eq (show uintL x.2.1.toNat ++ _ = uintL y.2.1.toNat ++ _ from e)
          obtain ⟨a3, e⟩ := uint_eq (show uintL x.2.2.toNat ++ _ = uintL y.2.2.toNat ++ _ from e)
          have hx : x = y := Prod.ext (by have := p1.1; have := p2.1; omega) (Prod.ext (by have := p1.2; have := p2.2; omega) (by have := p1.2; have := p2.2; omega))
          rw [hx, ih (by simpa using hl) (fun z hz => g1 z (by simp [hz])) (fun z hz => g2 z (by simp [hz])) e]
    rw [sole2 hF h1, sole2 hF' h2, inj e3 hF.tomb hF'.tomb e4]
  · have h2 : r'.k = 3 := by omega
    have e1 : bodyR r = uL r.at' := by unfold bodyR; rw [if_neg (by omega), if_neg (by omega), if_neg (by omega)]
    have e2 : bodyR r' = uL r'.at' := by unfold bodyR; rw [if_neg (by omega), if_neg (by omega), if_neg (by omega)]
    rw [e1, e2] at e
    obtain ⟨e3, _⟩ := uint_eq (x := []) (y := []) (show uintL r.at'.toNat ++ [] = uintL r'.at'.toNat ++ [] by simpa [uL] using e)
    have := hF.at'
    have := hF'.at'
    rw [sole3 hF h1, sole3 hF' h2, show r.at' = r'.at' by omega]
theorem rDecode_ok {H : Heap} {s : ByteArray} {K : Int → Option Addr → Nat → Nat → Option Addr → Nat → Nat → Option Addr → Nat → Nat → Int → Int → Heap → Prop} (hs : s.size ≤ 1000000000)
    (hno : (∀ r, GoodR r → bl s ≠ encR r) → ∀ H', Fr [] H H' → K 0 none 0 0 none 0 0 none 0 0 0 11 H')
    (hyes : ∀ r (m : Rm) H', GoodR r → bl s = encR r → RcH H' m r → Small m → Fr [] H H' → K m.1 m.2.1.1 m.2.1.2.1 m.2.1.2.2 m.2.2.1.1 m.2.2.1.2.1 m.2.2.1.2.2 m.2.2.2.1.1 m.2.2.2.1.2.1 m.2.2.2.1.2.2 m.2.2.2.2 0 H') :
    CallH Try.prog fn_ref11_Decode ⟨[.string s]⟩ H fun v H' => ∃ n a n_1 c a_1 n_2 c_1 a_2 n_3 c_2 n_4 n_5, v = .tuple ⟨[.agg ⟨[.int .i64 n, .slice a n_1 c, .slice a_1 n_2 c_1, .slice a_2 n_3 c_2, .int .i64 n_4]⟩, .int .i64 n_5]⟩ ∧ K n a n_1 c a_1 n_2 c_1 a_2 n_3 c_2 n_4 n_5 H' := by
  apply vc_ref11_Decode
  intro b H1 hn1
  have e1 := hn1.eq
  have s1 := hn1.size
  refine read_ok hs fun m r ok H2 hR hni hsm hT hC hf2 => ?_
  have s2 := hf2.size
  intro b2 H3 hn3
  have e3 := hn3.eq
  refine st33 (m := m) (m' := m0 0) hn3.blk fun H4 hr4 hf4 => ?_
  have hb4 : Blk H4 ⟨b, 0, none⟩ (rC (m0 0)) := ((hn1.blk.keep hf2).keep hn3.fr).fr hf4 (by simp; omega)
  have hf24 : Fr [] H2 H4 := hn3.fr.keep hf4 (fun k hk => by simp at hk; omega)
  have hf04 : Fr [] H H4 := (hn1.fr.keep0 hf2).keep0 hf24
  have hR4 := hR.keep hf24
  have bad : ∀ {H' : Heap}, Fr [] H4 H' → (∀ r, GoodR r → bl s ≠ encR r) → ∃ H'_2, St Try.prog 33 H' ⟨b, 0, none⟩ (.agg ⟨rC (m0 0)⟩) H'_2 ∧ ∃ n a n_5 c a_4 n_6 c_3 a_5 n_7 c_4 n_8, Ld Try.prog 33 H'_2 ⟨b, 0, none⟩ (.agg ⟨[.int .i64 n, .slice a n_5 c, .slice a_4 n_6 c_3, .slice a_5 n_7 c_4, .int .i64 n_8]⟩) ∧
      ∃ n' a' n_1' c' a_1' n_2' c_1' a_2' n_3' c_2' n_4' n_5', Value.tuple ⟨[.agg ⟨[.int .i64 n, .slice a n_5 c, .slice a_4 n_6 c_3, .slice a_5 n_7 c_4, .int .i64 n_8]⟩, .int .i64 11]⟩ = .tuple ⟨[.agg ⟨[.int .i64 n', .slice a' n_1' c', .slice a_1' n_2' c_1', .slice a_2' n_3' c_2', .int .i64 n_4']⟩, .int .i64 n_5']⟩ ∧ K n' a' n_1' c' a_1' n_2' c_1' a_2' n_3' c_2' n_4' n_5' H'_2 := fun {H'} hf h =>
    st33 (m := m0 0) (hb4.keep hf) fun H5 hb5 hf5 => ⟨_, _, _, _, _, _, _, _, _, _, _, hb5.ldA0 (by kernel_rfl) (by kernel_rfl) rfl, _, _, _, _, _, _, _, _, _, _, _, _, rfl, hno h H5 ((hf04.keep0 hf).keep hf5 (fun k hk => by simp at hk; omega))⟩
  refine brB_of (fun h => bad (Fr.refl _ _) fun y hy e => ?_) (fun h => ?_)
  · obtain ⟨h1, _⟩ := hC y hy e
    rw [h1] at h; cases h
  refine ⟨_, _, _, _, _, _, _, _, _, _, _, hr4.ldA0 (by kernel_rfl) (by kernel_rfl) rfl, ?_⟩
  refine rEncode_ok hR4 hsm hT (fun hF H5 hf5 => ?_) (fun hF h0 hl H5 hf5 => ?_) fun hF hl H5 hf5 => ?_
  · refine brB_of (fun _ => bad hf5 fun y hy e => ?_) (fun h => by simp at h)
    obtain ⟨_, h2⟩ := hC y hy e
    exact hF (h2 ▸ hy.fine)
  · refine brB_of (fun _ => bad hf5 fun y hy e => ?_) (fun h => by simp at h)
    obtain ⟨_, h2⟩ := hC y hy e
    exact hl (h2 ▸ hy.chk (h2 ▸ h0))
  · refine brB_of (fun h => by simp at h) (fun _ => ?_)
    have hG : GoodR r := ⟨hF, hT, hl⟩
    refine brB_of (fun h => bad hf5 fun y hy e => ?_) (fun h => ?_)
    · obtain ⟨_, h2⟩ := hC y hy e
      rw [beqS] at h
      have : (⟨(encR r).toArray⟩ : ByteArray) = s := bl_inj (by rw [bl_mk, e, h2])
      rw [decide_eq_true this] at h; cases h
    · rw [beqS] at h
      have es : (⟨(encR r).toArray⟩ : ByteArray) = s := by simpa using h
      have es2 : bl s = encR r := by rw [← es, bl_mk]
      have hr5 := hr4.keep hf5
      have hb5 := hb4.keep hf5
      refine ⟨_, _, _, _, _, _, _, _, _, _, _, hr5.ldA0 (by kernel_rfl) (by kernel_rfl) rfl, ?_⟩
      refine st33 (m := m) hb5 fun H6 hb6 hf6 => ⟨_, _, _, _, _, _, _, _, _, _, _, hb6.ldA0 (by kernel_rfl) (by kernel_rfl) rfl, _, _, _, _, _, _, _, _, _, _, _, _, rfl, ?_⟩
      exact hyes r m H6 hG es2 ((hR4.keep hf5).gone hf6 (hni b (by omega))) hsm ((hf04.keep0 hf5).keep hf6 (fun k hk => by simp at hk; omega))
end Go.Proofs
