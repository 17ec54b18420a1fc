/- A part of a proof: see the last text of this claim. -/
import Derived.Test.YtddfciphdbdemaaQ07f
import Derived.Test.YtddfciphdbdemaaQ07e
set_option linter.unusedVariables false
set_option maxRecDepth 100000
open Go Go.GV
namespace Go.Proofs

theorem flat_inj : ∀ {L M : List Lbls}, (∀ l ∈ L, ChkP l) → (∀ l ∈ M, ChkP l) → L.length = M.length → L.flatMap txL = M.flatMap txL → L = M
  | [], [], _, _, _, _ => rfl
  | [], _ :: _, _, _, h, _ => by simp at h
  | _ :: _, [], _, _, h, _ => by simp at h
  | l :: L, m :: M, hl, hm, h, e => by
    simp only [List.flatMap_cons, txL] at e
    obtain ⟨e1, e2⟩ := text_eq e
    have e3 : printL l = printL m := by rw [← bl_pS, ← bl_pS, e1]
    rw [print_inj (hl l (by simp)).2.1 (hm m (by simp)).2.1 e3, flat_inj (fun x hx => hl x (by simp [hx])) (fun x hx => hm x (by simp [hx])) (by simpa using h) e2]
theorem encI_inj {L M : List Lbls} (hL : WfI L) (hM : WfI M) (h : encI L = encI M) : L = M := by
  unfold encI at h
  obtain ⟨e1, e2⟩ := uint_eq h
  exact flat_inj hL.chk hM.chk e1 e2
theorem encI_len {L : List Lbls} (hL : WfI L) : (encI L).length ≤ 300000 := by
  rw [← headI_all (k := L.length) (Nat.le_refl _)]
  exact headI_len hL _

theorem Decodes_ok {s : ByteArray} {H : Heap} : CallH Try.prog fn_law07_IndexDecodes ⟨[.string s]⟩ H fun v H' => v = .bool true ∧ Fr [] H H' := by
  apply vc_law07_IndexDecodes
  refine brB_of (fun _ => ⟨rfl, Fr.refl _ _⟩) (fun h => ?_)
  have hs : s.size ≤ 2048 := by simp at h; omega
  have hnone : NoI ⟨#[]⟩ := fun L _ e => by
    have e : [] = encI L := e
    have := uintL_pos L.length
    have h2 := congrArg List.length e
    unfold encI at h2
    rw [List.length_append] at h2
    simp at h2; omega
  have last : ∀ {H' : Heap} {X : Int → Heap → Prop}, (∀ H'', Fr [] H' H'' → X 11 H'') → CallH Try.prog 30 ⟨[.string ⟨#[]⟩]⟩ H' fun v H' => ∃ a n, v = .tuple ⟨[.pointer a, .int .i64 n]⟩ ∧ X n H' := fun {H' X} hX =>
    Decode_ok (s := ⟨#[]⟩) (K := fun a n H => X n H) (by simp [ByteArray.size]) (fun _ H'' hf => hX H'' hf) fun L H'' xb U e hi hU hf => absurd e (hnone L hi.1)
  refine Decode_ok (by omega) (fun hN H1 hf1 => ?_) fun L H1 xb U e hi hU hf1 => ?_
  · refine rDecode_ok (by omega) (fun _ H2 hf2 => last fun H3 hf3 => ?_) fun L H2 yb V e hW hr hV hf2 => absurd e (hN L hW)
    refine ⟨fun _ H' => H' = H3, ?_, ?_⟩
    · exact brB_of (fun h => by simp at h) (fun _ => brB_of (fun h => by simp at h) (fun _ => brB_of (fun h => by simp at h) (fun _ => rfl)))
    · rintro J H' rfl
      exact brB_of (fun _ => ⟨rfl, (hf1.keep0 hf2).keep0 hf3⟩) (fun h => by simp at h)
  · refine rDecode_ok (by omega) (fun hN => absurd e (hN L hi.1)) fun L' H2 yb V e' hW hr hV hf2 => last fun H3 hf3 => ?_
    have := encI_inj hi.1 hW (e.symm.trans e')
    subst this
    refine ⟨fun _ H' => H' = H3, ?_, ?_⟩
    · exact brB_of (fun h => by simp at h) (fun _ => brB_of (fun h => by simp at h) (fun _ => brB_of (fun h => by simp at h) (fun _ => rfl)))
    · rintro J H' rfl
      refine brB_of (fun h => by simp at h) (fun _ => ?_)
      have hi3 := (hi.keep hf2).keep hf3
      refine Encode_ok hi3 fun H4 hf4 => ?_
      have es : (⟨(encI L).toArray⟩ : ByteArray) = s := by apply bl_inj; rw [bl_mk, e]
      rw [es]
      refine brB_of (fun _ => ?_) (fun h => by simp at h)
      refine Len_ok (hi3.keep hf4) (rLen_ok ((hr.keep hf3).keep hf4) ⟨by simp, ((hf1.keep0 hf2).keep0 hf3).keep0 hf4⟩)

theorem Back_ok {aa ba : Option Addr} {an ac bn bc : Nat} {hs gs : List Hd} {L N : List Lbls} {H : Heap} (ha : Sl encH H aa an ac hs) (hl : LLs H hs L) (hb : Sl encH H ba bn bc gs) (hm : LLs H gs N) :
    CallH Try.prog fn_law07_IndexBack ⟨[.slice aa an ac, .slice ba bn bc]⟩ H fun v H' => v = .bool true ∧ Fr [] H H' := by
  apply vc_law07_IndexBack
  refine ⟨fun _ H' => H' = H ∧ Light L ∧ Light N, ?_, ?_⟩
  · exact heavy_ok ha hl ⟨rfl, Fr.refl _ _⟩ fun hL => brB_of (fun h => by cases h) (fun _ => heavy_ok hb hm ⟨rfl, Fr.refl _ _⟩ fun hN => brB_of (fun h => by cases h) (fun _ => ⟨rfl, hL, hN⟩))
  rintro J H1 ⟨rfl, hL, hN⟩
  have hN1 := hN.1
  have e0 : bn = N.length := by rw [hb.len, hm.1]
  refine made_ok ha hl hL fun H2 xb yb U V hB => ?_
  refine brB_of (fun h => by cases h) (fun _ => ?_)
  have hW := hB.idx.1
  generalize madeL L = M at hB hW
  refine Encode_ok hB.idx fun H3 hf3 => ?_
  have hB3 := hB.keep hf3
  have hlen := encI_len hW
  have hsz := size_mk (encI M)
  have hbl := bl_mk (encI M)
  refine Decode_ok (by omega) (fun hno => absurd hbl (hno M hW)) fun M' H4 zb W e hi hW4 hf4 => ?_
  have hW' := hi.1
  have := encI_inj hW hW' (hbl.symm.trans e)
  subst this
  have hB4 := hB3.keep hf4
  have hWU : ∀ k ∈ W, H1.size ≤ k := fun k hk => Nat.le_trans hB3.fr.size (hW4 k hk)
  have hdj : Dj U W := fun k hk hk' => by
    have := idx_in hB3.idx k hk
    have := hW4 k hk'
    omega
  refine ⟨fun _ H' => Fr [] H4 H', ?_, ?_⟩
  · refine rEncode_ok hB4.ref hW fun H5 hf5 => ?_
    refine brB_of (fun h => by simp at h) (fun _ => brB_of (fun h => by simp at h) (fun _ => brB_of (fun h => by simp at h) (fun _ => ?_)))
    refine Encode_ok (hi.keep hf5) fun H6 hf6 => ?_
    exact brB_of (fun h => by simp at h) (fun _ => hf5.keep0 hf6)
  rintro J H5 hf5
  have hB5 := hB4.keep hf5
  have hi5 := hi.keep hf5
  refine ⟨fun vs H' => match vs with
      | [.int _ i] => ∃ (k : Nat) (U W : List Nat) (M : List Lbls), i = k ∧ k ≤ bn ∧ IdxH H' xb U M ∧ IdxH H' zb W M ∧ Dj U W ∧ (∀ k ∈ U, H1.size ≤ k) ∧ (∀ k ∈ W, H1.size ≤ k) ∧ Fr [] H1 H'
      | _ => False,
    fun vs _ => match vs with | [.int _ i] => bn - i.toNat | _ => 0, ⟨0, U, W, M, rfl, by omega, hB5.idx, hi5, hdj, hB5.gU, hWU, hB5.fr⟩, ?_⟩
  clear hdj hWU hB5 hi5 hB4 hB3 hi hB
  rintro J i H6 ⟨k, U, W, M, rfl, hle, h1, h2, h3, h4, h5, h6⟩
  refine brB_of (fun h0 => ?_) (fun h0 => ?_)
  · have h0' : k < bn := by simpa using h0
    have hx1 : gs[k]? = some (gs[k]'(by have := hb.len; omega)) := by simp
    have hl1 : N[k]? = some (N[k]'(by omega)) := by simp
    generalize gs[k]'(by have := hb.len; omega) = hd at hx1
    generalize N[k]'(by omega) = l at hl1
    have hs1 := hm.2 _ _ _ hx1 hl1
    have hsl := hs1.len
    have hl4 := (hN.2 l (List.mem_of_getElem? hl1)).1
    refine (hb.keep h6).get rfl hx1 (decide_eq_true (by omega)) fun ad ea hc => ⟨_, _, _, ldH hc, ?_⟩
    refine Add_ok h1 (hs1.keep h6) (by omega) (sl_not hs1 h4) fun H7 U7 g1 g2 g3 => ?_
    have h7 : Fr [] H1 H7 := h6.keep g2 h4
    have h2' := h2.fr g2 (fun k hk hk' => h3 k hk' hk)
    have dj7 : Dj U7 W := h3.grow g3 (idx_in h2)
    have h47 : ∀ k ∈ U7, H1.size ≤ k := fun k hk => by
      rcases g3 k hk with h | h
      · exact h4 k h
      · exact Nat.le_trans h6.size h
    refine (hb.keep h7).get rfl hx1 (decide_eq_true (by omega)) fun ad ea hc => ⟨_, _, _, ldH hc, ?_⟩
    refine Add_ok h2' (hs1.keep h7) (by omega) (sl_not hs1 h5) fun H8 W8 g4 g5 g6 => ?_
    refine brB_of (fun h => by simp at h) (fun _ => brB_of (fun h => by simp at h) (fun _ => ?_))
    rw [succ64 (by omega)]
    have dj8 : Dj W8 U7 := dj7.symm.grow g6 (idx_in g1)
    refine ⟨⟨k + 1, U7, W8, _, rfl, by omega, g1.fr g5 (fun k hk hk' => dj7 k hk hk'), g4, dj8.symm, h47, fun k hk => ?_, h7.keep g5 h5⟩, mu_lt h0'⟩
    rcases g6 k hk with h | h
    · exact h5 k h
    · exact Nat.le_trans h7.size h
  · refine Encode_ok h1 fun H7 hf7 => Encode_ok (h2.keep hf7) fun H8 hf8 => ⟨by simp, (h6.keep0 hf7).keep0 hf8⟩
end Go.Proofs
