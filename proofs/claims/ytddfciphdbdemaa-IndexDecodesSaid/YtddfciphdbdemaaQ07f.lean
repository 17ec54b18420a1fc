/- A part of a proof: see the last text of this claim. -/
import Derived.Test.YtddfciphdbdemaaP07z
import Derived.Test.YtddfciphdbdemaaQ07
set_option linter.unusedVariables false
set_option maxRecDepth 100000
open Go Go.GV
namespace Go.Proofs

theorem parse_bound {l : Lbls} {s : ByteArray} (hl : ChkP l) : l.length ≤ 8 := hl.1
theorem Decode_ok {s : ByteArray} {H : Heap} {K : Option Addr → Int → Heap → Prop} (hs : s.size ≤ 1000000000)
    (hno : NoI s → ∀ H', Fr [] H H' → K none 11 H')
    (hyes : ∀ L H' xb U, bl s = encI L → IdxH H' xb U L → (∀ k ∈ U, H.size ≤ k) → Fr [] H H' → K (some ⟨xb, 0, none⟩) 0 H') :
    CallH Try.prog fn_index_Decode ⟨[.string s]⟩ H fun v H' => ∃ a e, v = .tuple ⟨[.pointer a, .int .i64 e]⟩ ∧ K a e H' := by
  apply vc_index_Decode
  refine GetUint_ok (by omega) (fun h => absurd ⟨Int.le_refl 0, by omega⟩ h) fun a ea ha v n e hg => ?_
  have ea : a = 0 := by omega
  subst ea
  refine New_ok fun H1 xb U hi hU hf1 => ?_
  refine ⟨fun vs H' => match vs with
      | [.int _ w, .int _ q, .int _ e] => (e ≠ 0 ∧ NoI s ∧ Fr [] H H') ∨ (e = 0 ∧ ∃ (N p : Nat) (M : List Lbls) (U : List Nat), DecI s N p M ∧ (w = N ∨ (w = 201 ∧ 200 < N)) ∧ q = p ∧ IdxH H' xb U M ∧ (∀ k ∈ U, H.size ≤ k) ∧ Fr [] H H')
      | _ => False,
    fun vs _ => match vs with | [_, .int _ q, _] => s.size - q.toNat | _ => 0, ?_, ?_⟩
  · rcases DecI.start hg with ⟨h1, h2⟩ | ⟨h1, N, p, h2, h3, h4⟩
    · exact .inl ⟨h1, h2, hf1⟩
    · exact .inr ⟨h1, N, p, [], U, h4, .inl h2, h3, hi, hU, hf1⟩
  rintro J w q e H2 (⟨he, hN, hf⟩ | ⟨rfl, N, p, M, U, hd, hw, rfl, hi, hU, hf⟩)
  · refine ⟨fun _ _ => False, ?_, fun J H' h => h.elim⟩
    exact brB_of (fun h => by simp at h; exact absurd h he) (fun _ => brB_of (fun _ => ⟨_, _, rfl, hno hN H2 hf⟩) (fun h => by simp at h; exact absurd h he))
  have hM := hi.1.len
  have hN1 := hd.1
  refine ⟨fun _ H' => H' = H2 ∧ M.length < N, ?_, ?_⟩
  · refine brB_of (fun _ => Len_ok hi ?_) (fun h => by simp at h)
    rw [wrapU64 (n := (M.length : Int)) (by omega) (by omega)]
    refine brB_of (fun h => ⟨rfl, ?_⟩) (fun h => brB_of (fun h => by simp at h) (fun _ => ?_))
    · simp at h; rcases hw with rfl | ⟨rfl, h2⟩ <;> omega
    · have hN : M.length = N := by
        have := hd.2.2.2.1
        simp at h; rcases hw with rfl | ⟨rfl, h2⟩ <;> omega
      refine brB_of (fun h2 => ⟨_, _, rfl, hno (hd.odd hN ?_) H2 hf⟩) (fun h2 => ⟨_, _, rfl, hyes M H2 xb U (hd.done hN ?_) hi hU hf⟩)
      · simp at h2; omega
      · simp at h2; omega
  rintro J H3 ⟨rfl, hlt⟩
  refine GetText_ok (by omega) (fun h => absurd ⟨by omega, by have := hd.2.1; omega⟩ h) fun a ea ha t n e H4 hg hf4 => ?_
  have ea : a = p := by omega
  subst ea
  have hf4' := hf.keep0 hf4
  rcases hd.step hlt (by omega) hg with ⟨he, hN⟩ | ⟨rfl, p', rfl, hp1, hp2, hts, hbad, hgood⟩
  · exact brB_of (fun _ => brB_of (fun _ => ⟨_, _, rfl, hno hN H4 hf4'⟩) (fun h => by simp at h; exact absurd h he)) (fun h => by simp at h; exact absurd h he)
  refine brB_of (fun h => by simp at h) (fun _ => ?_)
  have hi4 := hi.keep hf4
  refine Parse_ok (by omega) (fun hn H5 hf5 => ?_) fun l al n c H5 hC hl ho hf5 => ?_
  · have hi5 := hi4.keep hf5
    refine Len_ok hi5 ?_
    refine Add_ok (l := []) hi5 Sl.zero (by omega) (fun h => absurd rfl h) fun H6 U6 h1 h2 h3 => ?_
    exact brB_of (fun _ => ⟨_, _, rfl, hno (hbad hn) H6 ((hf4'.keep0 hf5).keep h2 hU)⟩) (fun h => by simp at h)
  · have hi5 := hi4.keep hf5
    refine Len_ok hi5 ?_
    have hin := idx_in hi4
    refine Add_ok hi5 ho.sl (by have := ho.1; have := hC.1; omega) (fun _ ad e hk => ?_) fun H6 U6 h1 h2 h3 => ?_
    · have := (ho.lt ad e).1
      have := hin _ hk
      omega
    have hf6 : Fr [] H H6 := (hf4'.keep0 hf5).keep h2 hU
    refine brB_of (fun h => by simp at h) (fun _ => ?_)
    have hno6 : (¬ (l ∉ M ∧ M.length < 200)) → ∃ a e, Value.tuple ⟨[.pointer none, .int .i64 11]⟩ = .tuple ⟨[.pointer a, .int .i64 e]⟩ ∧ K a e H6 := fun h => ⟨_, _, rfl, hno ((hgood l hC hl).1 h) H6 hf6⟩
    by_cases hm : l ∉ M ∧ M.length < 200
    · obtain ⟨g1, g2, g3⟩ := addL_yes hC hm
      rw [g1] at h1
      rw [g2, g3]
      refine brB_of (fun h => by simp at h) (fun _ => brB_of (fun h => by simp at h) (fun _ => ⟨.inr ⟨rfl, N, p', _, U6, (hgood l hC hl).2, ?_, rfl, h1, fun k hk => ?_, hf6⟩, ?_⟩))
      · split
        · rcases hw with rfl | ⟨rfl, h⟩
          · exact .inr ⟨rfl, by omega⟩
          · omega
        · exact hw
      · rcases h3 k hk with h | h
        · exact hU k h
        · exact Nat.le_trans (hf4'.keep0 hf5).size h
      · show s.size - ((p' : Nat) : Int).toNat < s.size - ((a : Nat) : Int).toNat
        omega
    · refine brB_of (fun h => hno6 hm) (fun h => brB_of (fun h' => hno6 hm) (fun h' => absurd (addL_not hC (.inr trivial) (by simpa using h) (by simpa using h')) hm))
theorem rDecode_ok {s : ByteArray} {H : Heap} {K : Option Addr → Int → Heap → Prop} (hs : s.size ≤ 1000000000)
    (hno : NoI s → ∀ H', Fr [] H H' → K none 11 H')
    (hyes : ∀ L H' yb U, bl s = encI L → WfI L → RefH H' yb U L → (∀ k ∈ U, H.size ≤ k) → Fr [] H H' → K (some ⟨yb, 0, none⟩) 0 H') :
    CallH Try.prog fn_ref07_Decode ⟨[.string s]⟩ H fun v H' => ∃ a e, v = .tuple ⟨[.pointer a, .int .i64 e]⟩ ∧ K a e H' := by
  apply vc_ref07_Decode
  refine rGetUint_ok (by omega) (fun h => absurd ⟨Int.le_refl 0, by omega⟩ h) fun a ea ha v n e H0 hg hf0 => ?_
  have ea : a = 0 := by omega
  subst ea
  rcases DecI.start hg with ⟨he, hN⟩ | ⟨rfl, N, p, rfl, rfl, hd⟩
  · refine ⟨fun _ _ => False, ?_, fun J H' h => h.elim⟩
    exact brB_of (fun _ => ⟨_, _, rfl, hno hN H0 hf0⟩) (fun h => by simp at h; exact absurd h he)
  refine ⟨fun _ H' => H' = H0 ∧ N ≤ 200, ?_, ?_⟩
  · refine brB_of (fun h => by simp at h) (fun _ => brB_of (fun h => ⟨_, _, rfl, hno (hd.large (by simp at h; omega)) H0 hf0⟩) (fun h => ⟨rfl, by simp at h; omega⟩))
  rintro J H1 ⟨rfl, hN⟩
  refine rNew_ok fun H2 yb U hi hU hf2 => ?_
  refine ⟨fun vs H' => match vs with
      | [.int _ q, .int _ i] => ∃ (p : Nat) (M : List Lbls) (U : List Nat), DecI s N p M ∧ q = p ∧ i = (M.length : Nat) ∧ WfI M ∧ RefH H' yb U M ∧ (∀ k ∈ U, H.size ≤ k) ∧ Fr [] H H'
      | _ => False,
    fun vs _ => match vs with | [.int _ q, _] => s.size - q.toNat | _ => 0, ⟨p, [], U, hd, rfl, rfl, WfI.nil, hi, fun k hk => Nat.le_trans hf0.size (hU k hk), hf0.keep0 hf2⟩, ?_⟩
  clear hd hi hU
  rintro J q i H3 ⟨p, M, U, hd, rfl, rfl, hW, hi, hU, hf⟩
  have hM := hd.2.2.2.1
  rw [wrap64_of (n := (N : Int)) (by omega) (by omega)]
  refine brB_of (fun h => ?_) (fun h => ?_)
  · have hlt : M.length < N := by simp at h; omega
    refine rGetText_ok (by omega) (fun h => absurd ⟨by omega, by have := hd.2.1; omega⟩ h) fun a ea ha t n e H4 hg hf4 => ?_
    have ea : a = p := by omega
    subst ea
    have hf4' := hf.keep0 hf4
    rcases hd.step hlt (by omega) hg with ⟨he, hN⟩ | ⟨rfl, p', rfl, hp1, hp2, hts, hbad, hgood⟩
    · exact brB_of (fun _ => ⟨_, _, rfl, hno hN H4 hf4'⟩) (fun h => by simp at h; exact absurd h he)
    refine brB_of (fun h => by simp at h) (fun _ => ?_)
    have hi4 := hi.keep hf4
    refine rParse_ok (by omega) (fun hn H5 hf5 => brB_of (fun _ => ⟨_, _, rfl, hno (hbad hn) H5 (hf4'.keep0 hf5)⟩) (fun h => by simp at h)) fun l al n c H5 hC hl ho hf5 => ?_
    refine brB_of (fun h => by simp at h) (fun _ => ?_)
    refine rAdd_ok (hi4.keep hf5) hW ho.sl fun H6 U6 h1 h2 h3 => ?_
    have hf6 : Fr [] H H6 := (hf4'.keep0 hf5).keep h2 hU
    by_cases hm : l ∉ M ∧ M.length < 200
    · obtain ⟨g1, g2, g3⟩ := addL_yes hC hm
      have hW2 := addL_wf hW l
      rw [g1] at h1 hW2
      rw [g2]
      refine brB_of (fun h => by simp at h) (fun _ => ⟨⟨p', _, U6, (hgood l hC hl).2, rfl, ?_, hW2, h1, fun k hk => ?_, hf6⟩, ?_⟩)
      · rw [succ64 (by omega)]; simp
      · rcases h3 k hk with h | h
        · exact hU k h
        · exact Nat.le_trans (hf4'.keep0 hf5).size h
      · show s.size - ((p' : Nat) : Int).toNat < s.size - ((a : Nat) : Int).toNat
        omega
    · refine brB_of (fun h => ⟨_, _, rfl, hno ((hgood l hC hl).1 hm) H6 hf6⟩) (fun h => ?_)
      have h' : addI M l = M.length := by simpa using h
      refine absurd (addL_not hC (.inr trivial) ?_ h') hm
      unfold addI at h'
      unfold addE
      rw [if_pos hC] at h' ⊢
      cases hp : posL M l with
      | none => simp only; rw [if_pos (by omega)]
      | some i => rfl
  · have hMN : M.length = N := by simp at h; omega
    refine brB_of (fun h2 => ⟨_, _, rfl, hno (hd.odd hMN ?_) H3 hf⟩) (fun h2 => ⟨_, _, rfl, hyes M H3 yb U (hd.done hMN ?_) hW hi hU hf⟩)
    · simp at h2; omega
    · simp at h2; omega
end Go.Proofs
