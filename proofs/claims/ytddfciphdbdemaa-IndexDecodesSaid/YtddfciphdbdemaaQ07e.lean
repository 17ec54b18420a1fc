/- A part of a proof: see the last text of this claim. -/
import Derived.Test.YtddfciphdbdemaaP07q
import Derived.Test.YtddfciphdbdemaaQ07b
set_option linter.unusedVariables false
set_option maxRecDepth 100000
open Go Go.GV
namespace Go.Proofs

/-- An Add that changes nothing. -/
def Still (M : List Lbls) (l : Lbls) : Prop := ¬ ChkP l ∨ l ∈ M ∨ 200 ≤ M.length
theorem Still.same {M : List Lbls} {l : Lbls} (h : Still M l) : addL M l = M := by
  refine if_neg fun hh => ?_
  rcases h with h | h | h
  · exact h hh.1
  · exact hh.2.1 h
  · omega
theorem still_add (M : List Lbls) (l : Lbls) : Still (addL M l) l := by
  unfold addL
  split
  · exact .inr (.inl (by simp))
  · rename_i h
    unfold Still
    by_cases h1 : ChkP l
    · by_cases h2 : l ∈ M
      · exact .inr (.inl h2)
      · exact .inr (.inr (Nat.le_of_not_lt fun h3 => h ⟨h1, h2, h3⟩))
    · exact .inl h1
theorem Still.add {M : List Lbls} {l : Lbls} (h : Still M l) (m : Lbls) : Still (addL M m) l := by
  unfold addL
  split
  · rename_i hh
    rcases h with h | h | h
    · exact .inl h
    · exact .inr (.inl (by simp [h]))
    · exact .inr (.inr (by simp; omega))
  · exact h
theorem still_made {L : List Lbls} : ∀ {M : List Lbls} {l : Lbls}, (l ∈ L ∨ Still M l) → Still (L.foldl addL M) l := by
  induction L with
  | nil => intro M l h; rcases h with h | h; cases h; exact h
  | cons m L ih =>
    intro M l h
    simp only [List.foldl_cons]
    refine ih ?_
    rcases h with h | h
    · rcases List.mem_cons.1 h with h | h
      · subst h; exact .inr (still_add M l)
      · exact .inl h
    · exact .inr (h.add m)

theorem Twice_ok {aa : Option Addr} {an ac : Nat} {hs : List Hd} {L : List Lbls} {by' : Int} {H : Heap} (ha : Sl encH H aa an ac hs) (hl : LLs H hs L) (hb0 : 0 ≤ by') (hb1 : by' < 256) :
    CallH Try.prog fn_law07_IndexTwice ⟨[.slice aa an ac, .int .u8 by']⟩ H fun v H' => v = .bool true ∧ Fr [] H H' := by
  apply vc_law07_IndexTwice
  refine heavy_ok ha hl ⟨rfl, Fr.refl _ _⟩ fun hL => ?_
  refine brB_of (fun h => by cases h) (fun _ => ?_)
  refine made_ok ha hl hL fun H2 xb yb U V hb => ?_
  refine brB_of (fun h => by cases h) (fun _ => ?_)
  have hW := hb.idx.1
  have hst : ∀ l ∈ L, Still (madeL L) l := fun l h => still_made (.inl h)
  generalize madeL L = M at hb hW hst
  have e0 : an = L.length := by rw [ha.len, hl.1]
  have hL1 := hL.1
  refine Encode_ok hb.idx fun H3 hf3 => ?_
  have hb3 := hb.keep hf3
  refine ⟨fun vs H' => match vs with
      | [.int _ i] => ∃ (k : Nat) (U V : List Nat), i = k ∧ k ≤ an ∧ Both H H' xb yb U V M
      | _ => False,
    fun vs _ => match vs with | [.int _ i] => an - i.toNat | _ => 0, ⟨0, U, V, rfl, by omega, hb3⟩, ?_⟩
  rintro J i H4 ⟨k, U, V, rfl, hle, hb4⟩
  refine brB_of (fun h0 => ?_) (fun h0 => ?_)
  · have h0' : k < an := by simpa using h0
    have w1 : IntKind.i64.wrap by' = by' := wrap64_of (by omega) (by omega)
    have w2 : IntKind.i64.wrap ((k : Int) + by') = (k : Int) + by' := wrap64_of (by omega) (by omega)
    have w3 : Int.tmod ((k : Int) + by') an = (((k + by'.toNat) % an : Nat) : Int) := by
      rw [Int.tmod_eq_emod_of_nonneg (by omega), Int.natCast_emod]
      congr 1
      omega
    rw [w1, w2, w3]
    generalize hj : (k + by'.toNat) % an = j
    have hjn : j < an := by rw [← hj]; exact Nat.mod_lt _ (by omega)
    have hx1 : hs[j]? = some (hs[j]'(by have := ha.len; omega)) := by simp
    have hl1 : L[j]? = some (L[j]'(by omega)) := by simp
    generalize hs[j]'(by have := ha.len; omega) = hd at hx1
    generalize L[j]'(by omega) = l at hl1
    have hmem := List.mem_of_getElem? hl1
    have hs1 := hl.2 _ _ _ hx1 hl1
    have hsl := hs1.len
    have hl4 := (hL.2 l hmem).1
    refine chk_true (decide_eq_true (by omega)) ?_
    refine (ha.keep hb4.fr).get rfl hx1 (decide_eq_true (by omega)) fun ad ea hc => ⟨_, _, _, ldH hc, ?_⟩
    refine Add_both hb4 (hs1.keep hb4.fr) (by omega) (sl_not hs1 hb4.gU) fun H5 U5 g1 g2 g3 g4 g5 g6 => ?_
    refine (ha.keep g6).get rfl hx1 (decide_eq_true (by omega)) fun ad ea hc => ⟨_, _, _, ldH hc, ?_⟩
    refine rAdd_ok g2 hW (hs1.keep g6) fun H6 V6 h7 h8 h9 => ?_
    refine brB_of (fun h => by simp at h) (fun _ => brB_of (fun h => by simp at h) (fun _ => ?_))
    rw [succ64 (by omega)]
    refine ⟨⟨k + 1, U5, V6, rfl, by omega, ?_⟩, mu_lt h0'⟩
    rw [(hst l hmem).same] at g1 h7
    have dj5 : Dj V6 U5 := g3.symm.grow h9 (idx_in g1)
    refine ⟨g1.fr h8 (fun k hk hk' => g3 k hk hk'), h7, dj5.symm, g4, fun k hk => ?_, g6.keep h8 hb4.gV⟩
    rcases h9 k hk with h | h
    · exact hb4.gV k h
    · exact Nat.le_trans g6.size h
  · refine odd_ok hb4.idx fun a n c H5 hf5 => ?_
    have hb5 := hb4.keep hf5
    refine Encode_ok hb5.idx fun H6 hf6 => ?_
    have hb6 := hb5.keep hf6
    refine brB_of (fun _ => ?_) (fun h => by simp at h)
    refine rEncode_ok hb6.ref hW fun H7 hf7 => ?_
    exact brB_of (fun _ => ⟨rfl, hb6.fr.keep0 hf7⟩) (fun h => by simp at h)
end Go.Proofs
