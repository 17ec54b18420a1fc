/- A part of a proof: see the last text of this claim. -/
import Derived.Test.YtddfciphdbdemaaQ07b
set_option linter.unusedVariables false
set_option maxRecDepth 100000
open Go Go.GV
namespace Go.Proofs

theorem hitAll_one (L : List Lbls) (m : Mch) (z : Int) : HitAll L [m] z ↔ Hit L m z := by
  have := hitAll_snoc L [] m z
  rw [List.nil_append] at this
  rw [this, hitAll_nil]
  exact ⟨fun h => h.2, fun h => ⟨hit_lt h, h⟩⟩
theorem msH_one {H : Heap} {k : Int} {nm v : ByteArray} : MsH H [((k, nm, v, (none, 0, 0)) : Mat)] [((k, nm, v, []) : Mch)] := ⟨rfl, fun i x m hx hm => by
  match i, hx, hm with
  | 0, hx, hm => simp at hx hm; subst hx hm; exact ⟨rfl, rfl, rfl, Sl.zero, by simp⟩
  | i + 1, hx, hm => simp at hm⟩

theorem Parts_ok {aa : Option Addr} {an ac : Nat} {hs : List Hd} {L : List Lbls} {nm v : ByteArray} {H : Heap} (ha : Sl encH H aa an ac hs) (hl : LLs H hs L) :
    CallH Try.prog fn_law07_IndexParts ⟨[.slice aa an ac, .string nm, .string v]⟩ H fun v H' => v = .bool true ∧ Fr [] H H' := by
  apply vc_law07_IndexParts
  refine ⟨fun _ H' => H' = H ∧ Light L, ?_, ?_⟩
  · refine heavy_ok ha hl ⟨rfl, Fr.refl _ _⟩ fun hL => ?_
    refine brB_of (fun h => by cases h) (fun _ => brB_of (fun _ => ⟨rfl, Fr.refl _ _⟩) (fun _ => ?_))
    exact brB_of (fun _ => ⟨rfl, Fr.refl _ _⟩) (fun _ => ⟨rfl, hL⟩)
  rintro J H1 ⟨rfl, hL⟩
  refine made_ok ha hl hL fun H2 xb yb U V hb => ?_
  refine brB_of (fun h => by cases h) (fun _ => ?_)
  have hW := hb.idx.1
  generalize madeL L = M at hb hW
  have hlen := hW.len
  intro b3 H3 hn3 b4 H4 hn4
  have hb4 := hb.keep (hn3.fr.keep0 hn4.fr)
  have s0 : Sl encM H4 (some ⟨b3, 0, none⟩) 1 1 [((0, nm, v, (none, 0, 0)) : Mat)] := (sl_one encM ((0, nm, v, (none, 0, 0)) : Mat) hn3 rfl).keep hn4.fr
  have s1 : Sl encM H4 (some ⟨b4, 0, none⟩) 1 1 [((1, nm, v, (none, 0, 0)) : Mat)] := sl_one encM ((1, nm, v, (none, 0, 0)) : Mat) hn4 rfl
  refine Select_any hb4.idx s0 msH_one (by omega) fun a5 n5 c5 H5 os5 e5 ho5 hs5 hn5 hf5 => ?_
  have hb5 := hb4.keep hf5
  refine Select_any hb5.idx (s1.keep hf5) msH_one (by omega) fun a6 n6 c6 H6 os6 e6 ho6 hs6 hn6 hf6 => ?_
  have hb6 := hb5.keep hf6
  refine rSelect_any hb6.ref hW ((s0.keep hf5).keep hf6) msH_one (by omega) fun a7 n7 c7 H7 os7 e7 ho7 hs7 hn7 hf7 => ?_
  have hb7 := hb6.keep hf7
  obtain ⟨rfl, rfl⟩ := hs5.same hs7
  have hck : AllM [((0, nm, v, []) : Mch)] ↔ AllM [((1, nm, v, []) : Mch)] := by
    unfold AllM ChkM
    simp
  have e56 : e5 = e6 := by
    rcases hs5 with ⟨h1, h2, _⟩ | ⟨h1, h2, _⟩ <;> rcases hs6 with ⟨h1', h2', _⟩ | ⟨h1', h2', _⟩
    · omega
    · exact absurd (hck.1 h2) h2'
    · exact absurd (hck.2 h2') h2
    · omega
  subst e56
  refine ⟨fun _ H' => H' = H7, brB_of (fun h => by simp at h) (fun _ => brB_of (fun h => by simp at h) (fun _ => rfl)), ?_⟩
  rintro J H8 rfl
  have hl5 := ho5.1
  have hl6 := ho6.1
  rcases hs5 with ⟨rfl, hc5, hS5⟩ | ⟨rfl, _, rfl⟩
  · rcases hs6 with ⟨_, hc6, hS6⟩ | ⟨h, _, _⟩
    · have hS5' : SetL os5 (Hit M (0, nm, v, [])) := hS5.iff fun z => hitAll_one M _ z
      have hS6' : SetL os6 (Hit M (1, nm, v, [])) := hS6.iff fun z => hitAll_one M _ z
      have hsum : os5.length + os6.length = M.length := by
        refine setL_split hS5' hS6' (fun z h1 h2 => ?_) (fun z => ?_)
        · obtain ⟨k, l, e, hk, h3⟩ := h1
          obtain ⟨k', l', e', hk', h4⟩ := h2
          have : k = k' := by omega
          subst this
          rw [hk] at hk'; cases hk'
          rw [oneV_0 rfl] at h3
          rw [oneV_1 rfl] at h4
          simp at h3 h4
          exact h4 h3
        · constructor
          · rintro (h | h)
            · exact hit_lt h
            · exact hit_lt h
          · rintro ⟨k, e, hk⟩
            have hk1 : M[k]? = some M[k] := by simp [hk]
            by_cases hv : getV M[k] nm = v
            · exact .inl ⟨k, _, e, hk1, by rw [oneV_0 rfl]; exact decide_eq_true hv⟩
            · exact .inr ⟨k, _, e, hk1, by rw [oneV_1 rfl, decide_eq_false hv]; rfl⟩
      refine brB_of (fun h => by simp at h) (fun _ => ?_)
      have ho5' := (ho5.keep hf6).keep hf7
      have ho6' := ho6.keep hf7
      refine rOr_ok ho5'.sl ho6'.sl hS5.1 hS6.1 (by omega) fun a9 n9 c9 H9 os9 ho9 hS9 hf9 => ?_
      have hb9 := hb7.keep hf9
      have hS9' : SetL os9 (fun z => ∃ k : Nat, z = k ∧ k < M.length) := hS9.iff fun z => by
        rw [hS5'.2 z, hS6'.2 z]
        constructor
        · rintro (h | h)
          · exact hit_lt h
          · exact hit_lt h
        · rintro ⟨k, e, hk⟩
          have hk1 : M[k]? = some M[k] := by simp [hk]
          by_cases hv : getV M[k] nm = v
          · exact .inl ⟨k, _, e, hk1, by rw [oneV_0 rfl]; exact decide_eq_true hv⟩
          · exact .inr ⟨k, _, e, hk1, by rw [oneV_1 rfl, decide_eq_false hv]; rfl⟩
      have e9 : os9 = (List.range M.length).map fun k : Nat => (k : Int) := hS9'.eq (every_set M.length)
      have hn9 : n9 = M.length := by rw [ho9.1, e9]; simp
      refine ⟨fun _ H' => H' = H9, ?_, ?_⟩
      · refine rLen_ok hb9.ref (brB_of (fun h => ?_) (fun _ => rLen_ok hb9.ref (brB_of (fun h => ?_) (fun _ => rfl))))
        · rw [wrap64_of (by omega) (by omega)] at h
          have : ((n5 : Int) + n6) = M.length := by omega
          rw [this] at h; simp at h
        · rw [hn9] at h; simp at h
      rintro J H10 rfl
      refine Select_any (xs := []) (ms := []) hb9.idx Sl.zero ⟨rfl, fun i x m h => by simp at h⟩ (by omega) fun a11 n11 c11 H11 os11 e11 ho11 hs11 hn11 hf11 => ?_
      have hb11 := hb9.keep hf11
      rcases hs11 with ⟨rfl, _, hS11⟩ | ⟨_, h, _⟩
      · refine odd_ok hb11.idx fun a n c H12 hf12 => ?_
        have e11 : os11 = os9 := hS11.eq (hS9'.iff fun z => (hitAll_nil M z).symm)
        refine brB_of (fun _ => rSameI_ok (ho11.keep hf12).sl ((ho9.keep hf11).keep hf12).sl (by omega) ?_) (fun h => by simp at h)
        rw [e11, decide_eq_true rfl]
        exact brB_of (fun _ => ⟨rfl, hb11.fr.keep0 hf12⟩) (fun h => by cases h)
      · exact absurd (fun m hm => by cases hm) h
    · cases h
  · rcases hs6 with ⟨h, _, _⟩ | ⟨_, _, rfl⟩
    · cases h
    · subst hl5 hl6
      exact brB_of (fun _ => brB_of (fun _ => ⟨rfl, hb7.fr⟩) (fun h => by simp at h)) (fun h => by simp at h)
end Go.Proofs
