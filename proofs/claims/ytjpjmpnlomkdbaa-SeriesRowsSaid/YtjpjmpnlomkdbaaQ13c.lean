/- A part of a proof: see the last text of this claim. -/
import Derived.Test.YtjpjmpnlomkdbaaQ13b
import Derived.Test.YtjpjmpnlomkdbaaP13o
set_option linter.unusedVariables false
set_option maxRecDepth 100000
open Go Go.GV
namespace Go.Proofs

theorem RowsL_ok {H : Heap} {ra : Option Addr} {rn rc : Nat} {raw : List Rw} (hr : Sl encRw H ra rn rc raw) :
    CallH Try.prog 8 ⟨[.slice ra rn rc]⟩ H fun v H' => v = .bool true ∧ Fr [] H H' := by
  apply vc_law13_SeriesRows
  refine brB_of (fun _ => ⟨rfl, Fr.refl _ _⟩) (fun g => ?_)
  refine fine_ok hr fun a n c H1 rows ho1 hF hn hf1 => ?_
  have e1 := ho1.1
  apply vc_series_Split
  refine Put_ok (la := none) (ln := 0) (lc := 0) (hs := []) (ss := []) Sl.zero .nil RightS.nil ho1.sl (by omega) (by omega) (by simp) fun a2 n2 c2 H2 hs2 ho2 hS2 hf2 => ⟨_, _, _, rfl, ?_⟩
  obtain ⟨l1, l2⟩ := putR_len (m := 0) (rows := rows) (ss := []) (by simp)
  have hR := (right_putR (rows := rows) RightS.nil).1
  have hspl := rows_split hF
  have hx1 := ho1.sl.keep hf2
  generalize putR [] rows = ss at hS2 l1 l2 hR hspl
  have e2 := ho2.1
  have e3 := hS2.len
  simp at l1
  have l2' : ∀ s ∈ ss, s.2.length ≤ 100 := fun s hs => by have := l2 s hs; omega
  have big : ∀ s ∈ ss, s.2.length ≤ 10000 := fun s hs => by have := l2' s hs; omega
  refine Rows_ok ho2.sl hS2 hR (by omega) big fun a3 n3 c3 H3 back hx3 hb3 hn3 hf3 => ?_
  have eb : back = rows := hb3.eq hspl
  subst eb
  refine theirs_ok (ho2.keep hf3).sl (by omega) fun a4 n4 c4 H4 ho4 hf4 => ?_
  have e4 := ho4.1
  have hf24 := hf3.keep0 hf4
  apply vc_ref13_Split
  refine rPut_ok (la := none) (ln := 0) (lc := 0) (hs := []) (ss := []) Sl.zero .nil RightS.nil (hx1.keep hf24) (by omega) (by omega) (by simp) fun a5 n5 c5 H5 hs5 hx5 hS5 hf5 => ⟨_, _, _, rfl, ?_⟩
  have hS5 : SerH H5 hs5 ss := by
    have : putR [] back = ss := by
      refine right_eq (right_putR (rows := back) RightS.nil).1 hR fun id t => ?_
      have h1 := rows_split hF
      have h2 := (right_putR (rows := back) RightS.nil).1
      cases hv : valS ss id t with
      | none =>
        cases hw : valS (putR [] back) id t with
        | none => rfl
        | some v =>
          have := (hspl.2 (t, id, v)).1 ((h1.2 (t, id, v)).2 ((valS_iff h2 (t, id, v)).2 hw))
          have := (valS_iff hR (t, id, v)).1 this
          rw [hv] at this; cases this
      | some v =>
        have := (h1.2 (t, id, v)).1 ((hspl.2 (t, id, v)).2 ((valS_iff hR (t, id, v)).2 hv))
        exact (valS_iff h2 (t, id, v)).1 this
    rw [← this]; exact hS5
  have e5 := hx5.len
  have e6 := hS5.len
  refine Alike_ok (ho4.keep hf5).sl hx5 ((hS2.keep hf24).keep hf5) hS5 (by omega) (fun s hs => by have := l2' s hs; omega) ?_
  refine brB_of (fun _ => ?_) (fun h => by cases h)
  have hf25 := hf24.keep0 hf5
  refine theirs_ok (ho2.keep hf25).sl (by omega) fun a6 n6 c6 H6 ho6 hf6 => ?_
  have e7 := ho6.1
  have hf26 := hf25.keep0 hf6
  refine Right_ok ho6.sl (hS2.keep hf26) hR (by omega) (fun s hs => by have := l2' s hs; omega) ?_
  refine brB_of (fun _ => ?_) (fun h => by cases h)
  have hf36 := (hf4.keep0 hf5).keep0 hf6
  have e8 := hx3.len
  refine Equal_ok (hx3.keep hf36) (hx1.keep hf26) (by omega) ?_
  refine brB_of (fun _ => ?_) (fun h => by cases h)
  refine theirs_ok (ho2.keep hf26).sl (by omega) fun a7 n7 c7 H7 ho7 hf7 => ?_
  have e9 := ho7.1
  refine rRows_ok ho7.sl ((hS2.keep hf26).keep hf7) hR (by omega) big fun a8 n8 c8 H8 rows8 hx8 hb8 hf8 => ?_
  have e10 : rows8 = back := hb8.eq hspl
  subst e10
  have hf38 := (hf36.keep0 hf7).keep0 hf8
  refine Equal_ok (hx3.keep hf38) hx8 (by omega) ?_
  refine brB_of (fun _ => ?_) (fun h => by cases h)
  refine Rises_ok (xs := []) Sl.zero (by omega) fun H9 hf9 => ⟨by rw [decide_eq_true Ris.nil], ((hf1.keep0 hf2).keep0 (hf3.keep0 hf38)).keep0 hf9⟩
theorem ldRw0 {H : Heap} {ad : Addr} {x : Rw} (h : CellsAt H ad (encRw.cells x)) : Ld Try.prog 3 H ad (.int .i64 x.1) := ld_cell (by kernel_rfl) (by have := h 0 _ rfl; simpa [Addr.add] using this)
theorem ldRw1 {H : Heap} {ad : Addr} {x : Rw} (h : CellsAt H ad (encRw.cells x)) : Ld Try.prog 3 H (ad.add 1) (.int .i64 x.2.1) := ld_part (by kernel_rfl) h (j := 1) rfl
theorem ldRw2 {H : Heap} {ad : Addr} {x : Rw} (h : CellsAt H ad (encRw.cells x)) : Ld Try.prog 3 H (ad.add 2) (.int .i64 x.2.2) := ld_part (by kernel_rfl) h (j := 2) rfl
theorem Sets_ok {H : Heap} {ra : Option Addr} {rn rc : Nat} {raw : List Rw} {x : Rw} (hr : Sl encRw H ra rn rc raw) :
    CallH Try.prog 7 ⟨[.slice ra rn rc, vRw x]⟩ H fun v H' => v = .bool true ∧ Fr [] H H' := by
  apply vc_law13_SeriesSets
  intro b H1 hn1
  have hB : Blk H1 ⟨b, 0, none⟩ (encRw.cells x) := hn1.blk
  refine brB_of (fun _ => ⟨rfl, hn1.fr⟩) (fun g => ?_)
  have hrl := hr.len
  have hrn : rn ≤ 100 := by simp at g; omega
  refine rPut_ok (la := none) (ln := 0) (lc := 0) (hs := []) (ss := []) Sl.zero .nil RightS.nil (hr.keep hn1.fr) (by omega) (by omega) (by simp) fun a n c H2 hs2 hx2 hS2 hf2 => ?_
  obtain ⟨l1, l2⟩ := putR_len (m := 0) (rows := raw) (ss := []) (by simp)
  have hR := (right_putR (rows := raw) RightS.nil).1
  generalize putR [] raw = ss at hS2 l1 l2 hR
  have e2 := hx2.len
  have e3 := hS2.len
  simp at l1
  have l2' : ∀ s ∈ ss, s.2.length ≤ 100 := fun s hs => by have := l2 s hs; omega
  refine ours_ok hx2 (by omega) fun a1 n1 c1 H3 ho3 hf3 => ?_
  have e4 := ho3.1
  have hf13 := hf2.keep0 hf3
  refine ⟨_, _, _, (hB.keep hf13).ldA0 (us := encRw.cells x) (by kernel_rfl) (by kernel_rfl) rfl, ?_⟩
  intro b4 H4 hn4
  have hone : Sl encRw H4 (some ⟨b4, 0, none⟩) 1 1 [x] := sl_one encRw x hn4 rfl
  have ho4 := ho3.keep hn4.fr
  have hS4 := (hS2.keep hf3).keep hn4.fr
  refine Put_ok ho4.sl hS4 hR hone (by omega) (by omega) (fun s hs => by have := l2' s hs; omega) fun a5 n5 c5 H5 hs5 ho5 hS5 hf5 => ?_
  obtain ⟨p1, p2⟩ := putR_len (rows := [x]) l2'
  have hR5 := (right_putR (rows := [x]) hR).1
  have e5 := ho5.1
  have e6 := hS5.len
  simp at p1 p2
  refine Rows_ok ho5.sl hS5 hR5 (by omega) (fun s hs => by have := p2 s.1 s.2 hs; omega) fun a6 n6 c6 H6 m hm6 hmr hn6 hf6 => ?_
  refine Rows_ok ((ho4.keep hf5).keep hf6).sl ((hS4.keep hf5).keep hf6) hR (by omega) (fun s hs => by have := l2' s hs; omega) fun a7 n7 c7 H7 w hw7 hwr hn7 hf7 => ?_
  have hf17 := (((hf13.keep0 hn4.fr).keep0 hf5).keep0 hf6).keep0 hf7
  have hB7 := hB.keep hf17
  obtain ⟨q1, q2, q3⟩ := put_mem hR hmr hwr
  have hset : SetR x false m w := ⟨hmr.1, hwr.1, q3, q2, (fun h => by cases h), fun _ => q1⟩
  have hml := hm6.len
  have hwl := hw7.len
  have hm7 := hm6.keep hf7
  have hb0 : Ld Try.prog 3 H7 ⟨b, 0, none⟩ (.int .i64 x.1) := hB7.ld0 (by kernel_rfl) rfl
  have hb1 : Ld Try.prog 3 H7 ⟨b, 1, none⟩ (.int .i64 x.2.1) := hB7.ldK (j := 1) (by kernel_rfl) rfl
  have hb2 : Ld Try.prog 3 H7 ⟨b, 2, none⟩ (.int .i64 x.2.2) := hB7.ldK (j := 2) (by kernel_rfl) rfl
  refine ⟨fun vs H' => match vs with
      | [.bool there, .int _ k', .int _ i'] => ∃ k i : Nat, k' = k ∧ i' = i ∧ k ≤ n7 ∧ i ≤ n6 ∧ SetR x there (m.drop i) (w.drop k) ∧ H' = H7
      | _ => False,
    fun vs _ => match vs with | [_, _, .int _ i] => n6 - i.toNat | _ => 0, ⟨0, 0, rfl, rfl, by omega, by omega, hset, rfl⟩, ?_⟩
  rintro J there k' i' H8 ⟨k, i, rfl, rfl, hk, hi, hst, rfl⟩
  refine brB_of (fun h0 => ?_) (fun h0 => ?_)
  rotate_left
  · rw [List.drop_of_length_le (by simp at h0; omega)] at hst
    obtain ⟨rfl, hw0⟩ := hst.fin
    have hkn : k = n7 := by
      have := congrArg List.length hw0
      simp at this; omega
    refine brB_of (fun _ => ⟨?_, hn1.fr.keep0 hf17⟩) (fun h => by cases h)
    rw [hkn]; simp
  have h0' : i < n6 := by simpa using h0
  have hz : m[i]? = some (m[i]'(by omega)) := by simp
  have hdz : m.drop i = m[i]'(by omega) :: m.drop (i + 1) := List.drop_eq_getElem_cons (by omega)
  generalize m[i]'(by omega) = z at hz hdz
  rw [hdz] at hst
  have fin : ∀ {there' : Bool} {kk : Nat}, kk ≤ n7 → SetR x there' (m.drop (i + 1)) (w.drop kk) → (∃ k_1 i_1 : Nat, (kk : Int) = k_1 ∧ IntKind.i64.wrap ((i : Int) + 1) = i_1 ∧ k_1 ≤ n7 ∧ i_1 ≤ n6 ∧ SetR x there' (m.drop i_1) (w.drop k_1) ∧ H8 = H8) ∧ n6 - (IntKind.i64.wrap ((i : Int) + 1)).toNat < n6 - ((i : Nat) : Int).toNat := fun h1 h2 => by
    rw [succ64 (by omega)]
    exact ⟨⟨_, i + 1, rfl, rfl, h1, by omega, h2, rfl⟩, by omega⟩
  refine ⟨fun vs H' => H' = H8 ∧ ∃ (w' : Bool) (kk : Nat), vs = [.bool w', .int .i64 kk] ∧ kk ≤ n7 ∧ SetR x w' (m.drop (i + 1)) (w.drop kk), ?_, ?_⟩
  rotate_left
  · rintro J w' n' H9 ⟨rfl, w2, kk, e, h1, h2⟩
    simp only [List.cons.injEq, Value.bool.injEq, Value.int.injEq, true_and, and_true] at e
    obtain ⟨rfl, rfl⟩ := e
    exact fin h1 h2
  refine ⟨fun vs H' => H' = H8 ∧ ¬ kEq z x ∧ vs = [.bool there, .int .i64 k], ?_, ?_⟩
  · refine ⟨fun vs H' => H' = H8 ∧ vs = [.bool (z.1 == x.1 && z.2.1 == x.2.1)], ?_, ?_⟩
    · refine hm7.get rfl hz (decide_eq_true (by omega)) fun ad ea hc => ⟨_, ldRw0 hc, _, hb0, brB_of (fun h1 => ?_) (fun h1 => ⟨rfl, by rw [h1]; simp⟩)⟩
      refine hm7.get rfl hz (decide_eq_true (by omega)) fun ad ea hc => ⟨_, ldRw1 hc, _, hb1, rfl, by rw [h1]; simp⟩
    · rintro J w2 H9 ⟨rfl, e⟩
      simp only [List.cons.injEq, Value.bool.injEq, and_true] at e
      subst e
      refine brB_of (fun h1 => ?_) (fun h1 => ⟨rfl, fun hk => by simp [hk.1, hk.2] at h1, rfl⟩)
      have hzx : kEq z x := by simpa [kEq] using h1
      obtain ⟨ezx, W', hs', hcase⟩ := hst.hit hzx
      refine hm7.get rfl hz (decide_eq_true (by omega)) fun ad ea hc => ⟨_, ldRw2 hc, _, hb2, ?_⟩
      have ev : (z.2.2 == x.2.2) = true := by rw [ezx]; simp
      rw [ev]
      refine ⟨fun vs H' => H' = H9 ∧ vs = [.bool (match (w.drop k).head? with | some y => y.1 == x.1 && y.2.1 == x.2.1 | none => false)], ?_, ?_⟩
      · refine brB_of (fun h2 => ?_) (fun h2 => ⟨rfl, ?_⟩)
        · have h2' : k < n7 := by simpa using h2
          have hy : w[k]? = some (w[k]'(by omega)) := by simp
          have hdy : w.drop k = w[k]'(by omega) :: w.drop (k + 1) := List.drop_eq_getElem_cons (by omega)
          generalize w[k]'(by omega) = y at hy hdy
          rw [hdy]
          refine hw7.get rfl hy (decide_eq_true (by omega)) fun ad ea hc => ⟨_, ldRw0 hc, _, hb0, brB_of (fun h3 => ?_) (fun h3 => ⟨rfl, by simp [h3]⟩)⟩
          refine hw7.get rfl hy (decide_eq_true (by omega)) fun ad ea hc => ⟨_, ldRw1 hc, _, hb1, rfl, by simp [h3]⟩
        · rw [List.drop_of_length_le (by simp at h2; omega)]; rfl
      · rintro J w3 H10 ⟨rfl, e⟩
        simp only [List.cons.injEq, Value.bool.injEq, and_true] at e
        subst e
        refine brB_of (fun h3 => ?_) (fun h3 => ?_)
        · rcases hcase with ⟨y, hy, hyk⟩ | ⟨_, hno⟩
          · have hkl : k < n7 := by
              have := congrArg List.length hy
              simp at this; omega
            rw [succ64 (by omega)]
            refine ⟨rfl, true, k + 1, rfl, by omega, ?_⟩
            have : w.drop (k + 1) = W' := by
              rw [← List.drop_drop, hy]; rfl
            rw [this]; exact hs'
          · cases hh : (w.drop k).head? with
            | none => rw [hh] at h3; cases h3
            | some y =>
              rw [hh] at h3
              exact absurd (by simpa [kEq] using h3) (hno y hh)
        · rcases hcase with ⟨y, hy, hyk⟩ | ⟨e, hno⟩
          · rw [hy] at h3
            simp [hyk.1, hyk.2] at h3
          · refine ⟨rfl, true, k, rfl, hk, ?_⟩
            rw [← e]; exact hs'
  · rintro J w2 n2 H9 ⟨rfl, hnk, e⟩
    simp only [List.cons.injEq, Value.bool.injEq, Value.int.injEq, true_and, and_true] at e
    obtain ⟨rfl, rfl⟩ := e
    obtain ⟨W', hW, hs'⟩ := hst.miss hnk
    have hkl : k < n7 := by
      have := congrArg List.length hW
      simp at this; omega
    refine brB_of (fun h1 => by have := of_decide_eq_true h1; omega) (fun _ => ?_)
    have hy : w[k]? = some z := by
      have := congrArg (fun l => l[0]?) hW
      simpa using this
    refine hw7.get rfl hy (decide_eq_true (by omega)) fun ad ea hc => ⟨_, _, _, ldRw hc, ?_⟩
    refine hm7.get rfl hz (decide_eq_true (by omega)) fun ad ea hc => ⟨_, _, _, ldRw hc, ?_⟩
    refine brB_of (fun h => by simp at h) (fun _ => ?_)
    rw [succ64 (by omega)]
    refine ⟨rfl, _, k + 1, rfl, by omega, ?_⟩
    have : w.drop (k + 1) = W' := by rw [← List.drop_drop, hW]; rfl
    rw [this]; exact hs'
end Go.Proofs
