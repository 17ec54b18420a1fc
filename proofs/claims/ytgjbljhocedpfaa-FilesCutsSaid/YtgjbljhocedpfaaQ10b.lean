/- A part of a proof: see the last text of this claim. -/
import Derived.Test.YtgjbljhocedpfaaQ10
set_option linter.unusedVariables false
set_option maxRecDepth 100000
open Go Go.GV
namespace Go.Proofs

theorem putN_same (now : ByteArray → Option ByteArray) (k v : ByteArray) : putN now k v k = some v := by simp [putN]
theorem putN_ne (now : ByteArray → Option ByteArray) {k x : ByteArray} (v : ByteArray) (h : ¬ k = x) : putN now k v x = now x := by unfold putN; rw [if_neg fun e => h e.symm]
theorem delN_same (now : ByteArray → Option ByteArray) (k : ByteArray) : delN now k k = none := by simp [delN]
theorem delN_ne (now : ByteArray → Option ByteArray) {k x : ByteArray} (h : ¬ k = x) : delN now k x = now x := by unfold delN; rw [if_neg fun e => h e.symm]

/-- FilesOwn. -/
theorem Own_ok {la : Option Addr} {ln lc : Nat} {l : List Step10} {a : ByteArray} {H : Heap} (hl : Sl encStep H la ln lc l) :
    CallH Try.prog 3 ⟨[.slice la ln lc, .string a]⟩ H fun v H' => v = .bool true ∧ Fr [] H H' := by
  apply vc_law10_FilesOwn
  have hlen := hl.len
  refine ⟨fun vs H' => vs = [] ∧ ln ≤ 60 ∧ wts l ≤ 8192 ∧ Fr [] H H', heavy_ok hl fun hb hbn => brB_of (fun _ => shown_ok fun H' hf => ⟨rfl, hf⟩) (fun hbf => shown_ok fun H' hf => brB_of (fun h => by simp at h) fun _ => brB_of (fun _ => shown_ok fun H'' hf' => ⟨rfl, hf.keep0 hf'⟩) fun _ => ⟨rfl, (hbn hbf).1, (hbn hbf).2, hf⟩), ?_⟩
  rintro J H1 ⟨_, hn60, hw, hf1⟩
  refine W10.new (n := 512) hf1 fun d H2 hopen hf2 => hopen _ fun s H3 hw3 => ?_
  refine ⟨fun vs H' => match vs with | [.string w, .bool t, .int _ i] => ∃ (j : Nat) (st : Sto) (m : Dk), i = j ∧ j ≤ ln ∧ W10 H [] H' s d st m (2000 * j) j ∧ Good st m (wts (l.take j)) j ∧ w = (st.now a).getD ⟨#[]⟩ ∧ t = (st.now a).isSome | _ => False,
    fun vs _ => match vs with | [_, _, .int _ i] => ln - i.toNat | _ => 0, ⟨0, stoNew, newM 512, rfl, by omega, hw3, good_new 512, rfl, rfl⟩, ?_⟩
  rintro J2 w t i H4 ⟨j, st, m, rfl, hj, h4, g4, rfl, rfl⟩
  refine brB_of (fun h0 => ?_) (fun h0 => ⟨rfl, h4.fr⟩)
  have h0' : j < ln := by simpa using h0
  obtain ⟨o, ho⟩ := getElem_ex (l := l) (i := j) (by omega)
  have hws := wts_snoc ho
  have hwl := wts_take l j
  have hwl2 := wts_take l (j + 1)
  have hwt : wt o = o.2.2.1.size + o.2.2.2.1.size := rfl
  refine ⟨fun vs H' => match vs with | [.string w, .bool t] => ∃ (st : Sto) (m : Dk), W10 H [] H' s d st m (2000 * (j + 1)) (j + 1) ∧ Good st m (wts (l.take (j + 1))) ((j + 1 : Nat) : Int).toNat ∧ w = (st.now a).getD ⟨#[]⟩ ∧ t = (st.now a).isSome | _ => False, ?_, ?_⟩
  · refine (hl.keep h4.fr).get rfl ho (by simp; omega) fun ad e hc => ⟨_, _, _, _, _, ld_many (by kernel_rfl) (by kernel_rfl) hc, ?_⟩
    refine var_blk (by kernel_rfl) (by kernel_rfl) (fun x hx => by simp [Value.cells] at hx; rcases hx with rfl | rfl | rfl | rfl | rfl <;> rfl) (by rfl) fun b H5 hb hbk hf5 => ?_
    have hbk : Blk H5 ⟨b, 0, none⟩ [.int .i64 o.1, .int .i64 o.2.1, .string o.2.2.1, .string o.2.2.2.1, .int .u64 o.2.2.2.2] := by simpa [Value.cells] using hbk
    obtain ⟨ob, h5, hpo⟩ := h4.withBlk hf5 hbk hb
    refine ⟨fun vs H' => match vs with | [.string w, .bool t] => ∃ (st : Sto) (m : Dk), W10 H [] H' s d st m (2000 * (j + 1)) (j + 1) ∧ Good st m (wts (l.take (j + 1))) ((j + 1 : Nat) : Int).toNat ∧ w = (st.now a).getD ⟨#[]⟩ ∧ t = (st.now a).isSome | _ => False, ?_, ?_⟩
    · have g5 : Good st m (wts (l.take (j + 1))) ((j + 1 : Nat) : Int).toNat := g4.mono (by omega) (by omega)
      have h5' : ∀ H', Fr [] H5 H' → W10 H [] H' s d st m (2000 * (j + 1)) (j + 1) := fun H' hf => ((h5.keep hf).drop (by simp)).mono (by omega) (by omega)
      have fin : ∀ {st' : Sto} {H' : Heap}, W10 H ((b, ob) :: []) H' s d st' m (2000 * j) (j + 1) → Good st' m (wts (l.take (j + 1))) j → (st'.now a = st.now a) → ∃ (st1 : Sto) (m1 : Dk), W10 H [] H' s d st1 m1 (2000 * (j + 1)) (j + 1) ∧ Good st1 m1 (wts (l.take (j + 1))) ((j + 1 : Nat) : Int).toNat ∧ (st.now a).getD ⟨#[]⟩ = (st1.now a).getD ⟨#[]⟩ ∧ (st.now a).isSome = (st1.now a).isSome :=
        fun h g e => ⟨_, m, (h.drop (by simp)).mono (by omega) (Nat.le_refl _), g.mono (Nat.le_refl _) (by omega), by rw [e], by rw [e]⟩
      have hB : Blk H5 ⟨b, 0, none⟩ [.int .i64 o.1, .int .i64 o.2.1, .string o.2.2.1, .string o.2.2.2.1, .int .u64 o.2.2.2.2] := hbk
      refine ⟨o.1, hB.ld0 (by kernel_rfl) rfl, brB_of (fun k0 => ?_) (fun k0 => brB_of (fun k1 => ?_) (fun k1 => brB_of (fun k2 => ?_) (fun k2 => brB_of (fun k4 => ?_) (fun k4 => ?_))))⟩
      · refine ⟨_, hB.ldK (j := 2) (by kernel_rfl) rfl, _, hB.ldK (j := 3) (by kernel_rfl) rfl, h5.write (by omega) g4 (B' := wts (l.take (j + 1))) (by omega) (by omega) (by omega) (by omega) fun H6 h6 g6 => ?_⟩
        have hB6 := hpo H6 (h6.pro (b, ob) (by simp))
        rcases writeS_cases m.size st o.2.2.1 o.2.2.2.1 with ⟨e1, _, e2⟩ | ⟨e1, e2⟩
        · rw [e2] at h6 g6
          rw [e1]
          refine brB_of (fun _ => ⟨_, hB6.ldK (j := 2) (by kernel_rfl) rfl, ?_⟩) (fun h => by simp at h)
          rw [beqS]
          refine brB_of (fun k5 => ⟨_, hB6.ldK (j := 3) (by kernel_rfl) rfl, ?_⟩) (fun k5 => ?_)
          · have k5' : o.2.2.1 = a := by simpa using k5
            refine ⟨_, m, (h6.drop (by simp)).mono (by omega) (Nat.le_refl _), g6.mono (Nat.le_refl _) (by omega), ?_, ?_⟩
            · rw [← k5']; show _ = (putN st.now _ _ _).getD _; rw [putN_same]; rfl
            · rw [← k5']; show _ = (putN st.now _ _ _).isSome; rw [putN_same]; rfl
          · have k5' : ¬ o.2.2.1 = a := by simpa using k5
            exact fin h6 g6 (putN_ne st.now _ k5')
        · rw [e2] at h6 g6
          refine brB_of (fun h => absurd (by simpa using h) e1) (fun _ => fin h6 g6 rfl)
      · refine ⟨_, hB.ldK (j := 2) (by kernel_rfl) rfl, _, hB.ldK (j := 3) (by kernel_rfl) rfl, h5.append (by omega) g4 (B' := wts (l.take (j + 1))) (by omega) (by omega) (by omega) fun H6 h6 g6 => ?_⟩
        have hB6 := hpo H6 (h6.pro (b, ob) (by simp))
        rcases writeS_cases m.size st o.2.2.1 ((st.now o.2.2.1).getD ⟨#[]⟩ ++ o.2.2.2.1) with ⟨e1, _, e2⟩ | ⟨e1, e2⟩
        · rw [e2] at h6 g6
          rw [e1]
          refine brB_of (fun _ => ⟨_, hB6.ldK (j := 2) (by kernel_rfl) rfl, ?_⟩) (fun h => by simp at h)
          rw [beqS]
          refine brB_of (fun k5 => ⟨_, hB6.ldK (j := 3) (by kernel_rfl) rfl, ?_⟩) (fun k5 => ?_)
          · have k5' : o.2.2.1 = a := by simpa using k5
            have hsz : ((st.now a).getD ⟨#[]⟩).size ≤ wts (l.take j) := by
              cases hn : st.now a with
              | none => simp [ByteArray.size]
              | some v => exact (g4.now a v hn).2
            refine chk_true (decide_eq_true (by omega)) ⟨_, m, (h6.drop (by simp)).mono (by omega) (Nat.le_refl _), g6.mono (Nat.le_refl _) (by omega), ?_, ?_⟩
            · rw [← k5']; show _ = (putN st.now _ _ _).getD _; rw [putN_same]; rfl
            · rw [← k5']; show _ = (putN st.now _ _ _).isSome; rw [putN_same]; rfl
          · have k5' : ¬ o.2.2.1 = a := by simpa using k5
            exact fin h6 g6 (putN_ne st.now _ k5')
        · rw [e2] at h6 g6
          refine brB_of (fun h => absurd (by simpa using h) e1) (fun _ => fin h6 g6 rfl)
      · refine ⟨_, hB.ldK (j := 2) (by kernel_rfl) rfl, h5.delete (by omega) (g4.mono (B' := wts (l.take (j + 1))) (by omega) (Nat.le_refl _)) (by omega) (by omega) fun H6 h6 g6 => ?_⟩
        have hB6 := hpo H6 (h6.pro (b, ob) (by simp))
        rcases deleteS_cases m.size st o.2.2.1 with ⟨e1, e2⟩ | ⟨e1, e2⟩
        · rw [e2] at h6 g6
          rw [e1]
          refine brB_of (fun _ => ⟨_, hB6.ldK (j := 2) (by kernel_rfl) rfl, ?_⟩) (fun h => by simp at h)
          rw [beqS]
          refine brB_of (fun k5 => ?_) (fun k5 => ?_)
          · have k5' : o.2.2.1 = a := by simpa using k5
            refine ⟨_, m, (h6.drop (by simp)).mono (by omega) (Nat.le_refl _), g6.mono (Nat.le_refl _) (by omega), ?_, ?_⟩
            · rw [← k5']; show _ = (delN st.now _ _).getD _; rw [delN_same]; rfl
            · rw [← k5']; show _ = (delN st.now _ _).isSome; rw [delN_same]; rfl
          · have k5' : ¬ o.2.2.1 = a := by simpa using k5
            exact fin h6 g6 (delN_ne st.now k5')
        · rw [e2] at h6 g6
          refine brB_of (fun h => absurd (by simpa using h) e1) (fun _ => fin h6 g6 rfl)
      · refine h5.sync (by omega) g4 (by omega) (by omega) (by omega) fun st' m' H6 h6 hs => brB_of (fun h => by simp at h) fun _ => ⟨st', m', (h6.drop (by simp)).mono (by omega) (by omega), hs.good.mono (by omega) (by omega), by rw [hs.now], by rw [hs.now]⟩
      · exact ⟨st, m, h5' H5 (Fr.refl _ _), g5, rfl, rfl⟩
    · rintro J3 w t H6 ⟨st', m', h6, g6, rfl, rfl⟩
      refine h6.read (brB_of (fun h => by simp at h) fun _ => brB_of (fun h => by simp at h) fun _ => ⟨st', m', h6, g6, rfl, rfl⟩)
  · rintro J3 w t H6 ⟨st', m', h6, g6, rfl, rfl⟩
    refine ⟨⟨j + 1, st', m', succ64 (by omega), by omega, h6, by simpa using g6, rfl, rfl⟩, ?_⟩
    show ln - (IntKind.i64.wrap ((j : Int) + 1)).toNat < ln - ((j : Nat) : Int).toNat
    rw [succ64 (by omega)]
    exact mu_lt h0'
end Go.Proofs
