/- A part of a proof: see the last text of this claim. -/
import Derived.Test.YtgjbljhocedpfaaQ10c
set_option linter.unusedVariables false
set_option maxRecDepth 100000
open Go Go.GV
namespace Go.Proofs

theorem flat2_get {now : ByteArray → Option ByteArray} : ∀ {ys : List ByteArray} {k : Nat} {y : ByteArray}, ys[k]? = some y → (ys.flatMap fun y => [y, (now y).getD ⟨#[]⟩])[2 * k]? = some y ∧ (ys.flatMap fun y => [y, (now y).getD ⟨#[]⟩])[2 * k + 1]? = some ((now y).getD ⟨#[]⟩)
  | [], k, y, h => by simp at h
  | z :: zs, 0, y, h => by
    simp only [List.getElem?_cons_zero, Option.some.injEq] at h
    subst h
    exact ⟨rfl, rfl⟩
  | z :: zs, k + 1, y, h => by
    simp only [List.getElem?_cons_succ] at h
    have := flat2_get (now := now) h
    simp only [List.flatMap_cons, List.cons_append, List.nil_append]
    rw [show 2 * (k + 1) = 2 * k + 1 + 1 by omega, List.getElem?_cons_succ, List.getElem?_cons_succ, List.getElem?_cons_succ, List.getElem?_cons_succ]
    exact this
/-- FilesMoved. -/
theorem Moved_ok {la : Option Addr} {ln lc : Nat} {l : List Step10} {from' to : ByteArray} {H : Heap} (hl : Sl encStep H la ln lc l) :
    CallH Try.prog 4 ⟨[.slice la ln lc, .string from', .string to]⟩ H fun v H' => v = .bool true ∧ Fr [] H H' := by
  apply vc_law10_FilesMoved
  have hlen := hl.len
  refine ⟨fun vs H' => vs = [] ∧ ln ≤ 60 ∧ wts l ≤ 8192 ∧ from'.size ≤ 100 ∧ to.size ≤ 100 ∧ Fr [] H H', heavy_ok hl fun hb hbn => brB_of (fun _ => shown_ok fun H' hf => ⟨rfl, hf⟩) (fun hbf => brB_of (fun _ => shown_ok fun H' hf => ⟨rfl, hf⟩) fun k1 => brB_of (fun _ => shown_ok fun H' hf => ⟨rfl, hf⟩) fun k2 => shown_ok fun H' hf => brB_of (fun h => by simp at h) fun _ => ⟨rfl, (hbn hbf).1, (hbn hbf).2, ?_, ?_, hf⟩), ?_⟩
  · have : ¬ (from'.size : Int) > 100 := by simpa using k1
    omega
  · have : ¬ (to.size : Int) > 100 := by simpa using k2
    omega
  rintro J H1 ⟨_, hn60, hw, hfs, hts, hf1⟩
  refine W10.new (n := 512) hf1 fun d H2 hopen hf2 => hopen _ fun s H3 hw3 => ?_
  refine ⟨fun vs H' => vs = [] ∧ H' = H3, brB_of (fun h => by simp at h) fun _ => brB_of (fun h => by simp at h) fun _ => ⟨rfl, rfl⟩, ?_⟩
  rintro J2 H3' ⟨_, rfl⟩
  refine ⟨fun vs H' => match vs with | [.int _ i] => ∃ (j : Nat) (st : Sto) (m : Dk), i = j ∧ j ≤ ln ∧ W10 H [] H' s d st m 0 j ∧ Good st m (wts (l.take j)) j | _ => False,
    fun vs _ => match vs with | [.int _ i] => ln - i.toNat | _ => 0, ⟨0, stoNew, newM 512, rfl, by omega, hw3, good_new 512⟩, ?_⟩
  rintro J2 i H4 ⟨j, st, m, rfl, hj, h4, g4⟩
  have hwl := wts_take l j
  refine brB_of (fun h0 => ?_) (fun h0 => ?_)
  · have h0' : j < ln := by simpa using h0
    obtain ⟨o, ho⟩ := getElem_ex (l := l) (i := j) (by omega)
    have hws := wts_snoc ho
    have hwl2 := wts_take l (j + 1)
    refine (hl.keep h4.fr).get rfl ho (by simp; omega) fun ad e hc => ⟨_, _, _, _, _, ld_many (by kernel_rfl) (by kernel_rfl) hc, ?_⟩
    refine change10_ok h4 (by omega) g4 (by omega) (by omega) fun H6 h6 g6 => ⟨⟨j + 1, _, m, succ64 (by omega), by omega, h6, g6.mono (by omega) (by omega)⟩, mu_fin h0' (by omega)⟩
  · refine named_ok h4 (by omega) fun a1 n1 c1 H5 ho5 hf5 => ?_
    obtain ⟨ys, hy1, hy2⟩ := h4.names
    obtain ⟨pr1, h5, hsl1⟩ := h4.withOwn hf5 ho5
    have hn1 : n1 = 2 * ys.length := by
      rw [ho5.1]; unfold namedL; rw [namesL_eq hy1, flat2_len]
    have hnl : namedL st.now = ys.flatMap fun y => [y, (st.now y).getD ⟨#[]⟩] := by unfold namedL; rw [namesL_eq hy1]
    refine h5.read ?_
    refine h5.rename (by omega) g4 (by omega) (by omega) (by omega) fun H6 h6 g6 => ?_
    refine named_ok h6 (by omega) fun a2 n2 c2 H7 ho7 hf7 => ?_
    have h7 := h6.keep hf7
    have hA := hsl1 H7 fun p hp => h7.pro p (by simp [hp])
    rcases renameS_cases m.size st from' to with ⟨e1, e2, e3⟩ | ⟨e1, e2, e3⟩
    · -- moved
      rw [e3] at h7 g6
      rw [e1]
      refine brB_of (fun h => by simp at h) fun _ => ?_
      obtain ⟨v, hv⟩ : ∃ v, st.now from' = some v := by
        cases hn : st.now from' with
        | none => rw [hn] at e2; cases e2
        | some v => exact ⟨v, rfl⟩
      have hto : (putN (delN st.now from') to ((st.now from').getD ⟨#[]⟩)) to = some v := by rw [putN_same, hv]; rfl
      refine h7.read ?_
      refine h7.read ?_
      refine ⟨fun vs H' => vs = [] ∧ H' = H7, ?_, ?_⟩
      · show brB (!(st.now from').isSome) _ _
        refine brB_of (fun h => by rw [e2] at h; simp at h) fun _ => ?_
        refine brB_of (fun h => ?_) fun _ => brB_of (fun h => ?_) fun _ => brB_of (fun h => ?_) fun _ => ⟨rfl, rfl⟩
        · have h : (!((putN (delN st.now from') to ((st.now from').getD ⟨#[]⟩)) to).isSome) = true := h
          rw [hto] at h; simp at h
        · have h : (!((((putN (delN st.now from') to ((st.now from').getD ⟨#[]⟩)) to).getD ⟨#[]⟩).toList == ((st.now from').getD ⟨#[]⟩).toList)) = true := h
          rw [hto, hv] at h; simp at h
        have h : (!(((putN (delN st.now from') to ((st.now from').getD ⟨#[]⟩)) from').isSome == (from'.toList == to.toList))) = true := h
        exfalso
        rw [beqS] at h
        by_cases hft : from' = to
        · subst hft
          rw [putN_same] at h
          simp at h
        · rw [putN_ne _ _ fun e => hft e.symm, delN_same] at h
          simp [hft] at h
      · rintro J3 H8 ⟨_, rfl⟩
        refine ⟨fun vs H' => match vs with | [.int _ i] => ∃ k : Nat, i = ((2 * k : Nat) : Int) ∧ k ≤ ys.length ∧ H' = H8 | _ => False,
          fun vs _ => match vs with | [.int _ i] => n1 - i.toNat | _ => 0, ⟨0, rfl, by omega, rfl⟩, ?_⟩
        rintro J4 i H9 ⟨k, rfl, hk, rfl⟩
        refine brB_of (fun k0 => ?_) (fun k0 => ⟨rfl, h7.fr⟩)
        have k0' : k < ys.length := by simp at k0; omega
        obtain ⟨y, hy⟩ := getElem_ex k0'
        obtain ⟨q1, q2⟩ := flat2_get (now := st.now) hy
        rw [← hnl] at q1 q2
        have hyn := (hy1.2 y).1 (List.mem_of_getElem? hy)
        have e2k : IntKind.i64.wrap (((2 * k : Nat) : Int) + 2) = ((2 * (k + 1) : Nat) : Int) := by rw [wrap64_of (by omega) (by omega)]; omega
        have e1k : IntKind.i64.wrap (((2 * k : Nat) : Int) + 1) = ((2 * k + 1 : Nat) : Int) := by rw [wrap64_of (by omega) (by omega)]; omega
        refine ⟨fun vs H' => vs = [] ∧ H' = H9, ?_, ?_⟩
        · refine hA.get rfl q1 (by simp; omega) fun ad e hc => ⟨y, ld_one (by kernel_rfl) hc, h7.read ?_⟩
          refine hA.get rfl q1 (by simp; omega) fun ad e hc => ⟨y, ld_one (by kernel_rfl) hc, ?_⟩
          rw [beqS]
          refine brB_of (fun k1 => ?_) (fun _ => ⟨rfl, rfl⟩)
          have k1' : ¬ y = from' := by simpa using k1
          refine hA.get rfl q1 (by simp; omega) fun ad e hc => ⟨y, ld_one (by kernel_rfl) hc, ?_⟩
          rw [beqS]
          refine brB_of (fun k2 => ?_) (fun _ => ⟨rfl, rfl⟩)
          have k2' : ¬ y = to := by simpa using k2
          have hst : (putN (delN st.now from') to ((st.now from').getD ⟨#[]⟩)) y = st.now y := by rw [putN_ne _ _ fun e => k2' e.symm, delN_ne _ fun e => k1' e.symm]
          refine brB_of (fun h => ?_) fun _ => ?_
          · have h : (!((putN (delN st.now from') to ((st.now from').getD ⟨#[]⟩)) y).isSome) = true := h
            rw [hst, hyn] at h; simp at h
          rw [e1k]
          refine hA.get rfl q2 (by simp; omega) fun ad e hc => ⟨_, ld_one (by kernel_rfl) hc, ?_⟩
          refine brB_of (fun h => ?_) fun _ => ⟨rfl, rfl⟩
          have h : (!((((putN (delN st.now from') to ((st.now from').getD ⟨#[]⟩)) y).getD ⟨#[]⟩).toList == ((st.now y).getD ⟨#[]⟩).toList)) = true := h
          rw [hst] at h; simp at h
        · rintro J5 H10 ⟨_, rfl⟩
          rw [e2k]
          refine ⟨⟨k + 1, rfl, by omega, rfl⟩, ?_⟩
          show n1 - (((2 * (k + 1) : Nat) : Int)).toNat < n1 - (((2 * k : Nat) : Int)).toNat
          omega
    · -- refused
      rw [e2] at h7 ho7
      refine brB_of (fun _ => ?_) (fun h => absurd (by simpa using h) e1)
      refine same_ok ho7.sl hA (by
        rw [ho7.1]
        unfold namedL
        rw [namesL_eq hy1, flat2_len]
        omega) ?_
      refine brB_of (fun _ => brB_of (fun _ => ⟨rfl, h7.fr⟩) (fun h3 => ⟨?_, h7.fr⟩)) (fun h => by simp at h)
      have := e3 (by simpa using h3)
      rw [this]
      rfl
end Go.Proofs
