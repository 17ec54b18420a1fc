/- A part of a proof: see the last text of this claim. -/
import Derived.Test.YtgjbljhocedpfaaQ10b
set_option linter.unusedVariables false
set_option maxRecDepth 100000
open Go Go.GV
namespace Go.Proofs

theorem freeV_nonneg {st : Sto} {m : Dk} {B G : Nat} (h : Good st m B G) : 0 ≤ freeV st m := by
  have hp := h.planOk h.fits
  have h1 := congrArg List.length hp.puts
  rw [List.length_append, List.length_map] at h1
  have := hp.need
  unfold freeV
  omega
theorem mu_fin {n i : Nat} (h : i < n) (hb : i ≤ 1000000) : n - (IntKind.i64.wrap ((i : Int) + 1)).toNat < n - ((i : Nat) : Int).toNat := by
  rw [succ64 (by omega)]; exact mu_lt h

/-- FilesRoom. -/
theorem Room_ok {n : Int} {la : Option Addr} {ln lc : Nat} {l : List Step10} {H : Heap} (hl : Sl encStep H la ln lc l) :
    CallH Try.prog 8 ⟨[.int .u8 n, .slice la ln lc]⟩ H fun v H' => v = .bool true ∧ Fr [] H H' := by
  apply vc_law10_FilesRoom
  have hlen := hl.len
  refine ⟨fun vs H' => vs = [] ∧ ln ≤ 60 ∧ wts l ≤ 8192 ∧ Fr [] H H', heavy_ok hl fun hb hbn => brB_of (fun _ => shown_ok fun H' hf => ⟨rfl, hf⟩) (fun hbf => shown_ok fun H' hf => brB_of (fun h => by simp at h) fun _ => ⟨rfl, (hbn hbf).1, (hbn hbf).2, hf⟩), ?_⟩
  rintro J H1 ⟨_, hn60, hw, hf1⟩
  generalize hn8 : IntKind.i64.wrap (8 + Int.tmod (IntKind.i64.wrap n) 40) = n8
  refine W10.new (n := n8) hf1 fun d H2 hopen hf2 => hopen _ fun s H3 hw3 => ?_
  refine ⟨fun vs H' => match vs with | [.int _ i] => ∃ (j : Nat) (st : Sto) (m : Dk), i = j ∧ j ≤ ln ∧ W10 H [] H' s d st m (2000 * j) j ∧ Good st m (wts (l.take j)) j | _ => False,
    fun vs _ => match vs with | [.int _ i] => ln - i.toNat | _ => 0, ⟨0, stoNew, newM n8, rfl, by omega, hw3, good_new n8⟩, ?_⟩
  rintro J2 i H4 ⟨j, st, m, rfl, hj, h4, g4⟩
  have hwl := wts_take l j
  refine brB_of (fun h0 => ?_) (fun h0 => h4.sync (by omega) g4 (by omega) (by omega) (by omega) fun st' m' H6 h6 hs => ⟨rfl, h6.fr⟩)
  have h0' : j < ln := by simpa using h0
  obtain ⟨o, ho⟩ := getElem_ex (l := l) (i := j) (by omega)
  have hws := wts_snoc ho
  have hwl2 := wts_take l (j + 1)
  have hwt : wt o = o.2.2.1.size + o.2.2.2.1.size := rfl
  refine ⟨fun vs H' => vs = [] ∧ ∃ (st : Sto) (m : Dk), W10 H [] H' s d st m (2000 * (j + 1)) (j + 1) ∧ Good st m (wts (l.take (j + 1))) (j + 1), ?_, ?_⟩
  · refine (hl.keep h4.fr).get rfl ho (by simp; omega) fun ad e hc => ⟨_, _, _, _, _, ld_many (by kernel_rfl) (by kernel_rfl) hc, ?_⟩
    refine var_blk (by kernel_rfl) (by kernel_rfl) (fun x hx => by simp [Value.cells] at hx; rcases hx with rfl | rfl | rfl | rfl | rfl <;> rfl) (by rfl) fun b H5 hb hbk hf5 => ?_
    have hbk : Blk H5 ⟨b, 0, none⟩ [.int .i64 o.1, .int .i64 o.2.1, .string o.2.2.1, .string o.2.2.2.1, .int .u64 o.2.2.2.2] := by simpa [Value.cells] using hbk
    obtain ⟨ob, h5, hpo⟩ := h4.withBlk hf5 hbk hb
    refine named_ok h5 (by omega) fun a1 n1 c1 H6 ho6 hf6 => ?_
    obtain ⟨pr, h6, hpw⟩ := h5.withOwn hf6 ho6
    have hmem : (b, ob) ∈ pr ++ [(b, ob)] := by simp
    refine h6.free (by omega) g4 (by omega) fun H7 h7 => ?_
    have hB7 := hpo H7 (h7.pro (b, ob) hmem)
    have g7 : Good st m (wts (l.take (j + 1))) (j + 1) := g4.mono (by omega) (by omega)
    refine ⟨fun vs H' => match vs with | [.int _ e] => ∃ (st' : Sto) (m' : Dk), W10 H (pr ++ [(b, ob)]) H' s d st' m' (2000 * (j + 1)) (j + 1) ∧ Good st' m' (wts (l.take (j + 1))) (j + 1) ∧ (e ≠ 0 → st' = st ∧ m' = m) | _ => False, ?_, ?_⟩
    · refine ⟨o.1, hB7.ld0 (by kernel_rfl) rfl, brB_of (fun k0 => ?_) (fun k0 => brB_of (fun k1 => ?_) (fun k1 => brB_of (fun k2 => ?_) (fun k2 => brB_of (fun k3 => ?_) (fun k3 => brB_of (fun k4 => ?_) (fun k4 => ?_)))))⟩
      · refine ⟨_, hB7.ldK (j := 2) (by kernel_rfl) rfl, _, hB7.ldK (j := 3) (by kernel_rfl) rfl, h7.write (by omega) g4 (B' := wts (l.take (j + 1))) (by omega) (by omega) (by omega) (by omega) fun H8 h8 g8 => ⟨_, m, h8.mono (by omega) (Nat.le_refl _), g8.mono (Nat.le_refl _) (by omega), fun he => ?_⟩⟩
        rcases writeS_cases m.size st o.2.2.1 o.2.2.2.1 with ⟨e1, _, e2⟩ | ⟨e1, e2⟩
        · exact absurd e1 he
        · exact ⟨e2, rfl⟩
      · refine ⟨_, hB7.ldK (j := 2) (by kernel_rfl) rfl, _, hB7.ldK (j := 3) (by kernel_rfl) rfl, h7.append (by omega) g4 (B' := wts (l.take (j + 1))) (by omega) (by omega) (by omega) fun H8 h8 g8 => ⟨_, m, h8.mono (by omega) (Nat.le_refl _), g8.mono (Nat.le_refl _) (by omega), fun he => ?_⟩⟩
        rcases writeS_cases m.size st o.2.2.1 ((st.now o.2.2.1).getD ⟨#[]⟩ ++ o.2.2.2.1) with ⟨e1, _, e2⟩ | ⟨e1, e2⟩
        · exact absurd e1 he
        · exact ⟨e2, rfl⟩
      · refine ⟨_, hB7.ldK (j := 2) (by kernel_rfl) rfl, h7.delete (by omega) g4 (by omega) (by omega) fun H8 h8 g8 => ⟨_, m, h8.mono (by omega) (Nat.le_refl _), g8.mono (by omega) (by omega), fun he => ?_⟩⟩
        rcases deleteS_cases m.size st o.2.2.1 with ⟨e1, e2⟩ | ⟨e1, e2⟩
        · exact absurd e1 he
        · exact ⟨e2, rfl⟩
      · refine ⟨_, hB7.ldK (j := 2) (by kernel_rfl) rfl, _, hB7.ldK (j := 3) (by kernel_rfl) rfl, h7.rename (by omega) g4 (by omega) (by omega) (by omega) fun H8 h8 g8 => ⟨_, m, h8.mono (by omega) (Nat.le_refl _), g8.mono (by omega) (by omega), fun he => ?_⟩⟩
        rcases renameS_cases m.size st o.2.2.1 o.2.2.2.1 with ⟨e1, _, e2⟩ | ⟨e1, e2, _⟩
        · exact absurd e1 he
        · exact ⟨e2, rfl⟩
      · exact h7.sync (by omega) g4 (by omega) (by omega) (by omega) fun st' m' H8 h8 hs => brB_of (fun h => by simp at h) fun _ => ⟨st', m', h8.mono (by omega) (by omega), hs.good.mono (by omega) (by omega), fun h => absurd rfl h⟩
      · exact ⟨st, m, h7.mono (by omega) (by omega), g7, fun h => absurd rfl h⟩
    · rintro J3 e H8 ⟨st', m', h8, g8, he⟩
      have hnn := freeV_nonneg g8
      have last : ∀ H9, W10 H (pr ++ [(b, ob)]) H9 s d st' m' (2000 * (j + 1)) (j + 1) → CallH Try.prog 27 ⟨[.pointer (some s)]⟩ H9 fun v H' => ∃ n, v = .int .i64 n ∧ brB (decide (n < 0)) (Value.bool false = .bool true ∧ Fr [] H H') (([] : List Value) = [] ∧ ∃ (st : Sto) (m : Dk), W10 H [] H' s d st m (2000 * (j + 1)) (j + 1) ∧ Good st m (wts (l.take (j + 1))) (j + 1)) := fun H9 h9 =>
        h9.free (by omega) g8 (by omega) fun H10 h10 => brB_of (fun h => by simp at h; omega) fun _ => ⟨rfl, st', m', h10.drop (by simp), g8⟩
      refine brB_of (fun h9 => ?_) (fun _ => last H8 h8)
      have he' : e ≠ 0 := by simpa using h9
      obtain ⟨rfl, rfl⟩ := he he'
      refine named_ok h8 (by omega) fun a2 n2 c2 H9 ho9 hf9 => ?_
      have h9 := h8.keep hf9
      have hs9 := hpw H9 fun p hp => h9.pro p (by simp [hp])
      have hnl := ho9.1
      have hys := h8.names
      refine same_ok ho9.sl hs9 ?_ ?_
      · obtain ⟨ys, hy1, hy2⟩ := hys
        rw [hnl]
        unfold namedL
        rw [namesL_eq hy1, flat2_len]
        omega
      · refine brB_of (fun h => by simp at h) fun _ => h9.free (by omega) g8 (by omega) fun H10 h10 => brB_of (fun h => by simp at h) fun _ => last H10 h10
  · rintro J3 H8 ⟨_, st', m', h8, g8⟩
    exact ⟨⟨j + 1, st', m', succ64 (by omega), by omega, h8, g8⟩, mu_fin h0' (by omega)⟩

theorem flat2_inj : ∀ {ys zs : List ByteArray} {f g : ByteArray → Option ByteArray}, (ys.flatMap fun y => [y, (f y).getD ⟨#[]⟩]) = (zs.flatMap fun y => [y, (g y).getD ⟨#[]⟩]) → ys = zs ∧ ∀ y ∈ ys, (f y).getD ⟨#[]⟩ = (g y).getD ⟨#[]⟩
  | [], [], _, _, _ => ⟨rfl, by simp⟩
  | [], z :: zs, _, _, h => by simp at h
  | y :: ys, [], _, _, h => by simp at h
  | y :: ys, z :: zs, f, g, h => by
    simp only [List.flatMap_cons, List.cons_append, List.nil_append, List.cons.injEq] at h
    obtain ⟨h1, h2, h3⟩ := h
    subst h1
    obtain ⟨h4, h5⟩ := flat2_inj h3
    subst h4
    refine ⟨rfl, fun x hx => ?_⟩
    rcases List.mem_cons.1 hx with e | e
    · rw [e]; exact h2
    · exact h5 x e
theorem namedL_inj {now now' : ByteArray → Option ByteArray} (h : ∃ ys, namesOf now ys) (h' : ∃ ys, namesOf now' ys) : namedL now = namedL now' ↔ now = now' := by
  obtain ⟨ys, hy⟩ := h
  obtain ⟨zs, hz⟩ := h'
  refine ⟨fun e => ?_, fun e => by rw [e]⟩
  unfold namedL at e
  rw [namesL_eq hy, namesL_eq hz] at e
  obtain ⟨e1, e2⟩ := flat2_inj e
  subst e1
  funext y
  have h1 := hy.2 y
  have h2 := hz.2 y
  by_cases hyy : y ∈ ys
  · have h3 := e2 y hyy
    have h4 := h1.1 hyy
    have h5 := h2.1 hyy
    cases ha : now y with
    | none => rw [ha] at h4; cases h4
    | some v =>
      cases hb : now' y with
      | none => rw [hb] at h5; cases h5
      | some w => rw [ha, hb] at h3; simp only [Option.getD_some] at h3; rw [h3]
  · have h4 : now y = none := by
      cases ha : now y with
      | none => rfl
      | some v => exact absurd (h1.2 (by rw [ha]; rfl)) hyy
    have h5 : now' y = none := by
      cases ha : now' y with
      | none => rfl
      | some v => exact absurd (h2.2 (by rw [ha]; rfl)) hyy
    rw [h4, h5]
/-- What lasts, as files. -/
def lastN (st : Sto) : ByteArray → Option ByteArray := fun y => (st.last y).map (·.1)
theorem sameP_iff {st : Sto} : sameP st ↔ st.now = lastN st := ⟨fun h => funext h, fun h y => congrFun h y⟩
theorem stepM_last (size : Int) (st : Sto) (o : Step10) : (stepM size st o).last = st.last ∧ (stepM size st o).gen = st.gen := by
  unfold stepM
  split
  · rcases writeS_cases size st o.2.2.1 o.2.2.2.1 with ⟨_, _, e⟩ | ⟨_, e⟩ <;> rw [e] <;> exact ⟨rfl, rfl⟩
  split
  · rcases writeS_cases size st o.2.2.1 ((st.now o.2.2.1).getD ⟨#[]⟩ ++ o.2.2.2.1) with ⟨_, _, e⟩ | ⟨_, e⟩ <;> rw [e] <;> exact ⟨rfl, rfl⟩
  split
  · rcases deleteS_cases size st o.2.2.1 with ⟨_, e⟩ | ⟨_, e⟩ <;> rw [e] <;> exact ⟨rfl, rfl⟩
  split
  · rcases renameS_cases size st o.2.2.1 o.2.2.2.1 with ⟨_, _, e⟩ | ⟨_, e, _⟩ <;> rw [e] <;> exact ⟨rfl, rfl⟩
  · exact ⟨rfl, rfl⟩

/-- FilesGens. -/
theorem Gens_ok {n : Int} {la : Option Addr} {ln lc : Nat} {l : List Step10} {H : Heap} (hl : Sl encStep H la ln lc l) :
    CallH Try.prog 6 ⟨[.int .u8 n, .slice la ln lc]⟩ H fun v H' => v = .bool true ∧ Fr [] H H' := by
  apply vc_law10_FilesGens
  have hlen := hl.len
  refine ⟨fun vs H' => vs = [] ∧ ln ≤ 60 ∧ wts l ≤ 8192 ∧ Fr [] H H', heavy_ok hl fun hb hbn => brB_of (fun _ => shown_ok fun H' hf => ⟨rfl, hf⟩) (fun hbf => shown_ok fun H' hf => brB_of (fun h => by simp at h) fun _ => ⟨rfl, (hbn hbf).1, (hbn hbf).2, hf⟩), ?_⟩
  rintro J H1 ⟨_, hn60, hw, hf1⟩
  generalize hn8 : IntKind.i64.wrap (8 + Int.tmod (IntKind.i64.wrap n) 40) = n8
  refine W10.new (n := n8) hf1 fun d H2 hopen hf2 => hopen _ fun s H3 hw3 => ?_
  refine ⟨fun vs H' => vs = [] ∧ H' = H3, brB_of (fun h => by simp at h) fun _ => brB_of (fun h => by simp at h) fun _ => ⟨rfl, rfl⟩, ?_⟩
  rintro J2 H3' ⟨_, rfl⟩
  refine named_ok hw3 (by omega) fun a1 n1 c1 H4 ho4 hf4 => ?_
  obtain ⟨pr0, hw4, hsl0⟩ := hw3.withOwn hf4 ho4
  refine ⟨fun vs H' => match vs with | [.slice xa xn xc, .int _ i] => ∃ (j : Nat) (st : Sto) (m : Dk) (pr : List (Nat × Obj)), i = j ∧ j ≤ ln ∧ W10 H pr H' s d st m (2000 * j) j ∧ Good st m (wts (l.take j)) j ∧ (∀ H', (∀ p ∈ pr, H'[p.1]? = some p.2) → Sl GV.encStr H' xa xn xc (namedL (lastN st))) ∧ ∃ zs, namesOf (lastN st) zs | _ => False,
    fun vs _ => match vs with | [_, .int _ i] => ln - i.toNat | _ => 0, ⟨0, stoNew, newM n8, pr0, rfl, by omega, hw4.drop (by simp), good_new n8, hsl0, [], names_none⟩, ?_⟩
  rintro J3 xa xn xc i H5 ⟨j, st, m, pr, rfl, hj, h5, g5, hsl, hzs⟩
  have hwl := wts_take l j
  refine brB_of (fun h0 => ?_) (fun h0 => ⟨rfl, h5.fr⟩)
  have h0' : j < ln := by simpa using h0
  obtain ⟨o, ho⟩ := getElem_ex (l := l) (i := j) (by omega)
  have hws := wts_snoc ho
  have hwl2 := wts_take l (j + 1)
  have hwt : wt o = o.2.2.1.size + o.2.2.2.1.size := rfl
  refine ⟨fun vs H' => match vs with | [.slice xa xn xc] => ∃ (st : Sto) (m : Dk) (pr : List (Nat × Obj)), W10 H pr H' s d st m (2000 * (j + 1)) (j + 1) ∧ Good st m (wts (l.take (j + 1))) (j + 1) ∧ (∀ H', (∀ p ∈ pr, H'[p.1]? = some p.2) → Sl GV.encStr H' xa xn xc (namedL (lastN st))) ∧ ∃ zs, namesOf (lastN st) zs | _ => False, ?_, ?_⟩
  · refine (hl.keep h5.fr).get rfl ho (by simp; omega) fun ad e hc => ⟨_, _, _, _, _, ld_many (by kernel_rfl) (by kernel_rfl) hc, ?_⟩
    refine change10_ok h5 (by omega) g5 (by omega) (by omega) fun H6 h6 g6 => ?_
    obtain ⟨hsl1, hsg⟩ := stepM_last m.size st o
    have hln : lastN (stepM m.size st o) = lastN st := by unfold lastN; rw [hsl1]
    refine (hl.keep h6.fr).get rfl ho (by simp; omega) fun ad e hc => ⟨o.1, ld_cell (by kernel_rfl) (by have := hc 0 _ rfl; rwa [addr_add0] at this), ?_⟩
    rw [← hln] at hsl hzs
    generalize stepM m.size st o = st1 at h6 g6 hsl hzs
    have g6 : Good st1 m (wts (l.take (j + 1))) j := g6.mono (by omega) (Nat.le_refl _)
    refine brB_of (fun _ => ⟨st1, m, pr, h6.mono (by omega) (Nat.le_refl _), g6.mono (Nat.le_refl _) (by omega), hsl, hzs⟩) (fun _ => ?_)
    refine h6.gen (h6.calls (named_ok h6 (by omega) fun a2 n2 c2 H7 ho7 hf7 => ?_))
    obtain ⟨ys, hy1, hy2⟩ := h6.names
    obtain ⟨pr2, h7, hsl2⟩ := h6.withOwn hf7 ho7
    have hn2 := ho7.1
    refine h7.sync (by omega) g6 (by omega) (by omega) (by omega) fun st2 m2 H8 h8 hs => brB_of (fun h => by simp at h) fun _ => ?_
    have hA := hsl2 H8 fun p hp => h8.pro p (by simp [hp])
    have hB := hsl H8 fun p hp => h8.pro p (by simp [hp])
    have hnl : n2 ≤ 1000000000 := by
      rw [hn2]
      unfold namedL
      rw [namesL_eq hy1, flat2_len]
      omega
    have hiff := (namedL_inj ⟨ys, hy1⟩ hzs).trans sameP_iff.symm
    have hg6 := g6.gen
    have hln2 : lastN st2 = st1.now := by rw [← hs.now]; exact (sameP_iff.1 hs.same).symm
    refine same_ok hA hB hnl (h8.gen (brB_of (fun h => ?_) fun _ => same_ok hA hB hnl (h8.calls (brB_of (fun h => ?_) fun _ => h8.gen (brB_of (fun h => ?_) fun _ => ?_)))))
    · exfalso
      by_cases hsm : sameP st1
      · obtain ⟨rfl, rfl⟩ := hs.stay hsm
        rw [decide_eq_true (hiff.2 hsm)] at h
        simp at h
      · have := (hs.more hsm).1
        rw [decide_eq_false (fun e => hsm (hiff.1 e)), this] at h
        simp at h
        omega
    · exfalso
      by_cases hsm : sameP st1
      · obtain ⟨rfl, rfl⟩ := hs.stay hsm
        rw [decide_eq_true (hiff.2 hsm)] at h
        simp at h
      · have := (hs.more hsm).2
        rw [decide_eq_false (fun e => hsm (hiff.1 e))] at h
        simp at h
        omega
    · exfalso
      rw [wrap64_of (by omega) (by omega)] at h
      have h' : st2.gen > st1.gen + 1 := by simpa using h
      by_cases hsm : sameP st1
      · obtain ⟨rfl, rfl⟩ := hs.stay hsm; omega
      · have := (hs.more hsm).1; omega
    · refine ⟨st2, m2, pr2 ++ pr, h8.mono (by omega) (by omega), hs.good.mono (by omega) (by omega), fun H' h' => ?_, ?_⟩
      · rw [hln2]; exact hsl2 H' fun p hp => h' p (by simp [hp])
      · rw [hln2]; exact ⟨ys, hy1⟩
  · rintro J4 xa xn xc H6 ⟨st', m', pr', h6, g6, hs6, hz6⟩
    exact ⟨⟨j + 1, st', m', pr', succ64 (by omega), by omega, h6, g6, hs6, hz6⟩, mu_fin h0' (by omega)⟩
end Go.Proofs
