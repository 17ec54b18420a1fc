/- A part of a proof: see the last text of this claim. -/
import Derived.Test.YtgjbljhocedpfaaP10r
set_option linter.unusedVariables false
set_option maxRecDepth 100000
open Go Go.GV
namespace Go.Proofs

theorem sorted_ext : ∀ {a b : List ByteArray}, (a.map bl).Pairwise (· < ·) → (b.map bl).Pairwise (· < ·) → (∀ y, y ∈ a ↔ y ∈ b) → a = b
  | [], [], _, _, _ => rfl
  | [], y :: b, _, _, h => absurd ((h y).2 (by simp)) (by simp)
  | x :: a, [], _, _, h => absurd ((h x).1 (by simp)) (by simp)
  | x :: a, y :: b, h1, h2, h => by
    rw [List.map_cons, List.pairwise_cons] at h1 h2
    have lt1 : ∀ z ∈ a, bl x < bl z := fun z hz => h1.1 _ (List.mem_map_of_mem hz)
    have lt2 : ∀ z ∈ b, bl y < bl z := fun z hz => h2.1 _ (List.mem_map_of_mem hz)
    have hxy : x = y := by
      rcases List.mem_cons.1 ((h x).1 (by simp)) with e | e
      · exact e
      · rcases List.mem_cons.1 ((h y).2 (by simp)) with e' | e'
        · exact e'.symm
        · exact absurd (List.lt_trans (lt1 y e') (lt2 x e)) (List.lt_irrefl _)
    subst hxy
    congr 1
    refine sorted_ext h1.2 h2.2 fun z => ?_
    have := h z
    constructor
    · intro hz
      rcases List.mem_cons.1 (this.1 (List.mem_cons_of_mem _ hz)) with e | e
      · subst e; exact absurd (lt1 z hz) (List.lt_irrefl _)
      · exact e
    · intro hz
      rcases List.mem_cons.1 (this.2 (List.mem_cons_of_mem _ hz)) with e | e
      · subst e; exact absurd (lt2 z hz) (List.lt_irrefl _)
      · exact e
noncomputable def namesL (now : ByteArray → Option ByteArray) : List ByteArray := open Classical in if h : ∃ ys, namesOf now ys then h.choose else []
theorem namesL_eq {now : ByteArray → Option ByteArray} {ys : List ByteArray} (h : namesOf now ys) : namesL now = ys := by
  have hx : ∃ ys, namesOf now ys := ⟨ys, h⟩
  unfold namesL
  rw [dif_pos hx]
  have hc := hx.choose_spec
  exact sorted_ext hc.1 h.1 fun y => by rw [hc.2, h.2]
noncomputable def planN (size : Int) (st : Sto) (now : ByteArray → Option ByteArray) : Plan := planM size st.last st.dir now (namesL now)
noncomputable def changeM (size : Int) (st : Sto) (ch : (ByteArray → Option ByteArray) → ByteArray → Option ByteArray) : Sto × Int :=
  if (planN size st (ch st.now)).fits then ({ st with now := ch st.now }, 0) else (st, 2)
theorem SL.mono {H : Heap} {s d : Addr} {rn rl : Nat} {a : Option Addr} {n c : Nat} {Q Sd : List Nat} {st : Sto} {m : Dk} {N M M' : Nat} (h : SL H s d rn rl a n c Q Sd st m N M) (hM : M ≤ M') : SL H s d rn rl a n c Q Sd st m N M' :=
  ⟨h.blk, h.now.mono hM, h.last, h.dir, h.dirQ, h.dk, h.own, h.apart, h.inQ⟩

theorem change_ok {s d : Addr} {rn rl : Nat} {a : Option Addr} {n c : Nat} {Q Sd : List Nat} {st : Sto} {m : Dk} {N M : Nat} {H : Heap} {by' : Value} {G : Heap → Prop} {ch : (ByteArray → Option ByteArray) → ByteArray → Option ByteArray} {K : Int → Heap → Prop}
    (h : SL H s d rn rl a n c Q Sd st m N M) (hM : M + 1 ≤ 1000) (hB : PlB st (ch st.now)) (hc : Chg by' G ch) (hG : ∀ H', Fr [] H H' → G H')
    (hk : ∀ rn' H', SL H' s d rn' rl a n c Q Sd (changeM m.size st ch).1 m N (M + 1) → Fr [s.block] H H' → K (changeM m.size st ch).2 H') :
    CallH Try.prog 31 ⟨[.pointer (some s), by']⟩ H fun v H' => ∃ n, v = .int .i64 n ∧ K n H' := by
  apply vc_files_Store_change
  refine ⟨some rn, h.blk.ld (by kernel_rfl) rfl, ?_⟩
  refine CallH.mono (h.now.clone (K := fun r' H' => H.size ≤ r' ∧ NowR H' r' st.now M ∧ Fr [] H H') fun r' H' h1 h2 h3 => ⟨h1, h2, h3⟩) fun v H1 => ?_
  rintro ⟨mm, rfl, r', rfl, hr, hn1, hf1⟩
  refine ⟨some r', rfl, hc r' M st.now H1 _ (hG H1 hf1) hn1 fun H2 hn2 hf2 => ?_⟩
  have s1 := hf1.size
  have s2 := hf2.size
  have f2 : Fr [] H H2 := hf1.keep hf2 (by simp; omega)
  have h2 := h.keep f2
  refine planned_ok h2 hn2 (by omega) hB fun ys pa pn pc rp da dn dc H3 Qp hys _ _ _ _ _ _ _ hf3 _ _ => ?_
  have f3 := f2.keep0 hf3
  have h3 := h2.keep hf3
  have hn3 := hn2.fr hf3 (by simp)
  have hp : planN m.size st (ch st.now) = planM m.size st.last st.dir (ch st.now) ys := by unfold planN; rw [namesL_eq hys]
  unfold changeM at hk
  rw [hp] at hk
  refine brB_of (fun h0 => ⟨_, rfl, ?_⟩) (fun h0 => ?_)
  · have h0' : (planM m.size st.last st.dir (ch st.now) ys).fits = false := by simpa using h0
    rw [h0'] at hk
    exact hk rn H3 (h3.mono (by omega)) (f3.mono (by simp))
  · have h0' : (planM m.size st.last st.dir (ch st.now) ys).fits = true := by simpa using h0
    rw [h0'] at hk
    have hs := h.blk.lt
    refine Go.Proofs.Blk.set h3.blk (j := 1) (v := .map (some r')) (by kernel_rfl) (by kernel_rfl) rfl rfl (by simp) fun H4 hb hf4 => ⟨_, rfl, hk r' H4 ⟨?_, ?_, ?_, ?_, h.dirQ, ?_, ?_, ?_, ?_⟩ (f3.trans' hf4 (by simp) (fun k hk _ => hk))⟩
    · exact hb
    · exact hn3.fr hf4 (by simp; omega)
    · refine h3.last.fr hf4 (fun hh => ?_) (fun k hk hh => ?_)
      · exact h.own (by simp only [List.mem_singleton] at hh; simp [hh])
      · exact h.own (by simp only [List.mem_singleton] at hh; rw [← hh]; simp [hk])
    · exact h3.dir.fr hf4 fun ad e hh => h.own (by simp only [List.mem_singleton] at hh; rw [← hh]; simp [h.dirQ ad.block (by simp [e, blkL])])
    · exact h3.dk.fr hf4 fun k hk hh => h.apart s.block (by simp) (by simp only [List.mem_singleton] at hh; rw [← hh]; exact hk)
    · intro hh
      rcases List.mem_cons.1 hh with hh | hh
      · omega
      · exact h.own (List.mem_cons_of_mem _ hh)
    · intro k hk hh
      simp only [List.mem_cons] at hk
      rcases hk with rfl | rfl | rfl | hk
      · exact h.apart _ (by simp) hh
      · have := h.dk.inS _ hh; omega
      · exact h.apart _ (by simp) hh
      · exact h.apart _ (by simp [hk]) hh
    · exact h3.inQ.le hf4.size

noncomputable def writeS (size : Int) (st : Sto) (name data : ByteArray) : Sto × Int := if rightP name then changeM size st (fun now => putN now name data) else (st, 100)
theorem Write10_ok {s d : Addr} {rn rl : Nat} {a : Option Addr} {n c : Nat} {Q Sd : List Nat} {st : Sto} {m : Dk} {N M : Nat} {H : Heap} {name data : ByteArray} {K : Int → Heap → Prop}
    (h : SL H s d rn rl a n c Q Sd st m N M) (hM : M + 1 ≤ 1000) (hn : name.size ≤ 1000000) (hB : rightP name → PlB st (putN st.now name data))
    (hk : ∀ rn' H', SL H' s d rn' rl a n c Q Sd (writeS m.size st name data).1 m N (M + 1) → Fr [s.block] H H' → K (writeS m.size st name data).2 H') :
    CallH Try.prog 13 ⟨[.pointer (some s), .string name, .string data]⟩ H fun v H' => ∃ n, v = .int .i64 n ∧ K n H' := by
  apply vc_files_Store_Write
  intro b H1 hn1 b1 H2 hn2
  have f2 := hn1.fr.keep0 hn2.fr
  refine ⟨name, (hn1.blk.keep hn2.fr).ld0 (by kernel_rfl) rfl, right_ok (by omega) fun H3 f3 => ?_⟩
  have f3' := f2.keep0 f3
  unfold writeS at hk
  refine brB_of (fun h0 => ?_) (fun h0 => ?_)
  · have h0' : ¬ rightP name := by simpa using h0
    rw [if_neg h0'] at hk
    exact ⟨_, rfl, hk rn H3 ((h.keep f3').mono (by omega)) (f3'.mono (by simp))⟩
  · have h0' : rightP name := by simpa using h0
    rw [if_pos h0'] at hk
    refine change_ok (h.keep f3') hM (hB h0') (chg_write (name := name) (data := data)) (fun H' hf => ⟨(hn2.blk.keep f3).keep hf, ((hn1.blk.keep hn2.fr).keep f3).keep hf⟩) fun rn' H' h' hf => ⟨_, rfl, hk rn' H' h' (f3'.trans' hf (by simp) (fun k hk _ => hk))⟩
theorem Append10_ok {s d : Addr} {rn rl : Nat} {a : Option Addr} {n c : Nat} {Q Sd : List Nat} {st : Sto} {m : Dk} {N M : Nat} {H : Heap} {name data : ByteArray} {K : Int → Heap → Prop}
    (h : SL H s d rn rl a n c Q Sd st m N M) (hM : M + 1 ≤ 1000) (hn : name.size ≤ 1000000) (hd : ((st.now name).getD ⟨#[]⟩).size + data.size ≤ 1000000000) (hB : rightP name → PlB st (putN st.now name ((st.now name).getD ⟨#[]⟩ ++ data)))
    (hk : ∀ rn' H', SL H' s d rn' rl a n c Q Sd (writeS m.size st name ((st.now name).getD ⟨#[]⟩ ++ data)).1 m N (M + 1) → Fr [s.block] H H' → K (writeS m.size st name ((st.now name).getD ⟨#[]⟩ ++ data)).2 H') :
    CallH Try.prog 14 ⟨[.pointer (some s), .string name, .string data]⟩ H fun v H' => ∃ n, v = .int .i64 n ∧ K n H' := by
  apply vc_files_Store_Append
  refine ⟨some rn, h.blk.ld (by kernel_rfl) rfl, _, h.now.look name, chk_true (decide_eq_true (by omega)) ?_⟩
  exact Write10_ok h hM hn hB fun rn' H' h' hf => ⟨_, rfl, hk rn' H' h' hf⟩
noncomputable def deleteS (size : Int) (st : Sto) (name : ByteArray) : Sto × Int := if rightP name then (if (st.now name).isSome then changeM size st (fun now => delN now name) else (st, 3)) else (st, 100)
theorem Delete10_ok {s d : Addr} {rn rl : Nat} {a : Option Addr} {n c : Nat} {Q Sd : List Nat} {st : Sto} {m : Dk} {N M : Nat} {H : Heap} {name : ByteArray} {K : Int → Heap → Prop}
    (h : SL H s d rn rl a n c Q Sd st m N M) (hM : M + 1 ≤ 1000) (hn : name.size ≤ 1000000) (hB : PlB st (delN st.now name))
    (hk : ∀ rn' H', SL H' s d rn' rl a n c Q Sd (deleteS m.size st name).1 m N (M + 1) → Fr [s.block] H H' → K (deleteS m.size st name).2 H') :
    CallH Try.prog 15 ⟨[.pointer (some s), .string name]⟩ H fun v H' => ∃ n, v = .int .i64 n ∧ K n H' := by
  apply vc_files_Store_Delete
  intro b H1 hn1
  refine ⟨name, hn1.blk.ld0 (by kernel_rfl) rfl, right_ok (by omega) fun H3 f3 => ?_⟩
  have f3' := hn1.fr.keep0 f3
  unfold deleteS at hk
  refine brB_of (fun h0 => ?_) (fun h0 => ?_)
  · have h0' : ¬ rightP name := by simpa using h0
    rw [if_neg h0'] at hk
    exact ⟨_, rfl, hk rn H3 ((h.keep f3').mono (by omega)) (f3'.mono (by simp))⟩
  · have h0' : rightP name := by simpa using h0
    rw [if_pos h0'] at hk
    have h3 := h.keep f3'
    refine ⟨some rn, h3.blk.ld (by kernel_rfl) rfl, name, (hn1.blk.keep f3).ld0 (by kernel_rfl) rfl, _, _, h3.now.look2 name, brB_of (fun h1 => ?_) (fun h1 => ?_)⟩
    · have h1' : ¬ (st.now name).isSome = true := by simpa using h1
      rw [if_neg h1'] at hk
      exact ⟨_, rfl, hk rn H3 (h3.mono (by omega)) (f3'.mono (by simp))⟩
    · have h1' : (st.now name).isSome = true := by simpa using h1
      rw [if_pos h1'] at hk
      refine change_ok h3 hM hB (chg_delete (name := name)) (fun H' hf => (hn1.blk.keep f3).keep hf) fun rn' H' h' hf => ⟨_, rfl, hk rn' H' h' (f3'.trans' hf (by simp) (fun k hk _ => hk))⟩
noncomputable def renameS (size : Int) (st : Sto) (from' to : ByteArray) : Sto × Int :=
  if rightP from' ∧ rightP to then (if (st.now from').isSome then changeM size st (fun now => putN (delN now from') to ((st.now from').getD ⟨#[]⟩)) else (st, 3)) else (st, 100)
theorem Rename10_ok {s d : Addr} {rn rl : Nat} {a : Option Addr} {n c : Nat} {Q Sd : List Nat} {st : Sto} {m : Dk} {N M : Nat} {H : Heap} {from' to : ByteArray} {K : Int → Heap → Prop}
    (h : SL H s d rn rl a n c Q Sd st m N M) (hM : M + 1 ≤ 1000) (hn : from'.size ≤ 1000000) (hn2 : to.size ≤ 1000000) (hB : rightP to → PlB st (putN (delN st.now from') to ((st.now from').getD ⟨#[]⟩)))
    (hk : ∀ rn' H', SL H' s d rn' rl a n c Q Sd (renameS m.size st from' to).1 m N (M + 1) → Fr [s.block] H H' → K (renameS m.size st from' to).2 H') :
    CallH Try.prog 20 ⟨[.pointer (some s), .string from', .string to]⟩ H fun v H' => ∃ n, v = .int .i64 n ∧ K n H' := by
  apply vc_files_Store_Rename
  intro b H1 hn1 b1 H2 hn2'
  have f2 := hn1.fr.keep0 hn2'.fr
  have hb := hn1.blk.keep hn2'.fr
  have hb1 := hn2'.blk
  unfold renameS at hk
  have no : ¬ (rightP from' ∧ rightP to) → ∀ H', Fr [] H H' → ∃ n, Value.int .i64 100 = .int .i64 n ∧ K n H' := fun hh H' hf => by
    rw [if_neg hh] at hk
    exact ⟨_, rfl, hk rn H' ((h.keep hf).mono (by omega)) (hf.mono (by simp))⟩
  refine ⟨fun vs H' => vs = [] ∧ rightP from' ∧ rightP to ∧ Fr [] H2 H', ⟨from', hb.ld0 (by kernel_rfl) rfl, right_ok (by omega) fun H3 f3 => ?_⟩, ?_⟩
  · refine brB_of (fun h0 => no (fun hh => by simp at h0; exact h0 hh.1) H3 (f2.keep0 f3)) (fun h0 => ?_)
    refine ⟨to, (hb1.keep f3).ld0 (by kernel_rfl) rfl, right_ok (by omega) fun H4 f4 => ?_⟩
    refine brB_of (fun h1 => no (fun hh => by simp at h1; exact h1 hh.2) H4 ((f2.keep0 f3).keep0 f4)) (fun h1 => ?_)
    exact ⟨rfl, by simpa using h0, by simpa using h1, f3.keep0 f4⟩
  · rintro J H3 ⟨_, r1, r2, f3⟩
    rw [if_pos ⟨r1, r2⟩] at hk
    have f3' := f2.keep0 f3
    have h3 := h.keep f3'
    refine ⟨some rn, h3.blk.ld (by kernel_rfl) rfl, from', (hb.keep f3).ld0 (by kernel_rfl) rfl, _, _, h3.now.look2 from', fun b3 H4 hn4 => ?_⟩
    have h4 := h3.keep hn4.fr
    refine ⟨h4.now.look2 from', ((hb.keep f3).keep hn4.fr).ld0 (by kernel_rfl) rfl, h4.blk.ld (by kernel_rfl) rfl, ?_⟩
    refine hn4.blk.st0 (by kernel_rfl) (by kernel_rfl) (fun x hx => by simp [Value.cells] at hx; subst hx; rfl) (by simp [Value.cells]) fun H5 hb5 f5 => ?_
    have e3 := hn4.eq
    have e1 := hn2'.eq
    have e0 := hn1.eq
    have t1 := hn1.size; have t2 := hn2'.size; have t3 := f3.size; have t4 := hn4.size; have t5 := f5.size
    have f5' : Fr [] H H5 := (f3'.keep0 hn4.fr).keep f5 (by simp; omega)
    have h5 := h.keep f5'
    refine brB_of (fun h0 => ?_) (fun h0 => ?_)
    · have h0' : ¬ (st.now from').isSome = true := by simpa using h0
      rw [if_neg h0'] at hk
      exact ⟨_, rfl, hk rn H5 (h5.mono (by omega)) (f5'.mono (by simp))⟩
    · have h0' : (st.now from').isSome = true := by simpa using h0
      rw [if_pos h0'] at hk
      have hb5 : Blk H5 ⟨b3, 0, none⟩ [.string ((st.now from').getD ⟨#[]⟩)] := by simpa [Value.cells] using hb5
      have hbF : Blk H5 ⟨b, 0, none⟩ [.string from'] := ((hb.keep f3).keep hn4.fr).fr f5 (by simp; omega)
      have hb1F : Blk H5 ⟨b1, 0, none⟩ [.string to] := ((hb1.keep f3).keep hn4.fr).fr f5 (by simp; omega)
      refine change_ok h5 hM (hB r2) (chg_rename (from' := from') (data := (st.now from').getD ⟨#[]⟩) (to := to)) (fun H' hf => ⟨hbF.keep hf, hb5.keep hf, hb1F.keep hf, fun r hr => ?_⟩) fun rn' H' h' hf => ⟨_, rfl, hk rn' H' h' (f5'.trans' hf (by simp) (fun k hk _ => hk))⟩
      obtain ⟨now', N', ck, L, hm, _⟩ := hr
      constructor
      · rintro rfl
        obtain ⟨b', te, e, hh⟩ := hb5.keep hf
        cases e
        rw [hm.blk] at hh; cases hh
      · rintro rfl
        obtain ⟨b', te, e, hh⟩ := hb1F.keep hf
        cases e
        rw [hm.blk] at hh; cases hh
end Go.Proofs
