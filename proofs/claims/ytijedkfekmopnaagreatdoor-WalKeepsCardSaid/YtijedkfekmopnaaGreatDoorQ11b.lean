/- A part of a proof: see the last text of this claim. -/
import Derived.Test.YtijedkfekmopnaaGreatDoorP11S
set_option linter.unusedVariables false
set_option maxRecDepth 100000
open Go Go.GV
namespace Go.Proofs

theorem putN_put (now : ByteArray → Option ByteArray) (k a b : ByteArray) : putN (putN now k a) k b = putN now k b := by
  funext x
  unfold putN
  split <;> rfl
end Go.Proofs
set_option linter.unusedVariables false
set_option maxRecDepth 100000
open Go Go.GV
namespace Go.Proofs

structure RQ (H : Heap) (X : List Nat) (s : Addr) (sz : Nat) (now : ByteArray → Option ByteArray) (N B : Nat) : Prop where
  it : ∃ d l, RS H X s d sz l ∧ OfL now l ∧ LB l N B
theorem RQ.frX {H H' : Heap} {X S : List Nat} {s : Addr} {sz N B : Nat} {now : ByteArray → Option ByteArray} (h : RQ H X s sz now N B) (hf : Fr S H H') (hS : ∀ k ∈ S, k ∈ X) : RQ H' X s sz now N B := by
  obtain ⟨d, l, h1, h2, h3⟩ := h.it
  exact ⟨d, l, h1.frX hf hS, h2, h3⟩
theorem RQ.keep {H H' : Heap} {X : List Nat} {s : Addr} {sz N B : Nat} {now : ByteArray → Option ByteArray} (h : RQ H X s sz now N B) (hf : Fr [] H H') : RQ H' X s sz now N B := h.frX hf (by simp)
theorem RQ.fresh {H : Heap} {X : List Nat} {s d : Addr} {sz B : Nat} (h : RS H X s d sz []) : RQ H X s sz (fun _ => none) 0 B := ⟨d, [], h, ofL_none, ⟨Nat.le_refl _, by simp⟩⟩
theorem RQ.blk {H : Heap} {X : List Nat} {s : Addr} {sz N B : Nat} {now : ByteArray → Option ByteArray} (h : RQ H X s sz now N B) : ∃ cs, Blk H s cs := by
  obtain ⟨d, l, h1, h2, h3⟩ := h.it
  obtain ⟨a, n, c, hb, _⟩ := h1.it
  exact ⟨_, hb⟩
theorem RQ.mono {H : Heap} {X : List Nat} {s : Addr} {sz N B N' B' : Nat} {now : ByteArray → Option ByteArray} (h : RQ H X s sz now N B) (hN : N ≤ N') (hB : B ≤ B') : RQ H X s sz now N' B' := by
  obtain ⟨d, l, h1, h2, h3⟩ := h.it
  exact ⟨d, l, h1, h2, ⟨by have := h3.len; omega, fun x hx => ⟨(h3.dat x hx).1, by have := (h3.dat x hx).2; omega⟩⟩⟩
theorem RQ.read {H : Heap} {X : List Nat} {s : Addr} {sz N B : Nat} {now : ByteArray → Option ByteArray} {K : ByteArray → Bool → Heap → Prop} (h : RQ H X s sz now N B) (hN : N ≤ 1000000) (hk : K (fileT now) (now walN).isSome H) :
    CallH Tryz.prog fn_ref10_Store_Read ⟨[.pointer (some s), .string walN]⟩ H fun v H' => ∃ t b, v = .tuple ⟨[.string t, .bool b]⟩ ∧ K t b H' := by
  obtain ⟨d, l, h1, h2, h3⟩ := h.it
  exact rRead_ok h1 h2 h3 hN hk
theorem RQ.append {H : Heap} {X : List Nat} {s : Addr} {sz N B B' : Nat} {now : ByteArray → Option ByteArray} {data : ByteArray} {K : Int → Heap → Prop} (h : RQ H X s sz now N B) (hsz : 8 ≤ sz ∧ sz ≤ 512) (hN : N ≤ 98) (hB : B' ≤ 30000000) (hd : B + data.size ≤ B')
    (hk : ∀ H', RQ H' X s sz (wrN sz now (fileT now ++ data)) (N + 1) B' → Fr [s.block] H H' → K (wrC sz now (fileT now ++ data)) H') :
    CallH Tryz.prog fn_ref10_Store_Append ⟨[.pointer (some s), .string walN, .string data]⟩ H fun v H' => ∃ n, v = .int .i64 n ∧ K n H' := by
  obtain ⟨d, l, h1, h2, h3⟩ := h.it
  exact rAppend_ok h1 hsz h2 h3 hN hd hB (by decide) fun l' H' a b c f => hk H' ⟨d, l', a, b, c⟩ f
theorem RQ.delete {H : Heap} {X : List Nat} {s : Addr} {sz N B : Nat} {now : ByteArray → Option ByteArray} {K : Int → Heap → Prop} (h : RQ H X s sz now N B) (hsz : 8 ≤ sz ∧ sz ≤ 512) (hN : N ≤ 98) (hB : B ≤ 30000000)
    (hk : ∀ H', RQ H' X s sz (dlN sz now) N B → Fr [s.block] H H' → K (dlC sz now) H') :
    CallH Tryz.prog fn_ref10_Store_Delete ⟨[.pointer (some s), .string walN]⟩ H fun v H' => ∃ n, v = .int .i64 n ∧ K n H' := by
  obtain ⟨d, l, h1, h2, h3⟩ := h.it
  exact rDelete_ok h1 hsz h2 h3 hN hB (by decide) fun l' H' a b c f => hk H' ⟨d, l', a, b, c⟩ f

end Go.Proofs
set_option linter.unusedVariables false
set_option maxRecDepth 100000
open Go Go.GV
namespace Go.Proofs

noncomputable def apC (sz : Nat) (now : ByteArray → Option ByteArray) (rs : List Rc) : Int := if appE rs = 0 then wrC sz now (fileT now ++ bt (logB rs)) else appE rs
noncomputable def apN (sz : Nat) (now : ByteArray → Option ByteArray) (rs : List Rc) : ByteArray → Option ByteArray := if appE rs = 0 then wrN sz now (fileT now ++ bt (logB rs)) else now
theorem apC_good {sz : Nat} {now : ByteArray → Option ByteArray} {rs : List Rc} (h : appE rs = 0) : apC sz now rs = wrC sz now (fileT now ++ bt (logB rs)) := if_pos h
theorem apN_good {sz : Nat} {now : ByteArray → Option ByteArray} {rs : List Rc} (h : appE rs = 0) : apN sz now rs = wrN sz now (fileT now ++ bt (logB rs)) := if_pos h
theorem apC_bad {sz : Nat} {now : ByteArray → Option ByteArray} {rs : List Rc} (h : appE rs ≠ 0) : apC sz now rs = appE rs := if_neg h
theorem apN_bad {sz : Nat} {now : ByteArray → Option ByteArray} {rs : List Rc} (h : appE rs ≠ 0) : apN sz now rs = now := if_neg h
theorem log_le {rs : List Rc} (hG : ∀ r ∈ rs, GoodR r) (hw : wCs rs ≤ 10000) : (bt (logB rs)).size ≤ 760 * rs.length + 30 * wCs rs := by
  rw [bt_size]
  exact logB_len hG fun r hr => Nat.le_trans (wCs_mem hr) hw
theorem fr_pre {S : List Nat} {H H1 H' : Heap} (h1 : Fr [] H H1) (h2 : Fr S H1 H') : Fr S H H' := (h1.mono (by simp)).trans' h2 (fun k hk _ => hk) fun k hk _ => hk
theorem PS.app {H : Heap} {s : Addr} {Sd : List Nat} {sz M B B' : Nat} {now : ByteArray → Option ByteArray} {a : Option Addr} {n c : Nat} {ms : List Rm} {rs : List Rc} {K : Int → Heap → Prop} (h : PS H s Sd sz now M) (hM : M + 1 ≤ 100) (hb : NB now B) (hB : B' ≤ 30000000)
    (hx : Sl encR5 H a n c ms) (hr : RcsH H ms rs) (hT : ∀ r ∈ rs, TypR r) (hsm : ∀ m ∈ ms, Small m) (htab : TabH H) (hn : n ≤ 10000) (hw : wCs rs ≤ 10000) (hd : B + (760 * rs.length + 30 * wCs rs) ≤ B')
    (hk : ∀ H' M', M' ≤ M + 1 → PS H' s Sd sz (apN sz now rs) M' → NB (apN sz now rs) B' → Fr [s.block] H H' → K (apC sz now rs) H') :
    CallH Tryz.prog fn_wal_Append ⟨[.pointer (some s), .slice a n c]⟩ H fun v H' => ∃ n, v = .int .i64 n ∧ K n H' := by
  refine wAppend_ok hx hr hT hsm htab hn hw (fun h0 H1 hf1 => ?_) fun h0 hG H1 hf1 => ?_
  · have := hk H1 M (by omega) (by rw [apN_bad h0]; exact h.keep hf1) (by rw [apN_bad h0]; exact hb.mono (by omega)) (fr_pre hf1 (Fr.refl _ _))
    rwa [apC_bad h0] at this
  · have hl := log_le hG hw
    refine (h.keep hf1).append hM hb hB (by omega) fun H' h' hb' hf' => ?_
    have := hk H' (M + 1) (by omega) (by rw [apN_good h0]; exact h') (by rw [apN_good h0]; exact hb') (fr_pre hf1 hf')
    rwa [apC_good h0] at this
theorem RQ.app {H : Heap} {X : List Nat} {s : Addr} {sz N B B' : Nat} {now : ByteArray → Option ByteArray} {a : Option Addr} {n c : Nat} {ms : List Rm} {rs : List Rc} {K : Int → Heap → Prop} (h : RQ H X s sz now N B) (hsz : 8 ≤ sz ∧ sz ≤ 512) (hN : N ≤ 98) (hB : B' ≤ 30000000)
    (hx : Sl encR5 H a n c ms) (hr : RcsH H ms rs) (hT : ∀ r ∈ rs, TypR r) (hsm : ∀ m ∈ ms, Small m) (hn : n ≤ 10000) (hw : wCs rs ≤ 10000) (hd : B + (760 * rs.length + 30 * wCs rs) ≤ B')
    (hk : ∀ H', RQ H' X s sz (apN sz now rs) (N + 1) B' → Fr [s.block] H H' → K (apC sz now rs) H') :
    CallH Tryz.prog fn_ref11_Append ⟨[.pointer (some s), .slice a n c]⟩ H fun v H' => ∃ n, v = .int .i64 n ∧ K n H' := by
  refine rwAppend_ok hx hr hT hsm hn hw (fun h0 H1 hf1 => ?_) fun h0 hG H1 hf1 => ?_
  · have := hk H1 (by rw [apN_bad h0]; exact (h.keep hf1).mono (by omega) (by omega)) (fr_pre hf1 (Fr.refl _ _))
    rwa [apC_bad h0] at this
  · have hl := log_le hG hw
    refine (h.keep hf1).append hsz hN hB (by omega) fun H' h' hf' => ?_
    have := hk H' (by rw [apN_good h0]; exact h') (fr_pre hf1 hf')
    rwa [apC_good h0] at this

noncomputable def rsC (sz : Nat) (now : ByteArray → Option ByteArray) : Int := if dlC sz now = 3 then 0 else dlC sz now
theorem PS.reset {H : Heap} {s : Addr} {Sd : List Nat} {sz M B : Nat} {now : ByteArray → Option ByteArray} {K : Int → Heap → Prop} (h : PS H s Sd sz now M) (hM : M + 1 ≤ 100) (hb : NB now B) (hB : B ≤ 30000000)
    (hk : ∀ H', PS H' s Sd sz (dlN sz now) (M + 1) → NB (dlN sz now) B → Fr [s.block] H H' → K (rsC sz now) H') :
    CallH Tryz.prog fn_wal_Reset ⟨[.pointer (some s)]⟩ H fun v H' => ∃ n, v = .int .i64 n ∧ K n H' := by
  apply vc_wal_Reset
  refine h.delete hM hb hB fun H' h' hb' hf' => ?_
  have := hk H' h' hb' hf'
  unfold rsC at this
  refine brB_of (fun h3 => ?_) (fun h3 => ?_)
  · rw [if_neg (by simpa using h3)] at this
    exact ⟨_, rfl, this⟩
  · rw [if_pos (by simpa using h3)] at this
    exact ⟨_, rfl, this⟩
theorem dlC_none {sz : Nat} {now : ByteArray → Option ByteArray} (h : now walN = none) : dlC sz now = 3 ∧ dlN sz now = now := by
  unfold dlC dlN deleteS
  rw [if_pos walN_right, if_neg (by show ¬ (now walN).isSome = true; rw [h]; simp)]
  exact ⟨rfl, rfl⟩
theorem dlC_some {sz : Nat} {now : ByteArray → Option ByteArray} (h : now walN ≠ none) : dlC sz now ≠ 3 := by
  rcases dl_cases sz now with ⟨e, _⟩ | ⟨e, _⟩ | ⟨_, _, e⟩
  · rw [e]; decide
  · rw [e]; decide
  · exact absurd e h
theorem RQ.reset {H : Heap} {X : List Nat} {s : Addr} {sz N B : Nat} {now : ByteArray → Option ByteArray} {K : Int → Heap → Prop} (h : RQ H X s sz now N B) (hsz : 8 ≤ sz ∧ sz ≤ 512) (hN : N ≤ 98) (hB : B ≤ 30000000)
    (hk : ∀ H', RQ H' X s sz (dlN sz now) N B → Fr [s.block] H H' → K (rsC sz now) H') :
    CallH Tryz.prog fn_ref11_Reset ⟨[.pointer (some s)]⟩ H fun v H' => ∃ n, v = .int .i64 n ∧ K n H' := by
  apply vc_ref11_Reset
  refine h.read (by omega) ?_
  by_cases hs : now walN = none
  · obtain ⟨e1, e2⟩ := dlC_none (sz := sz) hs
    have := hk H (by rw [e2]; exact h) (Fr.refl _ _)
    rw [hs]
    refine brB_of (fun _ => ⟨_, rfl, ?_⟩) (fun h => by simp at h)
    unfold rsC at this
    rwa [if_pos e1] at this
  · have h3 := dlC_some (sz := sz) hs
    have hso : (now walN).isSome = true := by
      cases e : now walN with
      | none => exact absurd e hs
      | some d => rfl
    rw [hso]
    refine brB_of (fun h => by simp at h) (fun _ => ?_)
    refine h.delete hsz hN hB fun H' h' hf' => ⟨_, rfl, ?_⟩
    have := hk H' h' hf'
    unfold rsC at this
    rwa [if_neg h3] at this

theorem mk_1 {P : Program} {ts t : TypeId} {sz bytes : Nat} {u : Value} {cs : List Value} {H : Heap} {kl kc : IntKind} {K : Option Addr → Nat → Nat → Heap → Prop} (hts : sliceB P ts t = true) (ht : elemB P t sz bytes = true) (hz : zeroOf P t = some u) (hm : madeCells u.cells (1 * sz) = ⟨cs⟩) (hsz : bytes ≤ 140737488355328)
    (hk : ∀ b H', New H b (.cells ⟨cs⟩ t) H' → K (some ⟨b, 0, none⟩) 1 1 H') :
    SemWp P (Instr.makeSlice ts (.int kl 1) (.int kc 1)) H fun v H' => ∃ a n c, v = .slice a n c ∧ K a n c H' := by
  intro Ev d
  obtain ⟨i, z, hi, hz', h1, h2, h3, h4, h5⟩ := elemB_out ht
  have hzz : z = u := by
    unfold zeroOf at hz
    rw [hi] at hz
    simp only [hz'] at hz
    cases hz; rfl
  subst hzz
  have hus := sliceB_out hts
  have hr := run_make (P := P) (mkW Ev H d) ts t i z hus hi hz' kl kc 1 1 (by omega) (Int.le_refl _) (by
    rw [h4]; omega) (by omega)
  refine ⟨_, _, d, hr, _, _, _, rfl, hk H.size _ ?_⟩
  rw [← hm, ← h1]
  exact ⟨rfl, rfl⟩
theorem zero39 : zeroOf Tryz.prog 39 = some (.agg ⟨rC (m0 0)⟩) := by kernel_rfl
theorem blk_sl {H : Heap} {b : Nat} {m : Rm} (h : Blk H ⟨b, 0, none⟩ (rC m)) : Sl encR5 H (some ⟨b, 0, none⟩) 1 1 [m] := by
  refine ⟨rfl, Nat.le_refl _, .inr ⟨b, 0, rfl, fun i y hy j v hj => ?_⟩⟩
  cases i with
  | zero =>
    simp only [List.getElem?_cons_zero, Option.some.injEq] at hy
    subst hy
    obtain ⟨b', te, e, hh⟩ := h
    cases e
    rw [cell_of_blk hh]
    have e9 : encR5.cells m = rC m := rfl
    rw [e9] at hj
    simpa using hj
  | succ i => simp at hy
def oddR : Rc := ⟨4, [], [], [], 0⟩
theorem odd_typ : ∀ r ∈ [oddR], TypR r := fun r hr => by
  rw [List.mem_singleton.1 hr]
  exact fun x hx => by simp [oddR] at hx
theorem odd_e : appE [oddR] = 1 := by
  have : encE oddR = 1 := if_neg fun hF => by have := hF.k.2; simp [oddR] at this
  unfold appE
  rw [this, if_pos (by decide)]
theorem odd_rcs {H : Heap} : RcsH H [m0 4] [oddR] := RcsH.one ⟨rfl, Sl.zero, Sl.zero, Sl.zero, rfl⟩
theorem odd_small : ∀ m ∈ [m0 4], Small m := fun m hm => by
  rw [List.mem_singleton.1 hm]
  exact ⟨by simp [m0], by simp [m0], by simp [m0]⟩
theorem odd_ok {H : Heap} {R : Option Addr → Nat → Nat → Heap → Prop} (hk : ∀ b H', Sl encR5 H' (some ⟨b, 0, none⟩) 1 1 [m0 4] → Fr [] H H' → R (some ⟨b, 0, none⟩) 1 1 H') :
    SemWp Tryz.prog (Instr.makeSlice 22 (.int .i64 1) (.int .i64 1)) H fun v H' => ∃ a n c, v = .slice a n c ∧ exSome a fun ad => chk (decide ((0 : Int) ≤ 0 ∧ (0 : Int) < (n : Int))) (∃ H'_1, St Tryz.prog 3 H' ad (.int .i64 4) H'_1 ∧ R a n c H'_1) := by
  refine mk_1 (cs := rC (m0 0)) slice22 elem39 zero39 (by kernel_rfl) (by decide) fun b H1 hn1 => ?_
  refine exSome_of rfl (chk_true (by decide) ?_)
  refine Blk.setK hn1.blk (j := 0) (by kernel_rfl) (by kernel_rfl) rfl rfl (by simp [rC, m0]) fun H2 hb2 hf2 => hk b H2 (blk_sl (m := m0 4) hb2) ?_
  exact hn1.fr.keep hf2 fun k hk => by simp at hk; have := hn1.eq; omega
theorem odd_app {H : Heap} {s : Addr} {a : Option Addr} {n c : Nat} {K : Int → Heap → Prop} (hx : Sl encR5 H a n c [m0 4]) (htab : TabH H) (hk : ∀ H', Fr [] H H' → K 1 H') :
    CallH Tryz.prog fn_wal_Append ⟨[.pointer (some s), .slice a n c]⟩ H fun v H' => ∃ n, v = .int .i64 n ∧ K n H' := by
  have hl := hx.len
  refine wAppend_ok hx odd_rcs odd_typ odd_small htab (by simp at hl; omega) (by decide) (fun _ H' hf => ?_) fun h0 => ?_
  · rw [odd_e]; exact hk H' hf
  · rw [odd_e] at h0; cases h0
end Go.Proofs
set_option linter.unusedVariables false
set_option maxRecDepth 100000
open Go Go.GV
namespace Go.Proofs

theorem logB_app (a b : List Rc) : logB (a ++ b) = logB a ++ logB b := by
  unfold logB
  rw [List.flatMap_append]
theorem file_put (now : ByteArray → Option ByteArray) (d : ByteArray) : fileT (putN now walN d) = d := by
  unfold fileT putN
  rw [if_pos rfl]; rfl
theorem wr_zero {sz : Nat} {now : ByteArray → Option ByteArray} {d : ByteArray} (h : wrC sz now d = 0) : wrN sz now d = putN now walN d := by
  rcases wr_cases sz now d with ⟨_, e⟩ | ⟨e, _⟩
  · exact e
  · rw [e] at h; cases h
theorem RcsH.take {H : Heap} {ms : List Rm} {rs : List Rc} (h : RcsH H ms rs) (k : Nat) : RcsH H (ms.take k) (rs.take k) := by
  refine ⟨by rw [List.length_take, List.length_take, h.1], fun i m r hm hr => ?_⟩
  rw [List.getElem?_take] at hm hr
  split at hm
  · rename_i hi
    rw [if_pos hi] at hr
    exact h.2 i m r hm hr
  · cases hm
theorem RcsH.drop {H : Heap} {ms : List Rm} {rs : List Rc} (h : RcsH H ms rs) (k : Nat) : RcsH H (ms.drop k) (rs.drop k) := by
  refine ⟨by rw [List.length_drop, List.length_drop, h.1], fun i m r hm hr => ?_⟩
  rw [List.getElem?_drop] at hm hr
  exact h.2 (k + i) m r hm hr
theorem Light.small {m : Rm} (h : Light m) : Small m := ⟨by have := h.1; omega, by have := h.2.1; omega, by have := h.2.2; omega⟩
theorem nb_none (B : Nat) : NB (fun _ => none) B := fun y d e => by cases e
end Go.Proofs
set_option linter.unusedVariables false
set_option maxRecDepth 100000
open Go Go.GV
namespace Go.Proofs

theorem fits_none {sz : Nat} (h : 8 ≤ sz) : (planM sz (fun _ => none) [] (fun _ => none) []).fits = true := by
  have hW := filesM_new (now := fun _ => none) ([] : List NF) (t0F sz) (by simp)
  have e1 : (sz : Int).toNat = sz := by omega
  unfold planM
  simp only
  rw [e1, freshF_eq]
  have hW' : filesM (fun _ => none) (fun _ => none) [] { free := freshF sz, puts := [], need := 0, fits := true } = laidF [] (t0F sz) := hW
  rw [hW']
  have hT := fresh_t0 sz
  have hFl := freshF_len sz
  have hlen : (dirB []).length = 1 := by
    rw [dirB_eq]
    have e2 : uintL ([] : List Fl10).length = [0] := uintL_small (by show 0 < 128; decide)
    rw [e2]; rfl
  have hk : (chunksS (⟨(dirB []).toArray⟩ : ByteArray)).length = 1 := by rw [chunksS_len, mk_size, hlen]; rfl
  simp only [laidF, List.map_nil, List.sum_nil, takesM_len]
  have hfit := (takes_fits (chunksS (⟨(dirB []).toArray⟩ : ByteArray)) hT).1
  rw [hk]
  have h3 : (takesM (chunksS (⟨(dirB []).toArray⟩ : ByteArray)) (t0F sz)).1.fits = true := by
    refine hfit.trans ?_
    rw [Bool.true_and]
    exact decide_eq_true (.inr (by omega))
  simp [h3]
  omega
theorem del_put (d : ByteArray) : delN (putN (fun _ => none) walN d) walN = fun _ => none := by
  funext x
  unfold delN putN
  split
  · rfl
  · rfl
theorem dl_put {sz : Nat} (h : 8 ≤ sz) (d : ByteArray) : dlC sz (putN (fun _ => none) walN d) = 0 ∧ dlN sz (putN (fun _ => none) walN d) = fun _ => none := by
  have key : dlC sz (putN (fun _ => none) walN d) ≠ 2 := by
    unfold dlC deleteS
    rw [if_pos walN_right]
    have hs : (((stF (putN (fun _ => none) walN d)).now walN).isSome) = true := by
      show (putN (fun _ => none) walN d walN).isSome = true
      unfold putN; rw [if_pos rfl]; rfl
    rw [if_pos hs]
    unfold changeM
    have e2 : (planN sz (stF (putN (fun _ => none) walN d)) (delN (stF (putN (fun _ => none) walN d)).now walN)).fits = (planM sz (fun _ => none) [] (delN (putN (fun _ => none) walN d) walN) (namesL (delN (putN (fun _ => none) walN d) walN))).fits := rfl
    have e3 : namesL (fun _ => none) = [] := namesL_eq ⟨List.Pairwise.nil, fun y => by simp⟩
    rw [e2, del_put, e3, if_pos (fits_none h)]
    show (0 : Int) ≠ 2
    decide
  rcases dl_cases sz (putN (fun _ => none) walN d) with ⟨e, e'⟩ | ⟨e, _⟩ | ⟨_, _, e⟩
  · exact ⟨e, by rw [e', del_put]⟩
  · exact absurd e key
  · exfalso
    unfold putN at e; rw [if_pos rfl] at e; cases e
def LogN (now : ByteArray → Option ByteArray) (qs : List Rc) : Prop := (now = (fun _ => none) ∧ qs = []) ∨ now = putN (fun _ => none) walN (bt (logB qs))
theorem LogN.file {now : ByteArray → Option ByteArray} {qs : List Rc} (h : LogN now qs) : fileT now = bt (logB qs) := by
  rcases h with ⟨rfl, rfl⟩ | rfl
  · rfl
  · exact file_put _ _
theorem LogN.reset {sz : Nat} {now : ByteArray → Option ByteArray} {qs : List Rc} (hs : 8 ≤ sz) (h : LogN now qs) : rsC sz now = 0 ∧ LogN (dlN sz now) [] := by
  rcases h with ⟨rfl, rfl⟩ | rfl
  · obtain ⟨e1, e2⟩ := dlC_none (sz := sz) (now := fun _ => none) rfl
    exact ⟨if_pos e1, .inl ⟨e2, rfl⟩⟩
  · obtain ⟨e1, e2⟩ := dl_put hs (bt (logB qs))
    refine ⟨?_, .inl ⟨e2, rfl⟩⟩
    unfold rsC
    rw [e1]; rfl
theorem LogN.app {sz : Nat} {now : ByteArray → Option ByteArray} {qs rs : List Rc} (h : LogN now qs) (hT : ∀ r ∈ rs, TypR r) : (apC sz now rs = 0 → LogN (apN sz now rs) (qs ++ rs) ∧ ∀ r ∈ rs, GoodR r) ∧ (apC sz now rs ≠ 0 → apN sz now rs = now) := by
  by_cases hg : appE rs = 0
  · rw [apC_good hg, apN_good hg, h.file]
    refine ⟨fun h0 => ⟨.inr ?_, (appE_zero hT).1 hg⟩, fun h0 => ?_⟩
    · rw [wr_zero h0]
      have hc : bt (logB qs) ++ bt (logB rs) = bt (logB (qs ++ rs)) := bl_inj (by rw [bl_app, bl_bt, bl_bt, bl_bt, logB_app])
      rw [hc]
      rcases h with ⟨rfl, _⟩ | rfl
      · rfl
      · exact putN_put _ _ _ _
    · rcases wr_cases sz now (bt (logB qs) ++ bt (logB rs)) with ⟨e, _⟩ | ⟨_, e⟩
      · exact absurd e h0
      · exact e
  · rw [apC_bad hg, apN_bad hg]
    exact ⟨fun h0 => absurd h0 hg, fun _ => rfl⟩
theorem PS.own {α : Type} {E : Enc α} {t : TypeId} {base : Nat} {H H' : Heap} {s : Addr} {Sd : List Nat} {sz M : Nat} {now : ByteArray → Option ByteArray} {o : Option Addr} {n c : Nat} {xs : List α} (h : PS H s Sd sz now M) (ho : Own E t base H o n c xs) (h1 : s.block < base) (h2 : ∀ k ∈ Sd, k < base) (hf : Fr (blkL o) H H') : PS H' s Sd sz now M := by
  rcases ho.2 with ⟨rfl, _, _⟩ | ⟨b, cur, rfl, hb, hh, _⟩
  · exact h.keep hf
  · exact h.off (t := ⟨b, 0, none⟩) (cs := cur.toList) ⟨b, t, rfl, hh⟩ (by show b ≠ s.block; omega) (fun hm => by have := h2 _ hm; have : b < base := this; omega) hf
theorem RQ.other {H H' : Heap} {X X' S : List Nat} {s : Addr} {sz N B : Nat} {now : ByteArray → Option ByteArray} (h : RQ H X s sz now N B) (hf : Fr S H H') (hS : ∀ k ∈ S, k ∈ X) (hX : ∀ k ∈ X', k ∈ X ∨ H.size ≤ k) (hin : In H' X') : RQ H' X' s sz now N B := by
  obtain ⟨d, l, ⟨⟨a, n, c, h1, h2, h3, h4⟩, ⟨ia, ic, w1, w2, w3, w4, w5, h5⟩, h6, h7, h8⟩, hof, hlb⟩ := h.it
  have off : ∀ k, k ∉ X → k < H.size → k ∉ X' := fun k hk hl hm => (hX k hm).elim hk fun h => by omega
  refine ⟨d, l, ⟨⟨a, n, c, h1.fr hf fun hs => h8.1 (hS _ hs), h2.fr hf fun ad e hs => (h3 _ (by simp [e, blkL])).2 (hS _ hs), fun k hk => ⟨(h3 k hk).1, off k (h3 k hk).2 (h4 k hk)⟩, h4.le hf.size⟩, ⟨ia, ic, w1, w2, w3, w4, w5, h5.fr hf fun hs => h8.2 (hS _ hs)⟩, h6, hin, off _ h8.1 h1.lt, off _ h8.2 h5.lt⟩, hof, hlb⟩
structure KS (H0 : Heap) (s1 s2 : Addr) (Sd : List Nat) (sz base i : Nat) (H : Heap) (o : Option Addr) (n c : Nat) (now : ByteArray → Option ByteArray) (qs : List Rc) (m B : Nat) : Prop where
  fr : Fr [] H0 H
  ps : ∃ M, PS H s1 Sd sz now M ∧ M ≤ m
  nb : NB now B
  rq : RQ H (s1.block :: blkL o) s2 sz now i B
  ow : ∃ ms, Own encR5 77 base H o n c ms ∧ RcsH H0 ms qs ∧ ∀ m ∈ ms, Small m
  good : ∀ q ∈ qs, GoodR q
  lg : LogN now qs
  len : qs.length ≤ 2048 * i
theorem KS.keep {H0 H H' : Heap} {s1 s2 : Addr} {Sd : List Nat} {sz base i n c m B : Nat} {o : Option Addr} {now : ByteArray → Option ByteArray} {qs : List Rc} (h : KS H0 s1 s2 Sd sz base i H o n c now qs m B) (hf : Fr [] H H') : KS H0 s1 s2 Sd sz base i H' o n c now qs m B := by
  obtain ⟨h1, ⟨M, h2, h3⟩, h4, h5, ⟨ms, h6, h7, h8⟩, h9, h10, h11⟩ := h
  exact ⟨h1.keep0 hf, ⟨M, h2.keep hf, h3⟩, h4, h5.keep hf, ⟨ms, h6.keep hf, h7, h8⟩, h9, h10, h11⟩
end Go.Proofs
