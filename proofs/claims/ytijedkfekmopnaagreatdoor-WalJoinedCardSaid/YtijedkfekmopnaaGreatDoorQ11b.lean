/- A part of a proof: see the last text of this claim. -/
import Derived.Test.YtijedkfekmopnaaGreatDoorP11S
set_option linter.unusedVariables false
set_option maxRecDepth 100000
open Go Go.GV
namespace Go.Proofs

def dirLen (sz : Nat) (d : ByteArray) : Nat := 5 + (uintL d.size).length + (numsB ((freshF sz).take (nCh d.size))).length
theorem takesM_free : ∀ {l : List ByteArray} {t : Tk}, (takesM l t).1.fits = true → (takesM l t).2 ++ (takesM l t).1.free = t.free
  | [], _, _ => rfl
  | c :: l, t, hf => by
    have ih := takesM_free (l := l) hf
    obtain ⟨_, x, r, h2, h3⟩ := takeM_fits (takesM_fits (l := l) hf)
    rw [h3] at ih
    simp only [takesM, h3, h2]
    rw [List.cons_append]
    congr 1
theorem takesM_take {F : List Int} {l : List ByteArray} {t : Tk} (h : TkF F t 0 true) (hl : l.length ≤ F.length) : (takesM l t).2 = F.take l.length ∧ (takesM l t).1.fits = true ∧ TkF F (takesM l t).1 l.length true := by
  have hf := (takes_fits l h).1
  have hfit : (takesM l t).1.fits = true := by
    rw [hf, Bool.true_and]
    exact decide_eq_true (.inr (by omega))
  have hfr := takesM_free hfit
  have hlen := takesM_len l t
  have h0 : t.free = F := by rw [h.free]; rfl
  rw [h0] at hfr
  have e2 : (takesM l t).2 = F.take l.length := by
    rw [← hfr, List.take_append_of_le_length (by omega), List.take_of_length_le (by omega)]
  refine ⟨e2, hfit, ⟨by rw [(takes_fits l h).2]; omega, ?_, hfit⟩⟩
  have : F.drop l.length = (takesM l t).1.free := by
    conv => lhs; rw [← hfr, ← hlen]
    rw [List.drop_left]
  exact this.symm
theorem names_one (d : ByteArray) : namesOf (putN (fun _ => none) walN d) [walN] := ⟨by simp, fun y => by
  unfold putN
  split
  · rename_i h; simp [h]
  · rename_i h; simp [h]⟩
theorem putN_put (now : ByteArray → Option ByteArray) (k a b : ByteArray) : putN (putN now k a) k b = putN now k b := by
  funext x
  unfold putN
  split <;> rfl
theorem fits_one_iff {sz : Nat} {d : ByteArray} : (planM sz (fun _ => none) [] (putN (fun _ => none) walN d) [walN]).fits = true ↔
    nCh d.size ≤ sz - 2 ∧ nCh (dirLen sz d) ≤ 20 ∧ (nCh d.size : Int) + 2 * (nCh (dirLen sz d) : Int) ≤ (sz : Int) - 2 := by
  have hlk : ∀ x ∈ [((walN, d) : NF)], putN (fun _ => none) walN d x.1 = some x.2 := fun x hx => by
    rw [List.mem_singleton.1 hx]; unfold putN; rw [if_pos rfl]
  have hW := filesM_new [((walN, d) : NF)] (t0F sz) hlk
  have e1 : (sz : Int).toNat = sz := by omega
  unfold planM
  simp only
  rw [e1, freshF_eq]
  have hW' : filesM (fun _ => none) (putN (fun _ => none) walN d) [walN] { free := freshF sz, puts := [], need := 0, fits := true } = laidF [(walN, d)] (t0F sz) := hW
  rw [hW']
  simp only [laidF, List.map_cons, List.map_nil, List.sum_cons, List.sum_nil, Nat.add_zero, takesM_len]
  have hcl := chunksS_len d
  have hT := fresh_t0 sz
  have hFl := freshF_len sz
  by_cases hn : nCh d.size ≤ sz - 2
  · obtain ⟨h2, h3, h4⟩ := takesM_take (l := chunksS d) hT (by omega)
    have hzz : t0F sz = { free := freshF sz, puts := [], need := 0, fits := true } := rfl
    rw [← hzz] at h2 h3 h4
    generalize hz : takesM (chunksS d) (t0F sz) = z at *
    have hdl : (dirB [(walN, d, z.2)]).length = dirLen sz d := by
      rw [dirB_eq]
      have e2 : uintL ([(walN, d, z.2)] : List Fl10).length = [1] := uintL_small (by show 1 < 128; decide)
      have e3 : (textL walN).length = 4 := by
        unfold textL
        rw [List.length_append, bl_len]
        have : uintL walN.size = [3] := uintL_small (by decide)
        rw [this]; rfl
      rw [e2]
      simp only [List.flatMap_cons, List.flatMap_nil, List.append_nil, fileB, List.length_append, List.length_cons, List.length_nil]
      rw [e3, h2, hcl]
      unfold dirLen
      omega
    have hk : (chunksS (⟨(dirB [(walN, d, z.2)]).toArray⟩ : ByteArray)).length = nCh (dirLen sz d) := by rw [chunksS_len, mk_size, hdl]
    have hfit := (takes_fits (chunksS (⟨(dirB [(walN, d, z.2)]).toArray⟩ : ByteArray)) h4).1
    rw [hfit, hk, hcl]
    simp only [Bool.true_and, Bool.and_eq_true, decide_eq_true_eq]
    constructor
    · rintro ⟨⟨_, h5⟩, h6⟩; exact ⟨hn, h5, h6⟩
    · rintro ⟨_, h5, h6⟩; exact ⟨⟨.inr (by omega), h5⟩, h6⟩
  · have hf := (takes_fits (chunksS d) hT).1
    have hno : (takesM (chunksS d) { free := freshF sz, puts := [], need := 0, fits := true }).1.fits = false := by
      rw [hf, Bool.true_and]
      exact decide_eq_false (by
        rintro (h | h)
        · rw [h] at hcl; simp at hcl; omega
        · omega)
    have : (takesM (chunksS d) (t0F sz)).1.fits = false := hno
    constructor
    · intro h
      simp only [Bool.and_eq_true, decide_eq_true_eq] at h
      have h9 := takesM_fits h.1.1
      rw [this] at h9; cases h9
    · rintro ⟨h, _⟩; exact absurd h hn
theorem uintL_mono : ∀ (k a b : Nat), a ≤ b → b < 128 ^ (k + 1) → (uintL a).length ≤ (uintL b).length
  | 0, a, b, h, hb => by
    have hb' : b < 128 := by simpa using hb
    rw [uintL_small (by omega), uintL_small (by omega)]
    exact Nat.le_refl _
  | k + 1, a, b, h, hb => by
    by_cases ha : a < 128
    · rw [uintL_small ha]
      exact uintL_pos b
    · have hb2 : ¬ b < 128 := by omega
      rw [uintL_big (n := a) ha, uintL_big (n := b) hb2]
      simp only [List.length_cons]
      have := uintL_mono k (a / 128) (b / 128) (by omega) (Nat.div_lt_of_lt_mul (by rw [Nat.mul_comm, ← Nat.pow_succ]; exact hb))
      omega
theorem nums_prefix (F : List Int) {a b : Nat} (h : a ≤ b) : (numsB (F.take a)).length ≤ (numsB (F.take b)).length := by
  obtain ⟨c, rfl⟩ : ∃ c, b = a + c := ⟨b - a, by omega⟩
  rw [List.take_add]
  unfold numsB
  rw [List.flatMap_append, List.length_append]
  omega
theorem fits_mono {sz : Nat} {d d' : ByteArray} (hs : d'.size ≤ d.size) (hd : d.size < 128 ^ 9) (h : (planM sz (fun _ => none) [] (putN (fun _ => none) walN d) [walN]).fits = true) : (planM sz (fun _ => none) [] (putN (fun _ => none) walN d') [walN]).fits = true := by
  rw [fits_one_iff] at h ⊢
  have h1 : nCh d'.size ≤ nCh d.size := by unfold nCh; omega
  have h2 : dirLen sz d' ≤ dirLen sz d := by
    unfold dirLen
    have := uintL_mono 8 d'.size d.size hs hd
    have := nums_prefix (freshF sz) h1
    omega
  have h3 : nCh (dirLen sz d') ≤ nCh (dirLen sz d) := by unfold nCh; omega
  omega
theorem wrC_fits {sz : Nat} {now : ByteArray → Option ByteArray} {d e : ByteArray} (hn : now = (fun _ => none) ∨ now = putN (fun _ => none) walN e) : wrC sz now d = if (planM sz (fun _ => none) [] (putN (fun _ => none) walN d) [walN]).fits = true then 0 else 2 := by
  have hp : putN now walN d = putN (fun _ => none) walN d := by
    rcases hn with rfl | rfl
    · rfl
    · exact putN_put _ _ _ _
  unfold wrC writeS
  rw [if_pos walN_right]
  unfold changeM
  have e2 : (planN sz (stF now) (putN (stF now).now walN d)).fits = (planM sz (fun _ => none) [] (putN now walN d) (namesL (putN now walN d))).fits := rfl
  rw [e2, hp, namesL_eq (names_one d)]
  split <;> rfl
end Go.Proofs
set_option linter.unusedVariables false
set_option maxRecDepth 100000
open Go Go.GV
namespace Go.Proofs

structure RQ (H : Heap) (X : List Nat) (s : Addr) (sz : Nat) (now : ByteArray → Option ByteArray) (N B : Nat) : Prop where
  it : ∃ d l, RS H X s d sz l ∧ OfL now l ∧ LB l N B
theorem RQ.frX {H H' : Heap} {X S : List Nat} {s : Addr} {sz N B : Nat} {now : ByteArray → Option ByteArray} (h : RQ H X s sz now N B) (hf : Fr S H H') (hS : ∀ k ∈ S, k ∈ X) : RQ H' X s sz now N B := by
  obtain ⟨d, l, h1, h2, h3⟩ := h.it
  exact ⟨d, l, h1.frX hf hS, h2, h3⟩
theorem RQ.keep {H H' : Heap} {X : List Nat} {s : Addr} {sz N B : Nat} {now : ByteArray → Option ByteArray} (h : RQ H X s sz now N B) (hf : Fr [] H H') : RQ H' X s sz now N B := h.frX hf (by simp)
theorem RQ.fresh {H : Heap} {X : List Nat} {s d : Addr} {sz B : Nat} (h : RS H X s d sz []) : RQ H X s sz (fun _ => none) 0 B := ⟨d, [], h, ofL_none, ⟨Nat.le_refl _, by simp⟩⟩
theorem RQ.blk {H : Heap} {X : List Nat} {s : Addr} {sz N B : Nat} {now : ByteArray → Option ByteArray} (h : RQ H X s sz now N B) : ∃ cs, Blk H s cs := by
  obtain ⟨d, l, h1, h2, h3⟩ := h.it
  obtain ⟨a, n, c, hb, _⟩ := h1.it
  exact ⟨_, hb⟩
theorem RQ.mono {H : Heap} {X : List Nat} {s : Addr} {sz N B N' B' : Nat} {now : ByteArray → Option ByteArray} (h : RQ H X s sz now N B) (hN : N ≤ N') (hB : B ≤ B') : RQ H X s sz now N' B' := by
  obtain ⟨d, l, h1, h2, h3⟩ := h.it
  exact ⟨d, l, h1, h2, ⟨by have := h3.len; omega, fun x hx => ⟨(h3.dat x hx).1, by have := (h3.dat x hx).2; omega⟩⟩⟩
theorem RQ.read {H : Heap} {X : List Nat} {s : Addr} {sz N B : Nat} {now : ByteArray → Option ByteArray} {K : ByteArray → Bool → Heap → Prop} (h : RQ H X s sz now N B) (hN : N ≤ 1000000) (hk : K (fileT now) (now walN).isSome H) :
    CallH Tryz.prog fn_ref10_Store_Read ⟨[.pointer (some s), .string walN]⟩ H fun v H' => ∃ t b, v = .tuple ⟨[.string t, .bool b]⟩ ∧ K t b H' := by
  obtain ⟨d, l, h1, h2, h3⟩ := h.it
  exact rRead_ok h1 h2 h3 hN hk
theorem RQ.append {H : Heap} {X : List Nat} {s : Addr} {sz N B B' : Nat} {now : ByteArray → Option ByteArray} {data : ByteArray} {K : Int → Heap → Prop} (h : RQ H X s sz now N B) (hsz : 8 ≤ sz ∧ sz ≤ 512) (hN : N ≤ 98) (hB : B' ≤ 30000000) (hd : B + data.size ≤ B')
    (hk : ∀ H', RQ H' X s sz (wrN sz now (fileT now ++ data)) (N + 1) B' → Fr [s.block] H H' → K (wrC sz now (fileT now ++ data)) H') :
    CallH Tryz.prog fn_ref10_Store_Append ⟨[.pointer (some s), .string walN, .string data]⟩ H fun v H' => ∃ n, v = .int .i64 n ∧ K n H' := by
  obtain ⟨d, l, h1, h2, h3⟩ := h.it
  exact rAppend_ok h1 hsz h2 h3 hN hd hB (by decide) fun l' H' a b c f => hk H' ⟨d, l', a, b, c⟩ f
theorem RQ.delete {H : Heap} {X : List Nat} {s : Addr} {sz N B : Nat} {now : ByteArray → Option ByteArray} {K : Int → Heap → Prop} (h : RQ H X s sz now N B) (hsz : 8 ≤ sz ∧ sz ≤ 512) (hN : N ≤ 98) (hB : B ≤ 30000000)
    (hk : ∀ H', RQ H' X s sz (dlN sz now) N B → Fr [s.block] H H' → K (dlC sz now) H') :
    CallH Tryz.prog fn_ref10_Store_Delete ⟨[.pointer (some s), .string walN]⟩ H fun v H' => ∃ n, v = .int .i64 n ∧ K n H' := by
  obtain ⟨d, l, h1, h2, h3⟩ := h.it
  exact rDelete_ok h1 hsz h2 h3 hN hB (by decide) fun l' H' a b c f => hk H' ⟨d, l', a, b, c⟩ f

end Go.Proofs
set_option linter.unusedVariables false
set_option maxRecDepth 100000
open Go Go.GV
namespace Go.Proofs

noncomputable def apC (sz : Nat) (now : ByteArray → Option ByteArray) (rs : List Rc) : Int := if appE rs = 0 then wrC sz now (fileT now ++ bt (logB rs)) else appE rs
noncomputable def apN (sz : Nat) (now : ByteArray → Option ByteArray) (rs : List Rc) : ByteArray → Option ByteArray := if appE rs = 0 then wrN sz now (fileT now ++ bt (logB rs)) else now
theorem apC_good {sz : Nat} {now : ByteArray → Option ByteArray} {rs : List Rc} (h : appE rs = 0) : apC sz now rs = wrC sz now (fileT now ++ bt (logB rs)) := if_pos h
theorem apN_good {sz : Nat} {now : ByteArray → Option ByteArray} {rs : List Rc} (h : appE rs = 0) : apN sz now rs = wrN sz now (fileT now ++ bt (logB rs)) := if_pos h
theorem apC_bad {sz : Nat} {now : ByteArray → Option ByteArray} {rs : List Rc} (h : appE rs ≠ 0) : apC sz now rs = appE rs := if_neg h
theorem apN_bad {sz : Nat} {now : ByteArray → Option ByteArray} {rs : List Rc} (h : appE rs ≠ 0) : apN sz now rs = now := if_neg h
theorem log_le {rs : List Rc} (hG : ∀ r ∈ rs, GoodR r) (hw : wCs rs ≤ 10000) : (bt (logB rs)).size ≤ 760 * rs.length + 30 * wCs rs := by
  rw [bt_size]
  exact logB_len hG fun r hr => Nat.le_trans (wCs_mem hr) hw
theorem fr_pre {S : List Nat} {H H1 H' : Heap} (h1 : Fr [] H H1) (h2 : Fr S H1 H') : Fr S H H' := (h1.mono (by simp)).trans' h2 (fun k hk _ => hk) fun k hk _ => hk
theorem PS.app {H : Heap} {s : Addr} {Sd : List Nat} {sz M B B' : Nat} {now : ByteArray → Option ByteArray} {a : Option Addr} {n c : Nat} {ms : List Rm} {rs : List Rc} {K : Int → Heap → Prop} (h : PS H s Sd sz now M) (hM : M + 1 ≤ 100) (hb : NB now B) (hB : B' ≤ 30000000)
    (hx : Sl encR5 H a n c ms) (hr : RcsH H ms rs) (hT : ∀ r ∈ rs, TypR r) (hsm : ∀ m ∈ ms, Small m) (htab : TabH H) (hn : n ≤ 10000) (hw : wCs rs ≤ 10000) (hd : B + (760 * rs.length + 30 * wCs rs) ≤ B')
    (hk : ∀ H' M', M' ≤ M + 1 → PS H' s Sd sz (apN sz now rs) M' → NB (apN sz now rs) B' → Fr [s.block] H H' → K (apC sz now rs) H') :
    CallH Tryz.prog fn_wal_Append ⟨[.pointer (some s), .slice a n c]⟩ H fun v H' => ∃ n, v = .int .i64 n ∧ K n H' := by
  refine wAppend_ok hx hr hT hsm htab hn hw (fun h0 H1 hf1 => ?_) fun h0 hG H1 hf1 => ?_
  · have := hk H1 M (by omega) (by rw [apN_bad h0]; exact h.keep hf1) (by rw [apN_bad h0]; exact hb.mono (by omega)) (fr_pre hf1 (Fr.refl _ _))
    rwa [apC_bad h0] at this
  · have hl := log_le hG hw
    refine (h.keep hf1).append hM hb hB (by omega) fun H' h' hb' hf' => ?_
    have := hk H' (M + 1) (by omega) (by rw [apN_good h0]; exact h') (by rw [apN_good h0]; exact hb') (fr_pre hf1 hf')
    rwa [apC_good h0] at this
theorem RQ.app {H : Heap} {X : List Nat} {s : Addr} {sz N B B' : Nat} {now : ByteArray → Option ByteArray} {a : Option Addr} {n c : Nat} {ms : List Rm} {rs : List Rc} {K : Int → Heap → Prop} (h : RQ H X s sz now N B) (hsz : 8 ≤ sz ∧ sz ≤ 512) (hN : N ≤ 98) (hB : B' ≤ 30000000)
    (hx : Sl encR5 H a n c ms) (hr : RcsH H ms rs) (hT : ∀ r ∈ rs, TypR r) (hsm : ∀ m ∈ ms, Small m) (hn : n ≤ 10000) (hw : wCs rs ≤ 10000) (hd : B + (760 * rs.length + 30 * wCs rs) ≤ B')
    (hk : ∀ H', RQ H' X s sz (apN sz now rs) (N + 1) B' → Fr [s.block] H H' → K (apC sz now rs) H') :
    CallH Tryz.prog fn_ref11_Append ⟨[.pointer (some s), .slice a n c]⟩ H fun v H' => ∃ n, v = .int .i64 n ∧ K n H' := by
  refine rwAppend_ok hx hr hT hsm hn hw (fun h0 H1 hf1 => ?_) fun h0 hG H1 hf1 => ?_
  · have := hk H1 (by rw [apN_bad h0]; exact (h.keep hf1).mono (by omega) (by omega)) (fr_pre hf1 (Fr.refl _ _))
    rwa [apC_bad h0] at this
  · have hl := log_le hG hw
    refine (h.keep hf1).append hsz hN hB (by omega) fun H' h' hf' => ?_
    have := hk H' (by rw [apN_good h0]; exact h') (fr_pre hf1 hf')
    rwa [apC_good h0] at this

theorem mk_1 {P : Program} {ts t : TypeId} {sz bytes : Nat} {u : Value} {cs : List Value} {H : Heap} {kl kc : IntKind} {K : Option Addr → Nat → Nat → Heap → Prop} (hts : sliceB P ts t = true) (ht : elemB P t sz bytes = true) (hz : zeroOf P t = some u) (hm : madeCells u.cells (1 * sz) = ⟨cs⟩) (hsz : bytes ≤ 140737488355328)
    (hk : ∀ b H', New H b (.cells ⟨cs⟩ t) H' → K (some ⟨b, 0, none⟩) 1 1 H') :
    SemWp P (Instr.makeSlice ts (.int kl 1) (.int kc 1)) H fun v H' => ∃ a n c, v = .slice a n c ∧ K a n c H' := by
  intro Ev d
  obtain ⟨i, z, hi, hz', h1, h2, h3, h4, h5⟩ := elemB_out ht
  have hzz : z = u := by
    unfold zeroOf at hz
    rw [hi] at hz
    simp only [hz'] at hz
    cases hz; rfl
  subst hzz
  have hus := sliceB_out hts
  have hr := run_make (P := P) (mkW Ev H d) ts t i z hus hi hz' kl kc 1 1 (by omega) (Int.le_refl _) (by
    rw [h4]; omega) (by omega)
  refine ⟨_, _, d, hr, _, _, _, rfl, hk H.size _ ?_⟩
  rw [← hm, ← h1]
  exact ⟨rfl, rfl⟩
theorem zero39 : zeroOf Tryz.prog 39 = some (.agg ⟨rC (m0 0)⟩) := by kernel_rfl
theorem blk_sl {H : Heap} {b : Nat} {m : Rm} (h : Blk H ⟨b, 0, none⟩ (rC m)) : Sl encR5 H (some ⟨b, 0, none⟩) 1 1 [m] := by
  refine ⟨rfl, Nat.le_refl _, .inr ⟨b, 0, rfl, fun i y hy j v hj => ?_⟩⟩
  cases i with
  | zero =>
    simp only [List.getElem?_cons_zero, Option.some.injEq] at hy
    subst hy
    obtain ⟨b', te, e, hh⟩ := h
    cases e
    rw [cell_of_blk hh]
    have e9 : encR5.cells m = rC m := rfl
    rw [e9] at hj
    simpa using hj
  | succ i => simp at hy
def oddR : Rc := ⟨4, [], [], [], 0⟩
theorem odd_typ : ∀ r ∈ [oddR], TypR r := fun r hr => by
  rw [List.mem_singleton.1 hr]
  exact fun x hx => by simp [oddR] at hx
theorem odd_e : appE [oddR] = 1 := by
  have : encE oddR = 1 := if_neg fun hF => by have := hF.k.2; simp [oddR] at this
  unfold appE
  rw [this, if_pos (by decide)]
theorem odd_rcs {H : Heap} : RcsH H [m0 4] [oddR] := RcsH.one ⟨rfl, Sl.zero, Sl.zero, Sl.zero, rfl⟩
theorem odd_small : ∀ m ∈ [m0 4], Small m := fun m hm => by
  rw [List.mem_singleton.1 hm]
  exact ⟨by simp [m0], by simp [m0], by simp [m0]⟩
theorem odd_ok {H : Heap} {R : Option Addr → Nat → Nat → Heap → Prop} (hk : ∀ b H', Sl encR5 H' (some ⟨b, 0, none⟩) 1 1 [m0 4] → Fr [] H H' → R (some ⟨b, 0, none⟩) 1 1 H') :
    SemWp Tryz.prog (Instr.makeSlice 22 (.int .i64 1) (.int .i64 1)) H fun v H' => ∃ a n c, v = .slice a n c ∧ exSome a fun ad => chk (decide ((0 : Int) ≤ 0 ∧ (0 : Int) < (n : Int))) (∃ H'_1, St Tryz.prog 3 H' ad (.int .i64 4) H'_1 ∧ R a n c H'_1) := by
  refine mk_1 (cs := rC (m0 0)) slice22 elem39 zero39 (by kernel_rfl) (by decide) fun b H1 hn1 => ?_
  refine exSome_of rfl (chk_true (by decide) ?_)
  refine Blk.setK hn1.blk (j := 0) (by kernel_rfl) (by kernel_rfl) rfl rfl (by simp [rC, m0]) fun H2 hb2 hf2 => hk b H2 (blk_sl (m := m0 4) hb2) ?_
  exact hn1.fr.keep hf2 fun k hk => by simp at hk; have := hn1.eq; omega
theorem odd_app {H : Heap} {s : Addr} {a : Option Addr} {n c : Nat} {K : Int → Heap → Prop} (hx : Sl encR5 H a n c [m0 4]) (htab : TabH H) (hk : ∀ H', Fr [] H H' → K 1 H') :
    CallH Tryz.prog fn_wal_Append ⟨[.pointer (some s), .slice a n c]⟩ H fun v H' => ∃ n, v = .int .i64 n ∧ K n H' := by
  have hl := hx.len
  refine wAppend_ok hx odd_rcs odd_typ odd_small htab (by simp at hl; omega) (by decide) (fun _ H' hf => ?_) fun h0 => ?_
  · rw [odd_e]; exact hk H' hf
  · rw [odd_e] at h0; cases h0
end Go.Proofs
set_option linter.unusedVariables false
set_option maxRecDepth 100000
open Go Go.GV
namespace Go.Proofs

theorem wCs_app (a b : List Rc) : wCs (a ++ b) = wCs a + wCs b := by
  unfold wCs
  rw [List.map_append, List.sum_append]
theorem wCs_drop (rs : List Rc) (k : Nat) : wCs (rs.drop k) ≤ wCs rs := by
  conv => rhs; rw [← List.take_append_drop k rs, wCs_app]
  omega
theorem logB_app (a b : List Rc) : logB (a ++ b) = logB a ++ logB b := by
  unfold logB
  rw [List.flatMap_append]
theorem none_app (d : ByteArray) : fileT (fun _ => none) ++ d = d := bl_inj (by
  rw [bl_app]; rfl)
theorem file_put (now : ByteArray → Option ByteArray) (d : ByteArray) : fileT (putN now walN d) = d := by
  unfold fileT putN
  rw [if_pos rfl]; rfl
theorem wr_zero {sz : Nat} {now : ByteArray → Option ByteArray} {d : ByteArray} (h : wrC sz now d = 0) : wrN sz now d = putN now walN d := by
  rcases wr_cases sz now d with ⟨_, e⟩ | ⟨e, _⟩
  · exact e
  · rw [e] at h; cases h
theorem joined_plain {rs : List Rc} (k : Nat) (hT : ∀ r ∈ rs, TypR r) (hw : wCs rs ≤ 10000) (hl : rs.length ≤ 10000) :
    (apC 512 (fun _ => none) (rs.take k) = 0 → (apC 512 (fun _ => none) rs = 0 ↔ apC 512 (apN 512 (fun _ => none) (rs.take k)) (rs.drop k) = 0)) ∧ (apC 512 (fun _ => none) (rs.take k) ≠ 0 → apC 512 (fun _ => none) rs ≠ 0) ∧
    (apC 512 (fun _ => none) rs = 0 → fileT (apN 512 (fun _ => none) rs) = fileT (apN 512 (apN 512 (fun _ => none) (rs.take k)) (rs.drop k))) := by
  have hTt : ∀ r ∈ rs.take k, TypR r := fun r hr => hT r (List.mem_of_mem_take hr)
  have hTd : ∀ r ∈ rs.drop k, TypR r := fun r hr => hT r (List.mem_of_mem_drop hr)
  by_cases hg : appE rs = 0
  · have hG := (appE_zero hT).1 hg
    have ht := (appE_zero hTt).2 fun r hr => hG r (List.mem_of_mem_take hr)
    have hd := (appE_zero hTd).2 fun r hr => hG r (List.mem_of_mem_drop hr)
    have hsz := log_le hG hw
    have hcat : bt (logB (rs.take k)) ++ bt (logB (rs.drop k)) = bt (logB rs) := bl_inj (by
      rw [bl_app, bl_bt, bl_bt, bl_bt, ← logB_app, List.take_append_drop])
    have hle : (bt (logB (rs.take k))).size ≤ (bt (logB rs)).size := by
      rw [← hcat, ByteArray.size_append]; omega
    have hm : (planM ((512 : Nat) : Int) (fun _ => none) [] (putN (fun _ => none) walN (bt (logB rs))) [walN]).fits = true → (planM ((512 : Nat) : Int) (fun _ => none) [] (putN (fun _ => none) walN (bt (logB (rs.take k)))) [walN]).fits = true := fits_mono hle (by
      have : (128 : Nat) ^ 9 = 9223372036854775808 := by decide
      omega)
    have ea : apC 512 (fun _ => none) rs = wrC 512 (fun _ => none) (bt (logB rs)) := by rw [apC_good hg, none_app]
    have eb : apC 512 (fun _ => none) (rs.take k) = wrC 512 (fun _ => none) (bt (logB (rs.take k))) := by rw [apC_good ht, none_app]
    have en : apN 512 (fun _ => none) (rs.take k) = wrN 512 (fun _ => none) (bt (logB (rs.take k))) := by rw [apN_good ht, none_app]
    have ena : apN 512 (fun _ => none) rs = wrN 512 (fun _ => none) (bt (logB rs)) := by rw [apN_good hg, none_app]
    have ec : apC 512 (fun _ => none) (rs.take k) = 0 → apN 512 (fun _ => none) (rs.take k) = putN (fun _ => none) walN (bt (logB (rs.take k))) ∧ apC 512 (apN 512 (fun _ => none) (rs.take k)) (rs.drop k) = apC 512 (fun _ => none) rs ∧
        apN 512 (apN 512 (fun _ => none) (rs.take k)) (rs.drop k) = wrN 512 (apN 512 (fun _ => none) (rs.take k)) (bt (logB rs)) := fun hb => by
      have e1 : apN 512 (fun _ => none) (rs.take k) = putN (fun _ => none) walN (bt (logB (rs.take k))) := by
        rw [en]; exact wr_zero (by rw [← eb]; exact hb)
      refine ⟨e1, ?_, ?_⟩
      · rw [e1, apC_good hd, file_put, hcat, ea, wrC_fits (.inr rfl), wrC_fits (e := ⟨#[]⟩) (.inl rfl)]
      · rw [apN_good hd]
        rw [e1, file_put, hcat]
    refine ⟨fun hb => by rw [(ec hb).2.1], fun hb ha => hb ?_, fun ha => ?_⟩
    · rw [ea, wrC_fits (e := ⟨#[]⟩) (.inl rfl)] at ha
      rw [eb, wrC_fits (e := ⟨#[]⟩) (.inl rfl)]
      split at ha
      · rename_i h1; rw [if_pos (hm h1)]
      · cases ha
    · have ha' := ha
      rw [ea, wrC_fits (e := ⟨#[]⟩) (.inl rfl)] at ha'
      split at ha'
      · rename_i h1
        have hb : apC 512 (fun _ => none) (rs.take k) = 0 := by rw [eb, wrC_fits (e := ⟨#[]⟩) (.inl rfl), if_pos (hm h1)]
        obtain ⟨e1, e2, e3⟩ := ec hb
        rw [e3, ena, wr_zero (by rw [← ea]; exact ha), file_put]
        rw [wr_zero (now := apN 512 (fun _ => none) (rs.take k)), file_put]
        have h9 := e2.trans ha
        rw [apC_good hd, e1, file_put, hcat] at h9
        rw [e1]; exact h9
      · cases ha'
  · have ha : apC 512 (fun _ => none) rs ≠ 0 := by rw [apC_bad hg]; exact hg
    refine ⟨fun hb => ⟨fun h => absurd h ha, fun hc => ?_⟩, fun _ => ha, fun h => absurd h ha⟩
    have ht : appE (rs.take k) = 0 := Classical.byContradiction fun hn => by
      rw [apC_bad hn] at hb; exact hn hb
    have hgt := (appE_zero hTt).1 ht
    have hd : appE (rs.drop k) ≠ 0 := by rw [← appE_good hT hgt]; exact hg
    rw [apC_bad hd] at hc
    exact absurd hc hd
theorem RcsH.take {H : Heap} {ms : List Rm} {rs : List Rc} (h : RcsH H ms rs) (k : Nat) : RcsH H (ms.take k) (rs.take k) := by
  refine ⟨by rw [List.length_take, List.length_take, h.1], fun i m r hm hr => ?_⟩
  rw [List.getElem?_take] at hm hr
  split at hm
  · rename_i hi
    rw [if_pos hi] at hr
    exact h.2 i m r hm hr
  · cases hm
theorem RcsH.drop {H : Heap} {ms : List Rm} {rs : List Rc} (h : RcsH H ms rs) (k : Nat) : RcsH H (ms.drop k) (rs.drop k) := by
  refine ⟨by rw [List.length_drop, List.length_drop, h.1], fun i m r hm hr => ?_⟩
  rw [List.getElem?_drop] at hm hr
  exact h.2 (k + i) m r hm hr
theorem Light.small {m : Rm} (h : Light m) : Small m := ⟨by have := h.1; omega, by have := h.2.1; omega, by have := h.2.2; omega⟩
theorem nb_none (B : Nat) : NB (fun _ => none) B := fun y d e => by cases e
theorem Joined_ok {H : Heap} {la : Option Addr} {ln lc : Nat} {ms : List Rm} {rs : List Rc} {at' : Int} (hx : Sl encR5 H la ln lc ms) (hr : RcsH H ms rs) (hT : ∀ r ∈ rs, TypR r) (hat : 0 ≤ at' ∧ at' ≤ 255) (hcl : ln ≤ 9223372036854775807) (htab : TabH H) :
    CallH Tryz.prog 3 ⟨[.slice la ln lc, .int .u8 at']⟩ H fun v H' => v = .bool true ∧ Fr [] H H' := by
  apply vc_law11_WalJoined
  refine ⟨fun _ H' => H' = H ∧ (∀ m ∈ ms, Light m) ∧ wRs ms ≤ 2048 ∧ ln ≤ 20, ?_, ?_⟩
  · refine heavyS_ok hx (fun m hm => ?_) hcl (brB_of (fun _ => ⟨rfl, Fr.refl _ _⟩) (fun h => by cases h)) fun h1 h2 h3 => brB_of (fun h => by cases h) fun _ => brB_of (fun _ => ⟨rfl, Fr.refl _ _⟩) fun h4 => ⟨rfl, h1, h3, by simp at h4; omega⟩
    obtain ⟨i, hi⟩ := List.getElem?_of_mem hm
    obtain ⟨r, _, hR⟩ := hr.at hi
    exact ⟨_, hR.l⟩
  rintro J H0 ⟨rfl, hLi, hwr, hl20⟩
  have hw : wCs rs ≤ 2048 := by rw [← wRs_eq hr]; exact hwr
  have hsm : ∀ m ∈ ms, Small m := fun m hm => (hLi m hm).small
  have hnm := hx.len
  have hmr := hr.1
  refine stores_ok (sz := 512) (X := []) (by decide) (by decide) (by intro k hk; simp at hk) fun s1 s2 d2 Sd1 H1 hp1 _ g1 g2 g3 g4 g5 hf1 => ?_
  obtain ⟨cs1, hb1⟩ := hp1.blk
  have hlt1 := hb1.lt
  refine stores_ok (sz := 512) (X := [s1.block]) (by decide) (by decide) (by intro k hk; simp at hk; omega) fun s3 s4 d4 Sd3 H2 hp3 hr4 k1 k2 k3 k4 k5 hf2 => ?_
  refine ⟨fun _ H' => H' = H2, brB_of (fun h => by simp at h) fun _ => brB_of (fun h => by simp at h) fun _ => rfl, ?_⟩
  rintro J2 H2' rfl
  have hz1 := hf1.size
  have hz2 := hf2.size
  have f02 := hf1.keep0 hf2
  have wn : IntKind.i64.wrap ((ln : Int) + 1) = (ln : Int) + 1 := wrap64_of (by omega) (by omega)
  have wa : IntKind.i64.wrap at' = at' := wrap64_of (by omega) (by omega)
  obtain ⟨k, hk⟩ : ∃ k : Nat, Int.tmod at' ((ln : Int) + 1) = k := ⟨at'.toNat % (ln + 1), by
    rw [Int.tmod_eq_emod_of_nonneg hat.1]
    have e1 : at' = (at'.toNat : Int) := by omega
    conv => lhs; rw [e1]
    exact (Int.natCast_emod at'.toNat (ln + 1)).symm⟩
  have hkn : k ≤ ln := by
    have h1 := Int.emod_lt_of_pos at' (show (0 : Int) < (ln : Int) + 1 by omega)
    rw [← Int.tmod_eq_emod_of_nonneg hat.1, hk] at h1
    omega
  rw [wn, wa, hk]
  have hcap := hx.cap
  refine chk_true (decide_eq_true (by omega)) ?_
  have hp1' := hp1.keep hf2
  refine hp1'.app (B := 0) (B' := 100000) (by decide) (nb_none 0) (by decide) (hx.keep f02) (hr.keep f02) hT hsm (htab.keep f02) (by omega) (by omega) (by omega) fun H3 M3 hM3 q1 q2 hf3 => ?_
  have f03 : Fr [] H0 H3 := f02.keep hf3 fun j hj => by simp at hj; omega
  have hp3' : PS H3 s3 Sd3 512 (fun _ => none) 0 := hp3.off (hb1.keep hf2) (by
    have := hp3.blk; omega) (fun hm => by have := k3 _ hm; omega) hf3
  have hr4' : RQ H3 [s3.block, s1.block] s4 512 (fun _ => none) 0 0 := (RQ.fresh hr4).frX hf3 (by simp)
  refine chk_true (decide_eq_true (by omega)) ?_
  have ek0 : (k : Int).toNat = k := by omega
  rw [ek0]
  have htk : Sl encR5 H3 la (k - 0) (lc - 0) (ms.take k) := (hx.keep f03).take hkn
  have hwt := wCs_take rs k
  have hwd := wCs_drop rs k
  refine hp3'.app (B := 0) (B' := 100000) (by decide) (nb_none 0) (by decide) htk ((hr.keep f03).take k) (fun r hr => hT r (List.mem_of_mem_take hr)) (fun m hm => hsm m (List.mem_of_mem_take hm)) (htab.keep f03) (by omega) (by omega) (by rw [List.length_take]; omega) fun H4 M4 hM4 p1 p2 hf4 => ?_
  have f04 : Fr [] H0 H4 := f03.keep hf4 fun j hj => by simp at hj; omega
  obtain ⟨cs3, hb3⟩ := hp3'.blk
  obtain ⟨cs1', hb1'⟩ := q1.blk
  have n13 : s1.block ≠ s3.block := by omega
  have hSd1 : ∀ j ∈ Sd1, j < H1.size := hp1.inSd
  have q1' := q1.off hb3 (fun e => n13 e.symm) (fun hm => by have := hSd1 _ hm; omega) hf4
  have hr4'' := hr4'.frX hf4 (by simp)
  refine chk_true (decide_eq_true (by omega)) ?_
  have eln : (ln : Int).toNat = ln := by omega
  rw [eln]
  have hdk : Sl encR5 H4 (slA lc k 5 la) (ln - k) (lc - k) (ms.drop k) := (hx.keep f04).drop hkn
  refine p1.app (B := 100000) (B' := 200000) (by omega) p2 (by decide) hdk ((hr.keep f04).drop k) (fun r hr => hT r (List.mem_of_mem_drop hr)) (fun m hm => hsm m (List.mem_of_mem_drop hm)) (htab.keep f04) (by omega) (by omega) (by rw [List.length_drop]; omega) fun H5 M5 hM5 p1' p2' hf5 => ?_
  have f05 : Fr [] H0 H5 := f04.keep hf5 fun j hj => by simp at hj; omega
  obtain ⟨cs3', hb3'⟩ := p1.blk
  have q1'' := q1'.off hb3' (fun e => n13 e.symm) (fun hm => by have := hSd1 _ hm; omega) hf5
  have hr5 := hr4''.frX hf5 (by simp)
  obtain ⟨j1, j2, j3⟩ := joined_plain k hT (by omega) (by omega)
  refine ⟨fun _ H' => ∃ H6, Fr [] H0 H6 ∧ H' = H6 ∧ PS H6 s1 Sd1 512 (apN 512 (fun _ => none) rs) M3 ∧ PS H6 s3 Sd3 512 (apN 512 (apN 512 (fun _ => none) (rs.take k)) (rs.drop k)) M5, ?_, ?_⟩
  · refine theirs_ok (hx.keep f05) (by omega) fun o l d H6 ho6 hf6 => ?_
    have f06 := f05.keep0 hf6
    have hol := ho6.sl.len
    have hr6 := hr5.keep hf6
    refine hr6.app (B' := 100000) (by decide) (by decide) (by decide) ho6.sl (hr.keep f06) hT hsm (by omega) (by omega) (by omega) fun H7 hr7 hf7 => ?_
    refine brB_of (fun h => by simp at h) fun _ => ?_
    have g2' : H1.size ≤ s4.block := k2
    have f07 : Fr [] H0 H7 := f06.keep hf7 fun j hj => by simp at hj; omega
    obtain ⟨cs4, hb4⟩ := hr6.blk
    have fin : ∃ H6, Fr [] H0 H6 ∧ H7 = H6 ∧ PS H6 s1 Sd1 512 (apN 512 (fun _ => none) rs) M3 ∧ PS H6 s3 Sd3 512 (apN 512 (apN 512 (fun _ => none) (rs.take k)) (rs.drop k)) M5 := ⟨H7, f07, rfl, (q1''.keep hf6).off hb4 (by omega) (fun hm => by have := hSd1 _ hm; omega) hf7, (p1'.keep hf6).off hb4 k4 k5 hf7⟩
    refine brB_of (fun hb => ?_) (fun hb => ?_)
    · have hb : apC 512 (fun _ => none) (rs.take k) = 0 := by simpa using hb
      refine brB_of (fun hc => ?_) (fun _ => fin)
      have hj := j1 hb
      by_cases h0 : apC 512 (fun _ => none) rs = 0
      · rw [h0, hj.1 h0] at hc; simp at hc
      · have h1 : apC 512 (apN 512 (fun _ => none) (rs.take k)) (rs.drop k) ≠ 0 := fun e => h0 (hj.2 e)
        have e1 : (apC 512 (fun _ => none) rs == 0) = false := by simpa using h0
        have e2 : (apC 512 (apN 512 (fun _ => none) (rs.take k)) (rs.drop k) == 0) = false := by simpa using h1
        rw [e1, e2] at hc; exact absurd hc (by decide)
    · have hb : apC 512 (fun _ => none) (rs.take k) ≠ 0 := by simpa using hb
      refine brB_of (fun hc => ?_) (fun _ => fin)
      have := j2 hb
      simp [this] at hc
  · rintro J6 H6 ⟨_, f06, rfl, x1, x3⟩
    refine x1.read ?_
    refine x3.read ?_
    refine odd_ok fun b H7 hs7 hf7 => ?_
    have f07 := f06.keep0 hf7
    refine brB_of (fun _ => odd_app hs7 (htab.keep f07) fun H8 hf8 => ⟨rfl, f07.keep0 hf8⟩) (fun h0 => ?_)
    have h0 : apC 512 (fun _ => none) rs = 0 := by simpa using h0
    refine brB_of (fun _ => odd_app hs7 (htab.keep f07) fun H8 hf8 => ⟨rfl, f07.keep0 hf8⟩) (fun hne => ?_)
    rw [j3 h0] at hne
    simp at hne
end Go.Proofs
