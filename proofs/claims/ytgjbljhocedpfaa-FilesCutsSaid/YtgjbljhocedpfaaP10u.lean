/- A part of a proof: see the last text of this claim. -/
import Derived.Test.YtgjbljhocedpfaaP10t
set_option linter.unusedVariables false
set_option maxRecDepth 100000
open Go Go.GV
namespace Go.Proofs

/-- Sync, of a store. -/
theorem Sync_ok {s d : Addr} {rn rl : Nat} {a : Option Addr} {n c : Nat} {Q Sd : List Nat} {st : Sto} {m : Dk} {N M : Nat} {H : Heap} {K : Int → Heap → Prop}
    (h : SL H s d rn rl a n c Q Sd st m N M) (hM : M ≤ 1000) (hB : PlB st st.now) (hg : 0 ≤ st.gen ∧ st.gen ≤ 1000000000) (hkp : 0 ≤ m.keep ∧ m.keep < 18446744073709551616)
    (hp : (planN m.size st st.now).tk.puts.length ≤ 512) (hdl : (planN m.size st st.now).dirD.length ≤ 1000000) (hds : (planN m.size st st.now).dirS.length ≤ 1000000) (hN : N + 2000 ≤ 1000000)
    (hk : ∀ rl' a' n' c' Q' Sd' H', SL H' s d rn rl' a' n' c' Q' Sd' (syncM st m).1 (syncM st m).2.1 (N + 2000) M → Fr (s.block :: Sd) H H' → Grow H Sd Sd' → K (syncM st m).2.2 H') :
    CallH Try.prog 16 ⟨[.pointer (some s)]⟩ H fun v H' => ∃ n, v = .int .i64 n ∧ K n H' := by
  apply vc_files_Store_Sync
  intro b H1 hn1
  have e1 := hn1.eq
  have s1 := hn1.size
  have hsl := h.blk.lt
  have hb1 := hn1.blk
  have h1 := h.keep hn1.fr
  have hbs : b ≠ s.block := by omega
  have hks : ∀ (H' : Heap) (X : Prop), st.bad = true ∨ m.off = true → Fr [s.block] H H' → SL H' s d rn rl a n c Q Sd { st with bad := true } m N M → K 90 H' := fun H' _ hh hf hs => by
    unfold syncM at hk
    rw [if_pos hh] at hk
    exact hk rl a n c Q Sd H' ⟨hs.blk, hs.now, hs.last, hs.dir, hs.dirQ, hs.dk.mono (by omega), hs.own, hs.apart, hs.inQ⟩ (hf.mono (by simp)) (Grow.refl _ _)
  refine ⟨fun vs H' => vs = [] ∧ ¬ (st.bad = true ∨ m.off = true) ∧ SL H' s d rn rl a n c Q Sd { st with bad := false } m N M ∧ Blk H' ⟨b, 0, none⟩ [.pointer (some s)] ∧ Fr [s.block] H H', ⟨some s, hb1.ld0 (by kernel_rfl) rfl, some s, hb1.ld0 (by kernel_rfl) rfl, exS ?_⟩, ?_⟩
  · refine ⟨st.bad, h1.blk.ld (by kernel_rfl) rfl, brB_of (fun h0 => exS ?_) (fun h0 => ⟨some s, hb1.ld0 (by kernel_rfl) rfl, exS ⟨some d, h1.blk.ld0 (by kernel_rfl) rfl, Dead_ok h1.dk ⟨hb1.ld0 (by kernel_rfl) rfl, exS ?_⟩⟩⟩)⟩
    · refine h1.bad true fun H2 h2 hf2 => ⟨some s, (hb1.fr hf2 (by simpa using hbs)).ld0 (by kernel_rfl) rfl, exS ⟨true, h2.blk.ld (by kernel_rfl) rfl, brB_of (fun _ => ⟨_, rfl, ?_⟩) (fun h => by simp at h)⟩⟩
      exact hks H2 True (.inl h0) (hn1.fr.trans' hf2 (by simp) (fun k hk _ => hk)) h2
    · refine h1.bad m.off fun H2 h2 hf2 => ⟨some s, (hb1.fr hf2 (by simpa using hbs)).ld0 (by kernel_rfl) rfl, exS ⟨m.off, h2.blk.ld (by kernel_rfl) rfl, brB_of (fun h3 => ⟨_, rfl, ?_⟩) (fun h3 => ⟨rfl, ?_, ?_, hb1.fr hf2 (by simpa using hbs), hn1.fr.trans' hf2 (by simp) (fun k hk _ => hk)⟩)⟩⟩
      · rw [h3] at h2
        exact hks H2 True (.inr h3) (hn1.fr.trans' hf2 (by simp) (fun k hk _ => hk)) h2
      · rw [h3, h0]; simp
      · rw [h3] at h2; exact h2
  rintro J H2 ⟨_, hno, h2, hb2, hf2⟩
  unfold syncM at hk
  rw [if_neg hno] at hk
  have hnb : st.bad = false := by
    cases hb : st.bad with
    | false => rfl
    | true => exact absurd (.inl hb) hno
  have hst : { st with bad := false } = st := by cases st; simp at hnb; simp [hnb]
  rw [hst] at h2
  -- the same, or not
  refine ⟨fun vs H' => vs = [] ∧ ¬ sameP st ∧ SL H' s d rn rl a n c Q Sd st m N M ∧ Blk H' ⟨b, 0, none⟩ [.pointer (some s)] ∧ Fr [s.block] H H', ⟨some s, hb2.ld0 (by kernel_rfl) rfl, exS ?_⟩, ?_⟩
  · obtain ⟨cn, hcn, hcM, hcy⟩ := h2.now.len
    obtain ⟨cl, hcl, ks, hknd, hkl, hkm⟩ := h2.last.len
    refine ⟨some rn, h2.blk.ld (by kernel_rfl) rfl, cn, hcn _, some s, hb2.ld0 (by kernel_rfl) rfl, exS ⟨some rl, h2.blk.ld (by kernel_rfl) rfl, cl, hcl _, brB_of (fun h0 => ?_) (fun h0 => ?_)⟩⟩
    · refine ⟨some s, hb2.ld0 (by kernel_rfl) rfl, Names_ok h2 (by omega) fun ys na nn nc H3 hys hyl hno3 hf3 => ?_⟩
      have hnl := hno3.1
      refine contains_ok (p := differs st) hno3.sl (by omega) (fun y H4 K1 hf4 hk1 => sync1_ok ((hb2.keep hf3).keep hf4) ((h2.keep hf3).keep hf4) hk1) fun H4 hf4 => ?_
      have hf24 := hf3.keep0 hf4
      have hyc := hcy ys hys
      have h0' : cn = cl := by simp at h0; omega
      have hsi := same_iff hys hknd hkm
      refine brB_of (fun h5 => ⟨_, rfl, ?_⟩) (fun h5 => ⟨rfl, ?_, h2.keep hf24, hb2.keep hf24, hf2.trans' hf24 (fun k hk _ => hk) (by simp)⟩)
      · have h5' : ys.any (differs st) = false := by simpa using h5
        rw [if_pos (hsi.1 ⟨by omega, h5'⟩)] at hk
        simp only [hst] at hk
        have h6 := h2.keep hf24
        exact hk rl a n c Q Sd H4 ⟨h6.blk, h6.now, h6.last, h6.dir, h6.dirQ, h6.dk.mono (by omega), h6.own, h6.apart, h6.inQ⟩ ((hf2.trans' hf24 (T := [s.block]) (fun k hk _ => hk) (by simp)).mono (by simp)) (Grow.refl _ _)
      · intro hs
        have := (hsi.2 hs).2
        rw [this] at h5; simp at h5
    · refine ⟨rfl, fun hs => ?_, h2, hb2, hf2⟩
      have hx : ∃ ys, namesOf st.now ys ∧ True := by
        refine Classical.byContradiction fun hh => ?_
        obtain ⟨ck, L, hm, hl, hgt⟩ := h2.now
        have hks : ∀ k, k ∈ L.map (·.1) ↔ (st.now k).isSome := fun k => by
          have h1 := hgt k
          have h2 := getL_none_iff (k := k) (L := L)
          cases hn : st.now k with
          | none => rw [hn] at h1; simp only [Option.isSome_none, Bool.false_eq_true, iff_false]; exact h2.1 h1
          | some v =>
            rw [hn] at h1
            simp only [Option.isSome_some, iff_true]
            refine Classical.byContradiction fun h => ?_
            rw [h2.2 h] at h1; cases h1
        have hs2 := keys_sorted (L := L) (xs := L.map (·.1)) (ys := ((L.map (·.1)).map bl).mergeSort (fun x y => decide (x ≤ y)) |>.map fun l => (⟨l.toArray⟩ : ByteArray)) ⟨hm.wf.keys, fun y => by simp⟩ (by
          rw [List.map_map]
          have : (bl ∘ fun l : List UInt8 => (⟨l.toArray⟩ : ByteArray)) = id := by funext l; simp [bl]
          rw [this, List.map_id])
        refine hh ⟨_, ⟨hs2.1, fun y => ?_⟩, trivial⟩
        rw [hs2.2, ← hks y]
        simp
      obtain ⟨ys, hys, _⟩ := hx
      have := ((same_iff hys hknd hkm).2 hs).1
      have h3 := hcy ys hys
      have : cn = cl := by omega
      rw [this] at h0
      simp at h0
  rintro J2 H3 ⟨_, hns, h3, hb3, hf3⟩
  rw [if_neg hns] at hk
  -- the plan
  have hs3 := hf3.size
  refine ⟨fun vs H' => ∃ pb Pq pa pn pc rp da dn dc Qp, vs = [.pointer (some ⟨pb, 0, none⟩)] ∧ PlanL H' pb Pq pa pn pc rp da dn dc Qp (planN m.size st st.now) ∧ (∀ k ∈ Pq, H3.size ≤ k) ∧ Fr [] H3 H', ⟨some s, hb3.ld0 (by kernel_rfl) rfl, some s, hb3.ld0 (by kernel_rfl) rfl, exS ⟨some rn, h3.blk.ld (by kernel_rfl) rfl, ?_, ?_⟩⟩, ?_⟩
  · refine planned_ok h3 h3.now hM hB fun ys pa pn pc rp da dn dc H4 Qp hys hpu hpu' hla hdi hdi' hQp hrp hf4 hap hin => ?_
    have hpe : planN m.size st st.now = planM m.size st.last st.dir st.now ys := by unfold planN; rw [namesL_eq hys]
    rw [← hpe] at hpu hla hdi ⊢
    refine var_blk (by kernel_rfl) (by kernel_rfl) (fun x hx => by simp [Value.cells] at hx; rcases hx with rfl | rfl | rfl | rfl | rfl | rfl | rfl <;> rfl) (by rfl) fun pb H5 hpb hbp hf5 => ?_
    have s4 := hf4.size
    have s5 := hf5.size
    have lpb := hbp.lt
    have lrp := hla.lt
    simp only at lpb
    refine ⟨pb, _, pa, pn, pc, rp, da, dn, dc, Qp, rfl, ⟨by simpa [Value.cells] using hbp, hpu.keep hf5, hla.keep hf5, hdi.keep hf5, hap, rfl, ?_⟩, ?_, hf4.keep0 hf5⟩
    · intro k hk
      simp only [List.mem_cons] at hk
      rcases hk with rfl | rfl | hk
      · omega
      · omega
      · have := hin k hk; omega
    · intro k hk
      simp only [List.mem_cons, List.mem_append] at hk
      rcases hk with rfl | rfl | (hk | hk) | hk
      · omega
      · exact hrp
      · exact hQp k hk
      · exact hdi' k hk
      · exact hpu' k hk
  · intro pb H4 hn4
    have h4 := h3.keep hn4.fr
    have e4 := hn4.eq
    have s4 := hn4.size
    refine ⟨h4.blk.ld (by kernel_rfl) rfl, (hb3.keep hn4.fr).ld0 (by kernel_rfl) rfl, (hb3.keep hn4.fr).ld0 (by kernel_rfl) rfl, ?_⟩
    refine planned_ok h4 h4.now hM hB fun ys pa pn pc rp da dn dc H5 Qp hys hpu hpu' hla hdi hdi' hQp hrp hf5 hap hin => ?_
    have hpe : planN m.size st st.now = planM m.size st.last st.dir st.now ys := by unfold planN; rw [namesL_eq hys]
    rw [← hpe] at hpu hla hdi ⊢
    have s5 := hf5.size
    have lrp := hla.lt
    refine (hn4.blk.keep hf5).st0 (by kernel_rfl) (by kernel_rfl) (fun x hx => by simp [Value.cells] at hx; rcases hx with rfl | rfl | rfl | rfl | rfl | rfl | rfl <;> rfl) (by simp [Value.cells]) fun H6 hbp hf6 => ?_
    have s6 := hf6.size
    have hne : ∀ k, H4.size ≤ k → k ∉ [pb] := fun k hk => by simp; omega
    refine ⟨pb, _, pa, pn, pc, rp, da, dn, dc, Qp, rfl, ⟨by simpa [Value.cells] using hbp, hpu.fr hf6 (fun ad e => hne _ (hpu' _ (by simp [e, blkL]))), hla.fr hf6 (hne _ hrp) (fun k hk => hne _ (hQp k hk)), hdi.fr hf6 (fun ad e => hne _ (hdi' _ (by simp [e, blkL]))), hap, rfl, ?_⟩, ?_, (hn4.fr.keep0 hf5).keep hf6 (by simp; omega)⟩
    · intro k hk
      simp only [List.mem_cons] at hk
      rcases hk with rfl | rfl | hk
      · omega
      · omega
      · have := hin k hk; omega
    · intro k hk
      simp only [List.mem_cons, List.mem_append] at hk
      rcases hk with rfl | rfl | (hk | hk) | hk
      · omega
      · omega
      · have := hQp k hk; omega
      · have := hdi' k hk; omega
      · have := hpu' k hk; omega
  rintro J3 pa0 H4 ⟨pb, Pq, pa, pn, pc, rp, da, dn, dc, Qp, he, hP, hPq, hf4⟩
  cases he
  generalize hpl : planN m.size st st.now = p at *
  have h4 := h3.keep hf4
  have hb4 := hb3.keep hf4
  have hF4 : Fr [s.block] H H4 := hf3.trans' hf4 (fun k hk _ => hk) (by simp)
  obtain ⟨g, hge⟩ : ∃ g : Nat, st.gen = g := ⟨st.gen.toNat, by omega⟩
  refine ⟨some s, hb4.ld0 (by kernel_rfl) rfl, exS ⟨st.gen, h4.blk.ld (by kernel_rfl) rfl, _, hP.blk.ldK (j := 2) (by kernel_rfl) rfl, ?_⟩⟩
  have eg : IntKind.i64.wrap (st.gen + 1) = ((g + 1 : Nat) : Int) := by rw [hge, succ64 (by omega)]
  rw [eg, wrapU64 (by omega) (by omega)]
  refine Uint_ok (n := g + 1) (by omega) fun H5 hf5 => ⟨(hP.blk.keep hf5).ldK (j := 2) (by kernel_rfl) rfl, ?_⟩
  rw [wrapU64 (by omega) (by rw [mk_size]; omega)]
  refine Uint_ok (n := (⟨p.dirD.toArray⟩ : ByteArray).size) (by rw [mk_size]; omega) fun H6 hf6 => ?_
  rw [mk_size]
  have hu1 := uintL_len10 (n := g + 1) (by omega)
  have hu2 := uintL_len10 (n := p.dirD.length) (by omega)
  refine chk_true (decide_eq_true (by rw [mk_size, mk_size]; omega)) ?_
  rw [app_mk]
  have hf46 := hf5.keep0 hf6
  have hP6 := hP.fr hf46 (fun _ _ => by simp)
  refine ⟨da, dn, dc, hP6.blk.ldK (j := 3) (by kernel_rfl) rfl, ?_⟩
  have hdn := hP6.dir.len
  refine ⟨fun vs H' => match vs with | [.string x, .int _ i] => ∃ j : Nat, i = j ∧ j ≤ p.dirS.length ∧ x = ⟨(uintL (g + 1) ++ uintL p.dirD.length ++ numsB (p.dirS.take j)).toArray⟩ ∧ Fr [] H6 H' | _ => False,
    fun vs _ => match vs with | [_, .int _ i] => p.dirS.length - i.toNat | _ => 0, ⟨0, rfl, by omega, by rw [mk_size, List.take_zero]; simp [numsB], Fr.refl _ _⟩, ?_⟩
  rintro J4 x i H7 ⟨j, rfl, hj, rfl, hf7⟩
  refine brB_of (fun h0 => ?_) (fun h0 => ?_)
  · have h0' : j < p.dirS.length := by simp at h0; omega
    obtain ⟨z, hz⟩ := getElem_ex h0'
    refine (hP6.dir.keep hf7).get rfl hz (by simp; omega) fun ad e hc => ⟨z, ld_one (by kernel_rfl) hc, ?_⟩
    have hwr := wrapU64_range z
    have hwn : IntKind.u64.wrap z = ((IntKind.u64.wrap z).toNat : Int) := by omega
    rw [hwn]
    refine Uint_ok (n := (IntKind.u64.wrap z).toNat) (by omega) fun H8 hf8 => ?_
    have hul5 := uintL_len10 (n := (IntKind.u64.wrap z).toNat) (by omega)
    have hnl := numsB_len (p.dirS.take j)
    rw [List.length_take] at hnl
    refine chk_true (decide_eq_true (by rw [mk_size, mk_size]; simp only [List.length_append]; omega)) ⟨⟨j + 1, succ64 (by omega), by omega, ?_, hf7.keep0 hf8⟩, ?_⟩
    · rw [app_mk, List.take_add_one, hz, Option.toList_some, numsB_snoc]; simp
    · show p.dirS.length - (IntKind.i64.wrap ((j : Int) + 1)).toNat < p.dirS.length - ((j : Nat) : Int).toNat
      rw [succ64 (by omega)]
      exact mu_lt h0'
  have hjn : j = p.dirS.length := by simp at h0; omega
  rw [List.take_of_length_le (by omega)]
  have hP7 := hP6.fr hf7 (fun _ _ => by simp)
  have hf47 := hf46.keep0 hf7
  have h7 := h4.keep hf47
  have hb7 := hb4.keep hf47
  have htop : (⟨(uintL (g + 1) ++ uintL p.dirD.length ++ numsB p.dirS).toArray⟩ : ByteArray) = ⟨(topB st p).toArray⟩ := by
    unfold topB; rw [hge]; rfl
  rw [htop]
  have hpn := hP7.puts.len
  refine ⟨pa, pn, pc, hP7.blk.ld0 (by kernel_rfl) rfl, some s, hb7.ld0 (by kernel_rfl) rfl, exS ⟨st.gen, h7.blk.ld (by kernel_rfl) rfl, fun b8 H8 hn8 => ?_⟩⟩
  rw [eg] at hn8
  have hP8 := hP7.fr hn8.fr (fun _ _ => by simp)
  refine ⟨hP8.blk.ld0 (by kernel_rfl) rfl, fun b9 H9 hn9 => ?_⟩
  have hP9 := hP8.fr hn9.fr (fun _ _ => by simp)
  have h9 := (h7.keep hn8.fr).keep hn9.fr
  have hb9 := (hb7.keep hn8.fr).keep hn9.fr
  have e8 := hn8.eq; have e9 := hn9.eq
  have s4 := hf4.size; have s7 := hf47.size; have s8 := hn8.size; have s9 := hn9.size
  have hf49 := (hf47.keep0 hn8.fr).keep0 hn9.fr
  have hF9 : Fr [s.block] H H9 := hF4.trans' hf49 (fun k hk _ => hk) (by simp)
  have hone : Sl encPut H9 (some ⟨b8, 0, none⟩) 1 1 [(((g + 1 : Nat) : Int).tmod 2, ⟨(topB st p).toArray⟩)] := (sl_one encPut _ hn8 rfl).keep hn9.fr
  have hgt : ((g + 1 : Nat) : Int).tmod 2 = (st.gen + 1).tmod 2 := by rw [hge]; rfl
  rw [hgt] at hone
  generalize htp : ((st.gen + 1).tmod 2, (⟨(topB st p).toArray⟩ : ByteArray)) = tp at *
  have hsd : ∀ k, H.size ≤ k → k < H9.size → k ∉ Sd := fun k hk _ hh => by have := h.dk.inS k hh; omega
  have hbk := hn9.blk
  -- two layings
  have hbS : b ∉ Sd := fun hh => by have := h.dk.inS b hh; omega
  have hsS : s.block ∉ Sd := h.apart s.block (by simp)
  have hPS : Dj Pq Sd := fun k hk hh => by have := hPq k hk; have := h.dk.inS k hh; omega
  have h9S : b9 ∉ Sd := fun hh => by have := h.dk.inS b9 hh; omega
  have h8S : b8 ∉ Sd := fun hh => by have := h.dk.inS b8 hh; omega
  refine ⟨fun vs H' => match vs with
      | [.int _ i] => ∃ (j : Nat) (Sd' : List Nat), i = j ∧ Fr Sd H9 H' ∧ Grow H9 Sd Sd' ∧
        ((j = 0 ∧ DRep H' d Sd' m (N + 0)) ∨ (j = 1 ∧ DRep H' d Sd' (layM m p.tk.puts).1 (N + 1100) ∧ (layM m p.tk.puts).2 = 0) ∨ (j = 2 ∧ DRep H' d Sd' (layM (layM m p.tk.puts).1 [tp]).1 (N + 1200) ∧ (layM m p.tk.puts).2 = 0 ∧ (layM (layM m p.tk.puts).1 [tp]).2 = 0))
      | _ => False,
    fun vs _ => match vs with | [.int _ i] => 2 - i.toNat | _ => 0, ⟨0, Sd, rfl, Fr.refl _ _, Grow.refl _ _, .inl ⟨rfl, h9.dk⟩⟩, ?_⟩
  rintro J5 i HA ⟨j, SdA, rfl, hfA, hgA, hcase⟩
  have sA := hfA.size
  have hin9 : ∀ k, k ∉ Sd → k < H9.size → k ∉ SdA := fun k hk hl hh => (hgA k hh).elim hk fun h => by omega
  have hbA := hb9.fr hfA hbS
  have hbkA := hbk.fr hfA h9S
  have hPA := hP9.fr hfA hPS
  have hdA : ∀ k ∈ s.block :: rn :: rl :: Q, k ∉ SdA := fun k hk => hin9 k (h.apart k hk) (by
    simp only [List.mem_cons] at hk
    have := hF9.size
    rcases hk with rfl | rfl | rfl | hk
    · omega
    · have := h9.now.lt; omega
    · have := h9.last.lt; omega
    · have := h9.inQ k hk; omega)
  have hblkA := h9.blk.fr hfA hsS
  have hslA : ∀ (m' : Dk) (N' : Nat), DRep HA d SdA m' N' → SL HA s d rn rl a n c Q SdA st m' N' M := fun m' N' hd => by
    have hq : ∀ k ∈ s.block :: rn :: rl :: Q, k ∉ Sd := h.apart
    exact ⟨hblkA, h9.now.fr hfA (hq _ (by simp)), h9.last.fr hfA (hq _ (by simp)) fun k hk => hq k (by simp [hk]), h9.dir.fr hfA fun ad e => hq _ (by simp [h9.dirQ ad.block (by simp [e, blkL])]), h9.dirQ, hd, h9.own, hdA, h9.inQ.le sA⟩
  have hFA : Fr (s.block :: Sd) H HA := hF9.trans' hfA (fun k hk _ => by simp at hk; simp [hk]) (fun k hk _ => by simp [hk])
  have hGA : Grow H Sd SdA := Grow.trans (Grow.refl _ _) hF9.size hgA
  have key : ∀ (m' : Dk) (N' : Nat) (l : List (Int × ByteArray)) (la : Option Addr) (ln lc : Nat), DRep HA d SdA m' N' → m'.keep = m.keep → Sl encPut HA la ln lc l → (∀ k ∈ blkL la, k ∉ SdA ∧ k < HA.size) → N' + 2 * l.length + 1 ≤ N + 1200 →
      ∀ (X : Int → Heap → Prop), (∀ H' S', SL H' s d rn rl a n c Q S' st (layM m' l).1 (N' + 2 * l.length + 1) M → Fr SdA HA H' → Grow HA SdA S' → X (layM m' l).2 H') →
      CallH Try.prog 39 ⟨[.pointer (some s), .slice la ln lc]⟩ HA fun v H' => ∃ e, v = .int .i64 e ∧ X e H' := by
    intro m' N' l la ln lc hd hkm hl hq hN' X hX
    have hln := hl.len
    subst hln
    refine lay_ok hblkA rfl (hdA _ (by simp)) hl hq hd (by omega) (by rw [hkm]; exact hkp) fun H' S' hd' hf' hg' => hX H' S' ?_ hf' hg'
    have hS := hslA m' N' hd
    have s' := hf'.size
    have hq2 : ∀ k ∈ s.block :: rn :: rl :: Q, k ∉ S' := fun k hk hh => (hg' k hh).elim (hdA k hk) fun h => by
      simp only [List.mem_cons] at hk
      rcases hk with rfl | rfl | rfl | hk
      · have := hblkA.lt; omega
      · have := hS.now.lt; omega
      · have := hS.last.lt; omega
      · have := hS.inQ k hk; omega
    exact ⟨hblkA.fr hf' (hdA _ (by simp)), hS.now.fr hf' (hdA _ (by simp)), hS.last.fr hf' (hdA _ (by simp)) fun k hk => hdA k (by simp [hk]), hS.dir.fr hf' fun ad e => hdA _ (by simp [hS.dirQ ad.block (by simp [e, blkL])]), hS.dirQ, hd', hS.own, hq2, hS.inQ.le s'⟩
  -- what an error makes
  have err : ∀ (m' : Dk) (e : Int) (N' : Nat), N' ≤ N + 2000 → (∀ rl' a' n' c' Q' Sd' H', SL H' s d rn rl' a' n' c' Q' Sd' { st with bad := true } m' (N + 2000) M → Fr (s.block :: Sd) H H' → Grow H Sd Sd' → K e H') → ∀ H' S', SL H' s d rn rl a n c Q S' st m' N' M → Fr SdA HA H' → Grow HA SdA S' → Blk H' ⟨b, 0, none⟩ [.pointer (some s)] →
      ∃ a, Ld Try.prog 25 H' ⟨b, 0, none⟩ (.pointer a) ∧ exSome a fun a => ∃ H'', St Try.prog 4 H' (a.add 5) (.bool true) H'' ∧ ∃ n, Value.int .i64 e = .int .i64 n ∧ K n H'' := by
    intro m' e N' hN' hkk H' S' hs hf' hg' hb'
    refine ⟨some s, hb'.ld0 (by kernel_rfl) rfl, exS (hs.bad true fun H'' hs' hf'' => ⟨_, rfl, ?_⟩)⟩
    refine hkk rl a n c Q S' H'' ⟨hs'.blk, hs'.now, hs'.last, hs'.dir, hs'.dirQ, hs'.dk.mono (by omega), hs'.own, hs'.apart, hs'.inQ⟩ ?_ (hGA.trans hFA.size hg')
    refine (hFA.trans' hf' (T := s.block :: Sd) (fun k hk _ => hk) (fun k hk hlt => (hGA k hk).elim (fun h => List.mem_cons_of_mem _ h) fun h => by omega)).trans' hf'' (fun k hk _ => hk) (fun k hk _ => by simp at hk; simp [hk])
  have stp : ∀ H' S', Fr SdA HA H' → Grow HA SdA S' → Fr Sd H9 H' ∧ Grow H9 Sd S' := fun H' S' hf' hg' =>
    ⟨hfA.trans' hf' (fun k hk _ => hk) (fun k hk hlt => (hgA k hk).elim id fun h => by omega), hgA.trans sA hg'⟩
  have hbN : b ∉ SdA := hin9 b hbS (by omega)
  rcases hcase with ⟨rfl, hd⟩ | ⟨rfl, hd, hl0⟩ | ⟨rfl, hd, hl0, hl1⟩
  · refine brB_of (fun _ => chk_true (by decide) ⟨pa, pn, pc, hbkA.ld (j := Int.toNat ((0 : Nat) : Int) * 1) (by kernel_rfl) rfl, some s, hbA.ld0 (by kernel_rfl) rfl, ?_⟩) (fun h => by simp at h)
    refine key m (N + 0) p.tk.puts pa pn pc hd rfl hPA.puts (fun k hk => ?_) (by omega) _ fun H' S' hs' hf' hg' => ?_
    · have : k ∈ Pq := by rw [hP.sub]; simp [hk]
      exact ⟨hin9 k (hPS k this) (hP9.inP k this), hPA.inP k this⟩
    · have hb' := hbA.fr hf' hbN
      refine brB_of (fun h0 => ?_) (fun h0 => ?_)
      · have h0' : (layM m p.tk.puts).2 ≠ 0 := by simpa using h0
        rw [if_pos h0'] at hk
        exact err (layM m p.tk.puts).1 (layM m p.tk.puts).2 _ (by omega) hk H' S' hs' hf' hg' hb'
      · have h0' : (layM m p.tk.puts).2 = 0 := by simpa using h0
        refine ⟨⟨1, S', by rw [succ64 (by omega)], (stp H' S' hf' hg').1, (stp H' S' hf' hg').2, .inr (.inl ⟨rfl, hs'.dk.mono (by omega), h0'⟩)⟩, ?_⟩
        show 2 - (IntKind.i64.wrap (((0 : Nat) : Int) + 1)).toNat < 2 - ((0 : Nat) : Int).toNat
        rw [succ64 (by omega)]
        exact mu_lt (by omega)
  · refine brB_of (fun _ => chk_true (by decide) ⟨_, 1, 1, hbkA.ld (j := Int.toNat ((1 : Nat) : Int) * 1) (by kernel_rfl) rfl, some s, hbA.ld0 (by kernel_rfl) rfl, ?_⟩) (fun h => by simp at h)
    rw [if_neg (by simp [hl0])] at hk
    refine key (layM m p.tk.puts).1 (N + 1100) [tp] _ 1 1 hd (layM_keep _ _) (hone.fr hfA (fun ad e => by cases e; exact h8S)) (fun k hk => ?_) (by simp) _ fun H' S' hs' hf' hg' => ?_
    · simp only [blkL, List.mem_singleton] at hk
      subst hk
      exact ⟨hin9 _ h8S (by omega), by omega⟩
    · have hb' := hbA.fr hf' hbN
      refine brB_of (fun h0 => ?_) (fun h0 => ?_)
      · have h0' : (layM (layM m p.tk.puts).1 [tp]).2 ≠ 0 := by simpa using h0
        rw [if_pos h0'] at hk
        exact err (layM (layM m p.tk.puts).1 [tp]).1 (layM (layM m p.tk.puts).1 [tp]).2 _ (by simp) hk H' S' hs' hf' hg' hb'
      · have h0' : (layM (layM m p.tk.puts).1 [tp]).2 = 0 := by simpa using h0
        refine ⟨⟨2, S', by rw [succ64 (by omega)], (stp H' S' hf' hg').1, (stp H' S' hf' hg').2, .inr (.inr ⟨rfl, hs'.dk.mono (by simp), hl0, h0'⟩)⟩, ?_⟩
        show 2 - (IntKind.i64.wrap (((1 : Nat) : Int) + 1)).toNat < 2 - ((1 : Nat) : Int).toNat
        rw [succ64 (by omega)]
        exact mu_lt (by omega)
  · rw [if_neg (by simp [hl0]), if_neg (by simp [hl1])] at hk
    refine brB_of (fun h => by simp at h) (fun _ => ⟨some s, hbA.ld0 (by kernel_rfl) rfl, exS ⟨st.gen, hblkA.ld (by kernel_rfl) rfl, exS ?_⟩⟩)
    rw [eg]
    refine Go.Proofs.Blk.set hblkA (j := 4) (v := .int .i64 ((g + 1 : Nat) : Int)) (by kernel_rfl) (by kernel_rfl) rfl rfl (by simp) fun HB hB1 fB => ?_
    have hbs' : ∀ {k : Nat}, k ≠ s.block → k ∉ [s.block] := fun h => by simpa using h
    have hbB := hbA.fr fB (hbs' hbs)
    have hPs : Dj Pq [s.block] := fun k hk => hbs' (by have := hPq k hk; omega)
    have hPB := hPA.fr fB hPs
    refine ⟨some s, hbB.ld0 (by kernel_rfl) rfl, some s, hbB.ld0 (by kernel_rfl) rfl, some rp, hPB.blk.ldK (j := 1) (by kernel_rfl) rfl, da, dn, dc, hPB.blk.ldK (j := 3) (by kernel_rfl) rfl, exS ?_⟩
    refine Go.Proofs.Blk.set hB1 (j := 2) (v := .map (some rp)) (by kernel_rfl) (by kernel_rfl) rfl rfl (by simp) fun HC hC1 fC => ?_
    have hPC := hPB.fr fC hPs
    refine ⟨hPC.blk.ldK (j := 3) (by kernel_rfl) rfl, (hbB.fr fC (hbs' hbs)).ld0 (by kernel_rfl) rfl, exS ?_⟩
    refine Go.Proofs.Blk.set hC1 (j := 3) (v := .slice da dn dc) (by kernel_rfl) (by kernel_rfl) rfl rfl (by simp) fun HD hD1 fD => ⟨_, rfl, ?_⟩
    have hPD := hPC.fr fD hPs
    have fAD : Fr [s.block] HA HD := (fB.trans' fC (T := [s.block]) (fun k hk _ => hk) (fun k hk _ => hk)).trans' fD (fun k hk _ => hk) (fun k hk _ => hk)
    have hSd : ∀ k ∈ SdA, k ∉ [s.block] := fun k hk hh => hdA s.block (by simp) (by simp only [List.mem_singleton] at hh; rw [← hh]; exact hk)
    have hmem : ∀ k ∈ rp :: (Qp ++ blkL da), k ∈ Pq := fun k hk => by
      rw [hP.sub]
      simp only [List.mem_cons, List.mem_append] at hk ⊢
      rcases hk with h | h | h
      · exact .inr (.inl h)
      · exact .inr (.inr (.inl (.inl h)))
      · exact .inr (.inr (.inl (.inr h)))
    have hsA := hslA _ _ hd
    refine hk rp da dn dc (Qp ++ blkL da) SdA HD ⟨?_, hsA.now.fr fAD (fun hh => h.own (by simp only [List.mem_singleton] at hh; simp [hh])), hPD.last.mono (by simp +contextual), hPD.dir, by simp +contextual, (hd.fr fAD hSd).mono (by omega), ?_, ?_, ?_⟩ (hFA.trans' fAD (fun k hk _ => hk) (fun k hk _ => by simp at hk; simp [hk])) hGA
    · have e : ((g + 1 : Nat) : Int) = st.gen + 1 := by rw [hge]; rfl
      rw [← e]
      rw [hnb] at hD1
      exact hD1
    · intro hh
      rcases List.mem_cons.1 hh with hh | hh
      · exact h.own (by simp [hh])
      · have := hPq _ (hmem _ hh); omega
    · intro k hk hh
      simp only [List.mem_cons] at hk
      rcases hk with rfl | rfl | hk
      · exact hdA _ (by simp) hh
      · exact hdA _ (by simp) hh
      · have := hmem k (by simp only [List.mem_cons]; exact hk)
        exact hin9 k (hPS k this) (hP9.inP k this) hh
    · intro k hk
      exact hPD.inP k (hmem k (List.mem_cons_of_mem _ hk))
end Go.Proofs
