/- A part of a proof: see the last text of this claim. -/
import Derived.Test.YtgjbljhocedpfaaL10d
set_option linter.unusedVariables false
set_option maxRecDepth 100000
open Go Go.GV
namespace Go.Proofs

/-- What a plan that fits is. -/
structure PlanOk (size : Int) (p : Plan) (F : List Int) : Prop where
  fits : p.tk.fits = true
  puts : p.tk.puts.map (·.1) ++ p.tk.free = F
  need : p.tk.need = p.tk.puts.length
  small : TkS p.tk
  k20 : p.dirS.length ≤ 20
  kch : p.dirS.length = nCh p.dirD.length
  room : (p.all : Int) + 2 * p.dirS.length ≤ size - 2
  dirF : ∀ z ∈ p.dirS, z ∈ F
  filF : ∀ f ∈ p.files, ∀ z ∈ f.2.2, 2 ≤ z ∧ z < size
  dat : ∀ f ∈ p.files, f.2.2.length = nCh f.2.1.size
  sum : p.all = (p.files.map fun f => f.2.2.length).sum
theorem planM_ok {size : Int} {last : ByteArray → Option (ByteArray × List Int)} {dir : List Int} {now : ByteArray → Option ByteArray} {ys : List ByteArray} (hl : LastOk last) (hr : ∀ k, lastS last dir k → 2 ≤ k ∧ k < size) (hs : 0 ≤ size)
    (h : (planM size last dir now ys).fits = true) : PlanOk size (planM size last dir now ys) (freeN (lastS last dir) size.toNat) := by
  unfold planM at h ⊢
  simp only at h ⊢
  generalize ht0 : ({ free := freeN (lastS last dir) size.toNat, puts := [], need := 0, fits := true } : Tk) = t0 at h ⊢
  simp only [Bool.and_eq_true, decide_eq_true_eq] at h
  obtain ⟨⟨h1, h2⟩, h3⟩ := h
  have hI0 : TkI (freeN (lastS last dir) size.toNat) t0 := fun _ => by subst ht0; simp
  have hI := (hI0.files (last := last) (now := now) (l := ys)).takes (l := chunksS ⟨(dirB (filesM last now ys t0).2).toArray⟩) h1
  have hS0 : TkS t0 := by subst ht0; intro p hp; simp at hp
  have hf1 := takesM_fits h1
  have hm1 := filesM_mem hl hf1
  have hm2 := takesM_mem h1
  have hfr : ∀ z ∈ t0.free, 2 ≤ z ∧ z < size := fun z hz => by
    subst ht0
    have := freeN_mem.1 hz
    omega
  refine ⟨h1, hI.1, hI.2, TkS.takes (hS0.files) fun c hc => chunks_small hc, h2, ?_, h3, fun z hz => ?_, fun f hf z hz => ?_, fun f hf => (filesM_data f hf).2, rfl⟩
  · rw [takesM_len, chunksS_len, mk_size]
  · have := hm1.2 z (hm2.1 z hz)
    subst ht0; exact this
  · rcases hm1.1 f hf z hz with h | h
    · exact hfr z h
    · rcases h with h | h
      · simp at h
      · exact hr z (.inr h)

/-- A store that goes well, on a disk that was never cut. -/
structure Good (st : Sto) (m : Dk) (B G : Nat) : Prop where
  dk : DkOk m
  sz : 8 ≤ m.size ∧ m.size ≤ 512
  bad : st.bad = false
  fits : (planN m.size st st.now).fits = true
  now : ∀ y d, st.now y = some d → rightP y ∧ d.size ≤ B
  last : ∀ nm d xs, st.last nm = some (d, xs) → xs.length = nCh d.size ∧ d.size ≤ B
  rng : ∀ k, lastS st.last st.dir k → 2 ≤ k ∧ k < m.size
  gen : 0 ≤ st.gen ∧ st.gen ≤ G
  dir : st.dir.length ≤ 20
theorem Good.mono {st : Sto} {m : Dk} {B G B' G' : Nat} (h : Good st m B G) (hB : B ≤ B') (hG : G ≤ G') : Good st m B' G' :=
  ⟨h.dk, h.sz, h.bad, h.fits, fun y d e => ⟨(h.now y d e).1, Nat.le_trans (h.now y d e).2 hB⟩, fun nm d xs e => ⟨(h.last nm d xs e).1, Nat.le_trans (h.last nm d xs e).2 hB⟩, h.rng, ⟨h.gen.1, by have := h.gen.2; omega⟩, h.dir⟩
theorem Good.plb {st : Sto} {m : Dk} {B G : Nat} (h : Good st m B G) (hB : B ≤ 1000000) {now : ByteArray → Option ByteArray} (hn : ∀ y d, now y = some d → rightP y ∧ d.size ≤ 1000000) : PlB st now :=
  ⟨by have := h.dir; omega, fun nm d xs e => ⟨(h.last nm d xs e).1, by have := (h.last nm d xs e).2; omega⟩, fun y d e => ⟨by have := (hn y d e).1.2.2; omega, (hn y d e).2⟩⟩
theorem Good.change {st : Sto} {m : Dk} {B G : Nat} (h : Good st m B G) {ch : (ByteArray → Option ByteArray) → ByteArray → Option ByteArray} (hn : ∀ y d, ch st.now y = some d → rightP y ∧ d.size ≤ B) : Good (changeM m.size st ch).1 m B G := by
  unfold changeM
  split
  · rename_i hf
    exact ⟨h.dk, h.sz, h.bad, hf, hn, h.last, h.rng, h.gen, h.dir⟩
  · exact h
theorem changeM_err {size : Int} {st : Sto} {ch : (ByteArray → Option ByteArray) → ByteArray → Option ByteArray} : ((changeM size st ch).2 = 0 ∧ (changeM size st ch).1 = { st with now := ch st.now }) ∨ ((changeM size st ch).2 = 2 ∧ (changeM size st ch).1 = st) := by
  unfold changeM
  split
  · exact .inl ⟨rfl, rfl⟩
  · exact .inr ⟨rfl, rfl⟩
theorem Good.planOk {st : Sto} {m : Dk} {B G : Nat} (h : Good st m B G) {now : ByteArray → Option ByteArray} (hf : (planN m.size st now).fits = true) : PlanOk m.size (planN m.size st now) (freeN (lastS st.last st.dir) m.size.toNat) :=
  planM_ok (fun nm d xs e => (h.last nm d xs e).1) h.rng (by have := h.sz; omega) hf
theorem PlanOk.len {size : Int} {p : Plan} {T : Int → Prop} (h : PlanOk size p (freeN T size.toNat)) (hs : size ≤ 512) : p.tk.puts.length ≤ 512 := by
  have h1 := congrArg List.length h.puts
  rw [List.length_append, List.length_map] at h1
  have := freeN_len T size.toNat
  omega
theorem PlanOk.dirD {size : Int} {p : Plan} {F : List Int} (h : PlanOk size p F) : p.dirD.length ≤ 1280 := by
  have := h.kch
  have := h.k20
  unfold nCh at *
  omega
theorem PlanOk.put {size : Int} {p : Plan} {T : Int → Prop} (h : PlanOk size p (freeN T size.toNat)) : ∀ q ∈ p.tk.puts, 0 ≤ q.1 ∧ q.1 < size ∧ q.2.size ≤ 64 ∧ 2 ≤ q.1 ∧ ¬ T q.1 := fun q hq => by
  have h1 : q.1 ∈ freeN T size.toNat := by
    rw [← h.puts]
    exact List.mem_append_left _ (List.mem_map_of_mem hq)
  have h2 := freeN_mem.1 h1
  exact ⟨by omega, by omega, h.small q hq, h2.1, h2.2.2⟩
theorem numsB_small : ∀ (l : List Int), (∀ z ∈ l, 0 ≤ z ∧ z < 512) → (numsB l).length ≤ 2 * l.length
  | [], _ => by simp [numsB]
  | x :: l, h => by
    have ih := numsB_small l fun z hz => h z (by simp [hz])
    have hx := h x (by simp)
    have hw : IntKind.u64.wrap x = x := wrapU64 hx.1 (by omega)
    have := uintL_len 1 x.toNat (by omega)
    unfold numsB at ih ⊢
    simp only [List.flatMap_cons, List.length_append, List.length_cons, hw]
    omega
theorem top_small {st : Sto} {size : Int} {p : Plan} {T : Int → Prop} (h : PlanOk size p (freeN T size.toNat)) (hs : size ≤ 512) (hg : 0 ≤ st.gen ∧ st.gen ≤ 1000000000) : (topB st p).length ≤ 64 := by
  unfold topB
  have h1 := uintL_len10 (n := (st.gen + 1).toNat) (by omega)
  have h2 := h.dirD
  have h3 := uintL_len 1 p.dirD.length (by omega)
  have h4 := numsB_small p.dirS fun z hz => by
    have := freeN_mem.1 (h.dirF z hz)
    omega
  have := h.k20
  simp only [List.length_append]
  omega
theorem sum_flat : ∀ (fs : List (ByteArray × ByteArray × List Int)), (fs.flatMap fun f => f.2.2).length = (fs.map fun f => f.2.2.length).sum
  | [] => rfl
  | f :: fs => by simp [sum_flat fs]

/-- A Sync that goes well. -/
structure Synced (st : Sto) (m : Dk) (st' : Sto) (m' : Dk) (B G : Nat) : Prop where
  good : Good st' m' B (G + 1)
  now : st'.now = st.now
  same : sameP st'
  size : m'.size = m.size
  stay : sameP st → st' = st ∧ m' = m
  more : ¬ sameP st → st'.gen = st.gen + 1 ∧ m.calls < m'.calls
theorem good_sync {st : Sto} {m : Dk} {B G : Nat} (h : Good st m B G) {ys : List ByteArray} (hys : namesOf st.now ys) (hG : G + 1 ≤ 1000000000) : (syncM st m).2.2 = 0 ∧ Synced st m (syncM st m).1 (syncM st m).2.1 B G := by
  have hno : ¬ (st.bad = true ∨ m.off = true) := by simp [h.bad, h.dk.off]
  unfold syncM
  rw [if_neg hno]
  by_cases hs : sameP st
  · rw [if_pos hs]
    have e : { st with bad := false } = st := by
      have := h.bad
      cases st; simp at this; simp [this]
    rw [e]
    exact ⟨rfl, ⟨h.mono (Nat.le_refl _) (by omega), rfl, hs, rfl, fun _ => ⟨rfl, rfl⟩, fun h => absurd hs h⟩⟩
  rw [if_neg hs]
  have hp := h.planOk h.fits
  have hsz := h.sz
  have hpe : planN m.size st st.now = planM m.size st.last st.dir st.now ys := by unfold planN; rw [namesL_eq hys]
  generalize hpl : planN m.size st st.now = p at hp hpe ⊢
  have hl1 := lay_fine p.tk.puts m h.dk fun q hq => by
    have := hp.put q hq
    exact ⟨this.1, this.2.1, this.2.2.1⟩
  rw [if_neg (by simp [hl1.1])]
  have hsize1 := lay_size p.tk.puts m
  have hgen := h.gen
  have hg2 : (st.gen + 1).tmod 2 = (st.gen + 1) % 2 := Int.tmod_eq_emod_of_nonneg (by omega)
  have htop := top_small (st := st) hp hsz.2 (by omega)
  have hl2 := lay_fine [((st.gen + 1).tmod 2, (⟨(topB st p).toArray⟩ : ByteArray))] (layM m p.tk.puts).1 hl1.2.1 fun q hq => by
    rw [List.mem_singleton] at hq
    subst hq
    rw [hg2, mk_size, hsize1]
    omega
  rw [if_neg (by simp [hl2.1])]
  have hsize2 := lay_size [((st.gen + 1).tmod 2, (⟨(topB st p).toArray⟩ : ByteArray))] (layM m p.tk.puts).1
  refine ⟨rfl, ?_⟩
  generalize hm' : (layM (layM m p.tk.puts).1 [((st.gen + 1).tmod 2, (⟨(topB st p).toArray⟩ : ByteArray))]).1 = m' at hl2 hsize2 ⊢
  have hms : m'.size = m.size := by rw [hsize2, hsize1]
  have hfiles : p.files = (filesM st.last st.now ys { free := freeN (lastS st.last st.dir) m.size.toNat, puts := [], need := 0, fits := true }).2 := by rw [hpe]; rfl
  have hnames : p.files.map (·.1) = ys := by rw [hfiles, filesM_names]
  have hnd : (p.files.map (·.1)).Nodup := by rw [hnames]; exact names_nodup hys
  have hmem := lastOf_mem p.files hnd
  have hdat : ∀ f ∈ p.files, f.2.1 = (st.now f.1).getD ⟨#[]⟩ ∧ f.2.2.length = nCh f.2.1.size := by rw [hfiles]; exact filesM_data
  have hrng : ∀ k, lastS (lastOf p.files) p.dirS k → 2 ≤ k ∧ k < m'.size := by
    rintro k (hk | ⟨nm, d, xs, h1, h2⟩)
    · have := freeN_mem.1 (hp.dirF k hk)
      omega
    · rw [hms]
      exact hp.filF _ ((hmem nm (d, xs)).1 h1) k h2
  have hnow : ∀ y ∈ ys, ∃ d, st.now y = some d := fun y hy => by
    have := (hys.2 y).1 hy
    cases hn : st.now y with
    | none => rw [hn] at this; cases this
    | some d => exact ⟨d, rfl⟩
  have hlast : ∀ nm d xs, lastOf p.files nm = some (d, xs) → st.now nm = some d ∧ xs.length = nCh d.size := fun nm d xs e => by
    have hf := (hmem nm (d, xs)).1 e
    have h1 := hdat _ hf
    have h2 : nm ∈ ys := by rw [← hnames]; exact List.mem_map_of_mem (f := (·.1)) hf
    obtain ⟨d', hd'⟩ := hnow nm h2
    simp only [hd', Option.getD_some] at h1
    rw [hd', h1.1]
    exact ⟨rfl, by rw [← h1.1]; exact h1.2⟩
  refine ⟨⟨hl2.2.1, by omega, rfl, ?_, h.now, fun nm d xs e => ?_, hrng, ⟨by show 0 ≤ st.gen + 1; omega, by show st.gen + 1 ≤ _; omega⟩, hp.k20⟩, rfl, ?_, hms, fun h => absurd h hs, fun _ => ⟨rfl, ?_⟩⟩
  · -- what was synced fits again
    rw [hms]
    unfold planN
    show (planM m.size (lastOf p.files) p.dirS st.now (namesL st.now)).fits = true
    rw [namesL_eq hys]
    unfold planM
    simp only
    have hsame := filesM_same (last := st.last) (last' := lastOf p.files) (now := st.now) { free := freeN (lastS (lastOf p.files) p.dirS) m.size.toNat, puts := [], need := 0, fits := true } ys { free := freeN (lastS st.last st.dir) m.size.toNat, puts := [], need := 0, fits := true } fun f hf => by
      rw [← hfiles] at hf
      exact (hmem f.1 f.2).2 hf
    rw [hsame, ← hfiles]
    simp only
    have hdd : dirB p.files = p.dirD := by rw [hpe]; rfl
    rw [hdd]
    have hk : (chunksS (⟨p.dirD.toArray⟩ : ByteArray)).length = p.dirS.length := by rw [chunksS_len, mk_size, hp.kch]
    have hroom := freeN_room (T := lastS (lastOf p.files) p.dirS) (n := m.size.toNat) (L := (p.files.flatMap fun f => f.2.2) ++ p.dirS) fun k hk => by
      rcases hk with hk | ⟨nm, d, xs, h1, h2⟩
      · exact List.mem_append_right _ hk
      · exact List.mem_append_left _ (List.mem_flatMap.2 ⟨_, (hmem nm (d, xs)).1 h1, h2⟩)
    rw [List.length_append, sum_flat, ← hp.sum] at hroom
    have hr := hp.room
    have := takesM_room (chunksS (⟨p.dirD.toArray⟩ : ByteArray)) { free := freeN (lastS (lastOf p.files) p.dirS) m.size.toNat, puts := [], need := 0, fits := true } rfl (by rw [hk]; simp only; omega)
    rw [this.1, takesM_len, hk, ← hp.sum]
    simp only [Bool.and_eq_true, decide_eq_true_eq]
    exact ⟨⟨trivial, hp.k20⟩, hr⟩
  · have := hlast nm d xs e
    exact ⟨this.2, (h.now nm d this.1).2⟩
  · intro y
    show st.now y = (lastOf p.files y).map (·.1)
    cases hl : lastOf p.files y with
    | some v => rw [(hlast y v.1 v.2 hl).1]; rfl
    | none =>
      cases hn : st.now y with
      | none => rfl
      | some d =>
        have hy : y ∈ p.files.map (·.1) := by rw [hnames]; exact (hys.2 y).2 (by rw [hn]; rfl)
        obtain ⟨f, hf, e⟩ := List.mem_map.1 hy
        have := (hmem f.1 f.2).2 hf
        rw [e, hl] at this; cases this
  · have := hl1.2.2
    have := hl2.2.2
    omega
end Go.Proofs
