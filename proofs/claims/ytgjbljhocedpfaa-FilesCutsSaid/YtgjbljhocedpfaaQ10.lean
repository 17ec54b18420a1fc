/- A part of a proof: see the last text of this claim. -/
import Derived.Test.YtgjbljhocedpfaaP10v
set_option linter.unusedVariables false
set_option maxRecDepth 100000
open Go Go.GV
namespace Go.Proofs

abbrev Step10 := Int × Int × ByteArray × ByteArray × Int
def encStep : Enc Step10 := ⟨fun x => [.int .i64 x.1, .int .i64 x.2.1, .string x.2.2.1, .string x.2.2.2.1, .int .u64 x.2.2.2.2], 5, fun _ => rfl, by decide, fun _ v h => by simp at h; rcases h with rfl | rfl | rfl | rfl | rfl <;> rfl⟩
def wt (x : Step10) : Nat := x.2.2.1.size + x.2.2.2.1.size
def wts (l : List Step10) : Nat := (l.map wt).sum
theorem wts_snoc {l : List Step10} {k : Nat} {x : Step10} (h : l[k]? = some x) : wts (l.take (k + 1)) = wts (l.take k) + wt x := by
  unfold wts
  rw [List.take_add_one, h]
  simp
theorem wts_take (l : List Step10) (k : Nat) : wts (l.take k) ≤ wts l := by
  unfold wts
  have : (l.map wt).sum = ((l.take k).map wt).sum + ((l.drop k).map wt).sum := by
    rw [← List.sum_append, ← List.map_append, List.take_append_drop]
  omega
theorem heavy_ok {a : Option Addr} {n c : Nat} {l : List Step10} {H : Heap} {K : Bool → Heap → Prop} (hl : Sl encStep H a n c l) (hk : ∀ b, (b = false → n ≤ 60 ∧ wts l ≤ 8192) → K b H) :
    CallH Try.prog 9 ⟨[.slice a n c]⟩ H fun v H' => ∃ b, v = .bool b ∧ K b H' := by
  apply vc_law10_heavy
  have hlen := hl.len
  by_cases hbig : n ≤ 1000000000
  · refine ⟨fun vs H' => match vs with | [.int _ s, .int _ i] => ∃ k : Nat, i = k ∧ k ≤ n ∧ 0 ≤ s ∧ s ≤ 4000000 ∧ ((wts (l.take k) : Int) ≤ s ∨ 8192 < s) ∧ H' = H | _ => False,
      fun vs _ => match vs with | [_, .int _ i] => n - i.toNat | _ => 0, ⟨0, rfl, by omega, by split <;> omega, by split <;> omega, .inl (by simp [wts]; split <;> omega), rfl⟩, ?_⟩
    rintro J s i H' ⟨k, rfl, hle, h0, h1, hw, rfl⟩
    have fin : (s ≤ 8192 → k = n) → brB (decide (s > 8192)) (∃ b, Value.bool true = .bool b ∧ K b H') (∃ b, Value.bool (decide ((n : Int) > 60)) = .bool b ∧ K b H') := by
      intro hfin
      refine brB_of (fun _ => ⟨_, rfl, hk _ (by simp)⟩) (fun h2 => ⟨_, rfl, hk _ fun h => ?_⟩)
      have h2' : s ≤ 8192 := by simpa using h2
      have := hfin h2'
      subst this
      rw [List.take_of_length_le (by omega)] at hw
      have : ¬ ((k : Int) > 60) := by simpa using h
      exact ⟨by omega, by omega⟩
    refine ⟨fun vs H'' => vs = [] ∧ H'' = H' ∧ k < n ∧ s ≤ 8192, brB_of (fun g => brB_of (fun g1 => ⟨rfl, rfl, by simpa using g, by simpa using g1⟩) (fun g1 => fin fun h => by simp at g1; omega)) (fun g => fin fun _ => by simp at g; omega), ?_⟩
    rintro J2 H'' ⟨_, rfl, hk', g1'⟩
    have hx : l[k]? = some (l[k]'(by omega)) := by simp
    generalize l[k]'(by omega) = x at hx
    have hws := wts_snoc hx
    refine hl.get rfl hx (decide_eq_true (by omega)) fun ad ea hc => ⟨_, ld_part (j := 3) (by kernel_rfl) hc rfl, ?_⟩
    refine hl.get rfl hx (decide_eq_true (by omega)) fun ad ea hc => ⟨_, ld_part (j := 2) (by kernel_rfl) hc rfl, ?_⟩
    rw [succ64 (by omega)]
    have hm : ∀ z : Nat, 0 ≤ (if (1048576 : Int) < (z : Int) then (1048576 : Int) else z) ∧ (if (1048576 : Int) < (z : Int) then (1048576 : Int) else z) ≤ 1048576 ∧ ((z : Int) ≤ (if (1048576 : Int) < (z : Int) then (1048576 : Int) else z) ∨ (if (1048576 : Int) < (z : Int) then (1048576 : Int) else z) = 1048576) := by intro z; split <;> omega
    have m1 := hm x.2.2.1.size
    have m2 := hm x.2.2.2.1.size
    have hwt : wt x = x.2.2.1.size + x.2.2.2.1.size := rfl
    generalize (if (1048576 : Int) < (x.2.2.1.size : Int) then (1048576 : Int) else x.2.2.1.size) = z1 at m1 ⊢
    generalize (if (1048576 : Int) < (x.2.2.2.1.size : Int) then (1048576 : Int) else x.2.2.2.1.size) = z2 at m2 ⊢
    rw [wrap64_of (n := z2 + z1) (by omega) (by omega), wrap64_of (by omega) (by omega)]
    exact ⟨⟨k + 1, rfl, by omega, by omega, by omega, by rw [hws]; omega, rfl⟩, mu_lt hk'⟩
  · refine ⟨fun vs H' => match vs with | [.int _ s, .int _ i] => s = 1048576 ∧ H' = H | _ => False, fun _ _ => 0, ⟨by rw [if_pos (by omega)], rfl⟩, ?_⟩
    rintro J s i H' ⟨rfl, rfl⟩
    have fin : brB (decide ((1048576 : Int) > 8192)) (∃ b, Value.bool true = .bool b ∧ K b H') (∃ b, Value.bool (decide ((n : Int) > 60)) = .bool b ∧ K b H') := brB_of (fun _ => ⟨_, rfl, hk _ (by simp)⟩) (fun h => by simp at h)
    refine ⟨fun _ _ => False, brB_of (fun g => brB_of (fun g1 => by simp at g1) (fun _ => fin)) (fun _ => fin), fun J H'' h => h.elim⟩

/-! what the calls answer -/
theorem writeS_cases (size : Int) (st : Sto) (name data : ByteArray) : ((writeS size st name data).2 = 0 ∧ rightP name ∧ (writeS size st name data).1 = { st with now := putN st.now name data }) ∨ ((writeS size st name data).2 ≠ 0 ∧ (writeS size st name data).1 = st) := by
  unfold writeS
  split
  · rename_i h
    rcases changeM_err (size := size) (st := st) (ch := fun now => putN now name data) with ⟨h1, h2⟩ | ⟨h1, h2⟩
    · exact .inl ⟨h1, h, h2⟩
    · exact .inr ⟨by rw [h1]; decide, h2⟩
  · exact .inr ⟨(by decide : (100 : Int) ≠ 0), rfl⟩
theorem deleteS_cases (size : Int) (st : Sto) (name : ByteArray) : ((deleteS size st name).2 = 0 ∧ (deleteS size st name).1 = { st with now := delN st.now name }) ∨ ((deleteS size st name).2 ≠ 0 ∧ (deleteS size st name).1 = st) := by
  unfold deleteS
  split
  · split
    · rcases changeM_err (size := size) (st := st) (ch := fun now => delN now name) with ⟨h1, h2⟩ | ⟨h1, h2⟩
      · exact .inl ⟨h1, h2⟩
      · exact .inr ⟨by rw [h1]; decide, h2⟩
    · exact .inr ⟨(by decide : (3 : Int) ≠ 0), rfl⟩
  · exact .inr ⟨(by decide : (100 : Int) ≠ 0), rfl⟩
theorem renameS_cases (size : Int) (st : Sto) (from' to : ByteArray) : ((renameS size st from' to).2 = 0 ∧ (st.now from').isSome ∧ (renameS size st from' to).1 = { st with now := putN (delN st.now from') to ((st.now from').getD ⟨#[]⟩) }) ∨ ((renameS size st from' to).2 ≠ 0 ∧ (renameS size st from' to).1 = st ∧ ((renameS size st from' to).2 = 3 → (st.now from').isSome = false)) := by
  unfold renameS
  split
  · split
    · rename_i h2
      rcases changeM_err (size := size) (st := st) (ch := fun now => putN (delN now from') to ((st.now from').getD ⟨#[]⟩)) with ⟨h1, h3⟩ | ⟨h1, h3⟩
      · exact .inl ⟨h1, h2, h3⟩
      · exact .inr ⟨by rw [h1]; decide, h3, fun h => by rw [h1] at h; exact absurd h (by decide)⟩
    · rename_i h2; exact .inr ⟨(by decide : (3 : Int) ≠ 0), rfl, fun _ => by simpa using h2⟩
  · exact .inr ⟨(by decide : (100 : Int) ≠ 0), rfl, fun h => absurd h (by decide : ¬ (100 : Int) = 3)⟩
theorem W10.mono {H0 H : Heap} {pr : List (Nat × Obj)} {s d : Addr} {st : Sto} {m : Dk} {N M N' M' : Nat} (h : W10 H0 pr H s d st m N M) (hN : N ≤ N') (hM : M ≤ M') : W10 H0 pr H s d st m N' M' := by
  obtain ⟨⟨rn, rl, a, n, c, Q, Sd, hs, h1, h2⟩, hfr, hpr⟩ := h
  have h' := hs.mono hM
  exact ⟨⟨rn, rl, a, n, c, Q, Sd, ⟨h'.blk, h'.now, h'.last, h'.dir, h'.dirQ, h'.dk.mono hN, h'.own, h'.apart, h'.inQ⟩, h1, h2⟩, hfr, hpr⟩

/-! shown -/
theorem planM_fits {size : Int} {last : ByteArray → Option (ByteArray × List Int)} {dir : List Int} {now : ByteArray → Option ByteArray} {y d : ByteArray} (hn : now y = some d) (hd : d.size ≤ 64) (hy : y.size ≤ 16) (hl : ∀ k, ¬ lastS last dir k) (hs : 8 ≤ size ∧ size ≤ 512) (hlast : last y = none) :
    (planM size last dir now [y]).fits = true := by
  unfold planM
  simp only [filesM, hn, hlast, Option.getD_some, Option.getD_none]
  have hroom := freeN_room (T := lastS last dir) (n := size.toNat) (L := []) fun k hk => absurd hk (hl k)
  simp only [List.length_nil, Nat.add_zero] at hroom
  generalize ht0 : ({ free := freeN (lastS last dir) size.toNat, puts := [], need := 0, fits := true } : Tk) = t0
  have hf0 : t0.fits = true ∧ size.toNat - 2 ≤ t0.free.length := by subst ht0; exact ⟨rfl, hroom⟩
  have hc : (chunksS d).length ≤ 1 := by rw [chunksS_len]; unfold nCh; omega
  have h1 := fileM_room (old := chunksS ⟨#[]⟩) (ws := []) (chunksS d) 0 t0 hf0.1 (by omega)
  have hx := fileM_len (chunksS ⟨#[]⟩) [] (chunksS d) 0 t0
  generalize hfe : fileM (chunksS ⟨#[]⟩) [] (chunksS d) 0 t0 = fe at h1 hx
  have hdl : (dirB [(y, d, fe.2)]).length ≤ 1 + (10 + 16 + 10 + 10) := by
    rw [dirB_eq]
    have e1 : uintL ([(y, d, fe.2)] : List (ByteArray × ByteArray × List Int)).length = [1] := uintL_small (by show 1 < 128; decide)
    rw [e1]
    simp only [List.flatMap_cons, List.flatMap_nil, List.append_nil, fileB, List.length_append, List.length_cons, List.length_nil, textL]
    have := uintL_len10 (n := y.size) (by omega)
    have := uintL_len10 (n := d.size) (by omega)
    have := numsB_len fe.2
    rw [bl_len]
    omega
  have hk : (chunksS (⟨(dirB [(y, d, fe.2)]).toArray⟩ : ByteArray)).length ≤ 1 := by rw [chunksS_len, mk_size]; unfold nCh; omega
  have h2 := takesM_room (chunksS (⟨(dirB [(y, d, fe.2)]).toArray⟩ : ByteArray)) fe.1 h1.1 (by omega)
  rw [h2.1, takesM_len]
  simp only [List.map_cons, List.map_nil, List.sum_cons, List.sum_nil, Bool.true_and, Bool.and_eq_true, decide_eq_true_eq]
  rw [hx]
  omega
theorem shown_ok {H : Heap} {K : Bool → Heap → Prop} (hk : ∀ H', Fr [] H H' → K true H') : CallH Try.prog 10 ⟨[]⟩ H fun v H' => ∃ b, v = .bool b ∧ K b H' := by
  apply vc_law10_shown
  refine W10.new (n := 8) (Fr.refl [] H) fun d H1 hopen hf1 => hopen _ fun s H2 hw => ?_
  have hg := good_new 8
  generalize hA : (⟨#[97]⟩ : ByteArray) = A
  generalize hX : (⟨#[120]⟩ : ByteArray) = X
  have hright : rightP A := by subst hA; decide
  have hnames : namesOf (putN (fun _ => none) A X) [A] := ⟨by simp, fun y => by
    unfold putN
    split
    · rename_i h; simp [h]
    · rename_i h; simp [h]⟩
  have hwr : writeS (newM 8).size stoNew A X = ({ stoNew with now := putN (fun _ => none) A X }, 0) := by
    unfold writeS
    rw [if_pos hright]
    unfold changeM
    have : (planN (newM 8).size stoNew (putN stoNew.now A X)).fits = true := by
      unfold planN
      show (planM (newM 8).size (fun _ => none) [] (putN (fun _ => none) A X) (namesL (putN (fun _ => none) A X))).fits = true
      rw [namesL_eq hnames]
      refine planM_fits (d := X) (by unfold putN; simp) (by subst hX; decide) (by subst hA; decide) (fun k hk => ?_) (size_new 8) rfl
      rcases hk with h | ⟨_, _, _, h, _⟩
      · simp at h
      · cases h
    rw [if_pos this]
    rfl
  refine ⟨fun vs H' => vs = [] ∧ ∃ st m, W10 H [] H' s d st m 2000 1 ∧ st.now A = some X, brB_of (fun h => by simp at h) (fun _ => brB_of (fun h => by simp at h) fun _ => ?_), ?_⟩
  · refine hw.write (by omega) hg (by omega) (B' := 100) (by omega) (by subst hA; decide) (by subst hX; decide) fun H3 h3 g3 => ?_
    rw [hwr] at h3 g3 ⊢
    refine brB_of (fun h => by simp at h) fun _ => h3.sync (by omega) g3 (by omega) (by omega) (by omega) fun st' m' H4 h4 hs => brB_of (fun h => by simp at h) fun _ => h4.gen ?_
    have hns : ¬ sameP { stoNew with now := putN (fun _ => none) A X } := fun h => by
      have := h A
      simp [putN, stoNew] at this
    have hge := (hs.more hns).1
    rw [hge]
    refine brB_of (fun h => by simp [stoNew] at h) fun _ => ⟨rfl, st', m', h4.mono (by omega) (by omega), ?_⟩
    rw [hs.now]
    simp [putN]
  · rintro J H3 ⟨_, st, m, h3, hn⟩
    refine h3.read ?_
    rw [hn]
    refine brB_of (fun _ => ⟨_, rfl, hk H3 h3.fr⟩) (fun h => by simp at h)

/-! the files, told -/
noncomputable def namedL (now : ByteArray → Option ByteArray) : List ByteArray := (namesL now).flatMap fun y => [y, (now y).getD ⟨#[]⟩]
theorem flat2_len (ys : List ByteArray) (now : ByteArray → Option ByteArray) : (ys.flatMap fun y => [y, (now y).getD ⟨#[]⟩]).length = 2 * ys.length := by
  induction ys with
  | nil => rfl
  | cons y ys ih => simp only [List.flatMap_cons, List.length_append, List.length_cons, List.length_nil, ih]; omega
theorem named_ok {H0 H : Heap} {pr : List (Nat × Obj)} {s d : Addr} {st : Sto} {m : Dk} {N M : Nat} {K : Option Addr → Nat → Nat → Heap → Prop} (h : W10 H0 pr H s d st m N M) (hM : M ≤ 1000) (hk : ∀ a n c H', Own GV.encStr 9 H.size H' a n c (namedL st.now) → Fr [] H H' → K a n c H') :
    CallH Try.prog 19 ⟨[.pointer (some s)]⟩ H fun v H' => ∃ a n c, v = .slice a n c ∧ K a n c H' := by
  apply vc_law10_named
  intro b H1 hn1
  have h1 := h.keep hn1.fr
  obtain ⟨⟨rn, rl, a, n, c, Q, Sd, hs, hq1, hq2, hq3⟩, hfr, hpr⟩ := id h1
  have hm0 := Own.made GV.encStr 9 (base := H.size) hn1 (Nat.le_refl _)
  refine Names_ok hs (by omega) fun ys na nn nc H2 hys hyl hno hf2 => ?_
  have f12 := hn1.fr.keep0 hf2
  have hnl := hno.1
  refine ⟨fun vs H' => match vs with | [.slice xa xn xc, .int _ i] => ∃ j : Nat, i = j ∧ j ≤ ys.length ∧ Own GV.encStr 9 H.size H' xa xn xc ((ys.take j).flatMap fun y => [y, (st.now y).getD ⟨#[]⟩]) ∧ Fr [] H H' ∧ Fr [b] H2 H' ∧ (∀ k ∈ blkL xa, k = b ∨ H2.size ≤ k) | _ => False,
    fun vs _ => match vs with | [_, .int _ i] => ys.length - i.toNat | _ => 0, ⟨0, rfl, by omega, by simpa using hm0.keep hf2, f12, Fr.refl _ _, by simp [blkL]⟩, ?_⟩
  have e1 := hn1.eq
  have s1 := hn1.size
  rintro J xa xn xc i H3 ⟨j, rfl, hj, ho, hf, hf3, hb⟩
  have hl3 : Sl GV.encStr H3 na nn nc ys := hno.sl.fr hf3 fun ad e => by
    have := hno.ge ad.block (by simp [e, blkL])
    simp; omega
  refine brB_of (fun h0 => ?_) (fun h0 => ?_)
  · have h0' : j < ys.length := by simp at h0; omega
    obtain ⟨y, hy⟩ := getElem_ex h0'
    refine hl3.get rfl hy (by simp; omega) fun ad e hc => ⟨y, ld_one (by kernel_rfl) hc, (h.keep hf).read ?_⟩
    refine hl3.get rfl hy (by simp; omega) fun ad e hc => ⟨y, ld_one (by kernel_rfl) hc, fun b4 H4 hn4 => ?_⟩
    have hxn := ho.1
    rw [flat2_len, List.length_take] at hxn
    refine ap_grow (E := GV.encStr) (bytes := 16) slice41 elem9 (ho.keep hn4.fr) (sl_list GV.encStr [y, (st.now y).getD ⟨#[]⟩] hn4 rfl) (by have := hf.size; have := hn4.size; omega) (by omega) fun a5 n5 c5 H5 ho5 hf5 hg5 => ⟨⟨j + 1, succ64 (by omega), by omega, ?_, ?_, ?_, ?_⟩, ?_⟩
    · rw [List.take_add_one, hy, List.flatMap_append]
      simpa using ho5
    · exact (hf.keep0 hn4.fr).keep hf5 fun k hk => (ho.ge k hk).1
    · refine (hf3.trans' hn4.fr (T := [b]) (fun k hk _ => hk) (by simp)).trans' hf5 (fun k hk _ => hk) fun k hk hlt => ?_
      rcases hb k hk with h | h
      · simp [h]
      · omega
    · intro k hk
      rcases hg5 k hk with h | h
      · exact hb k h
      · have := hf3.size; have := hn4.size; exact .inr (by omega)
    · show ys.length - (IntKind.i64.wrap ((j : Int) + 1)).toNat < ys.length - ((j : Nat) : Int).toNat
      rw [succ64 (by omega)]
      exact mu_lt h0'
  · have hjn : j = ys.length := by simp at h0; omega
    rw [List.take_of_length_le (by omega)] at ho
    refine ⟨_, _, _, rfl, hk _ _ _ H3 ?_ hf⟩
    unfold namedL
    rw [namesL_eq hys]
    exact ho
theorem same_ok {a b : Option Addr} {n c n' c' : Nat} {xs ys : List ByteArray} {H : Heap} {K : Bool → Heap → Prop} (h1 : Sl GV.encStr H a n c xs) (h2 : Sl GV.encStr H b n' c' ys) (hn : n ≤ 1000000000) (hk : K (decide (xs = ys)) H) :
    CallH Try.prog 21 ⟨[.slice a n c, .slice b n' c']⟩ H fun v H' => ∃ b, v = .bool b ∧ K b H' := by
  apply vc_law10_same
  have l1 := h1.len
  have l2 := h2.len
  refine brB_of (fun h0 => ⟨_, rfl, ?_⟩) (fun h0 => ?_)
  · have : ¬ xs = ys := fun e => by rw [e] at l1; simp at h0; omega
    rw [decide_eq_false this] at hk; exact hk
  · have hnn : n = n' := by simp at h0; omega
    subst hnn
    refine ⟨fun vs H' => match vs with | [.int _ i] => ∃ j : Nat, i = j ∧ j ≤ n ∧ xs.take j = ys.take j ∧ H' = H | _ => False, fun vs _ => match vs with | [.int _ i] => n - i.toNat | _ => 0, ⟨0, rfl, by omega, rfl, rfl⟩, ?_⟩
    rintro J i H' ⟨j, rfl, hj, he, rfl⟩
    refine brB_of (fun h3 => ?_) (fun h3 => ⟨_, rfl, ?_⟩)
    · have h3' : j < n := by simpa using h3
      obtain ⟨x, hx⟩ := getElem_ex (l := xs) (i := j) (by omega)
      obtain ⟨y, hy⟩ := getElem_ex (l := ys) (i := j) (by omega)
      refine h1.get rfl hx (by simp; omega) fun ad e hc => ⟨x, ld_one (by kernel_rfl) hc, ?_⟩
      refine h2.get rfl hy (by simp; omega) fun ad e hc => ⟨y, ld_one (by kernel_rfl) hc, ?_⟩
      rw [beqS]
      refine brB_of (fun h4 => ⟨_, rfl, ?_⟩) (fun h4 => ⟨⟨j + 1, succ64 (by omega), by omega, ?_, rfl⟩, ?_⟩)
      · have h4' : ¬ x = y := by simpa using h4
        have : ¬ xs = ys := fun e => by rw [e, hy] at hx; cases hx; exact h4' rfl
        rw [decide_eq_false this] at hk; exact hk
      · have h4' : x = y := by simpa using h4
        rw [List.take_add_one, List.take_add_one, hx, hy, he, h4']
      · show n - (IntKind.i64.wrap ((j : Int) + 1)).toNat < n - ((j : Nat) : Int).toNat
        rw [succ64 (by omega)]
        exact mu_lt h3'
    · have : xs = ys := by
        have hjn : j = n := by simp at h3; omega
        rw [List.take_of_length_le (by omega), List.take_of_length_le (by omega)] at he
        exact he
      rw [decide_eq_true this] at hk; exact hk
/-- What a step that is no Sync makes. -/
noncomputable def stepM (size : Int) (st : Sto) (o : Step10) : Sto :=
  if o.1 = 0 then (writeS size st o.2.2.1 o.2.2.2.1).1 else if o.1 = 1 then (writeS size st o.2.2.1 ((st.now o.2.2.1).getD ⟨#[]⟩ ++ o.2.2.2.1)).1 else if o.1 = 2 then (deleteS size st o.2.2.1).1 else if o.1 = 3 then (renameS size st o.2.2.1 o.2.2.2.1).1 else st
theorem change10_ok {H0 H : Heap} {pr : List (Nat × Obj)} {s d : Addr} {st : Sto} {m : Dk} {N M B G : Nat} {o : Step10} {K : Heap → Prop} (h : W10 H0 pr H s d st m N M) (hM : M + 1 ≤ 1000) (hg : Good st m B G) (hw : wt o ≤ 10000) (hB : B ≤ 100000)
    (hk : ∀ H', W10 H0 pr H' s d (stepM m.size st o) m N (M + 1) → Good (stepM m.size st o) m (B + wt o) G → K H') :
    CallH Try.prog 18 ⟨[.pointer (some s), .agg ⟨[.int .i64 o.1, .int .i64 o.2.1, .string o.2.2.1, .string o.2.2.2.1, .int .u64 o.2.2.2.2]⟩]⟩ H fun v H' => v = .tuple ⟨[]⟩ ∧ K H' := by
  apply vc_law10_change
  intro b H1 hn1
  have h1 := h.keep hn1.fr
  have hwt : wt o = o.2.2.1.size + o.2.2.2.1.size := rfl
  unfold stepM at hk
  refine ⟨o.1, hn1.blk.ld0 (by kernel_rfl) rfl, brB_of (fun h0 => ?_) (fun h0 => brB_of (fun h2 => ?_) (fun h2 => brB_of (fun h3 => ?_) (fun h3 => brB_of (fun h4 => ?_) (fun h4 => ?_))))⟩
  · rw [if_pos (by simpa using h0)] at hk
    exact ⟨_, hn1.blk.ldK (j := 2) (by kernel_rfl) rfl, _, hn1.blk.ldK (j := 3) (by kernel_rfl) rfl, h1.write hM hg (B' := B + wt o) (by omega) (by omega) (by omega) (by omega) fun H' h' g' => ⟨rfl, hk H' h' g'⟩⟩
  all_goals rw [if_neg (by simpa using h0)] at hk
  · rw [if_pos (by simpa using h2)] at hk
    exact ⟨_, hn1.blk.ldK (j := 2) (by kernel_rfl) rfl, _, hn1.blk.ldK (j := 3) (by kernel_rfl) rfl, h1.append hM hg (B' := B + wt o) (by omega) (by omega) (by omega) fun H' h' g' => ⟨rfl, hk H' h' g'⟩⟩
  all_goals rw [if_neg (by simpa using h2)] at hk
  · rw [if_pos (by simpa using h3)] at hk
    exact ⟨_, hn1.blk.ldK (j := 2) (by kernel_rfl) rfl, h1.delete hM hg (by omega) (by omega) fun H' h' g' => ⟨rfl, hk H' h' (g'.mono (by omega) (by omega))⟩⟩
  all_goals rw [if_neg (by simpa using h3)] at hk
  · rw [if_pos (by simpa using h4)] at hk
    exact ⟨_, hn1.blk.ldK (j := 2) (by kernel_rfl) rfl, _, hn1.blk.ldK (j := 3) (by kernel_rfl) rfl, h1.rename hM hg (by omega) (by omega) (by omega) fun H' h' g' => ⟨rfl, hk H' h' (g'.mono (by omega) (by omega))⟩⟩
  · rw [if_neg (by simpa using h4)] at hk
    exact ⟨rfl, hk H1 (h1.mono (by omega) (by omega)) (hg.mono (by omega) (by omega))⟩
end Go.Proofs
