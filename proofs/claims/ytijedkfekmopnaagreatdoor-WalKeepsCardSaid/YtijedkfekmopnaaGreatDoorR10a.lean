/- A part of a proof: see the last text of this claim. -/
import Derived.Test.YtijedkfekmopnaaGreatDoorP08
set_option linter.unusedVariables false
set_option maxRecDepth 100000
open Go Go.GV
namespace Go.Proofs

abbrev NF := ByteArray × ByteArray
def encF0 : Enc NF := ⟨fun x => [.string x.1, .string x.2, .slice none 0 0], 3, fun _ => rfl, by decide, fun _ v h => by simp at h; rcases h with rfl | rfl | rfl <;> rfl⟩
def goPut (y d : ByteArray) : Bool → List NF → List NF
  | false, [] => [(y, d)]
  | true, [] => []
  | true, x :: l => if x.1 = y then goPut y d true l else x :: goPut y d true l
  | false, x :: l => if ltS x.1 y = true then x :: goPut y d false l else (y, d) :: (if x.1 = y then goPut y d true l else x :: goPut y d true l)
def goWithout (y : ByteArray) (l : List NF) : List NF := l.filter fun x => decide (x.1 ≠ y)
theorem goPut_true (y d : ByteArray) : ∀ l, goPut y d true l = goWithout y l
  | [] => rfl
  | x :: l => by
    have ih := goPut_true y d l
    unfold goWithout at ih ⊢
    rw [goPut, List.filter_cons]
    split
    · rename_i h; rw [if_neg (by simp [h]), ih]
    · rename_i h; rw [if_pos (by simp [h]), ih]
theorem mem_without {y : ByteArray} {l : List NF} {x : NF} : x ∈ goWithout y l ↔ x ∈ l ∧ x.1 ≠ y := by
  unfold goWithout
  rw [List.mem_filter]; simp
theorem mem_put {y d : ByteArray} : ∀ {l : List NF} {x : NF}, x ∈ goPut y d false l ↔ x = (y, d) ∨ (x ∈ l ∧ x.1 ≠ y)
  | [], x => by simp [goPut]
  | z :: l, x => by
    rw [goPut]
    split
    · rename_i h
      rw [List.mem_cons, mem_put (l := l), List.mem_cons]
      have : z.1 ≠ y := fun e => by rw [e, ltS_irrefl] at h; cases h
      constructor
      · rintro (e | e | e)
        · exact .inr ⟨.inl e, by rw [e]; exact this⟩
        · exact .inl e
        · exact .inr ⟨.inr e.1, e.2⟩
      · rintro (e | ⟨e | e, h2⟩)
        · exact .inr (.inl e)
        · exact .inl e
        · exact .inr (.inr ⟨e, h2⟩)
    · split
      · rename_i h1 h2
        rw [List.mem_cons, goPut_true, mem_without, List.mem_cons]
        constructor
        · rintro (e | e)
          · exact .inl e
          · exact .inr ⟨.inr e.1, e.2⟩
        · rintro (e | ⟨e | e, h3⟩)
          · exact .inl e
          · exact absurd (by rw [e]; exact h2) h3
          · exact .inr ⟨e, h3⟩
      · rename_i h1 h2
        rw [List.mem_cons, List.mem_cons, goPut_true, mem_without, List.mem_cons]
        constructor
        · rintro (e | e | e)
          · exact .inl e
          · exact .inr ⟨.inl e, by rw [e]; exact h2⟩
          · exact .inr ⟨.inr e.1, e.2⟩
        · rintro (e | ⟨e | e, h3⟩)
          · exact .inl e
          · exact .inr (.inl e)
          · exact .inr (.inr ⟨e, h3⟩)
def ascF (l : List NF) : Prop := l.Pairwise fun p q => ltS p.1 q.1 = true
theorem asc_without {y : ByteArray} {l : List NF} (h : ascF l) : ascF (goWithout y l) := h.filter _
theorem asc_put {y d : ByteArray} : ∀ {l : List NF}, ascF l → ascF (goPut y d false l)
  | [], _ => by simp [goPut, ascF]
  | x :: l, h => by
    unfold ascF at h ⊢
    rw [List.pairwise_cons] at h
    rw [goPut]
    split
    · rename_i hx
      rw [List.pairwise_cons]
      refine ⟨fun q hq => ?_, asc_put h.2⟩
      rcases mem_put.1 hq with e | e
      · rw [e]; exact hx
      · exact h.1 q e.1
    · rename_i hx
      have hx' : ltS x.1 y = false := by cases hh : ltS x.1 y with | false => rfl | true => exact absurd hh hx
      have hl : ∀ q ∈ l, ltS y q.1 = true := fun q hq => by
        have h1 := h.1 q hq
        cases hy : ltS y x.1 with
        | true => exact ltS_trans hy h1
        | false => rw [← ltS_tri hx' hy]; exact h1
      rw [goPut_true, List.pairwise_cons]
      split
      · rename_i e
        exact ⟨fun q hq => hl q (mem_without.1 hq).1, asc_without h.2⟩
      · rename_i e
        have hyx : ltS y x.1 = true := by
          cases hy : ltS y x.1 with
          | true => rfl
          | false => exact absurd (ltS_tri hx' hy) e
        refine ⟨fun q hq => ?_, ?_⟩
        · rcases List.mem_cons.1 hq with e2 | e2
          · rw [e2]; exact hyx
          · exact hl q (mem_without.1 e2).1
        · rw [List.pairwise_cons]
          exact ⟨fun q hq => h.1 q (mem_without.1 hq).1, asc_without h.2⟩
structure OfL (now : ByteArray → Option ByteArray) (l : List NF) : Prop where
  asc : ascF l
  mem : ∀ y d, now y = some d ↔ (y, d) ∈ l
theorem OfL.put {now : ByteArray → Option ByteArray} {l : List NF} (h : OfL now l) (y d : ByteArray) : OfL (putN now y d) (goPut y d false l) := by
  refine ⟨asc_put h.asc, fun z e => ?_⟩
  rw [mem_put]
  unfold putN
  by_cases hz : z = y
  · rw [if_pos hz]
    constructor
    · intro h1; cases h1; exact .inl (by rw [hz])
    · rintro (h1 | ⟨_, h1⟩)
      · cases h1; rfl
      · exact absurd hz h1
  · rw [if_neg hz]
    constructor
    · intro h1; exact .inr ⟨(h.mem z e).1 h1, hz⟩
    · rintro (h1 | ⟨h1, _⟩)
      · exact absurd (congrArg Prod.fst h1) hz
      · exact (h.mem z e).2 h1
theorem OfL.del {now : ByteArray → Option ByteArray} {l : List NF} (h : OfL now l) (y : ByteArray) : OfL (delN now y) (goWithout y l) := by
  refine ⟨asc_without h.asc, fun z e => ?_⟩
  rw [mem_without]
  unfold delN
  by_cases hz : z = y
  · rw [if_pos hz]
    exact ⟨(fun h => by cases h), fun h => absurd hz h.2⟩
  · rw [if_neg hz]
    exact ⟨fun h1 => ⟨(h.mem z e).1 h1, hz⟩, fun h1 => (h.mem z e).2 h1.1⟩
theorem lt_of_ltS {s t : ByteArray} (h : ltS s t = true) : bl s < bl t := by
  have key : ∀ x y : List UInt8, Op.bytesLess x y = true → x < y := by
    intro x
    induction x with
    | nil => intro y h; cases y with
      | nil => cases h
      | cons b y => exact List.nil_lt_cons b y
    | cons a x ih =>
      intro y h
      cases y with
      | nil => cases h
      | cons b y =>
        rw [bytesLess_cons] at h
        rw [List.cons_lt_cons_iff]
        rcases h with h | ⟨h1, h2⟩
        · exact .inl h
        · exact .inr ⟨h1, ih y h2⟩
  exact key _ _ h
theorem OfL.names {now : ByteArray → Option ByteArray} {l : List NF} (h : OfL now l) : namesOf now (l.map (·.1)) := by
  refine ⟨?_, fun y => ?_⟩
  · rw [List.map_map, List.pairwise_map]
    exact h.asc.imp fun hab => lt_of_ltS hab
  · rw [List.mem_map]
    constructor
    · rintro ⟨x, hx, rfl⟩
      rw [(h.mem x.1 x.2).2 hx]; rfl
    · intro hy
      cases hn : now y with
      | none => rw [hn] at hy; cases hy
      | some d => exact ⟨(y, d), (h.mem y d).1 hn, rfl⟩
theorem OfL.look {now : ByteArray → Option ByteArray} {l : List NF} (h : OfL now l) {y d : ByteArray} (hm : (y, d) ∈ l) : now y = some d := (h.mem y d).2 hm
theorem ofL_none : OfL (fun _ => none) [] := ⟨List.Pairwise.nil, fun y d => by simp⟩

theorem Find_ok {a : Option Addr} {n c : Nat} {l : List NF} {y : ByteArray} {H : Heap} {K : Int → Heap → Prop} (hl : Sl encF0 H a n c l) (hn : n ≤ 1000000000)
    (hno : (∀ x ∈ l, x.1 ≠ y) → K (-1) H) (hk : ∀ (j : Nat) x, l[j]? = some x → x.1 = y → K j H) :
    CallH Tryz.prog fn_ref10_Find ⟨[.slice a n c, .string y]⟩ H fun v H' => ∃ n, v = .int .i64 n ∧ K n H' := by
  apply vc_ref10_Find
  have hlen := hl.len
  refine ⟨fun vs H' => match vs with | [.int _ i] => ∃ j : Nat, i = j ∧ j ≤ n ∧ (∀ x ∈ l.take j, x.1 ≠ y) ∧ H' = H | _ => False,
    fun vs _ => match vs with | [.int _ i] => n - i.toNat | _ => 0, ⟨0, rfl, by omega, by simp, rfl⟩, ?_⟩
  rintro J i H' ⟨j, rfl, hj, hx, rfl⟩
  refine brB_of (fun h0 => ?_) (fun h0 => ?_)
  · have h0' : j < n := by simpa using h0
    obtain ⟨x, hxx⟩ := getElem_ex (l := l) (i := j) (by omega)
    refine hl.get rfl hxx (by simp; omega) fun ad e hc => ⟨x.1, ld_part (j := 0) (by kernel_rfl) hc rfl, ?_⟩
    rw [beqS]
    refine brB_of (fun h1 => ⟨_, rfl, hk j x hxx (by simpa using h1)⟩) (fun h1 => ⟨⟨j + 1, succ64 (by omega), by omega, ?_, rfl⟩, ?_⟩)
    · rw [List.take_add_one, hxx]
      intro z hz
      rcases List.mem_append.1 hz with hz | hz
      · exact hx z hz
      · simp at hz; rw [hz]; simpa using h1
    · show n - (IntKind.i64.wrap ((j : Int) + 1)).toNat < n - ((j : Nat) : Int).toNat
      rw [succ64 (by omega)]
      exact mu_lt h0'
  · have hjn : j = n := by simp at h0; omega
    rw [List.take_of_length_le (by omega)] at hx
    exact ⟨_, rfl, hno hx⟩
theorem good_ok {s : ByteArray} {H : Heap} {K : Bool → Heap → Prop} (hs : s.size ≤ 1000000000000) (hk : K (decide (rightP s)) H) :
    CallH Tryz.prog fn_ref10_good ⟨[.string s]⟩ H fun v H' => ∃ b, v = .bool b ∧ K b H' := by
  apply vc_ref10_good
  have hlen := bl_len s
  have no : ¬ rightP s → ∃ b, Value.bool false = .bool b ∧ K b H := fun h => ⟨_, rfl, by rw [decide_eq_false h] at hk; exact hk⟩
  refine ⟨fun _ H' => H' = H ∧ 1 ≤ s.size ∧ s.size ≤ 16, brB_of (fun h => no fun hr => by have := hr.2.1; simp at h; omega) (fun h => brB_of (fun h1 => no fun hr => by have := hr.2.2; simp at h1; omega) fun h1 => ⟨rfl, by simp at h; omega, by simp at h1; omega⟩), ?_⟩
  rintro J H' ⟨rfl, h1, h2⟩
  refine ⟨fun vs H'' => match vs with | [.int _ i] => ∃ j : Nat, i = j ∧ j ≤ s.size ∧ (∀ b ∈ (bl s).take j, okN (b.toNat : Int)) ∧ H'' = H' | _ => False,
    fun vs _ => match vs with | [.int _ i] => s.size - i.toNat | _ => 0, ⟨0, rfl, by omega, by simp, rfl⟩, ?_⟩
  rintro J2 i H'' ⟨j, rfl, hj, hx, rfl⟩
  refine brB_of (fun h0 => ?_) (fun h0 => ?_)
  · have h0' : j < s.size := by simpa using h0
    obtain ⟨b, hb⟩ := getElem_ex (l := bl s) (i := j) (by omega)
    have hat : atB s (((j : Nat) : Int).toNat) = b.toNat := atB_of (by rw [bl_get]; exact hb)
    rw [hat]
    have stop : ¬ okN (b.toNat : Int) → ∃ b, Value.bool false = .bool b ∧ K b H'' := fun hn => no fun hr => hn (hr.1 b (List.mem_of_getElem? hb))
    refine ⟨fun _ H3 => H3 = H'' ∧ okN (b.toNat : Int), chk_true (decide_eq_true (by omega)) ?_, ?_⟩
    · generalize (b.toNat : Int) = z at stop ⊢
      refine brB_of (fun k1 => brB_of (fun k2 => brB_of (fun k3 => brB_of (fun k4 => stop ?_) (fun k4 => ⟨rfl, ?_⟩)) (fun k3 => ⟨rfl, ?_⟩)) (fun k2 => brB_of (fun k3 => brB_of (fun k4 => brB_of (fun k5 => stop ?_) (fun k5 => ⟨rfl, ?_⟩)) (fun k4 => ⟨rfl, ?_⟩)) (fun k3 => ⟨rfl, ?_⟩)))
        (fun k1 => brB_of (fun k2 => brB_of (fun k3 => brB_of (fun k4 => brB_of (fun k5 => stop ?_) (fun k5 => ⟨rfl, ?_⟩)) (fun k4 => ⟨rfl, ?_⟩)) (fun k3 => brB_of (fun k4 => brB_of (fun k5 => brB_of (fun k6 => stop ?_) (fun k6 => ⟨rfl, ?_⟩)) (fun k5 => ⟨rfl, ?_⟩)) (fun k4 => ⟨rfl, ?_⟩))) (fun k2 => ⟨rfl, ?_⟩))
      all_goals (unfold okN; simp at *; omega)
    · rintro J3 H3 ⟨rfl, hok⟩
      refine ⟨⟨j + 1, succ64 (by omega), by omega, fun z hz => ?_, rfl⟩, ?_⟩
      · rw [List.take_add_one, hb] at hz
        rcases List.mem_append.1 hz with hz | hz
        · exact hx z hz
        · simp at hz; rw [hz]; exact hok
      · show s.size - (IntKind.i64.wrap ((j : Int) + 1)).toNat < s.size - ((j : Nat) : Int).toNat
        rw [succ64 (by omega)]
        exact mu_lt h0'
  · have hjs : j = s.size := by simp at h0; omega
    rw [List.take_of_length_le (by omega)] at hx
    have : rightP s := ⟨hx, by omega, h2⟩
    rw [decide_eq_true this] at hk
    exact ⟨_, rfl, hk⟩
theorem used_ok {a : Option Addr} {c : Nat} {n : Int} {H : Heap} {K : Bool → Heap → Prop} (hk : K false H) :
    CallH Tryz.prog fn_ref10_used ⟨[.slice a 0 c, .int .i64 n]⟩ H fun v H' => ∃ b, v = .bool b ∧ K b H' := by
  apply vc_ref10_used
  refine ⟨fun vs H' => vs = [.int .i64 0] ∧ H' = H, fun _ _ => 0, ⟨rfl, rfl⟩, ?_⟩
  rintro J i H' ⟨e, rfl⟩
  simp only [List.cons.injEq, Value.int.injEq, true_and, and_true] at e
  subst e
  exact brB_of (fun h => by simp at h) (fun _ => ⟨_, rfl, hk⟩)
theorem chunksS_cons {s : ByteArray} (h : 64 < s.size) : chunksS s = s.extract 0 64 :: chunksS (s.extract 64 s.size) := by
  unfold chunksS
  have hb := bl_len s
  have hne : bl s ≠ [] := fun e => by rw [e] at hb; simp at hb; omega
  have : chunkB (bl s) = (bl s).take 64 :: chunkB ((bl s).drop 64) := by
    have hl : 1 ≤ (bl s).length := by omega
    have hn : nCh (bl s).length = nCh ((bl s).drop 64).length + 1 := by rw [List.length_drop]; unfold nCh; omega
    unfold chunkB
    rw [hn, List.range_succ_eq_map, List.map_cons, List.map_map]
    congr 1
    · simp only [Nat.mul_zero, List.drop_zero, Nat.zero_add]
      rw [Nat.min_eq_left (by omega)]
    · refine List.map_congr_left fun i _ => ?_
      simp only [Function.comp]
      rw [List.drop_take, List.drop_take, List.drop_drop, List.length_drop]
      rw [show 64 * i.succ = 64 + 64 * i by omega]
      congr 1
      omega
  rw [this, List.map_cons, bl_ext]
  congr 1
  · apply bl_inj
    rw [bl_ext, bl_mk ((bl s).take 64), List.drop_zero]
  · rw [List.take_of_length_le (l := bl s) (i := s.size) (by omega)]
theorem chunksS_one {s : ByteArray} (h : 0 < s.size) (h2 : s.size ≤ 64) : chunksS s = [s] := by
  unfold chunksS chunkB
  have hb := bl_len s
  have : nCh (bl s).length = 1 := by unfold nCh; omega
  rw [this]
  simp only [List.range_one, List.map_cons, List.map_nil, Nat.mul_zero, List.drop_zero, Nat.zero_add]
  rw [List.take_of_length_le (by omega)]
theorem chunksS_none {s : ByteArray} (h : s.size = 0) : chunksS s = [] := by
  have hb := bl_len s
  unfold chunksS chunkB
  have : nCh (bl s).length = 0 := by unfold nCh; omega
  rw [this]; rfl
theorem rchunks_ok {s0 : ByteArray} {H : Heap} {K : Option Addr → Nat → Nat → Heap → Prop} (hs : s0.size ≤ 1000000000)
    (hk : ∀ a n c H', Own GV.encStr 9 H.size H' a n c (chunksS s0) → Fr [] H H' → K a n c H') :
    CallH Tryz.prog fn_ref10_chunks ⟨[.string s0]⟩ H fun v H' => ∃ a n c, v = .slice a n c ∧ K a n c H' := by
  apply vc_ref10_chunks
  intro b H1 hn1
  refine ⟨fun vs H' => match vs with | [.string s, .slice a n c] => ∃ M, Own GV.encStr 9 H.size H' a n c M ∧ Fr [] H H' ∧ chunksS s0 = M ++ chunksS s ∧ s.size + M.length ≤ s0.size | _ => False,
    fun vs _ => match vs with | [.string s, _] => s.size | _ => 0, ⟨[], Own.made GV.encStr 9 hn1 (Nat.le_refl _), hn1.fr, rfl, by simp⟩, ?_⟩
  rintro J s a n c H2 ⟨M, ho, hf, hM, hsz⟩
  have hnl := ho.1
  refine brB_of (fun h0 => ?_) (fun h0 => brB_of (fun h1 => ?_) (fun h1 => ?_))
  · have h0' : 64 < s.size := by simp at h0; omega
    refine chk_true (decide_eq_true (by omega)) fun b1 H3 hn3 => ?_
    refine ap_own (E := GV.encStr) (bytes := 16) slice41 elem9 (ho.keep hn3.fr) (hf.keep0 hn3.fr) (sl_one GV.encStr _ hn3 rfl) (by omega) fun a' n' c' H4 ho4 hf4 _ => chk_true (decide_eq_true (by omega)) ?_
    have hte : ((s.size : Nat) : Int).toNat = s.size := by omega
    rw [hte]
    have hb := bl_len s
    have he : (s.extract 64 s.size).size = s.size - 64 := by
      rw [← bl_len, bl_ext, List.length_drop, List.length_take]; omega
    refine ⟨⟨_, ho4, hf4, ?_, ?_⟩, ?_⟩
    · rw [hM, chunksS_cons h0']; simp
    · rw [he]; simp; omega
    · show (s.extract 64 s.size).size < s.size
      rw [he]; omega
  · have h1' : 0 < s.size := by
      have : (s.size : Int) > 0 := by simpa using h1
      omega
    have h0' : s.size ≤ 64 := by simp at h0; omega
    intro b1 H3 hn3
    refine ap_own (E := GV.encStr) (bytes := 16) slice41 elem9 (ho.keep hn3.fr) (hf.keep0 hn3.fr) (sl_one GV.encStr _ hn3 rfl) (by omega) fun a' n' c' H4 ho4 hf4 _ => ⟨_, _, _, rfl, hk _ _ _ _ ?_ hf4⟩
    rw [hM, chunksS_one h1' h0']
    exact ho4
  · have h1' : s.size = 0 := by
      have : ¬ (s.size : Int) > 0 := by simpa using h1
      omega
    refine ⟨_, _, _, rfl, hk _ _ _ _ ?_ hf⟩
    rw [hM, chunksS_none h1', List.append_nil]
    exact ho
end Go.Proofs
set_option linter.unusedVariables false
set_option maxRecDepth 100000
open Go Go.GV
namespace Go.Proofs

theorem slice86 : sliceB Tryz.prog 86 91 = true := by kernel_rfl
theorem elem91 : elemB Tryz.prog 91 3 56 = true := by kernel_rfl
theorem slice80 : sliceB Tryz.prog 80 3 = true := by kernel_rfl
theorem goPut_len (y d : ByteArray) : ∀ (b : Bool) (l : List NF), (goPut y d b l).length ≤ l.length + 1
  | false, [] => by simp [goPut]
  | true, [] => by simp [goPut]
  | true, x :: l => by
    have := goPut_len y d true l
    rw [goPut]
    split <;> simp <;> omega
  | false, x :: l => by
    have h1 := goPut_len y d true l
    have h2 := goPut_len y d false l
    rw [goPut]
    split
    · simp; omega
    · have h3 : (goPut y d true l).length ≤ l.length := by
        rw [goPut_true]; exact List.length_filter_le _ _
      split <;> simp <;> omega
theorem Put_ok {a : Option Addr} {n c : Nat} {l : List NF} {y d : ByteArray} {H : Heap} {K : Option Addr → Nat → Nat → Heap → Prop} (hl : Sl encF0 H a n c l) (hn : n ≤ 1000000)
    (hk : ∀ a n c H', Own encF0 91 H.size H' a n c (goPut y d false l) → Fr [] H H' → K a n c H') :
    CallH Tryz.prog fn_ref10_Put ⟨[.slice a n c, .agg ⟨[.string y, .string d, .slice none 0 0]⟩]⟩ H fun v H' => ∃ a n c, v = .slice a n c ∧ K a n c H' := by
  apply vc_ref10_Put
  intro b H1 hn1 b1 H2 hn2
  have hlen := hl.len
  have f02 := hn1.fr.keep0 hn2.fr
  have hb2 := hn1.blk.keep hn2.fr
  have hl2 := hl.keep f02
  have hbs : b < H2.size := hb2.lt
  have s1 := hn1.size
  have s2 := hn2.size
  refine ⟨fun vs H' => match vs with | [.slice o m k, .bool b', .int _ i] => ∃ (M : List NF) (j : Nat), i = j ∧ j ≤ n ∧ Own encF0 91 H1.size H' o m k M ∧ Fr [] H1 H' ∧ goPut y d false l = M ++ goPut y d b' (l.drop j) | _ => False,
    fun vs _ => match vs with | [_, _, .int _ i] => n - i.toNat | _ => 0, ⟨[], 0, rfl, by omega, Own.made encF0 91 hn2 (Nat.le_refl _), hn2.fr, rfl⟩, ?_⟩
  rintro J o m k b' i H3 ⟨M, j, rfl, hj, ho, hf, hM⟩
  have hgl := goPut_len y d false l
  have hsub : ∀ {A B : List NF}, goPut y d false l = A ++ B → A.length ≤ n + 1 := fun e => by
    have := congrArg List.length e
    rw [List.length_append] at this
    omega
  have hb3 := hn1.blk.keep hf
  have hl3 := hl.keep (hn1.fr.keep0 hf)
  have hnl := ho.1
  have app : ∀ {o m k} {M' : List NF} {x : NF} {H4 : Heap} {K' : Option Addr → Nat → Nat → Heap → Prop}, Own encF0 91 H1.size H4 o m k M' → Fr [] H1 H4 → M'.length ≤ n + 1 → (∀ o' m' k' H', Own encF0 91 H1.size H' o' m' k' (M' ++ [x]) → Fr [] H1 H' → K' o' m' k' H') →
      ∀ b5 H5, New H4 b5 (.cells ⟨[.string x.1, .string x.2, .slice none 0 0]⟩ 91) H5 → SemWp Tryz.prog (Builtin.append_ ⟨[86, 86]⟩ 86 ⟨[.slice o m k, .slice (some ⟨b5, 0, none⟩) 1 1]⟩) H5 fun v H' => ∃ a n c, v = .slice a n c ∧ K' a n c H' := fun ho4 hf4 hml hk' b5 H5 hn5 => by
    have := ho4.1
    exact ap_own (E := encF0) (bytes := 56) slice86 elem91 (ho4.keep hn5.fr) (hf4.keep0 hn5.fr) (sl_one encF0 _ hn5 rfl) (by omega) fun o' m' k' H' h1 h2 _ => hk' o' m' k' H' h1 h2
  refine brB_of (fun h0 => ?_) (fun h0 => ?_)
  · have h0' : j < n := by simpa using h0
    obtain ⟨x, hx⟩ := getElem_ex (l := l) (i := j) (by omega)
    have hdr : l.drop j = x :: l.drop (j + 1) := by
      obtain ⟨q1, q2⟩ := List.getElem?_eq_some_iff.1 hx
      rw [List.drop_eq_getElem_cons q1, q2]
    rw [hdr] at hM
    have mu' : n - (IntKind.i64.wrap ((j : Int) + 1)).toNat < n - ((j : Nat) : Int).toNat := by rw [succ64 (by omega)]; exact mu_lt h0'
    have hbl : (!Op.bytesLess (ByteArray.toList x.1) (ByteArray.toList y)) = !ltS x.1 y := by rw [ltS_of]
    have hne : (!ByteArray.toList x.1 == ByteArray.toList y) = !decide (x.1 = y) := by rw [beqS]
    refine ⟨fun vs H' => match vs with | [.slice o m k, .bool b'] => ∃ (M : List NF), Own encF0 91 H1.size H' o m k M ∧ Fr [] H1 H' ∧ goPut y d false l = M ++ goPut y d b' (l.drop (j + 1)) | _ => False,
      ⟨fun vs H' => match vs with | [.slice o m k, .bool b''] => ∃ (M' : List NF), Own encF0 91 H1.size H' o m k M' ∧ Fr [] H1 H' ∧ goPut y d false l = M' ++ ((if x.1 = y then [] else [x]) ++ goPut y d b'' (l.drop (j + 1))) | _ => False,
        ⟨fun vs H' => match vs with | [.bool b3] => H' = H3 ∧ b3 = (!b' && !ltS x.1 y) | _ => False, ?_, ?_⟩, ?_⟩, ?_⟩
    · refine brB_of (fun h1 => ?_) (fun h1 => ?_)
      · refine hl3.get rfl hx (by simp; omega) fun ad e hc => ⟨x.1, ld_part (j := 0) (by kernel_rfl) hc rfl, y, hb3.ldK (j := 0) (by kernel_rfl) rfl, rfl, ?_⟩
        have : b' = false := by simpa using h1
        rw [hbl, this]; simp
      · have : b' = true := by simpa using h1
        exact ⟨rfl, by rw [this]; simp⟩
    · rintro J2 b3 H4 ⟨rfl, rfl⟩
      refine brB_of (fun h1 => ?_) (fun h1 => ?_)
      · simp only [Bool.and_eq_true, Bool.not_eq_true'] at h1
        refine ⟨y, d, none, 0, 0, hb3.ldAK (j := 0) (by kernel_rfl) (by kernel_rfl) rfl, ?_⟩
        refine app (x := (y, d)) ho hf (hsub hM) fun o' m' k' H' ho' hf' => ⟨_, ho', hf', ?_⟩
        · rw [h1.1, goPut, if_neg (by simp [h1.2])] at hM
          rw [hM]
          split <;> simp
      · refine ⟨M, ho, hf, ?_⟩
        rw [hM]
        cases hb' : b' with
        | true =>
          rw [goPut]
          split <;> simp
        | false =>
          have hlt : ltS x.1 y = true := by
            cases hh : ltS x.1 y with
            | true => rfl
            | false => rw [hb', hh] at h1; cases h1
          rw [goPut, if_pos hlt]
          have : ¬ x.1 = y := fun e => by rw [e, ltS_irrefl] at hlt; cases hlt
          rw [if_neg this]; simp
    · rintro J2 o' m' k' b'' H4 ⟨M', ho', hf', hM'⟩
      have hb4 := hn1.blk.keep hf'
      have hl4 := hl.keep (hn1.fr.keep0 hf')
      refine hl4.get rfl hx (by simp; omega) fun ad e hc => ⟨x.1, ld_part (j := 0) (by kernel_rfl) hc rfl, y, hb4.ldK (j := 0) (by kernel_rfl) rfl, ?_⟩
      rw [hne]
      refine brB_of (fun h1 => ?_) (fun h1 => ?_)
      · have h1' : ¬ x.1 = y := by simpa using h1
        rw [if_neg h1'] at hM'
        refine hl4.get rfl hx (by simp; omega) fun ad e hc => ⟨x.1, x.2, none, 0, 0, ld_many (by kernel_rfl) (by kernel_rfl) hc, ?_⟩
        exact app (x := x) ho' hf' (hsub hM') fun o2 m2 k2 H' ho2 hf2 => ⟨_, ho2, hf2, by rw [hM']; simp⟩
      · have h1' : x.1 = y := by simpa using h1
        rw [if_pos h1'] at hM'
        exact ⟨M', ho', hf', by rw [hM']; simp⟩
    · rintro J2 o' m' k' b'' H4 ⟨M', ho', hf', hM'⟩
      exact ⟨⟨M', j + 1, succ64 (by omega), by omega, ho', hf', hM'⟩, mu'⟩
  · have hjn : j = n := by simp at h0; omega
    rw [List.drop_eq_nil_of_le (by omega)] at hM
    refine brB_of (fun h1 => ?_) (fun h1 => ?_)
    · have hb' : b' = false := by simpa using h1
      rw [hb', goPut] at hM
      refine ⟨y, d, none, 0, 0, hb3.ldAK (j := 0) (by kernel_rfl) (by kernel_rfl) rfl, ?_⟩
      refine app (x := (y, d)) ho hf (hsub hM) fun o' m' k' H' ho' hf' => ⟨_, _, _, rfl, hk _ _ _ _ ?_ (hn1.fr.keep0 hf')⟩
      rw [hM]; exact ho'.base (by omega)
    · have hb' : b' = true := by simpa using h1
      rw [hb', goPut, List.append_nil] at hM
      refine ⟨_, _, _, rfl, hk _ _ _ _ ?_ (hn1.fr.keep0 hf)⟩
      rw [hM]; exact ho.base (by omega)
theorem Without_ok {a : Option Addr} {n c : Nat} {l : List NF} {y : ByteArray} {H : Heap} {K : Option Addr → Nat → Nat → Heap → Prop} (hl : Sl encF0 H a n c l) (hn : n ≤ 1000000)
    (hk : ∀ a n c H', Own encF0 91 H.size H' a n c (goWithout y l) → Fr [] H H' → K a n c H') :
    CallH Tryz.prog fn_ref10_Without ⟨[.slice a n c, .string y]⟩ H fun v H' => ∃ a n c, v = .slice a n c ∧ K a n c H' := by
  apply vc_ref10_Without
  intro b H1 hn1
  have hlen := hl.len
  refine ⟨fun vs H' => match vs with | [.slice o m k, .int _ i] => ∃ (j : Nat), i = j ∧ j ≤ n ∧ Own encF0 91 H.size H' o m k (goWithout y (l.take j)) ∧ Fr [] H H' | _ => False,
    fun vs _ => match vs with | [_, .int _ i] => n - i.toNat | _ => 0, ⟨0, rfl, by omega, Own.made encF0 91 hn1 (Nat.le_refl _), hn1.fr⟩, ?_⟩
  rintro J o m k i H3 ⟨j, rfl, hj, ho, hf⟩
  have hl3 := hl.keep hf
  have hnl := ho.1
  refine brB_of (fun h0 => ?_) (fun h0 => ?_)
  · have h0' : j < n := by simpa using h0
    obtain ⟨x, hx⟩ := getElem_ex (l := l) (i := j) (by omega)
    have hML : (goWithout y (l.take j)).length ≤ j := by
      have := List.length_filter_le (fun x : NF => decide (x.1 ≠ y)) (l.take j)
      rw [List.length_take] at this
      unfold goWithout
      omega
    have hnext : goWithout y (l.take (j + 1)) = goWithout y (l.take j) ++ if x.1 = y then [] else [x] := by
      unfold goWithout
      rw [List.take_add_one, hx, List.filter_append]
      congr 1
      simp only [Option.toList_some, List.filter_cons, List.filter_nil]
      split <;> rename_i h
      · rw [if_neg (by simpa using h)]
      · rw [if_pos (by simpa using h)]
    refine hl3.get rfl hx (by simp; omega) fun ad e hc => ⟨x.1, ld_part (j := 0) (by kernel_rfl) hc rfl, ?_⟩
    rw [beqS]
    refine brB_of (fun h1 => ?_) (fun h1 => ?_)
    · have h1' : ¬ x.1 = y := by simpa using h1
      rw [if_neg h1'] at hnext
      refine hl3.get rfl hx (by simp; omega) fun ad e hc => ⟨x.1, x.2, none, 0, 0, ld_many (by kernel_rfl) (by kernel_rfl) hc, fun b5 H5 hn5 => ?_⟩
      refine ap_own (E := encF0) (bytes := 56) slice86 elem91 (ho.keep hn5.fr) (hf.keep0 hn5.fr) (sl_one encF0 x hn5 rfl) (by omega) fun o' m' k' H' h1 h2 _ => ⟨⟨j + 1, succ64 (by omega), by omega, by rw [hnext]; exact h1, h2⟩, ?_⟩
      show n - (IntKind.i64.wrap ((j : Int) + 1)).toNat < n - ((j : Nat) : Int).toNat
      rw [succ64 (by omega)]
      exact mu_lt h0'
    · have h1' : x.1 = y := by simpa using h1
      rw [if_pos h1', List.append_nil] at hnext
      refine ⟨⟨j + 1, succ64 (by omega), by omega, by rw [hnext]; exact ho, hf⟩, ?_⟩
      show n - (IntKind.i64.wrap ((j : Int) + 1)).toNat < n - ((j : Nat) : Int).toNat
      rw [succ64 (by omega)]
      exact mu_lt h0'
  · have hjn : j = n := by simp at h0; omega
    rw [List.take_of_length_le (by omega)] at ho
    exact ⟨_, _, _, rfl, hk _ _ _ _ ho hf⟩
end Go.Proofs
set_option linter.unusedVariables false
set_option maxRecDepth 100000
open Go Go.GV
namespace Go.Proofs

abbrev FH := ByteArray × ByteArray × Hd
def encFh : Enc FH := ⟨fun x => [.string x.1, .string x.2.1, .slice x.2.2.1 x.2.2.2.1 x.2.2.2.2], 3, fun _ => rfl, by decide, fun _ v h => by simp at h; rcases h with rfl | rfl | rfl <;> rfl⟩
abbrev Fl10 := ByteArray × ByteArray × List Int
def FhR (H : Heap) (Q : List Nat) (fh : List FH) (fs : List Fl10) : Prop :=
  fh.length = fs.length ∧ ∀ (i : Nat) x f, fh[i]? = some x → fs[i]? = some f → x.1 = f.1 ∧ x.2.1 = f.2.1 ∧ Sl encInt H x.2.2.1 x.2.2.2.1 x.2.2.2.2 f.2.2 ∧ ∀ k ∈ blkL x.2.2.1, k ∈ Q
theorem FhR.fr {H H' : Heap} {Q S : List Nat} {fh : List FH} {fs : List Fl10} (h : FhR H Q fh fs) (hf : Fr S H H') (hd : Dj Q S) : FhR H' Q fh fs :=
  ⟨h.1, fun i x f hx hf' => by
    obtain ⟨h1, h2, h3, h4⟩ := h.2 i x f hx hf'
    exact ⟨h1, h2, h3.fr hf fun ad e => hd _ (h4 _ (by simp [e, blkL])), h4⟩⟩
theorem FhR.keep {H H' : Heap} {Q : List Nat} {fh : List FH} {fs : List Fl10} (h : FhR H Q fh fs) (hf : Fr [] H H') : FhR H' Q fh fs := h.fr hf fun _ _ => by simp
theorem FhR.nil (H : Heap) (Q : List Nat) : FhR H Q [] [] := ⟨rfl, fun i x f h => by simp at h⟩
theorem FhR.snoc {H : Heap} {Q : List Nat} {fh : List FH} {fs : List Fl10} (h : FhR H Q fh fs) {x : FH} {f : Fl10} (h1 : x.1 = f.1) (h2 : x.2.1 = f.2.1) (h3 : Sl encInt H x.2.2.1 x.2.2.2.1 x.2.2.2.2 f.2.2) : FhR H (Q ++ blkL x.2.2.1) (fh ++ [x]) (fs ++ [f]) := by
  refine ⟨by simp [h.1], fun i z g hz hg => ?_⟩
  have hl := h.1
  by_cases hi : i < fh.length
  · rw [List.getElem?_append_left hi] at hz
    rw [List.getElem?_append_left (by omega)] at hg
    obtain ⟨a1, a2, a3, a4⟩ := h.2 i z g hz hg
    exact ⟨a1, a2, a3, fun k hk => List.mem_append_left _ (a4 k hk)⟩
  · rw [List.getElem?_append_right (by omega)] at hz hg
    have e : i - fh.length = 0 := by
      have := (List.getElem?_eq_some_iff.1 hz).1
      simp at this; omega
    rw [e] at hz
    rw [show i - fs.length = 0 by omega] at hg
    simp at hz hg
    subst hz hg
    exact ⟨h1, h2, h3, fun k hk => List.mem_append_right _ hk⟩
theorem directory_ok {a : Option Addr} {n c : Nat} {fh : List FH} {fs : List Fl10} {Q : List Nat} {H : Heap} {K : ByteArray → Heap → Prop} (hl : Sl encFh H a n c fh) (hr : FhR H Q fh fs) (hn : n ≤ 1000) (hsz : ∀ f ∈ fs, f.1.size ≤ 1000000 ∧ f.2.1.size ≤ 30000000 ∧ f.2.2.length ≤ 500000)
    (hk : ∀ H', Fr [] H H' → K ⟨(dirB fs).toArray⟩ H') :
    CallH Tryz.prog fn_ref10_directory ⟨[.slice a n c]⟩ H fun v H' => ∃ s, v = .string s ∧ K s H' := by
  apply vc_ref10_directory
  have hlen := hl.len
  have hrl := hr.1
  have hwn : IntKind.u64.wrap (n : Int) = ((n : Nat) : Int) := wrapU64 (by omega) (by omega)
  have e10 := fun m (h : m < 18446744073709551616) => uintL_len10 (n := m) h
  have hfb : ∀ f ∈ fs, (fileB f).length ≤ 7000000 := fun f hf => by
    obtain ⟨h1, h2, h3⟩ := hsz f hf
    unfold fileB textL
    simp only [List.length_append]
    have := e10 f.1.size (by omega)
    have := e10 f.2.1.size (by omega)
    have := numsB_len f.2.2
    rw [bl_len]
    omega
  have hpre : ∀ j, ((fs.take j).flatMap fileB).length ≤ 7000000 * j := by
    intro j
    induction j with
    | zero => simp
    | succ j ih =>
      rw [List.take_add_one, List.flatMap_append, List.length_append]
      cases hj : fs[j]? with
      | none => simp only [Option.toList_none, List.flatMap_nil, List.length_nil]; omega
      | some f =>
        have := hfb f (List.mem_of_getElem? hj)
        simp only [Option.toList_some, List.flatMap_cons, List.flatMap_nil, List.append_nil]
        omega
  rw [hwn]
  refine rUint_ok (by omega) fun H1 hf1 => ?_
  refine ⟨fun vs H' => match vs with | [.string s, .int _ i] => ∃ j : Nat, i = j ∧ j ≤ n ∧ bl s = uintL n ++ (fs.take j).flatMap fileB ∧ Fr [] H H' | _ => False,
    fun vs _ => match vs with | [_, .int _ i] => n - i.toNat | _ => 0, ⟨0, rfl, by omega, by rw [bl_mk (uintL n)]; simp, hf1⟩, ?_⟩
  rintro J s i H2 ⟨j, rfl, hj, hs, hf2⟩
  refine brB_of (fun h0 => ?_) (fun h0 => ?_)
  · have h0' : j < n := by simpa using h0
    obtain ⟨x, hx⟩ := getElem_ex (l := fh) (i := j) (by omega)
    obtain ⟨f, hf⟩ := getElem_ex (l := fs) (i := j) (by omega)
    obtain ⟨q1, q2, q3, q4⟩ := hr.2 j x f hx hf
    obtain ⟨b1, b2, b3⟩ := hsz f (List.mem_of_getElem? hf)
    have hsl := hpre j
    have h10 := e10 n (by omega)
    have hssz : s.size ≤ 7000000010 := by rw [← bl_len, hs, List.length_append]; omega
    have hl2 := hl.keep hf2
    refine hl2.get rfl hx (by simp; omega) fun ad e hc => ⟨x.1, ld_part (j := 0) (by kernel_rfl) hc rfl, ?_⟩
    refine hl2.get rfl hx (by simp; omega) fun ad e hc => ⟨x.2.1, ld_part (j := 1) (by kernel_rfl) hc rfl, ?_⟩
    rw [q1, q2]
    refine rText_ok (by omega) fun H3 hf3 => ⟨ld_part (j := 1) (by kernel_rfl) (hc.keep hf3) (by rw [← q2]; rfl), ?_⟩
    have ht1 : (textL f.1).length ≤ 10 + f.1.size := by unfold textL; rw [List.length_append, bl_len]; have := e10 f.1.size (by omega); omega
    refine chk_true (decide_eq_true (by rw [size_mk (textL f.1)]; omega)) ?_
    rw [show IntKind.u64.wrap (f.2.1.size : Int) = ((f.2.1.size : Nat) : Int) from wrapU64 (by omega) (by omega)]
    refine rUint_ok (by omega) fun H4 hf4 => ?_
    have ht2 := e10 f.2.1.size (by omega)
    have hsz2 : (s ++ (⟨(textL f.1).toArray⟩ : ByteArray)).size = s.size + (textL f.1).length := by rw [ByteArray.size_append, size_mk (textL f.1)]
    refine chk_true (decide_eq_true (by rw [hsz2, size_mk (uintL f.2.1.size)]; omega)) ?_
    have f24 := hf3.keep0 hf4
    refine ⟨fun vs H' => match vs with | [.string s', .int _ k] => ∃ kN : Nat, k = kN ∧ kN ≤ f.2.2.length ∧ bl s' = bl s ++ textL f.1 ++ uintL f.2.1.size ++ numsB (f.2.2.take kN) ∧ Fr [] H2 H' | _ => False,
      fun vs _ => match vs with | [_, .int _ k] => f.2.2.length - k.toNat | _ => 0, ⟨0, rfl, by omega, ?_, f24⟩, ?_⟩
    · rw [bl_app, bl_app, bl_mk (textL f.1), bl_mk (uintL f.2.1.size)]; simp [numsB]
    rintro J2 s' k H5 ⟨kN, rfl, hk1, hs', hf5⟩
    have hl5 := hl2.keep hf5
    have q5 := q3.keep (hf2.keep0 hf5)
    have q5l := q5.len
    refine hl5.get rfl hx (by simp; omega) fun ad e hc => ⟨_, _, _, ld_part (j := 2) (by kernel_rfl) hc rfl, ?_⟩
    refine brB_of (fun h1 => ?_) (fun h1 => ?_)
    · have h1' : kN < f.2.2.length := by simp at h1; omega
      obtain ⟨z, hz⟩ := getElem_ex (l := f.2.2) (i := kN) h1'
      refine hl5.get rfl hx (by simp; omega) fun ad e hc => ⟨_, _, _, ld_part (j := 2) (by kernel_rfl) hc rfl, ?_⟩
      refine q5.get rfl hz (by simp; omega) fun ad e hc => ⟨z, ld_one (by kernel_rfl) hc, ?_⟩
      have hzw : IntKind.u64.wrap z = (((IntKind.u64.wrap z).toNat : Nat) : Int) := by have := wrapU64_range z; omega
      rw [hzw]
      have hzr := wrapU64_range z
      refine rUint_ok (by omega) fun H6 hf6 => ?_
      have hn6 := numsB_len (f.2.2.take kN)
      rw [List.length_take] at hn6
      have hs'sz : s'.size ≤ 7010000000 := by
        rw [← bl_len, hs']; simp only [List.length_append]; rw [bl_len]; omega
      have := e10 (IntKind.u64.wrap z).toNat (by omega)
      refine chk_true (decide_eq_true (by rw [size_mk (uintL (IntKind.u64.wrap z).toNat)]; omega)) ⟨⟨kN + 1, succ64 (by omega), by omega, ?_, hf5.keep0 hf6⟩, ?_⟩
      · rw [bl_app, bl_mk (uintL (IntKind.u64.wrap z).toNat), hs', List.take_add_one, hz]
        simp only [Option.toList_some, numsB_snoc, List.append_assoc]
      · show f.2.2.length - (IntKind.i64.wrap ((kN : Int) + 1)).toNat < f.2.2.length - ((kN : Nat) : Int).toNat
        rw [succ64 (by omega)]
        exact mu_lt h1'
    · have hkn : kN = f.2.2.length := by simp at h1; omega
      rw [List.take_of_length_le (by omega)] at hs'
      refine ⟨⟨j + 1, succ64 (by omega), by omega, ?_, hf2.keep0 hf5⟩, ?_⟩
      · rw [hs', hs, List.take_add_one, hf]
        simp [fileB]
      · show n - (IntKind.i64.wrap ((j : Int) + 1)).toNat < n - ((j : Nat) : Int).toNat
        rw [succ64 (by omega)]
        exact mu_lt h0'
  · have hjn : j = n := by simp at h0; omega
    rw [List.take_of_length_le (by omega)] at hs
    refine ⟨_, rfl, ?_⟩
    have : s = ⟨(dirB fs).toArray⟩ := bl_inj (by rw [hs, bl_mk (dirB fs), dirB_eq, ← hrl, ← hlen])
    rw [this]
    exact hk H2 hf2
end Go.Proofs
set_option linter.unusedVariables false
set_option maxRecDepth 100000
open Go Go.GV
namespace Go.Proofs

def laidF : List NF → Tk → Tk × List Fl10
  | [], t => (t, [])
  | x :: l, t =>
    let z := takesM (chunksS x.2) t
    let w := laidF l z.1
    (w.1, (x.1, x.2, z.2) :: w.2)
theorem fileM_new (ws : List Int) : ∀ (l : List ByteArray) (j : Nat) (t : Tk), fileM [] ws l j t = takesM l t
  | [], _, _ => rfl
  | c :: l, j, t => by
    simp only [fileM, takesM]
    rw [if_neg (by simp), fileM_new ws l]
theorem filesM_new {now : ByteArray → Option ByteArray} : ∀ (l : List NF) (t : Tk), (∀ x ∈ l, now x.1 = some x.2) → filesM (fun _ => none) now (l.map (·.1)) t = laidF l t
  | [], _, _ => rfl
  | x :: l, t, h => by
    have hx := h x (by simp)
    simp only [List.map_cons, filesM, laidF, Option.getD_none, hx, Option.getD_some]
    have : chunksS (⟨#[]⟩ : ByteArray) = [] := rfl
    rw [this, fileM_new, filesM_new l _ fun y hy => h y (by simp [hy])]
structure TkF (F : List Int) (t : Tk) (k : Nat) (ok : Bool) : Prop where
  need : t.need = k
  free : t.free = F.drop k
  fits : t.fits = ok
theorem TkF.yes {F : List Int} {t : Tk} {k : Nat} {ok : Bool} (h : TkF F t k ok) {c : ByteArray} {x : Int} (hx : F[k]? = some x) : (takeM t c).2 = x ∧ TkF F (takeM t c).1 (k + 1) ok := by
  obtain ⟨q1, q2⟩ := List.getElem?_eq_some_iff.1 hx
  have hd : t.free = x :: F.drop (k + 1) := by rw [h.free, List.drop_eq_getElem_cons q1, q2]
  unfold takeM
  rw [hd]
  exact ⟨rfl, ⟨by show t.need + 1 = _; rw [h.need], rfl, h.fits⟩⟩
theorem TkF.no {F : List Int} {t : Tk} {k : Nat} {ok : Bool} (h : TkF F t k ok) {c : ByteArray} (hx : F.length ≤ k) : (takeM t c).2 = 500 ∧ TkF F (takeM t c).1 (k + 1) false := by
  have hd : t.free = [] := by rw [h.free, List.drop_eq_nil_of_le hx]
  unfold takeM
  rw [hd]
  exact ⟨rfl, ⟨by show t.need + 1 = _; rw [h.need], by show ([] : List Int) = _; rw [List.drop_eq_nil_of_le (by omega)], rfl⟩⟩
theorem takes_fits {F : List Int} : ∀ (l : List ByteArray) {t : Tk} {k : Nat} {ok : Bool}, TkF F t k ok → (takesM l t).1.fits = (ok && decide (l = [] ∨ k + l.length ≤ F.length)) ∧ (takesM l t).1.need = k + l.length
  | [], t, k, ok, h => by simp [takesM, h.fits, h.need]
  | c :: l, t, k, ok, h => by
    simp only [takesM, List.length_cons]
    by_cases hk : k < F.length
    · obtain ⟨x, hx⟩ := getElem_ex hk
      have := takes_fits l (h.yes (c := c) hx).2
      rw [this.1, this.2]
      refine ⟨?_, by omega⟩
      congr 1
      rw [decide_eq_decide]
      constructor
      · rintro (h | h)
        · right; rw [h]; simp; omega
        · right; omega
      · rintro (h | h)
        · cases h
        · right; omega
    · have := takes_fits l (h.no (c := c) (by omega)).2
      rw [this.1, this.2]
      refine ⟨?_, by omega⟩
      rw [Bool.false_and]
      have : ¬ (c :: l = [] ∨ k + (l.length + 1) ≤ F.length) := by
        rintro (h | h)
        · cases h
        · omega
      rw [decide_eq_false this, Bool.and_false]
def freshF (sz : Nat) : List Int := (List.range (sz - 2)).map fun k : Nat => ((k + 2 : Nat) : Int)
theorem freshF_len (sz : Nat) : (freshF sz).length = sz - 2 := by simp [freshF]
theorem freshF_snoc {k : Nat} (h : 2 ≤ k) : freshF (k + 1) = freshF k ++ [(k : Int)] := by
  unfold freshF
  rw [show k + 1 - 2 = (k - 2) + 1 by omega, List.range_succ, List.map_append]
  congr 1
  simp only [List.map_cons, List.map_nil, List.cons.injEq, and_true]
  omega
theorem freshF_eq (sz : Nat) : freeN (lastS (fun _ => none) []) sz = freshF sz := by
  induction sz with
  | zero => rfl
  | succ k ih =>
    rw [freeN_succ, ih]
    by_cases h : 2 ≤ k
    · rw [if_pos ⟨h, fun hl => by
        rcases hl with h | ⟨_, _, _, h, _⟩
        · simp at h
        · cases h⟩, freshF_snoc h]
    · rw [if_neg (fun hh => h hh.1)]
      have : k = 0 ∨ k = 1 := by omega
      rcases this with rfl | rfl <;> rfl

structure RS (H : Heap) (X : List Nat) (s d : Addr) (sz : Nat) (l : List NF) : Prop where
  it : ∃ a n c, Blk H s [.pointer (some d), .slice a n c, .slice none 0 0, .slice none 0 0, .int .i64 0, .bool false] ∧ Sl encF0 H a n c l ∧ (∀ k ∈ blkL a, k ≠ s.block ∧ k ∉ X) ∧ In H (blkL a)
  disk : ∃ ia ic w1 w2 w3 w4 w5, Blk H d [.slice ia sz ic, w1, w2, w3, w4, w5]
  ne : s.block ≠ d.block
  inX : In H X
  offX : s.block ∉ X ∧ d.block ∉ X
theorem RS.frX {H H' : Heap} {X S : List Nat} {s d : Addr} {sz : Nat} {l : List NF} (h : RS H X s d sz l) (hf : Fr S H H') (hS : ∀ k ∈ S, k ∈ X) : RS H' X s d sz l := by
  obtain ⟨⟨a, n, c, h1, h2, h3, h3i⟩, ⟨ia, ic, w1, w2, w3, w4, w5, h4⟩, h5, h6, h7⟩ := h
  exact ⟨⟨a, n, c, h1.fr hf fun hs => h7.1 (hS _ hs), h2.fr hf fun ad e hs => (h3 _ (by simp [e, blkL])).2 (hS _ hs), h3, h3i.le hf.size⟩, ⟨ia, ic, w1, w2, w3, w4, w5, h4.fr hf fun hs => h7.2 (hS _ hs)⟩, h5, h6.le hf.size, h7⟩
theorem RS.keep {H H' : Heap} {X : List Nat} {s d : Addr} {sz : Nat} {l : List NF} (h : RS H X s d sz l) (hf : Fr [] H H') : RS H' X s d sz l := h.frX hf (by simp)
theorem own_in {α : Type} {E : Enc α} {t : TypeId} {base : Nat} {H : Heap} {a : Option Addr} {n c : Nat} {xs : List α} (h : Own E t base H a n c xs) : In H (blkL a) := fun k hk => by
  cases a with
  | none => simp [blkL] at hk
  | some ad => simp [blkL] at hk; subst hk; exact (h.lt ad rfl).2
theorem ap_gr {α : Type} {E : Enc α} {ts ty t t' : TypeId} {bytes base : Nat} {H : Heap} {a : Option Addr} {n c : Nat} {xs : List α} (x : α) {vs : List Value} {K : Option Addr → Nat → Nat → Heap → Prop}
    (hts : sliceB Tryz.prog ts t = true) (ht : elemB Tryz.prog t E.sz bytes = true) (ho : Own E t base H a n c xs) (hb : base ≤ H.size) (hv : vs = E.cells x) (hsz : (n + 1) * bytes ≤ 140737488355328)
    (hk : ∀ a' n' c' H', Own E t base H' a' n' c' (xs ++ [x]) → Fr (blkL a) H H' → Grow H (blkL a) (blkL a') → K a' n' c' H') :
    ∀ b H', New H b (.cells ⟨vs⟩ t') H' → SemWp Tryz.prog (Builtin.append_ ⟨[ts, ts]⟩ ty ⟨[.slice a n c, .slice (some ⟨b, 0, none⟩) 1 1]⟩) H' fun v H'' => ∃ a n c, v = .slice a n c ∧ K a n c H'' := fun b H1 hn => by
  have s1 := hn.size
  refine ap_grow (E := E) (bytes := bytes) hts ht (ho.keep hn.fr) (sl_one E x hn hv) (by omega) hsz fun a' n' c' H2 h1 h2 h3 => hk a' n' c' H2 h1 ?_ ?_
  · exact hn.fr.trans' h2 (by simp) fun k hk _ => hk
  · intro k hk
    rcases h3 k hk with h | h
    · exact .inl h
    · exact .inr (by omega)
end Go.Proofs
set_option linter.unusedVariables false
set_option maxRecDepth 100000
open Go Go.GV
namespace Go.Proofs

structure L3 (H : Heap) (base : Nat) (a : Option Addr) (n c : Nat) (a1 : Option Addr) (n1 c1 : Nat) (a2 : Option Addr) (n2 c2 : Nat) (fh : List FH) (fs : List Fl10) (T : List ByteArray) (P : List Int) (Q : List Nat) : Prop where
  o : Own encFh 91 base H a n c fh
  t : Own GV.encStr 9 base H a1 n1 c1 T
  p : Own encInt 3 base H a2 n2 c2 P
  r : FhR H Q fh fs
  inQ : In H Q
  d1 : Dj (blkL a) (blkL a1 ++ (blkL a2 ++ Q))
  d2 : Dj (blkL a1) (blkL a2 ++ Q)
  d3 : Dj (blkL a2) Q
  le : base ≤ H.size
theorem L3.fr {H H' : Heap} {base : Nat} {a : Option Addr} {n c : Nat} {a1 : Option Addr} {n1 c1 : Nat} {a2 : Option Addr} {n2 c2 : Nat} {fh : List FH} {fs : List Fl10} {T : List ByteArray} {P : List Int} {Q S : List Nat} (h : L3 H base a n c a1 n1 c1 a2 n2 c2 fh fs T P Q) (hf : Fr S H H')
    (k0 : Dj (blkL a) S) (k1 : Dj (blkL a1) S) (k2 : Dj (blkL a2) S) (k3 : Dj Q S) : L3 H' base a n c a1 n1 c1 a2 n2 c2 fh fs T P Q :=
  ⟨h.o.fr hf fun ad e => k0 _ (by simp [e, blkL]), h.t.fr hf fun ad e => k1 _ (by simp [e, blkL]), h.p.fr hf fun ad e => k2 _ (by simp [e, blkL]), h.r.fr hf k3, h.inQ.le hf.size, h.d1, h.d2, h.d3, Nat.le_trans h.le hf.size⟩
theorem L3.keep {H H' : Heap} {base : Nat} {a : Option Addr} {n c : Nat} {a1 : Option Addr} {n1 c1 : Nat} {a2 : Option Addr} {n2 c2 : Nat} {fh : List FH} {fs : List Fl10} {T : List ByteArray} {P : List Int} {Q : List Nat} (h : L3 H base a n c a1 n1 c1 a2 n2 c2 fh fs T P Q) (hf : Fr [] H H') : L3 H' base a n c a1 n1 c1 a2 n2 c2 fh fs T P Q :=
  h.fr hf (fun _ _ => by simp) (fun _ _ => by simp) (fun _ _ => by simp) fun _ _ => by simp
structure L3.Off (a a1 a2 : Option Addr) (Q : List Nat) (S : List Nat) : Prop where
  k0 : Dj (blkL a) S
  k1 : Dj (blkL a1) S
  k2 : Dj (blkL a2) S
  k3 : Dj Q S
theorem L3.inS {H : Heap} {base : Nat} {a : Option Addr} {n c : Nat} {a1 : Option Addr} {n1 c1 : Nat} {a2 : Option Addr} {n2 c2 : Nat} {fh : List FH} {fs : List Fl10} {T : List ByteArray} {P : List Int} {Q : List Nat} (h : L3 H base a n c a1 n1 c1 a2 n2 c2 fh fs T P Q) {S : List Nat} (hS : ∀ k ∈ S, H.size ≤ k) : L3.Off a a1 a2 Q S :=
  ⟨fun k hk hs => by have := own_in h.o k hk; have := hS k hs; omega, fun k hk hs => by have := (own_in h.t) k hk; have := hS k hs; omega, fun k hk hs => by have := (own_in h.p) k hk; have := hS k hs; omega, fun k hk hs => by have := h.inQ k hk; have := hS k hs; omega⟩
structure InI (H0 H9 : Heap) (S9 : List Nat) (base : Nat) (b3 : Nat) (nm dat : ByteArray) (a : Option Addr) (n c : Nat) (fh : List FH) (fs : List Fl10) (Q : List Nat) (F : List Int) (cs : List ByteArray) (t0 : Tk) (k : Nat) (a1 : Option Addr) (n1 c1 : Nat) (a2 : Option Addr) (n2 c2 : Nat) (ok : Bool) (H : Heap) : Prop where
  it : ∃ a3 n3 c3 xs t T P, L3 H base a n c a1 n1 c1 a2 n2 c2 fh fs T P Q ∧ Blk H ⟨b3, 0, none⟩ [.string nm, .string dat, .slice a3 n3 c3] ∧ Own encInt 3 base H a3 n3 c3 xs ∧ L3.Off a a1 a2 Q (b3 :: blkL a3) ∧ b3 ∉ blkL a3 ∧ (∀ k ∈ blkL a3, H9.size ≤ k) ∧
    TkF F t T.length ok ∧ takesM cs t0 = ((takesM (cs.drop k) t).1, xs ++ (takesM (cs.drop k) t).2) ∧ T.length ≤ t0.need + k ∧ P.length = T.length ∧ xs.length = k
  fr : Fr [] H0 H
  fr9 : Fr S9 H9 H
  g1 : ∀ k ∈ blkL a1, k ∈ S9 ∨ H9.size ≤ k
  g2 : ∀ k ∈ blkL a2, k ∈ S9 ∨ H9.size ≤ k
  g3 : b3 ∈ S9
theorem laid_inner {H0 H9 H5 : Heap} {S9 : List Nat} {base b3 : Nat} {nm dat : ByteArray} {a : Option Addr} {n c : Nat} {fh : List FH} {fs : List Fl10} {Q : List Nat} {F : List Int} {cs : List ByteArray} {t0 : Tk} {k : Nat} {a1 : Option Addr} {n1 c1 : Nat} {a2 : Option Addr} {n2 c2 : Nat} {ok ok' : Bool} {ac : Option Addr} {nc cc : Nat} {ch : ByteArray} {x : Int}
    {K : Option Addr → Nat → Nat → Option Addr → Nat → Nat → Heap → Prop}
    (h : InI H0 H9 S9 base b3 nm dat a n c fh fs Q F cs t0 k a1 n1 c1 a2 n2 c2 ok H5) (hH0 : H0.size ≤ base) (hcs : ∀ H', Fr S9 H9 H' → Sl GV.encStr H' ac nc cc cs) (hc : cs[k]? = some ch) (hcl : cs.length ≤ 1000000) (ht0 : t0.need ≤ 100000000) (hb3 : base ≤ b3)
    (hstep : ∀ (t : Tk) (N : Nat), N = n1 → TkF F t N ok → (takeM t ch).2 = x ∧ TkF F (takeM t ch).1 (N + 1) ok')
    (hk : ∀ a1' n1' c1' a2' n2' c2' H', InI H0 H9 S9 base b3 nm dat a n c fh fs Q F cs t0 (k + 1) a1' n1' c1' a2' n2' c2' ok' H' → K a1' n1' c1' a2' n2' c2' H') :
    ∃ a3 n3 c3, lD 80 H5 ⟨b3, 2, none⟩ (.slice a3 n3 c3) ∧ ∀ (b : Nat) (H6 : Heap), New H5 b (.cells ⟨[.int .i64 x]⟩ 3) H6 →
      SemWp Tryz.prog (Builtin.append_ ⟨[80, 80]⟩ 80 ⟨[.slice a3 n3 c3, .slice (some ⟨b, 0, none⟩) 1 1]⟩) H6 fun v H' => ∃ a n c, v = .slice a n c ∧ ∃ H7, sT 80 H' ⟨b3, 2, none⟩ (.slice a n c) H7 ∧
        ix ac k nc fun ad => (∃ s, lD 9 H7 (Addr.add ad (Int.toNat k * 1)) (.string s) ∧ ∀ (b : Nat) (H' : Heap), New H7 b (.cells ⟨[.string s]⟩ 9) H' →
          SemWp Tryz.prog (Builtin.append_ ⟨[92, 92]⟩ 92 ⟨[.slice a1 n1 c1, .slice (some ⟨b, 0, none⟩) 1 1]⟩) H' fun v H' => ∃ a1' n1' c1', v = .slice a1' n1' c1' ∧ ∀ (b : Nat) (H8 : Heap), New H' b (.cells ⟨[.int .i64 x]⟩ 3) H8 →
            SemWp Tryz.prog (Builtin.append_ ⟨[80, 80]⟩ 80 ⟨[.slice a2 n2 c2, .slice (some ⟨b, 0, none⟩) 1 1]⟩) H8 fun v H' => ∃ a2' n2' c2', v = .slice a2' n2' c2' ∧ K a1' n1' c1' a2' n2' c2' H') := by
  obtain ⟨⟨a3, n3, c3, xs, t, T, P, hL, hB, hO, hoff, hb, h9a, hT, htk, hTl, hPl, hxl⟩, hfr, hfr9, g1, g2, g3⟩ := h
  have hnT := hL.t.1
  have hnP := hL.p.1
  have hn3 := hO.1
  have hkl : k < cs.length := (List.getElem?_eq_some_iff.1 hc).1
  refine ⟨a3, n3, c3, hB.ldK (j := 2) (by kernel_rfl) rfl, ?_⟩
  refine ap_gr (E := encInt) (bytes := 8) x slice80 elem3 hO hL.le rfl (by omega) fun a3' n3' c3' H6 hO6 hf6 hg6 => ?_
  have hoff3 : L3.Off a a1 a2 Q (blkL a3) := ⟨fun k hk hs => hoff.k0 k hk (by simp [hs]), fun k hk hs => hoff.k1 k hk (by simp [hs]), fun k hk hs => hoff.k2 k hk (by simp [hs]), fun k hk hs => hoff.k3 k hk (by simp [hs])⟩
  have hL6 := hL.fr hf6 hoff3.k0 hoff3.k1 hoff3.k2 hoff3.k3
  have hB6 := hB.fr hf6 hb
  have hb6 : b3 ∉ blkL a3' := fun hm => (hg6 _ hm).elim hb fun h => by have : b3 < H5.size := hB.lt; omega
  have hoff6 : L3.Off a a1 a2 Q (b3 :: blkL a3') := by
    have hsub : ∀ k ∈ b3 :: blkL a3', k ∈ b3 :: blkL a3 ∨ H5.size ≤ k := fun k hk => by
      rcases List.mem_cons.1 hk with e | e
      · exact .inl (by simp [e])
      · exact (hg6 k e).imp (fun h => by simp [h]) id
    exact ⟨fun k hk hs => (hsub k hs).elim (hoff.k0 k hk) fun h => by have := (own_in hL.o) k hk; omega, fun k hk hs => (hsub k hs).elim (hoff.k1 k hk) fun h => by have := (own_in hL.t) k hk; omega,
      fun k hk hs => (hsub k hs).elim (hoff.k2 k hk) fun h => by have := (own_in hL.p) k hk; omega, fun k hk hs => (hsub k hs).elim (hoff.k3 k hk) fun h => by have := hL.inQ k hk; omega⟩
  refine Blk.setK hB6 (by kernel_rfl) (by kernel_rfl) rfl rfl (by simp) fun H7 hB7 hf7 => ?_
  have hB7 : Blk H7 ⟨b3, 0, none⟩ [.string nm, .string dat, .slice a3' n3' c3'] := hB7
  have hoffb : L3.Off a a1 a2 Q [b3] := ⟨fun k hk hs => hoff.k0 k hk (by simp at hs; simp [hs]), fun k hk hs => hoff.k1 k hk (by simp at hs; simp [hs]), fun k hk hs => hoff.k2 k hk (by simp at hs; simp [hs]), fun k hk hs => hoff.k3 k hk (by simp at hs; simp [hs])⟩
  have hL7 := hL6.fr hf7 hoffb.k0 hoffb.k1 hoffb.k2 hoffb.k3
  have hO7 := hO6.fr hf7 fun ad e => fun hs => hb6 (by simp at hs; simp [e, blkL, hs])
  have hge3 : ∀ k ∈ blkL a3, base ≤ k := fun k hk => (hO.ge k hk).1
  have hfr7 : Fr [] H0 H7 := (hfr.keep hf6 fun k hk => by have := hge3 k hk; omega).keep hf7 fun k hk => by simp at hk; omega
  have fr97 : Fr S9 H9 H7 := (hfr9.trans' hf6 (fun k hk _ => hk) fun k hk hlt => by have := h9a k hk; omega).trans' hf7 (fun k hk _ => hk) fun k hk _ => by rw [List.mem_singleton.1 hk]; exact g3
  refine (hcs H7 fr97).get rfl hc (by simp; have := (hcs H7 fr97).len; omega) fun ad e hcell => ⟨ch, ld_one (by kernel_rfl) hcell, ?_⟩
  refine ap_gr (E := GV.encStr) (bytes := 16) ch slice41 elem9 hL7.t hL7.le rfl (by omega) fun a1' n1' c1' H8 ht8 hf8 hg8 => ?_
  have hst := hstep t n1 rfl (by rw [hnT]; exact hT)
  have hd8 : Dj (blkL a1') (blkL a2 ++ Q) := hL7.d2.grow hg8 ((own_in hL7.p).app hL7.inQ)
  have hda : Dj (blkL a) (blkL a1) := fun k hk h => hL.d1 k hk (by simp [h])
  have hda2 : Dj (blkL a) (blkL a2 ++ Q) := fun k hk h => hL.d1 k hk (by simp at h ⊢; exact .inr h)
  have hd8a : Dj (blkL a) (blkL a1') := (hda.symm.grow hg8 (own_in hL7.o)).symm
  have hp8 := hL7.p.fr hf8 fun ad e hs => hL7.d2 _ hs (List.mem_append_left _ (by simp [e, blkL]))
  have ho8 := hL7.o.fr hf8 fun ad e hs => hda _ (by simp [e, blkL]) hs
  have hr8 := hL7.r.fr hf8 fun k hk hs => hL7.d2 k hs (List.mem_append_right _ hk)
  have hB8 := hB7.fr hf8 fun hs => hoff.k1 _ hs (by simp)
  have hO8 := hO7.fr hf8 fun ad e hs => hoff6.k1 _ hs (by simp [e, blkL])
  have hQ8 := hL7.inQ.le hf8.size
  have hfr8 : Fr [] H0 H8 := hfr7.keep hf8 fun k hk => by have := hL.t.ge k hk; omega
  have fr98 : Fr S9 H9 H8 := fr97.trans' hf8 (fun k hk _ => hk) fun k hk hlt => (g1 k hk).elim id fun h => by omega
  have s57 : H5.size ≤ H7.size := Nat.le_trans hf6.size hf7.size
  have hge1' : ∀ k ∈ blkL a1', k ∉ b3 :: blkL a3' := fun k hk => (hg8 k hk).elim (hoff6.k1 k) fun h hs => by
    rcases List.mem_cons.1 hs with e | e
    · have : b3 < H7.size := hB7.lt; omega
    · have := (own_in hO7) k e; omega
  refine ap_gr (E := encInt) (bytes := 8) x slice80 elem3 hp8 (Nat.le_trans hL7.le hf8.size) rfl (by omega) fun a2' n2' c2' H9 hp9 hf9 hg9 => hk _ _ _ _ _ _ H9 ⟨⟨a3', n3', c3', xs ++ [x], (takeM t ch).1, T ++ [ch], P ++ [x], ⟨?_, ?_, hp9, ?_, hQ8.le hf9.size, ?_, ?_, ?_, ?_⟩, ?_, ?_, ⟨?_, ?_, ?_, ?_⟩, hb6, ?_, ?_, ?_, ?_, ?_, ?_⟩, hfr8.keep hf9 fun k hk => by have := hL.p.ge k hk; omega, fr98.trans' hf9 (fun k hk _ => hk) fun k hk hlt => (g2 k hk).elim id fun h => by omega, ?_, ?_, g3⟩
  · exact ho8.fr hf9 fun ad e hs => hda2 _ (by simp [e, blkL]) (List.mem_append_left _ hs)
  · exact ht8.fr hf9 fun ad e hs => hd8 _ (by simp [e, blkL]) (List.mem_append_left _ hs)
  · exact hr8.fr hf9 fun k hk hs => hL7.d3 k hs hk
  · intro k hk hs
    simp only [List.mem_append] at hs
    rcases hs with hs | hs | hs
    · exact hd8a k hk hs
    · exact (hg9 k hs).elim (fun h => hda2 k hk (by simp [h])) fun h => by have := (own_in ho8) k hk; omega
    · exact hda2 k hk (by simp [hs])
  · intro k hk hs
    simp only [List.mem_append] at hs
    rcases hs with hs | hs
    · exact (hg9 k hs).elim (fun h => hd8 k hk (by simp [h])) fun h => by have := (own_in ht8) k hk; omega
    · exact hd8 k hk (by simp [hs])
  · exact hL7.d3.grow hg9 hQ8
  · exact Nat.le_trans (Nat.le_trans hL7.le hf8.size) hf9.size
  · exact hB8.fr hf9 fun hs => hoff.k2 _ hs (by simp)
  · exact hO8.fr hf9 fun ad e hs => hoff6.k2 _ hs (by simp [e, blkL])
  · exact hoff6.k0
  · exact fun k hk hs => hge1' k hk hs
  · intro k hk hs
    refine (hg9 k hk).elim (fun h => hoff6.k2 k h hs) fun h => ?_
    rcases List.mem_cons.1 hs with e | e
    · have : b3 < H8.size := hB8.lt; omega
    · have := (own_in hO8) k e; omega
  · exact hoff6.k3
  · intro k hk
    rcases hg6 k hk with h | h
    · exact h9a k h
    · have := hfr9.size; omega
  · rw [List.length_append, List.length_singleton, ← hnT]; exact hst.2
  · rw [htk, takesM_cons hc, hst.1]; simp
  · simp; omega
  · simp [hPl]
  · simp [hxl]
  · intro k hk
    rcases hg8 k hk with h | h
    · exact g1 k h
    · have := fr97.size; exact .inr (by omega)
  · intro k hk
    rcases hg9 k hk with h | h
    · exact g2 k h
    · have := fr98.size; exact .inr (by omega)
end Go.Proofs
set_option linter.unusedVariables false
set_option maxRecDepth 100000
open Go Go.GV
namespace Go.Proofs

theorem L3.append {H : Heap} {base : Nat} {a : Option Addr} {n c : Nat} {a1 : Option Addr} {n1 c1 : Nat} {a2 : Option Addr} {n2 c2 : Nat} {fh : List FH} {fs : List Fl10} {T : List ByteArray} {P : List Int} {Q : List Nat} {x : FH} {f : Fl10} {K : Option Addr → Nat → Nat → Heap → Prop}
    (h : L3 H base a n c a1 n1 c1 a2 n2 c2 fh fs T P Q) (hn : n ≤ 1000000) (h1 : x.1 = f.1) (h2 : x.2.1 = f.2.1) (h3 : Sl encInt H x.2.2.1 x.2.2.2.1 x.2.2.2.2 f.2.2) (hx : ∀ k ∈ blkL x.2.2.1, k < H.size ∧ k ∉ blkL a ∧ k ∉ blkL a1 ∧ k ∉ blkL a2)
    (hk : ∀ a' n' c' H', L3 H' base a' n' c' a1 n1 c1 a2 n2 c2 (fh ++ [x]) (fs ++ [f]) T P (Q ++ blkL x.2.2.1) → Fr (blkL a) H H' → Grow H (blkL a) (blkL a') → K a' n' c' H') :
    ∀ b H1, New H b (.cells ⟨[.string x.1, .string x.2.1, .slice x.2.2.1 x.2.2.2.1 x.2.2.2.2]⟩ 91) H1 → SemWp Tryz.prog (Builtin.append_ ⟨[86, 86]⟩ 86 ⟨[.slice a n c, .slice (some ⟨b, 0, none⟩) 1 1]⟩) H1 fun v H' => ∃ a n c, v = .slice a n c ∧ K a n c H' := by
  refine ap_gr (E := encFh) (bytes := 56) x slice86 elem91 h.o h.le rfl (by omega) fun a' n' c' H2 ho hf hg => hk a' n' c' H2 ⟨ho, ?_, ?_, ?_, ?_, ?_, ?_, ?_, Nat.le_trans h.le hf.size⟩ hf hg
  · exact h.t.fr hf fun ad e hs => h.d1 _ hs (List.mem_append_left _ (by simp [e, blkL]))
  · exact h.p.fr hf fun ad e hs => h.d1 _ hs (List.mem_append_right _ (List.mem_append_left _ (by simp [e, blkL])))
  · have hr := h.r.fr hf fun k hk hs => h.d1 k hs (List.mem_append_right _ (List.mem_append_right _ hk))
    exact hr.snoc h1 h2 (h3.fr hf fun ad e hs => (hx _ (by simp [e, blkL])).2.1 hs)
  · intro k hk
    rcases List.mem_append.1 hk with hk | hk
    · exact Nat.lt_of_lt_of_le (h.inQ k hk) hf.size
    · exact Nat.lt_of_lt_of_le (hx k hk).1 hf.size
  · intro k hk hs
    rcases hg k hk with hk' | hk'
    · simp only [List.mem_append] at hs
      rcases hs with hs | hs | hs | hs
      · exact h.d1 k hk' (by simp [hs])
      · exact h.d1 k hk' (by simp [hs])
      · exact h.d1 k hk' (by simp [hs])
      · exact (hx k hs).2.1 hk'
    · simp only [List.mem_append] at hs
      rcases hs with hs | hs | hs | hs
      · have := own_in h.t k hs; omega
      · have := own_in h.p k hs; omega
      · have := h.inQ k hs; omega
      · have := (hx k hs).1; omega
  · intro k hk hs
    simp only [List.mem_append] at hs
    rcases hs with hs | hs | hs
    · exact h.d2 k hk (by simp [hs])
    · exact h.d2 k hk (by simp [hs])
    · exact (hx k hs).2.2.1 hk
  · intro k hk hs
    simp only [List.mem_append] at hs
    rcases hs with hs | hs
    · exact h.d3 k hk hs
    · exact (hx k hs).2.2.2 hk
theorem dirB_len {fs : List Fl10} (h : ∀ f ∈ fs, f.1.size ≤ 1000000 ∧ f.2.1.size ≤ 30000000 ∧ f.2.2.length ≤ 500000) (hn : fs.length ≤ 1000000) : (dirB fs).length ≤ 10 + 8000000 * fs.length := by
  rw [dirB_eq, List.length_append]
  have h1 := uintL_len10 (n := fs.length) (by omega)
  have h2 : ∀ g : List Fl10, (∀ f ∈ g, f.1.size ≤ 1000000 ∧ f.2.1.size ≤ 30000000 ∧ f.2.2.length ≤ 500000) → (g.flatMap fileB).length ≤ 8000000 * g.length := by
    intro g
    induction g with
    | nil => intro _; simp
    | cons f g ih =>
      intro hg
      have := ih fun x hx => hg x (by simp [hx])
      obtain ⟨q1, q2, q3⟩ := hg f (by simp)
      rw [List.flatMap_cons, List.length_append, List.length_cons]
      have hf : (fileB f).length ≤ 8000000 := by
        unfold fileB textL
        simp only [List.length_append]
        have := uintL_len10 (n := f.1.size) (by omega)
        have := uintL_len10 (n := f.2.1.size) (by omega)
        have := numsB_len f.2.2
        rw [bl_len]
        omega
      omega
  have := h2 fs h
  omega
theorem laidF_mem : ∀ (l : List NF) (t : Tk), ∀ f ∈ (laidF l t).2, ∃ x ∈ l, f.1 = x.1 ∧ f.2.1 = x.2 ∧ f.2.2.length = (chunksS x.2).length
  | [], t, f, hf => by simp [laidF] at hf
  | y :: l, t, f, hf => by
    simp only [laidF] at hf
    rcases List.mem_cons.1 hf with e | e
    · exact ⟨y, by simp, by rw [e], by rw [e], by rw [e]; exact takesM_len _ _⟩
    · obtain ⟨z, hz, r⟩ := laidF_mem l _ f e
      exact ⟨z, by simp [hz], r⟩
theorem fresh_t0 (sz : Nat) : TkF (freshF sz) { free := freshF sz, puts := [], need := 0, fits := true } 0 true := ⟨rfl, rfl, rfl⟩
def t0F (sz : Nat) : Tk := { free := freshF sz, puts := [], need := 0, fits := true }
theorem rLaid_ok {X : List Nat} {s d : Addr} {sz : Nat} {l0 l : List NF} {la : Option Addr} {ln lc : Nat} {H : Heap} {K : Option Addr → Nat → Nat → Option Addr → Nat → Nat → Option Addr → Nat → Nat → ByteArray → Option Addr → Nat → Nat → Bool → Heap → Prop}
    (h : RS H X s d sz l0) (hsz : 8 ≤ sz ∧ sz ≤ 512) (hl : Sl encF0 H la ln lc l) (hn : ln ≤ 100) (hdat : ∀ x ∈ l, x.1.size ≤ 1000000 ∧ x.2.size ≤ 30000000)
    (hk : ∀ a n c a1 n1 c1 a2 n2 c2 a3 n3 c3 H' fh Q, Own encFh 91 H.size H' a n c fh → FhR H' Q fh (laidF l (t0F sz)).2 → n1 = (laidF l (t0F sz)).1.need → n1 ≤ 60000000 → Fr [] H H' →
      K a n c a1 n1 c1 a2 n2 c2 ⟨(dirB (laidF l (t0F sz)).2).toArray⟩ a3 n3 c3 (takesM (chunksS ⟨(dirB (laidF l (t0F sz)).2).toArray⟩) (laidF l (t0F sz)).1).1.fits H') :
    CallH Tryz.prog fn_ref10_Store_laid ⟨[.pointer (some s), .slice la ln lc]⟩ H fun v H' => ∃ a n c a_1 n_1 c_1 a_2 n_2 c_2 s_1 a_3 n_3 c_3 b, v = .tuple ⟨[.slice a n c, .slice a_1 n_1 c_1, .slice a_2 n_2 c_2, .string s_1, .slice a_3 n_3 c_3, .bool b]⟩ ∧ K a n c a_1 n_1 c_1 a_2 n_2 c_2 s_1 a_3 n_3 c_3 b H' := by
  apply vc_ref10_Store_laid
  intro b H1 hn1
  obtain ⟨⟨sa, sn, sc, hB0, _, _⟩, ⟨ia, ic, w1, w2, w3, w4, w5, hD0⟩, _⟩ := id h
  have hB : ∀ H', Fr [] H H' → Blk H' s [.pointer (some d), .slice sa sn sc, .slice none 0 0, .slice none 0 0, .int .i64 0, .bool false] := fun H' hf => hB0.keep hf
  refine ⟨none, 0, 0, (hB H1 hn1.fr).ld (j := 3) (by kernel_rfl) rfl, ?_⟩
  refine ap_grow (E := encInt) (bytes := 8) (ys := []) slice80 elem3 (Own.made encInt 3 (base := H.size) hn1 (Nat.le_refl _)) Sl.zero (by have := hn1.size; omega) (by omega) fun a n c H2 ho2 hf2 hg2 => ?_
  have hn0 : n = 0 := by have := ho2.1; simpa using this
  subst hn0
  have e1 := hn1.eq
  have s1 := hn1.size
  have f2 : Fr [] H H2 := hn1.fr.keep hf2 fun k hk => by simp [blkL] at hk; omega
  refine ⟨fun vs H' => vs = [.slice a 0 c, .int .i64 0] ∧ H' = H2, fun _ _ => 0, ⟨rfl, rfl⟩, ?_⟩
  rintro J a' n' c' i H3 ⟨ev, rfl⟩
  simp only [List.cons.injEq, Value.slice.injEq, Value.int.injEq, true_and, and_true] at ev
  obtain ⟨⟨rfl, rfl, rfl⟩, rfl⟩ := ev
  refine ⟨none, 0, 0, (hB H3 f2).ld (j := 2) (by kernel_rfl) rfl, brB_of (fun h => by simp at h) fun _ => ?_⟩
  intro b4 H4 hn4
  refine ⟨fun vs H' => match vs with | [.slice a n c, .int _ i] => ∃ k : Nat, i = k ∧ 2 ≤ k ∧ k ≤ sz ∧ Own encInt 3 H3.size H' a n c (freshF k) ∧ Fr [] H3 H' | _ => False,
    fun vs _ => match vs with | [_, .int _ i] => sz - i.toNat | _ => 0, ⟨2, rfl, by omega, by omega, Own.made encInt 3 hn4 (Nat.le_refl _), hn4.fr⟩, ?_⟩
  rintro J fa fn fc i H5 ⟨k, rfl, hk2, hks, hof, hf5⟩
  have f5 := f2.keep0 hf5
  refine ⟨some d, (hB H5 f5).ld0 (by kernel_rfl) rfl, ⟨ia, sz, ic, (hD0.keep f5).ld0 (by kernel_rfl) rfl, brB_of (fun h0 => ?_) (fun h0 => ?_)⟩⟩
  · have h0' : k < sz := by simpa using h0
    refine used_ok (brB_of (fun _ => ?_) (fun h => by simp at h))
    have hfl := hof.1
    rw [freshF_len] at hfl
    intro b6 H6 hn6
    refine ap_own (E := encInt) (bytes := 8) slice80 elem3 (hof.keep hn6.fr) (hf5.keep0 hn6.fr) (sl_one encInt (k : Int) hn6 rfl) (by omega) fun a' n' c' H7 h1 h2 _ => ⟨⟨k + 1, succ64 (by omega), by omega, by omega, by rw [freshF_snoc hk2]; exact h1, h2⟩, ?_⟩
    show sz - (IntKind.i64.wrap ((k : Int) + 1)).toNat < sz - ((k : Nat) : Int).toNat
    rw [succ64 (by omega)]
    exact mu_lt h0'
  have hks : k = sz := by simp at h0; omega
  subst hks
  clear h0 hg2 ho2 hf2 hn4
  have hFl := freshF_len k
  have hfn := hof.1
  intro ba Ha hna bb Hb hnb bc Hc hnc
  have sa1 := hna.size
  have sb1 := hnb.size
  have sc1 := hnc.size
  have ea := hna.eq
  have eb := hnb.eq
  have ec := hnc.eq
  have f5c : Fr [] H5 Hc := (hna.fr.keep0 hnb.fr).keep0 hnc.fr
  have hL0 : L3 Hc H5.size (some ⟨ba, 0, none⟩) 0 0 (some ⟨bb, 0, none⟩) 0 0 (some ⟨bc, 0, none⟩) 0 0 [] [] [] [] [] :=
    ⟨((Own.made encFh 91 (base := H5.size) hna (Nat.le_refl _)).keep hnb.fr).keep hnc.fr, (Own.made GV.encStr 9 (base := H5.size) hnb (by omega)).keep hnc.fr, Own.made encInt 3 (base := H5.size) hnc (by omega), FhR.nil _ _, fun k hk => by simp at hk,
      fun k hk hs => by simp [blkL] at hk hs; omega, fun k hk hs => by simp [blkL] at hk hs; omega, fun k hk hs => by simp at hs, by omega⟩
  refine ⟨fun vs H' => match vs with | [.slice a n c, .slice a1 n1 c1, .slice a2 n2 c2, .bool ok, .int _ i] => ∃ (j : Nat) (fh : List FH) (fs : List Fl10) (t : Tk) (T : List ByteArray) (P : List Int) (Q : List Nat), i = j ∧ j ≤ ln ∧ L3 H' H5.size a n c a1 n1 c1 a2 n2 c2 fh fs T P Q ∧ TkF (freshF k) t T.length ok ∧ laidF l (t0F k) = ((laidF (l.drop j) t).1, fs ++ (laidF (l.drop j) t).2) ∧ fs.length = j ∧ T.length ≤ 500000 * j ∧ P.length = T.length ∧ Fr [] H5 H' | _ => False,
    fun vs _ => match vs with | [_, _, _, _, .int _ i] => ln - i.toNat | _ => 0, ⟨0, [], [], t0F k, [], [], [], rfl, by omega, hL0, fresh_t0 k, by simp, rfl, by simp, rfl, f5c⟩, ?_⟩
  rintro J oa on oc xa xn xc pa pn pc ok i H6 ⟨j, fh, fs, t, T, P, Q, rfl, hj, hL, hT, hlaid, hfs, hTl, hPl, hf6⟩
  have f6 := f5.keep0 hf6
  have hll := hl.len
  have hnT := hL.t.1
  refine brB_of (fun h0 => ?_) (fun h0 => ?_)
  · have h0' : j < ln := by simpa using h0
    obtain ⟨x, hx⟩ := getElem_ex (l := l) (i := j) (by omega)
    obtain ⟨hx1, hx2⟩ := hdat x (List.mem_of_getElem? hx)
    refine (hl.keep f6).get rfl hx (by simp; omega) fun ad e hc => ⟨x.1, ld_part (j := 0) (by kernel_rfl) hc rfl, ?_⟩
    refine (hl.keep f6).get rfl hx (by simp; omega) fun ad e hc => ⟨x.2, ld_part (j := 1) (by kernel_rfl) hc rfl, ?_⟩
    intro b3 H7 hn7
    have e7 := hn7.eq
    have s7 := hn7.size
    refine ⟨ld_part (j := 1) (by kernel_rfl) (hc.keep hn7.fr) rfl, ?_⟩
    rename_i ad0 e0 hc0
    refine ⟨ld_part (j := 0) (by kernel_rfl) (hc0.keep hn7.fr) rfl, ?_⟩
    refine hn7.blk.st0 (by kernel_rfl) (by kernel_rfl) (fun x hx => by simp [Value.cells] at hx; rcases hx with rfl | rfl | rfl <;> rfl) (by simp [Value.cells]) fun H8 hB8 hf8 => ?_
    have hB8 : Blk H8 ⟨b3, 0, none⟩ [.string x.1, .string x.2, .slice none 0 0] := by simpa [Value.cells] using hB8
    have hf68 : Fr [] H6 H8 := hn7.fr.keep hf8 fun k hk => by simp at hk; omega
    intro b5 H9 hn9
    have s8 := hf8.size
    have s9 := hn9.size
    have e9 := hn9.eq
    have hB9 := hB8.keep hn9.fr
    have hf69 := hf68.keep0 hn9.fr
    refine ⟨none, 0, 0, (hB H9 (f6.keep0 hf69)).ld (j := 2) (by kernel_rfl) rfl, x.1, hB9.ldK (j := 0) (by kernel_rfl) rfl, ?_⟩
    refine Find_ok (l := []) Sl.zero (by omega) (fun _ => ?_) fun j x h => by simp at h
    refine ⟨fun vs H' => match vs with | [.slice _ n _] => n = 0 ∧ H' = H9 | _ => False, brB_of (fun h => by simp at h) (fun _ => ⟨rfl, rfl⟩), ?_⟩
    rintro J2 a15 n11 c7 H9' ⟨rfl, rfl⟩
    refine ⟨x.2, hB9.ldK (j := 1) (by kernel_rfl) rfl, ?_⟩
    refine rchunks_ok (by omega) fun ca cn cc H10 hoc hf10 => ?_
    have hB10 := hB9.keep hf10
    have hL10 := (hL.keep hf69).keep hf10
    have s10 := hf10.size
    have hchl : (chunksS x.2).length ≤ 480000 := by rw [chunksS_len]; exact nCh_le hx2
    have hcn := hoc.1
    have hoff : L3.Off oa xa pa Q (b3 :: blkL (none : Option Addr)) := hL.inS fun k hk => by simp [blkL] at hk; omega
    have f510 : Fr [] H5 H10 := (hf6.keep0 hf69).keep0 hf10
    refine ⟨fun vs H' => match vs with | [.slice a1 n1 c1, .slice a2 n2 c2, .bool ok, .int _ i] => ∃ kN : Nat, i = kN ∧ kN ≤ cn ∧ InI H5 H10 (b3 :: (blkL xa ++ blkL pa)) H5.size b3 x.1 x.2 oa on oc fh fs Q (freshF k) (chunksS x.2) t kN a1 n1 c1 a2 n2 c2 ok H' | _ => False,
      fun vs _ => match vs with | [_, _, _, .int _ i] => cn - i.toNat | _ => 0, ⟨0, rfl, by omega, ⟨none, 0, 0, [], t, T, P, hL10, hB10, Own.nil _ _ _ _, hoff, by simp [blkL], by simp [blkL], hT, by simp, by have := hT.need; omega, hPl, rfl⟩, f510, Fr.refl _ _, fun k hk => .inl (by simp [hk]), fun k hk => .inl (by simp [hk]), by simp⟩, ?_⟩
    rintro J3 a18 n13 c9 a19 n14 c10 ok2 i2 H11 ⟨kN, rfl, hkN, hI⟩
    have hcs : ∀ H', Fr (b3 :: (blkL xa ++ blkL pa)) H10 H' → Sl GV.encStr H' ca cn cc (chunksS x.2) := fun H' hf => hoc.sl.fr hf fun ad e hs => by
      have hge := (hoc.ge ad.block (by simp [e, blkL])).1
      simp only [List.mem_cons, List.mem_append] at hs
      rcases hs with hs | hs | hs
      · omega
      · have := own_in hL.t _ hs; omega
      · have := own_in hL.p _ hs; omega
    have hbase3 : H5.size ≤ b3 := by have := hL.le; omega
    obtain ⟨a3, n3, c3, xs, t2, T2, P2, hL2, hB2, hO2, hoff2, hb2, h9a2, hT2, htk2, hTl2, hPl2, hxl2⟩ := hI.it
    have hnT2 := hL2.t.1
    refine brB_of (fun h1 => ?_) (fun h1 => ?_)
    · have h1' : kN < cn := by simpa using h1
      obtain ⟨ch, hch⟩ := getElem_ex (l := chunksS x.2) (i := kN) (by omega)
      have mu' : cn - (IntKind.i64.wrap ((kN : Int) + 1)).toNat < cn - ((kN : Nat) : Int).toNat := by rw [succ64 (by omega)]; exact mu_lt h1'
      refine ⟨fun vs H' => match vs with | [.slice a1 n1 c1, .slice a2 n2 c2, .bool ok] => InI H5 H10 (b3 :: (blkL xa ++ blkL pa)) H5.size b3 x.1 x.2 oa on oc fh fs Q (freshF k) (chunksS x.2) t (kN + 1) a1 n1 c1 a2 n2 c2 ok H' | _ => False,
        ⟨fun _ H' => H' = H11, ⟨fun vs H' => vs = [.bool false] ∧ H' = H11, brB_of (fun h => absurd (of_decide_eq_true h) (by omega)) (fun _ => ⟨rfl, rfl⟩), ?_⟩, ?_⟩, ?_⟩
      · rintro J4 b H12 ⟨eb', rfl⟩
        simp only [List.cons.injEq, Value.bool.injEq, and_true] at eb'
        subst eb'
        exact brB_of (fun h => by cases h) (fun _ => rfl)
      · rintro J4 H12 rfl
        refine brB_of (fun h2 => ?_) (fun h2 => ?_)
        · have h2' : n13 < fn := by simpa using h2
          obtain ⟨z, hz⟩ := getElem_ex (l := freshF k) (i := n13) (by omega)
          have hsl := hof.sl.keep hI.fr
          refine hsl.get rfl hz (by simp; omega) fun ad e hcell => ⟨z, ld_one (by kernel_rfl) hcell, ?_⟩
          exact laid_inner hI (Nat.le_refl _) hcs hch (by omega) (by have := hT.need; omega) hbase3 (fun t N hN hTN => by subst hN; exact hTN.yes hz) fun a1' n1' c1' a2' n2' c2' H' h => h
        · have h2' : ¬ n13 < fn := by simpa using h2
          exact laid_inner (x := 500) hI (Nat.le_refl _) hcs hch (by omega) (by have := hT.need; omega) hbase3 (fun t N hN hTN => by subst hN; exact hTN.no (by omega)) fun a1' n1' c1' a2' n2' c2' H' h => h
      · rintro J4 a1' n1' c1' a2' n2' c2' okk H12 h
        exact ⟨⟨kN + 1, succ64 (by omega), by omega, h⟩, mu'⟩
    · have hkn : kN = cn := by simp at h1; omega
      subst hkn
      rw [List.drop_eq_nil_of_le (by omega)] at htk2
      simp only [takesM, List.append_nil] at htk2
      refine ⟨x.1, x.2, a3, n3, c3, hB2.ldAK (j := 0) (by kernel_rfl) (by kernel_rfl) rfl, ?_⟩
      have hdr : l.drop j = x :: l.drop (j + 1) := by
        obtain ⟨q1, q2⟩ := List.getElem?_eq_some_iff.1 hx
        rw [List.drop_eq_getElem_cons q1, q2]
      have hnl2 := hL2.o.1
      have hfl2 := hL2.r.1
      refine L3.append (x := (x.1, x.2, (a3, n3, c3))) (f := (x.1, x.2, xs)) hL2 (by omega) rfl rfl hO2.sl (fun k hk => ⟨own_in hO2 k hk, fun hs => hoff2.k0 k hs (by simp [hk]), fun hs => hoff2.k1 k hs (by simp [hk]), fun hs => hoff2.k2 k hs (by simp [hk])⟩) fun a' n' c' H13 hL13 hf13 hg13 => ?_
      refine ⟨⟨j + 1, _, _, t2, T2, P2, _, succ64 (by omega), by omega, hL13, hT2, ?_, by simp [hfs], ?_, hPl2, ?_⟩, ?_⟩
      · rw [hlaid, hdr]
        simp only [laidF, htk2]
        simp
      · have := hT.need; omega
      · exact hI.fr.keep hf13 fun k hk => (hL2.o.ge k hk).1
      · show ln - (IntKind.i64.wrap ((j : Int) + 1)).toNat < ln - ((j : Nat) : Int).toNat
        rw [succ64 (by omega)]
        exact mu_lt h0'
  · have hjn : j = ln := by simp at h0; omega
    rw [List.drop_eq_nil_of_le (by omega)] at hlaid
    simp only [laidF, List.append_nil] at hlaid
    have hno := hL.o.1
    have hfl := hL.r.1
    have hsmall : ∀ f ∈ fs, f.1.size ≤ 1000000 ∧ f.2.1.size ≤ 30000000 ∧ f.2.2.length ≤ 500000 := fun f hf => by
      obtain ⟨z, hz, r1, r2, r3⟩ := laidF_mem l (t0F k) f (by rw [hlaid]; exact hf)
      obtain ⟨q1, q2⟩ := hdat z hz
      have := nCh_le q2
      rw [r1, r2, r3, chunksS_len]
      omega
    have hfsl : fs.length ≤ 100 := by omega
    have hdl := dirB_len hsmall (by omega)
    refine directory_ok hL.o.sl hL.r (by omega) hsmall fun H7 hf7 => ?_
    have hdir : dirB fs = dirB (laidF l (t0F k)).2 := by rw [hlaid]
    intro b8 H8 hn8
    have e8 := hn8.eq
    have s8 := hn8.size
    have s7 := hf7.size
    refine rchunks_ok (by rw [size_mk (dirB fs)]; omega) fun ca cn cc H9 hoc hf9 => ?_
    have hcn := hoc.1
    have hd := takes_fits (F := freshF k) (chunksS ⟨(dirB fs).toArray⟩) hT
    have s9 := hf9.size
    have hf79 : Fr [] H7 H9 := hn8.fr.keep0 hf9
    have hcl : (chunksS (⟨(dirB fs).toArray⟩ : ByteArray)).length ≤ 20000000 := by
      rw [chunksS_len, size_mk (dirB fs)]; unfold nCh; omega
    refine ⟨fun vs H' => match vs with | [.bool ok', .slice a n c, .int _ i] => ∃ (q : Nat) (xs : List Int), i = q ∧ q ≤ cn ∧ Own encInt 3 H7.size H' a n c xs ∧ xs.length ≤ q ∧ ok' = (ok && decide (q = 0 ∨ T.length + q ≤ (freshF k).length)) ∧ Fr [] H7 H' | _ => False,
      fun vs _ => match vs with | [_, _, .int _ i] => cn - i.toNat | _ => 0, ⟨0, [], rfl, by omega, (Own.made encInt 3 hn8 (Nat.le_refl _)).keep hf9, by simp, by simp, hf79⟩, ?_⟩
    rintro J4 okq a14 n10 c7 i H10 ⟨q, xs, rfl, hq, hox, hxl, rfl, hf10⟩
    have hnx := hox.1
    refine brB_of (fun h1 => ?_) (fun h1 => ?_)
    · have h1' : q < cn := by simpa using h1
      have mu' : cn - (IntKind.i64.wrap ((q : Int) + 1)).toNat < cn - ((q : Nat) : Int).toNat := by rw [succ64 (by omega)]; exact mu_lt h1'
      have hw : IntKind.i64.wrap ((xn : Int) + (q : Int)) = ((T.length + q : Nat) : Int) := by rw [wrap64_of (by omega) (by omega)]; omega
      rw [hw]
      refine brB_of (fun h2 => ?_) (fun h2 => ?_)
      · have h2' : T.length + q < fn := by
          have := of_decide_eq_true h2
          omega
        obtain ⟨z, hz⟩ := getElem_ex (l := freshF k) (i := T.length + q) (by omega)
        have hsl := (hof.sl.keep ((hf6.keep0 hf7).keep0 hf10))
        refine hsl.get rfl hz (decide_eq_true (by omega)) fun ad e hcell => ⟨z, ld_one (by kernel_rfl) hcell, fun b11 H11 hn11 => ?_⟩
        refine ap_own (E := encInt) (bytes := 8) slice80 elem3 (hox.keep hn11.fr) (hf10.keep0 hn11.fr) (sl_one encInt z hn11 rfl) (by omega) fun a' n' c' H12 h1 h2 _ => ⟨⟨q + 1, _, succ64 (by omega), by omega, h1, by simp; omega, ?_, h2⟩, mu'⟩
        congr 1
        rw [decide_eq_decide]
        constructor
        · intro _; right; omega
        · intro _; right; omega
      · have h2' : ¬ T.length + q < fn := fun hlt => by
          rw [decide_eq_true (by omega)] at h2; cases h2
        refine ⟨⟨q + 1, xs, succ64 (by omega), by omega, hox, by omega, ?_, hf10⟩, mu'⟩
        have : ¬ (q + 1 = 0 ∨ T.length + (q + 1) ≤ (freshF k).length) := by omega
        rw [decide_eq_false this, Bool.and_false]
    · have hqn : q = cn := by
        have : ¬ (q : Int) < (cn : Int) := fun hlt => by rw [decide_eq_true hlt] at h1; cases h1
        omega
      have hfin := hk oa on oc xa xn xc pa pn pc a14 n10 c7 H10 fh Q ((hL.o.keep (hf7.keep0 hf10)).base f5.size) (by rw [hlaid]; exact hL.r.keep (hf7.keep0 hf10)) (by rw [hlaid]; have := hT.need; show xn = t.need; omega) (by omega) (f6.keep0 (hf7.keep0 hf10))
      refine ⟨_, _, _, _, _, _, _, _, _, _, _, _, _, _, rfl, ?_⟩
      rw [hlaid] at hfin
      simp only at hfin
      rw [hd.1] at hfin
      have e : (ok && decide (q = 0 ∨ T.length + q ≤ (freshF k).length)) = (ok && decide (chunksS (⟨(dirB fs).toArray⟩ : ByteArray) = [] ∨ T.length + (chunksS (⟨(dirB fs).toArray⟩ : ByteArray)).length ≤ (freshF k).length)) := by
        congr 1
        rw [decide_eq_decide, ← hcn, hqn]
        constructor
        · rintro (h | h)
          · left; exact List.eq_nil_of_length_eq_zero (by omega)
          · exact .inr h
        · rintro (h | h)
          · left; rw [h] at hcn; simpa using hcn
          · exact .inr h
      rw [e]
      exact hfin
end Go.Proofs
set_option linter.unusedVariables false
set_option maxRecDepth 100000
open Go Go.GV
namespace Go.Proofs

theorem need_ok {X : List Nat} {s d : Addr} {sz : Nat} {l0 l : List NF} {la : Option Addr} {ln lc : Nat} {now : ByteArray → Option ByteArray} {H : Heap} {K : Int → Bool → Heap → Prop}
    (h : RS H X s d sz l0) (hsz : 8 ≤ sz ∧ sz ≤ 512) (hl : Sl encF0 H la ln lc l) (hn : ln ≤ 100) (hdat : ∀ x ∈ l, x.1.size ≤ 1000000 ∧ x.2.size ≤ 30000000) (hof : OfL now l)
    (hk : ∀ N H', Fr [] H H' → K N (planM sz (fun _ => none) [] now (namesL now)).fits H') :
    CallH Tryz.prog fn_ref10_Store_need ⟨[.pointer (some s), .slice la ln lc]⟩ H fun v H' => ∃ n b, v = .tuple ⟨[.int .i64 n, .bool b]⟩ ∧ K n b H' := by
  apply vc_ref10_Store_need
  refine rLaid_ok h hsz hl hn hdat fun a n c a1 n1 c1 a2 n2 c2 a3 n3 c3 H1 fh Q ho hr hn1 hn1l hf1 => ?_
  have hplan : (planM sz (fun _ => none) [] now (namesL now)).fits = ((takesM (chunksS ⟨(dirB (laidF l (t0F sz)).2).toArray⟩) (laidF l (t0F sz)).1).1.fits && decide ((chunksS (⟨(dirB (laidF l (t0F sz)).2).toArray⟩ : ByteArray)).length ≤ 20) && decide (((((laidF l (t0F sz)).2.map fun f => f.2.2.length).sum : Nat) : Int) + 2 * (chunksS (⟨(dirB (laidF l (t0F sz)).2).toArray⟩ : ByteArray)).length ≤ sz - 2)) := by
    rw [namesL_eq hof.names]
    unfold planM
    simp only
    have e1 : (sz : Int).toNat = sz := by omega
    rw [e1, freshF_eq, filesM_new l _ fun x hx => hof.look hx]
    show _ = _
    rw [takesM_len]
    rfl
  have hsmall : ∀ f ∈ (laidF l (t0F sz)).2, f.1.size ≤ 1000000 ∧ f.2.1.size ≤ 30000000 ∧ f.2.2.length ≤ 500000 := fun f hf => by
    obtain ⟨z, hz, r1, r2, r3⟩ := laidF_mem l (t0F sz) f hf
    obtain ⟨q1, q2⟩ := hdat z hz
    have := nCh_le q2
    rw [r1, r2, r3, chunksS_len]
    omega
  have hll := hl.len
  have hfl : (laidF l (t0F sz)).2.length = l.length := by
    have : ∀ (l : List NF) (t : Tk), (laidF l t).2.length = l.length := by
      intro l
      induction l with
      | nil => intro t; rfl
      | cons x l ih => intro t; simp only [laidF, List.length_cons, ih]
    exact this l _
  have hdl := dirB_len hsmall (by omega)
  generalize hW : laidF l (t0F sz) = W at *
  have hno := ho.1
  have hrl := hr.1
  refine ⟨fun vs H' => match vs with | [.int _ al, .int _ i] => ∃ j : Nat, i = j ∧ j ≤ n ∧ al = (((W.2.take j).map fun f => f.2.2.length).sum : Nat) ∧ ((W.2.take j).map fun f => f.2.2.length).sum ≤ 500000 * j ∧ H' = H1 | _ => False,
    fun vs _ => match vs with | [_, .int _ i] => n - i.toNat | _ => 0, ⟨0, rfl, by omega, rfl, by simp, rfl⟩, ?_⟩
  rintro J al i H2 ⟨j, rfl, hj, rfl, hsum, rfl⟩
  refine brB_of (fun h0 => ?_) (fun h0 => ?_)
  · have h0' : j < n := by simpa using h0
    obtain ⟨x, hx⟩ := getElem_ex (l := fh) (i := j) (by omega)
    obtain ⟨f, hf⟩ := getElem_ex (l := W.2) (i := j) (by omega)
    obtain ⟨q1, q2, q3, q4⟩ := hr.2 j x f hx hf
    have hfs := (hsmall f (List.mem_of_getElem? hf)).2.2
    have hq3 := q3.len
    refine ho.sl.get rfl hx (by simp; omega) fun ad e hc => ⟨_, _, _, ld_part (j := 2) (by kernel_rfl) hc rfl, ⟨j + 1, succ64 (by omega), by omega, ?_, ?_, rfl⟩, ?_⟩
    · rw [List.take_add_one, hf, List.map_append, List.sum_append, hq3]
      simp only [Option.toList_some, List.map_cons, List.map_nil, List.sum_cons, List.sum_nil, Nat.add_zero]
      rw [wrap64_of (by omega) (by omega)]; omega
    · rw [List.take_add_one, hf, List.map_append, List.sum_append]
      simp only [Option.toList_some, List.map_cons, List.map_nil, List.sum_cons, List.sum_nil, Nat.add_zero]
      omega
    · show n - (IntKind.i64.wrap ((j : Int) + 1)).toNat < n - ((j : Nat) : Int).toNat
      rw [succ64 (by omega)]
      exact mu_lt h0'
  · have hjn : j = n := by simp at h0; omega
    rw [List.take_of_length_le (by omega)] at hsum ⊢
    refine rchunks_ok (by rw [size_mk (dirB W.2)]; omega) fun ca cn cc H3 hoc hf3 => ?_
    have hcn := hoc.1
    have hcl : cn ≤ 20000000 := by
      rw [hcn, chunksS_len, size_mk (dirB W.2)]; unfold nCh; omega
    have h3 := (h.keep hf1).keep hf3
    obtain ⟨⟨sa, sn, sc, hB, _, _⟩, ⟨ia, ic, w1, w2, w3, w4, w5, hD⟩, _⟩ := h3
    have hkf : ∀ N, K N ((takesM (chunksS ⟨(dirB W.2).toArray⟩) W.1).1.fits && decide ((chunksS (⟨(dirB W.2).toArray⟩ : ByteArray)).length ≤ 20) && decide ((((W.2.map fun f => f.2.2.length).sum : Nat) : Int) + 2 * (chunksS (⟨(dirB W.2).toArray⟩ : ByteArray)).length ≤ sz - 2)) H3 := fun N => by
      rw [← hplan]; exact hk N H3 (hf1.keep0 hf3)
    rw [← hcn] at hkf
    refine brB_of (fun h1 => brB_of (fun h2 => ?_) (fun h2 => ⟨_, _, rfl, ?_⟩)) (fun h1 => ⟨_, _, rfl, ?_⟩)
    · refine ⟨some d, hB.ld0 (by kernel_rfl) rfl, ⟨ia, sz, ic, hD.ld0 (by kernel_rfl) rfl, _, _, rfl, ?_⟩⟩
      have := hkf (IntKind.i64.wrap ((n1 : Int) + (cn : Int)))
      rw [h1, decide_eq_true (by have := of_decide_eq_true h2; omega), Bool.true_and, Bool.true_and] at this
      rw [wrap64_of (n := 2 * (cn : Int)) (by omega) (by omega), wrap64_of (n := (((W.2.map fun f => f.2.2.length).sum : Nat) : Int) + 2 * (cn : Int)) (by omega) (by omega), wrap64_of (n := (sz : Int) - 2) (by omega) (by omega)]
      exact this
    · have := hkf (IntKind.i64.wrap ((n1 : Int) + (cn : Int)))
      have hno2 : ¬ cn ≤ 20 := fun hle => by rw [decide_eq_true (by omega)] at h2; cases h2
      rw [decide_eq_false hno2, Bool.and_false, Bool.false_and] at this
      exact this
    · have := hkf (IntKind.i64.wrap ((n1 : Int) + (cn : Int)))
      rw [h1, Bool.false_and, Bool.false_and] at this
      exact this
def stF (now : ByteArray → Option ByteArray) : Sto := { stoNew with now := now }
theorem rchange_ok {X : List Nat} {s d : Addr} {sz : Nat} {l0 l : List NF} {la : Option Addr} {ln lc : Nat} {now0 : ByteArray → Option ByteArray} {ch : (ByteArray → Option ByteArray) → ByteArray → Option ByteArray} {H : Heap} {K : Int → Heap → Prop}
    (h : RS H X s d sz l0) (hsz : 8 ≤ sz ∧ sz ≤ 512) (hl : Sl encF0 H la ln lc l) (hn : ln ≤ 100) (hne : ∀ k ∈ blkL la, k ≠ s.block ∧ k ∉ X) (hin : In H (blkL la)) (hdat : ∀ x ∈ l, x.1.size ≤ 1000000 ∧ x.2.size ≤ 30000000) (hof0 : OfL now0 l0) (hof : OfL (ch now0) l)
    (hk : ∀ l' H', RS H' X s d sz l' → OfL (changeM sz (stF now0) ch).1.now l' → (l' = l ∨ l' = l0) → Fr [s.block] H H' → K (changeM sz (stF now0) ch).2 H') :
    CallH Tryz.prog fn_ref10_Store_change ⟨[.pointer (some s), .slice la ln lc]⟩ H fun v H' => ∃ n, v = .int .i64 n ∧ K n H' := by
  apply vc_ref10_Store_change
  refine need_ok h hsz hl hn hdat hof fun N H1 hf1 => ?_
  have h1 := h.keep hf1
  unfold changeM at hk
  have e : (planN sz (stF now0) (ch (stF now0).now)).fits = (planM sz (fun _ => none) [] (ch now0) (namesL (ch now0))).fits := rfl
  rw [e] at hk
  refine brB_of (fun hb => ?_) (fun hb => ?_)
  · have hb' : ¬ (planM sz (fun _ => none) [] (ch now0) (namesL (ch now0))).fits = true := by simpa using hb
    rw [if_neg hb'] at hk
    exact ⟨_, rfl, hk l0 H1 h1 hof0 (.inr rfl) (hf1.mono (by simp))⟩
  · have hb' : (planM sz (fun _ => none) [] (ch now0) (namesL (ch now0))).fits = true := by simpa using hb
    rw [if_pos hb'] at hk
    obtain ⟨⟨sa, sn, sc, hB, hsl, hsn⟩, ⟨ia, ic, w1, w2, w3, w4, w5, hD⟩, hne2, hiX, hoX⟩ := h1
    refine Blk.set hB (j := 1) (by kernel_rfl) (by kernel_rfl) rfl rfl (by simp) fun H2 hB2 hf2 => ⟨_, rfl, hk l H2 ⟨⟨la, ln, lc, hB2, ?_, hne, hin.le (by have := hf1.size; have := hf2.size; omega)⟩, ⟨ia, ic, w1, w2, w3, w4, w5, hD.fr hf2 (by simpa using fun e => hne2 e.symm)⟩, hne2, hiX.le hf2.size, hoX⟩ hof (.inl rfl) ((hf1.mono (by simp)).trans' hf2 (fun k hk _ => hk) fun k hk _ => hk)⟩
    exact (hl.keep hf1).fr hf2 fun ad e => by simpa using (hne ad.block (by simp [e, blkL])).1
structure LB (l : List NF) (N B : Nat) : Prop where
  len : l.length ≤ N
  dat : ∀ x ∈ l, x.1.size ≤ 16 ∧ x.2.size ≤ B
theorem rWrite_ok {X : List Nat} {s d : Addr} {sz N B : Nat} {l : List NF} {now : ByteArray → Option ByteArray} {name data : ByteArray} {H : Heap} {K : Int → Heap → Prop} (h : RS H X s d sz l) (hsz : 8 ≤ sz ∧ sz ≤ 512) (hof : OfL now l) (hb : LB l N B) (hN : N ≤ 98) (hB : B ≤ 30000000) (hname : name.size ≤ 1000000) (hd : data.size ≤ B)
    (hk : ∀ l' H', RS H' X s d sz l' → OfL (writeS sz (stF now) name data).1.now l' → LB l' (N + 1) B → Fr [s.block] H H' → K (writeS sz (stF now) name data).2 H') :
    CallH Tryz.prog fn_ref10_Store_Write ⟨[.pointer (some s), .string name, .string data]⟩ H fun v H' => ∃ n, v = .int .i64 n ∧ K n H' := by
  apply vc_ref10_Store_Write
  refine good_ok (by omega) ?_
  unfold writeS at hk
  have hlb : LB l (N + 1) B := ⟨by have := hb.len; omega, hb.dat⟩
  by_cases hr : rightP name
  · rw [if_pos hr] at hk
    rw [decide_eq_true hr]
    refine brB_of (fun h => by cases h) fun _ => ?_
    obtain ⟨⟨sa, sn, sc, hBk, hsl, hsn⟩, _⟩ := id h
    have hln := hsl.len
    have hgeX : ∀ k, H.size ≤ k → k ≠ s.block ∧ k ∉ X := fun k hk => ⟨by have := hBk.lt; omega, fun hx => by have := h.inX k hx; omega⟩
    refine ⟨sa, sn, sc, hBk.ld (j := 1) (by kernel_rfl) rfl, Put_ok hsl (by have := hb.len; omega) fun a n c H1 ho hf1 => ?_⟩
    have hgl := goPut_len name data false l
    have hno := ho.1
    have hlb2 : LB (goPut name data false l) (N + 1) B := ⟨by have := hb.len; omega, fun x hx => by
      rcases mem_put.1 hx with e | e
      · rw [e]; exact ⟨hr.2.2, hd⟩
      · exact hb.dat x e.1⟩
    refine rchange_ok (ch := fun now => putN now name data) (h.keep hf1) hsz ho.sl (by have := hb.len; omega) (fun k hk' => ?_) (own_in ho) (fun x hx => by have := hlb2.dat x hx; omega) hof (hof.put name data) fun l' H' h' ho' hor hf' => ?_
    · exact hgeX k (ho.ge k hk').1
    · refine ⟨_, rfl, hk l' H' h' ho' ?_ ((hf1.mono (by simp)).trans' hf' (fun k hk _ => hk) fun k hk _ => hk)⟩
      rcases hor with e | e
      · rw [e]; exact hlb2
      · rw [e]; exact hlb
  · rw [if_neg hr] at hk
    rw [decide_eq_false hr]
    exact brB_of (fun _ => ⟨_, rfl, hk l H h hof hlb (Fr.refl _ _)⟩) fun h => by cases h
theorem rRead_ok {X : List Nat} {s d : Addr} {sz N B : Nat} {l : List NF} {now : ByteArray → Option ByteArray} {name : ByteArray} {H : Heap} {K : ByteArray → Bool → Heap → Prop} (h : RS H X s d sz l) (hof : OfL now l) (hb : LB l N B) (hN : N ≤ 1000000) (hk : K ((now name).getD ⟨#[]⟩) (now name).isSome H) :
    CallH Tryz.prog fn_ref10_Store_Read ⟨[.pointer (some s), .string name]⟩ H fun v H' => ∃ t b, v = .tuple ⟨[.string t, .bool b]⟩ ∧ K t b H' := by
  apply vc_ref10_Store_Read
  obtain ⟨⟨sa, sn, sc, hBk, hsl, hsn⟩, _⟩ := id h
  have hln := hsl.len
  refine ⟨sa, sn, sc, hBk.ld (j := 1) (by kernel_rfl) rfl, Find_ok hsl (by have := hb.len; omega) (fun hno => ?_) fun j x hx hxn => ?_⟩
  · have : now name = none := by
      cases hn : now name with
      | none => rfl
      | some d => exact absurd rfl (hno (name, d) ((hof.mem name d).1 hn))
    rw [this] at hk
    exact brB_of (fun _ => ⟨_, _, rfl, hk⟩) fun h => by simp at h
  · have : now name = some x.2 := by rw [← hxn]; exact hof.look (List.mem_of_getElem? hx)
    rw [this] at hk
    refine brB_of (fun h => by simp at h; omega) fun _ => ⟨sa, sn, sc, hBk.ld (j := 1) (by kernel_rfl) rfl, ?_⟩
    have hlt := (List.getElem?_eq_some_iff.1 hx).1
    refine hsl.get rfl hx (by simp; omega) fun ad e hc => ⟨_, ld_part (j := 1) (by kernel_rfl) hc rfl, _, _, rfl, hk⟩
theorem rAppend_ok {X : List Nat} {s d : Addr} {sz N B B' : Nat} {l : List NF} {now : ByteArray → Option ByteArray} {name data : ByteArray} {H : Heap} {K : Int → Heap → Prop} (h : RS H X s d sz l) (hsz : 8 ≤ sz ∧ sz ≤ 512) (hof : OfL now l) (hb : LB l N B) (hN : N ≤ 98) (hBB : B + data.size ≤ B') (hB : B' ≤ 30000000) (hname : name.size ≤ 1000000)
    (hk : ∀ l' H', RS H' X s d sz l' → OfL (writeS sz (stF now) name ((now name).getD ⟨#[]⟩ ++ data)).1.now l' → LB l' (N + 1) B' → Fr [s.block] H H' → K (writeS sz (stF now) name ((now name).getD ⟨#[]⟩ ++ data)).2 H') :
    CallH Tryz.prog fn_ref10_Store_Append ⟨[.pointer (some s), .string name, .string data]⟩ H fun v H' => ∃ n, v = .int .i64 n ∧ K n H' := by
  apply vc_ref10_Store_Append
  refine rRead_ok h hof hb (by omega) ?_
  have hsz2 : ((now name).getD ⟨#[]⟩).size ≤ B := by
    cases hn : now name with
    | none => simp [ByteArray.size]
    | some d => exact (hb.dat _ ((hof.mem name d).1 hn)).2
  refine chk_true (decide_eq_true (by omega)) ?_
  exact rWrite_ok h hsz hof ⟨hb.len, fun x hx => ⟨(hb.dat x hx).1, by have := (hb.dat x hx).2; omega⟩⟩ hN hB hname (by rw [ByteArray.size_append]; omega) fun l' H' h1 h2 h3 h4 => ⟨_, rfl, hk l' H' h1 h2 h3 h4⟩
theorem rDelete_ok {X : List Nat} {s d : Addr} {sz N B : Nat} {l : List NF} {now : ByteArray → Option ByteArray} {name : ByteArray} {H : Heap} {K : Int → Heap → Prop} (h : RS H X s d sz l) (hsz : 8 ≤ sz ∧ sz ≤ 512) (hof : OfL now l) (hb : LB l N B) (hN : N ≤ 98) (hB : B ≤ 30000000) (hname : name.size ≤ 1000000)
    (hk : ∀ l' H', RS H' X s d sz l' → OfL (deleteS sz (stF now) name).1.now l' → LB l' N B → Fr [s.block] H H' → K (deleteS sz (stF now) name).2 H') :
    CallH Tryz.prog fn_ref10_Store_Delete ⟨[.pointer (some s), .string name]⟩ H fun v H' => ∃ n, v = .int .i64 n ∧ K n H' := by
  apply vc_ref10_Store_Delete
  refine good_ok (by omega) ?_
  unfold deleteS at hk
  by_cases hr : rightP name
  · rw [if_pos hr] at hk
    rw [decide_eq_true hr]
    refine brB_of (fun h => by cases h) fun _ => ?_
    obtain ⟨⟨sa, sn, sc, hBk, hsl, hsn⟩, _⟩ := id h
    have hln := hsl.len
    have hgeX : ∀ k, H.size ≤ k → k ≠ s.block ∧ k ∉ X := fun k hk => ⟨by have := hBk.lt; omega, fun hx => by have := h.inX k hx; omega⟩
    refine ⟨sa, sn, sc, hBk.ld (j := 1) (by kernel_rfl) rfl, Find_ok hsl (by have := hb.len; omega) (fun hno => ?_) fun j x hx hxn => ?_⟩
    · have : (stF now).now name = none := by
        show now name = none
        cases hn : now name with
        | none => rfl
        | some d => exact absurd rfl (hno (name, d) ((hof.mem name d).1 hn))
      rw [this, if_neg (by simp)] at hk
      exact brB_of (fun _ => ⟨_, rfl, hk l H h hof hb (Fr.refl _ _)⟩) fun h => by simp at h
    · have : (stF now).now name = some x.2 := by
        show now name = _
        rw [← hxn]; exact hof.look (List.mem_of_getElem? hx)
      rw [this, if_pos (show (some x.2).isSome = true from rfl)] at hk
      refine brB_of (fun h => by simp at h; omega) fun _ => ⟨sa, sn, sc, hBk.ld (j := 1) (by kernel_rfl) rfl, Without_ok hsl (by have := hb.len; omega) fun a n c H1 ho hf1 => ?_⟩
      have hgl : (goWithout name l).length ≤ l.length := List.length_filter_le _ _
      have hno := ho.1
      have hlb2 : LB (goWithout name l) N B := ⟨by have := hb.len; omega, fun x hx => hb.dat x (mem_without.1 hx).1⟩
      refine rchange_ok (ch := fun now => delN now name) (h.keep hf1) hsz ho.sl (by have := hb.len; omega) (fun k hk' => ?_) (own_in ho) (fun x hx => by have := hlb2.dat x hx; omega) hof (hof.del name) fun l' H' h' ho' hor hf' => ?_
      · exact hgeX k (ho.ge k hk').1
      · refine ⟨_, rfl, hk l' H' h' ho' ?_ ((hf1.mono (by simp)).trans' hf' (fun k hk _ => hk) fun k hk _ => hk)⟩
        rcases hor with e | e
        · rw [e]; exact hlb2
        · rw [e]; exact hb
  · rw [if_neg hr] at hk
    rw [decide_eq_false hr]
    exact brB_of (fun _ => ⟨_, rfl, hk l H h hof hb (Fr.refl _ _)⟩) fun h => by cases h
end Go.Proofs
