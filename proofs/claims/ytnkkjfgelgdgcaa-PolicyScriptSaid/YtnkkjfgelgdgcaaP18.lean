/- A part of a proof: see the last text of this claim. -/
import Derived.Test.YtnkkjfgelgdgcaaGvLib
import Derived.Test.YtnkkjfgelgdgcaaVc18
set_option linter.unusedVariables false
open Go Go.GV
namespace Go.Proofs

noncomputable abbrev PT : KeyT Try.prog 3 Int := keyInt Try.underlying3
def encC (x : Int × Int) : Value := .agg ⟨[.int .i64 x.1, .int .i64 x.2]⟩
theorem zero46 : zeroOf Try.prog 46 = some (encC (0, 0)) := by kernel_rfl

abbrev Cnt := Int → Int × Int
def bdX (x : Int × Int) : Prop := 0 ≤ x.1 ∧ x.1 ≤ 1073741824 ∧ 0 ≤ x.2 ∧ x.2 ≤ 1073741824
def setC (c : Cnt) (day : Int) (x : Int × Int) : Cnt := fun d => if d = day then x else c d
def Bd (c : Cnt) : Prop := ∀ d, bdX (c d)
theorem Bd.set {c : Cnt} (h : Bd c) {day : Int} {x : Int × Int} (hx : bdX x) : Bd (setC c day x) := fun d => by
  unfold setC; split
  · exact hx
  · exact h d

/-- The counts, as a policy holds them. -/
structure PolL (H : Heap) (p : Addr) (r : Nat) (ck : Nat) (L : List (Ent Int)) (c : Cnt) : Prop where
  cell : cellH H p = some (.map (some r))
  ne : p.block ≠ r
  map : MapR PT H r ck L
  say : ∀ d, (getL d L).getD (encC (0, 0)) = encC (c d)
  bd : Bd c
def PolRep (H : Heap) (p : Addr) (r : Nat) (c : Cnt) : Prop := ∃ ck L, PolL H p r ck L c

theorem PolL.fr {H H' : Heap} {p : Addr} {r ck : Nat} {L : List (Ent Int)} {c : Cnt} {S : List Nat} (h : PolL H p r ck L c) (hf : Fr S H H') (h1 : p.block ∉ S) (h2 : r ∉ S) : PolL H' p r ck L c :=
  ⟨hf.cell h.cell h1, h.ne, h.map.fr PT hf h2, h.say, h.bd⟩
theorem PolL.keep {H H' : Heap} {p : Addr} {r ck : Nat} {L : List (Ent Int)} {c : Cnt} (h : PolL H p r ck L c) (hf : Fr [] H H') : PolL H' p r ck L c := h.fr hf (by simp) (by simp)
theorem PolRep.fr {H H' : Heap} {p : Addr} {r : Nat} {c : Cnt} {S : List Nat} (h : PolRep H p r c) (hf : Fr S H H') (h1 : p.block ∉ S) (h2 : r ∉ S) : PolRep H' p r c :=
  let ⟨ck, L, h⟩ := h; ⟨ck, L, h.fr hf h1 h2⟩
theorem PolRep.keep {H H' : Heap} {p : Addr} {r : Nat} {c : Cnt} (h : PolRep H p r c) (hf : Fr [] H H') : PolRep H' p r c := h.fr hf (by simp) (by simp)
theorem PolRep.lt {H : Heap} {p : Addr} {r : Nat} {c : Cnt} (h : PolRep H p r c) : r < H.size := let ⟨_, _, h⟩ := h; h.map.lt
theorem PolRep.plt {H : Heap} {p : Addr} {r : Nat} {c : Cnt} (h : PolRep H p r c) : p.block < H.size := let ⟨_, _, h⟩ := h; cellH_lt h.cell
theorem PolRep.ne {H : Heap} {p : Addr} {r : Nat} {c : Cnt} (h : PolRep H p r c) : p.block ≠ r := let ⟨_, _, h⟩ := h; h.ne
theorem PolRep.bd {H : Heap} {p : Addr} {r : Nat} {c : Cnt} (h : PolRep H p r c) : Bd c := let ⟨_, _, h⟩ := h; h.bd

theorem PolL.ld {H : Heap} {p : Addr} {r ck : Nat} {L : List (Ent Int)} {c : Cnt} (h : PolL H p r ck L c) : Ld Try.prog 43 H p (.map (some r)) := ld_cell (by kernel_rfl) h.cell
theorem PolRep.ld {H : Heap} {p : Addr} {r : Nat} {c : Cnt} (h : PolRep H p r c) : Ld Try.prog 43 H p (.map (some r)) := let ⟨_, _, h⟩ := h; h.ld
theorem PolRep.look {H : Heap} {p : Addr} {r : Nat} {c : Cnt} (h : PolRep H p r c) (d : Int) : Rd Try.prog (Instr.lookup 43 (.map (some r)) (.int .i64 d) false) H (.agg ⟨[.int .i64 (c d).1, .int .i64 (c d).2]⟩) := by
  obtain ⟨ck, L, h⟩ := h
  have := lookup_map PT (mt := 43) (e := 46) Try.underlying43 zero46 h.map d
  rw [h.say] at this
  exact this

theorem put_okL {p : Addr} {r ck : Nat} {L : List (Ent Int)} {c : Cnt} {day c0 c1 : Int} {H : Heap} {K : Heap → Prop} (h : PolL H p r ck L c) (hb : bdX (c0, c1))
    (hk : ∀ H' ck' L', PolL H' p r ck' L' (setC c day (c0, c1)) → Fr [r] H H' → (ck' = ck ∧ L' = delL day L) ∨ (ck' = putC day ck L ∧ L' = putL day (encC (c0, c1)) ck L) → K H') :
    CallH Try.prog fn_policy_Policy_put ⟨[.pointer (some p), .int .i64 day, .agg ⟨[.int .i64 c0, .int .i64 c1]⟩]⟩ H fun v H' => v = .tuple ⟨[]⟩ ∧ K H' := by
  apply vc_policy_Policy_put
  intro b H1 hn
  have hl : Ld Try.prog 46 H1 ⟨b, 0, none⟩ (.agg ⟨[.int .i64 c0, .int .i64 c1]⟩) := ldA_blk (by kernel_rfl) (by kernel_rfl) hn.get rfl
  have h1 := h.keep hn.fr
  refine ⟨c0, c1, hl, brB_of (fun h0 => ?_) (fun h0 => ?_)⟩
  · refine ⟨some r, h1.ld, del_map PT (mt := 43) (e := 46) Try.underlying43 h1.map day fun H2 hm2 hf => ⟨rfl, hk H2 _ _ ⟨hf.cell h1.cell (by simpa using h.ne), h.ne, hm2, fun d => ?_, h.bd.set hb⟩ (hn.fr.trans' hf (by simp) (by simp)) (.inl ⟨rfl, rfl⟩)⟩⟩
    rw [getL_delL]
    unfold setC
    simp only [Bool.and_eq_true, beq_iff_eq, Bool.and_true] at h0
    split
    · simp [h0]
    · exact h.say d
  · refine ⟨some r, h1.ld, c0, c1, hl, put_map PT (mt := 43) (e := 46) Try.underlying43 h1.map day fun H2 hm2 hf => ⟨rfl, hk H2 _ _ ⟨hf.cell h1.cell (by simpa using h.ne), h.ne, hm2, fun d => ?_, h.bd.set hb⟩ (hn.fr.trans' hf (by simp) (by simp)) (.inr ⟨rfl, rfl⟩)⟩⟩
    rw [getL_putL]
    unfold setC
    split
    · rfl
    · exact h.say d
theorem put_ok {p : Addr} {r : Nat} {c : Cnt} {day c0 c1 : Int} {H : Heap} {K : Heap → Prop} (h : PolRep H p r c) (hb : bdX (c0, c1)) (hk : ∀ H', PolRep H' p r (setC c day (c0, c1)) → Fr [r] H H' → K H') :
    CallH Try.prog fn_policy_Policy_put ⟨[.pointer (some p), .int .i64 day, .agg ⟨[.int .i64 c0, .int .i64 c1]⟩]⟩ H fun v H' => v = .tuple ⟨[]⟩ ∧ K H' :=
  let ⟨_, _, h⟩ := h; put_okL h hb fun H' ck' L' h' hf _ => hk H' ⟨ck', L', h'⟩ hf

theorem Counts_ok {p : Addr} {r : Nat} {c : Cnt} {day : Int} {H : Heap} {K : Int → Int → Heap → Prop} (h : PolRep H p r c) (hk : ∀ H', Fr [] H H' → K (c day).1 (c day).2 H') :
    CallH Try.prog fn_policy_Policy_Counts ⟨[.pointer (some p), .int .i64 day]⟩ H fun v H' => ∃ n m, v = .tuple ⟨[.int .i64 n, .int .i64 m]⟩ ∧ K n m H' := by
  apply vc_policy_Policy_Counts
  refine ⟨some r, h.ld, _, _, h.look day, var_st (by kernel_rfl) (by kernel_rfl) (by simp [Value.cells, Value.oneCell']) rfl fun b H1 hb hg hf => ?_⟩
  refine ⟨_, ld1_blk (by kernel_rfl) hg rfl, _, ld1_blk (by kernel_rfl) hg rfl, _, _, rfl, hk H1 hf⟩

theorem Forget_ok {p : Addr} {r : Nat} {c : Cnt} {day : Int} {H : Heap} {K : Heap → Prop} (h : PolRep H p r c) (hk : ∀ H', PolRep H' p r (setC c day (0, 0)) → Fr [r] H H' → K H') :
    CallH Try.prog fn_policy_Policy_Forget ⟨[.pointer (some p), .int .i64 day]⟩ H fun v H' => v = .tuple ⟨[]⟩ ∧ K H' := by
  apply vc_policy_Policy_Forget
  obtain ⟨ck, L, h⟩ := h
  refine ⟨some r, h.ld, del_map PT (mt := 43) (e := 46) Try.underlying43 h.map day fun H2 hm2 hf => ⟨rfl, hk H2 ⟨_, _, hf.cell h.cell (by simpa using h.ne), h.ne, hm2, fun d => ?_, h.bd.set (by simp [bdX])⟩ hf⟩⟩
  rw [getL_delL]
  unfold setC
  split
  · simp
  · exact h.say d

theorem New_ok {H : Heap} {K : Option Addr → Heap → Prop} (hk : ∀ b H', H.size ≤ b → PolRep H' ⟨b + 1, 0, none⟩ b (fun _ => (0, 0)) → Fr [] H H' → K (some ⟨b + 1, 0, none⟩) H') :
    CallH Try.prog fn_policy_New ⟨[]⟩ H fun v H' => ∃ a, v = .pointer a ∧ K a H' := by
  apply vc_policy_New
  intro b H1 hn b1 H2 hn2
  have e1 := hn.eq
  have e2 := hn2.eq
  have e3 := hn.size
  have : b1 = b + 1 := by omega
  subst this
  refine ⟨_, rfl, hk b H2 (by omega) ⟨0, [], by rw [cell_of_blk hn2.get]; rfl, by simp, (MapR.new PT hn).keep PT hn2.fr, fun d => rfl, fun d => by simp [bdX]⟩ (hn.fr.keep0 hn2.fr)⟩

/-- What a day's counts are when so many reads of a kind are noted. -/
def noteX (x : Int × Int) (kind n : Int) : Int × Int :=
  if kind = 0 then (min (x.1 + min n 1073741824) 1073741824, x.2) else (x.1, min (x.2 + min n 1073741824) 1073741824)
def noteC (c : Cnt) (day kind n : Int) : Cnt := if kind < 0 ∨ 1 < kind ∨ n < 1 then c else setC c day (noteX (c day) kind n)
theorem noteX_bd {x : Int × Int} {kind n : Int} (h : bdX x) (hn : 1 ≤ n) : bdX (noteX x kind n) := by
  unfold noteX bdX at *
  split <;> simp only <;> omega
theorem noteC_bd {c : Cnt} {day kind n : Int} (h : Bd c) : Bd (noteC c day kind n) := by
  unfold noteC
  split
  · exact h
  · exact h.set (noteX_bd (h day) (by omega))

theorem min_if (a b : Int) : (if b < a then b else a) = min a b := by
  split <;> omega

theorem Note_ok {p : Addr} {r : Nat} {c : Cnt} {day kind n : Int} {H : Heap} {K : Heap → Prop} (h : PolRep H p r c) (hk : ∀ H', PolRep H' p r (noteC c day kind n) → Fr [r] H H' → K H') :
    CallH Try.prog fn_policy_Policy_Note ⟨[.pointer (some p), .int .i64 day, .int .i64 kind, .int .i64 n]⟩ H fun v H' => v = .tuple ⟨[]⟩ ∧ K H' := by
  apply vc_policy_Policy_Note
  have stays : kind < 0 ∨ 1 < kind ∨ n < 1 → K H := fun h0 => hk H (by unfold noteC; rw [if_pos h0]; exact h) (Fr.refl _ _)
  refine brB_of (fun h0 => ⟨rfl, stays (.inl (by simpa using h0))⟩) (fun h0 => brB_of (fun h1 => ⟨rfl, stays (.inr (.inl (by simpa using h1)))⟩) (fun h1 => brB_of (fun h2 => ⟨rfl, stays (.inr (.inr (by simpa using h2)))⟩) (fun h2 => ?_)))
  simp only [decide_eq_false_iff_not, Int.not_lt, gt_iff_lt] at h0 h1 h2
  refine ⟨some r, h.ld, _, _, h.look day, var_st (by kernel_rfl) (by kernel_rfl) (by simp [Value.cells, Value.oneCell']) rfl fun b H1 hb hg hf => ?_⟩
  refine chk_of ⟨h0, by omega⟩ ?_
  have hbd := h.bd day
  have hC : noteC c day kind n = setC c day (noteX (c day) kind n) := by unfold noteC; rw [if_neg (by omega)]
  have hW : ∀ x : Int, 0 ≤ x → x ≤ 1073741824 → IntKind.i64.wrap (x + (if 1073741824 < n then 1073741824 else n)) = x + min n 1073741824 := by
    intro x h1 h2
    rw [min_if]
    exact wrap64_of (by omega) (by omega)
  have hX := noteX_bd (kind := kind) hbd h2
  rcases (by omega : kind = 0 ∨ kind = 1) with rfl | rfl
  · refine ⟨_, ld1_blk (by kernel_rfl) hg rfl, chk_of ⟨h0, by omega⟩ ?_⟩
    refine st_blk hg (by kernel_rfl) (by kernel_rfl) (by simp [Value.cells, Value.oneCell']) (by simp [Value.cells]) fun H2 hg2 hf2 => ?_
    have hf' := hf.keep hf2 (by simpa using hb)
    refine ⟨_, _, ldA_blk (by kernel_rfl) (by kernel_rfl) hg2 rfl, ?_⟩
    rw [hW _ hbd.1 hbd.2.1, min_if]
    refine put_ok (h.keep hf') (by simpa [noteX] using hX) fun H3 h3 hf3 => ⟨rfl, hk H3 ?_ (hf'.trans' hf3 (by simp) (by simp))⟩
    rw [hC]
    simpa [noteX] using h3
  · refine ⟨_, ld1_blk (by kernel_rfl) hg rfl, chk_of ⟨h0, by omega⟩ ?_⟩
    refine st_blk hg (by kernel_rfl) (by kernel_rfl) (by simp [Value.cells, Value.oneCell']) (by simp [Value.cells]) fun H2 hg2 hf2 => ?_
    have hf' := hf.keep hf2 (by simpa using hb)
    refine ⟨_, _, ldA_blk (by kernel_rfl) (by kernel_rfl) hg2 rfl, ?_⟩
    rw [hW _ hbd.2.2.1 hbd.2.2.2, min_if]
    refine put_ok (h.keep hf') (by simpa [noteX] using hX) fun H3 h3 hf3 => ⟨rfl, hk H3 ?_ (hf'.trans' hf3 (by simp) (by simp))⟩
    rw [hC]
    simpa [noteX] using h3



def halveX (x : Int × Int) : Int × Int := (x.1 / 2, x.2 / 2)
def halveC (c : Cnt) : Cnt := fun d => halveX (c d)
theorem halveX_bd {x : Int × Int} (h : bdX x) : bdX (halveX x) := by
  unfold halveX bdX at *
  simp only
  omega
theorem setL_mem {k : Int} {v : Value} {ck : Nat} {L : List (Ent Int)} (hw : WfL ck L) {y : Ent Int} (h : y ∈ setL k v L) : (y.1 = k ∧ ∃ u, (k, u, y.2.2) ∈ L) ∨ (y.1 ≠ k ∧ y ∈ L) := by
  have hk := hw.keys
  clear hw
  induction L with
  | nil => cases h
  | cons z l ih =>
    simp only [List.map_cons, List.nodup_cons] at hk
    simp only [setL] at h
    split at h
    · rename_i e
      rcases List.mem_cons.1 h with rfl | h
      · exact .inl ⟨rfl, z.2.1, by rw [← e]; simp⟩
      · refine .inr ⟨fun e2 => hk.1 ?_, by simp [h]⟩
        rw [e, ← e2]
        exact List.mem_map_of_mem (f := fun x : Ent Int => x.1) h
    · rename_i e
      rcases List.mem_cons.1 h with rfl | h
      · exact .inr ⟨e, by simp⟩
      · rcases ih h hk.2 with ⟨h1, u, h2⟩ | ⟨h1, h2⟩
        · exact .inl ⟨h1, u, by simp [h2]⟩
        · exact .inr ⟨h1, by simp [h2]⟩
theorem mem_setL {k : Int} {v : Value} {L : List (Ent Int)} {y : Ent Int} (h : y ∈ L) (hn : y.1 ≠ k) : y ∈ setL k v L := by
  induction L with
  | nil => cases h
  | cons z l ih =>
    simp only [setL]
    rcases List.mem_cons.1 h with rfl | h
    · rw [if_neg hn]; simp
    · split
      · simp [h]
      · simp [ih h]
theorem born_inj {ck : Nat} {L : List (Ent Int)} (hw : WfL ck L) {x y : Ent Int} (hx : x ∈ L) (hy : y ∈ L) (e : x.2.2 = y.2.2) : x = y := by
  have hb := hw.born
  clear hw
  induction L with
  | nil => cases hx
  | cons z l ih =>
    simp only [List.map_cons, List.nodup_cons] at hb
    rcases List.mem_cons.1 hx with h1 | h1 <;> rcases List.mem_cons.1 hy with h2 | h2
    · rw [h1, h2]
    · exact absurd (by rw [← h1, e]; exact List.mem_map_of_mem (f := fun x : Ent Int => x.2.2) h2) hb.1
    · exact absurd (by rw [← h2, ← e]; exact List.mem_map_of_mem (f := fun x : Ent Int => x.2.2) h1) hb.1
    · exact ih h1 h2 hb.2

theorem key_inj {ck : Nat} {L : List (Ent Int)} (hw : WfL ck L) {x y : Ent Int} (hx : x ∈ L) (hy : y ∈ L) (e : x.1 = y.1) : x = y := by
  have hb := hw.keys
  clear hw
  induction L with
  | nil => cases hx
  | cons z l ih =>
    simp only [List.map_cons, List.nodup_cons] at hb
    rcases List.mem_cons.1 hx with h1 | h1 <;> rcases List.mem_cons.1 hy with h2 | h2
    · rw [h1, h2]
    · exact absurd (by rw [← h1, e]; exact List.mem_map_of_mem (f := fun x : Ent Int => x.1) h2) hb.1
    · exact absurd (by rw [← h2, ← e]; exact List.mem_map_of_mem (f := fun x : Ent Int => x.1) h1) hb.1
    · exact ih h1 h2 hb.2

/-- Amid a round of Halve. -/
structure Amid (H H' : Heap) (p : Addr) (r it : Nat) (c : Cnt) (ck : Nat) (L : List (Ent Int)) (seen : Array Nat) (c' : Cnt) : Prop where
  pol : PolL H' p r ck L c'
  iter : H'[it]? = some (.mapIter (some r) ck seen ck)
  ahead : ∀ x ∈ L, x.2.2 ∉ seen → c' x.1 = c x.1
  done : ∀ d, (∀ x ∈ L, x.1 = d → x.2.2 ∈ seen) → c' d = halveX (c d)
  fr : Fr [r] H H'
theorem encC_inj {x y : Int × Int} (h : encC x = encC y) : x = y := by
  simp [encC] at h
  exact Prod.ext h.1 h.2

theorem Halve_ok {p : Addr} {r : Nat} {c : Cnt} {H : Heap} {K : Heap → Prop} (h : PolRep H p r c) (hk : ∀ H', PolRep H' p r (halveC c) → Fr [r] H H' → K H') :
    CallH Try.prog fn_policy_Policy_Halve ⟨[.pointer (some p)]⟩ H fun v H' => v = .tuple ⟨[]⟩ ∧ K H' := by
  apply vc_policy_Policy_Halve
  obtain ⟨ck, L, h⟩ := h
  refine ⟨some r, h.ld, range_map PT (mt := 43) (e := 46) Try.underlying43 h.map fun it H1 hn => ?_⟩
  have hit : H.size ≤ it := by have := hn.eq; omega
  have hr : r < H.size := h.map.lt
  have hp : p.block < H.size := cellH_lt h.cell
  refine ⟨fun _ H' => ∃ ck L seen c', Amid H H' p r it c ck L seen c', fun _ H' => pendH H' r it, ⟨ck, L, #[], c, h.keep hn.fr, hn.get, fun _ _ _ => rfl, fun d hd => ?_, hn.fr.mono (by simp)⟩, ?_⟩
  · have hno : getL d L = none := by
      cases hg : getL d L with
      | none => rfl
      | some v => obtain ⟨b, hb⟩ := mem_getL hg; have := hd _ hb rfl; simp at this
    have := h.say d
    rw [hno] at this
    have := encC_inj this
    rw [← this]
    rfl
  · rintro J H2 ⟨ck, L, seen, c', hA⟩
    refine next_map PT hA.pol.map hA.iter (fun hall => ⟨rfl, ?_⟩) fun x hx hns H3 hi3 hf3 => ?_
    · refine hk H2 ⟨ck, L, ?_⟩ hA.fr
      have : c' = halveC c := funext fun d => hA.done d fun x hx _ => hall x hx
      rw [← this]
      exact hA.pol
    · have hpol3 : PolL H3 p r ck L c' := hA.pol.fr hf3 (by simp; omega) (by simp; omega)
      refine entry_map PT hpol3.map hi3 hx rfl ?_
      have hval : x.2.1 = .agg ⟨[.int .i64 (c x.1).1, .int .i64 (c x.1).2]⟩ := by
        have h1 := hA.pol.say x.1
        rw [getL_mem hA.pol.map.wf (show (x.1, x.2.1, x.2.2) ∈ L from hx), hA.ahead x hx hns] at h1
        exact h1
      rw [hval]
      refine var_st (by kernel_rfl) (by kernel_rfl) (by simp [Value.cells, Value.oneCell']) rfl fun b H4 hb hg hf4 => ?_
      refine ⟨_, ld1_blk (by kernel_rfl) hg rfl, _, ld1_blk (by kernel_rfl) hg rfl, ?_⟩
      have hbd : bdX (c x.1) := by rw [← hA.ahead x hx hns]; exact hA.pol.bd x.1
      have hW : ∀ y : Int, 0 ≤ y → y ≤ 1073741824 → IntKind.i64.wrap (y.tdiv 2) = y / 2 := by
        intro y h1 h2
        rw [Int.tdiv_eq_ediv_of_nonneg h1]
        exact wrap64_of (by omega) (by omega)
      rw [hW _ hbd.1 hbd.2.1, hW _ hbd.2.2.1 hbd.2.2.2]
      have hp4 : PolL H4 p r ck L c' := hpol3.keep hf4
      refine put_okL hp4 (halveX_bd hbd) fun H5 ck' L' h5 hf5 hL => ?_
      have hlt : it ≠ r := by omega
      have hi5 : H5[it]? = some (.mapIter (some r) ck (seen.push x.2.2) ck) := hf5.get (hf4.get0 hi3) (by simpa using hlt)
      have hw := hA.pol.map.wf
      have hgx : getL x.1 L = some x.2.1 := getL_mem hw (show (x.1, x.2.1, x.2.2) ∈ L from hx)
      have hck : ck' = ck := by
        rcases hL with ⟨h, _⟩ | ⟨h, _⟩
        · exact h
        · rw [h]; unfold putC; rw [hgx]
      subst hck
      have mem1 : ∀ y ∈ L', y.2.2 ∉ seen.push x.2.2 → y.1 ≠ x.1 ∧ y ∈ L := by
        intro y hy hys
        rcases hL with ⟨_, rfl⟩ | ⟨_, rfl⟩
        · have := List.mem_filter.1 hy
          exact ⟨by simpa using this.2, this.1⟩
        · unfold putL at hy
          rw [hgx] at hy
          rcases setL_mem hw hy with ⟨_, u, h2⟩ | h2
          · exfalso
            have e := key_inj hw h2 hx rfl
            exact hys (by rw [← e]; simp)
          · exact h2
      have mem2 : ∀ y ∈ L, y.1 ≠ x.1 → y ∈ L' := by
        intro y hy hne
        rcases hL with ⟨_, rfl⟩ | ⟨_, rfl⟩
        · exact List.mem_filter.2 ⟨hy, by simpa using hne⟩
        · unfold putL; rw [hgx]; exact mem_setL hy hne
      have hsub : (L'.map (·.2.2)).Sublist (L.map (·.2.2)) := by
        rcases hL with ⟨_, rfl⟩ | ⟨_, rfl⟩
        · exact delL_sub x.1 L
        · unfold putL; rw [hgx, (map_setL x.1 _ L).2]; exact List.Sublist.refl _
      refine ⟨⟨ck', L', _, _, h5, hi5, fun y hy hys => ?_, fun d hd => ?_, ?_⟩, ?_⟩
      · obtain ⟨h1, h2⟩ := mem1 y hy hys
        unfold setC
        rw [if_neg h1]
        exact hA.ahead y h2 fun hs => hys (by simp [hs])
      · unfold setC
        split
        · rename_i e; rw [e]; rfl
        · rename_i hne
          refine hA.done d fun y hy e => ?_
          have h1 := hd y (mem2 y hy (by rw [e]; exact hne)) e
          rcases Array.mem_push.1 h1 with h1 | h1
          · exact h1
          · exfalso
            have := born_inj hw hy hx h1
            exact hne (by rw [← e, this])
      · refine hA.fr.trans' ((hf3.trans hf4).trans hf5) (by simp) ?_
        intro k hk hlt
        simp at hk
        rcases hk with rfl | rfl
        · omega
        · simp
      · show pendH H5 r it < pendH H2 r it
        rw [pendH_eq PT h5.map hi5, pendH_eq PT hA.pol.map hA.iter]
        exact Nat.lt_of_le_of_lt (pendB_sub hsub) (pendB_push (List.mem_map_of_mem (f := fun x : Ent Int => x.2.2) hx) hns)

/-- Which layout a day wants. -/
def wantX (x : Int × Int) (k : Int) : Int := if k = 0 ∧ x.2 > 2 * x.1 + 8 then 1 else if k = 1 ∧ x.1 > 2 * x.2 + 8 then 0 else k

theorem Wants_ok {p : Addr} {r : Nat} {c : Cnt} {day k : Int} {H : Heap} {K : Int → Heap → Prop} (h : PolRep H p r c) (hk : ∀ H', Fr [] H H' → K (wantX (c day) k) H') :
    CallH Try.prog fn_policy_Policy_Wants ⟨[.pointer (some p), .int .i64 day, .int .i64 k]⟩ H fun v H' => ∃ n, v = .int .i64 n ∧ K n H' := by
  apply vc_policy_Policy_Wants
  have other : k < 0 ∨ 1 < k → K k H := fun h0 => by
    have := hk H (Fr.refl _ _)
    unfold wantX at this
    rwa [if_neg (by omega), if_neg (by omega)] at this
  refine brB_of (fun h0 => ⟨_, rfl, other (.inl (by simpa using h0))⟩) (fun h0 => brB_of (fun h1 => ⟨_, rfl, other (.inr (by simpa using h1))⟩) (fun h1 => ?_))
  simp only [decide_eq_false_iff_not, Int.not_lt, gt_iff_lt] at h0 h1
  refine ⟨some r, h.ld, _, _, h.look day, var_st (by kernel_rfl) (by kernel_rfl) (by simp [Value.cells, Value.oneCell']) rfl fun b H1 hb hg hf => ?_⟩
  have hbd := h.bd day
  have hW : ∀ y : Int, 0 ≤ y → y ≤ 1073741824 → IntKind.i64.wrap (IntKind.i64.wrap (2 * y) + 8) = 2 * y + 8 := by
    intro y h1 h2
    rw [wrap64_of (n := 2 * y) (by omega) (by omega), wrap64_of (by omega) (by omega)]
  have hk1 := hk H1 hf
  unfold wantX at hk1
  rcases (by omega : k = 0 ∨ k = 1) with rfl | rfl
  · have e1 : IntKind.i64.wrap (1 - 0) = 1 := by decide
    rw [e1]
    refine chk_of (by decide) ⟨_, ld1_blk (by kernel_rfl) hg rfl, chk_of (by decide) ⟨_, ld1_blk (by kernel_rfl) hg rfl, ?_⟩⟩
    rw [hW _ hbd.1 hbd.2.1]
    refine brB_of (fun h2 => ⟨_, rfl, ?_⟩) (fun h2 => ⟨_, rfl, ?_⟩)
    · rw [if_pos ⟨rfl, by simpa using h2⟩] at hk1
      exact hk1
    · rw [if_neg (by simpa using h2), if_neg (by omega)] at hk1
      exact hk1
  · have e1 : IntKind.i64.wrap (1 - 1) = 0 := by decide
    rw [e1]
    refine chk_of (by decide) ⟨_, ld1_blk (by kernel_rfl) hg rfl, chk_of (by decide) ⟨_, ld1_blk (by kernel_rfl) hg rfl, ?_⟩⟩
    rw [hW _ hbd.2.2.1 hbd.2.2.2]
    refine brB_of (fun h2 => ⟨_, rfl, ?_⟩) (fun h2 => ⟨_, rfl, ?_⟩)
    · rw [if_neg (by omega), if_pos ⟨rfl, by simpa using h2⟩] at hk1
      exact hk1
    · rw [if_neg (by omega), if_neg (by simpa using h2)] at hk1
      exact hk1

/-- The first of the days that wants another layout than its own. -/
def nextC (c : Cnt) : List Int → List Int → Int × Int × Bool
  | d :: ds, k :: ks => if wantX (c d) k ≠ k then (d, wantX (c d) k, true) else nextC c ds ks
  | _, _ => (0, 0, false)
theorem nextC_drop {c : Cnt} {ds ks : List Int} {i : Nat} {d k : Int} (hd : ds[i]? = some d) (hk : ks[i]? = some k) :
    nextC c (ds.drop i) (ks.drop i) = if wantX (c d) k ≠ k then (d, wantX (c d) k, true) else nextC c (ds.drop (i + 1)) (ks.drop (i + 1)) := by
  have h1 := (List.getElem?_eq_some_iff.1 hd)
  have h2 := (List.getElem?_eq_some_iff.1 hk)
  obtain ⟨h1, rfl⟩ := h1
  obtain ⟨h2, rfl⟩ := h2
  rw [List.drop_eq_getElem_cons h1, List.drop_eq_getElem_cons h2]
  rfl
theorem nextC_end {c : Cnt} {ds ks : List Int} {i : Nat} (h : min ds.length ks.length ≤ i) : nextC c (ds.drop i) (ks.drop i) = (0, 0, false) := by
  rcases Nat.le_total ds.length ks.length with h' | h'
  · have e : ds.drop i = [] := List.drop_eq_nil_of_le (by omega)
    rw [e]; unfold nextC; rfl
  · have e : ks.drop i = [] := List.drop_eq_nil_of_le (by omega)
    rw [e]; unfold nextC; cases ds.drop i <;> rfl

theorem Next_ok {p : Addr} {r : Nat} {c : Cnt} {da ka : Option Addr} {dn dc kn kc : Nat} {ds ks : List Int} {H : Heap} {K : Int → Int → Bool → Heap → Prop} (h : PolRep H p r c)
    (hd : Sl encInt H da dn dc ds) (hks : Sl encInt H ka kn kc ks) (hl1 : dn ≤ 1000) (hl2 : kn ≤ 1000)
    (hk : ∀ H', Fr [] H H' → K (nextC c ds ks).1 (nextC c ds ks).2.1 (nextC c ds ks).2.2 H') :
    CallH Try.prog fn_policy_Policy_Next ⟨[.pointer (some p), .slice da dn dc, .slice ka kn kc]⟩ H fun v H' => ∃ n m b, v = .tuple ⟨[.int .i64 n, .int .i64 m, .bool b]⟩ ∧ K n m b H' := by
  apply vc_policy_Policy_Next
  have e1 := hd.len
  have e2 := hks.len
  have e3 := hd.cap
  rw [min_if]
  refine chk_of (by omega) ⟨fun vs H' => ∃ i : Nat, vs = [.int .i64 i] ∧ i ≤ min dn kn ∧ Fr [] H H' ∧ nextC c (ds.drop i) (ks.drop i) = nextC c ds ks,
    fun vs _ => match vs with | [.int _ i] => min dn kn - i.toNat | _ => 0, ⟨0, rfl, by omega, Fr.refl _ _, rfl⟩, ?_⟩
  rintro J n H' ⟨i, hi, hle, hf, hn⟩
  simp only [List.cons.injEq, Value.int.injEq, and_true, true_and] at hi
  subst hi
  refine brB_of (fun h0 => ?_) (fun h0 => ?_)
  · simp only [decide_eq_true_eq] at h0
    have hi1 : i < ds.length := by omega
    have hi2 : i < ks.length := by omega
    have g1 : ds[i]? = some ds[i] := by simp [hi1]
    have g2 : ks[i]? = some ks[i] := by simp [hi2]
    have hd' := hd.keep hf
    have hks' := hks.keep hf
    refine hd'.get rfl g1 (decide_eq_true (by omega)) fun ad ea hc => ⟨_, ld_one (by kernel_rfl) hc, ?_⟩
    refine hks'.get rfl g2 (decide_eq_true (by omega)) fun ad2 ea2 hc2 => ⟨_, ld_one (by kernel_rfl) hc2, ?_⟩
    refine Wants_ok (h.keep hf) fun H2 hf2 => ?_
    have hf' := hf.keep0 hf2
    refine (hks'.keep hf2).get rfl g2 (decide_eq_true (by omega)) fun ad3 ea3 hc3 => ⟨_, ld_one (by kernel_rfl) hc3, ?_⟩
    refine brB_of (fun h1 => ?_) (fun h1 => ?_)
    · refine ⟨_, _, _, rfl, ?_⟩
      have := hk H2 hf'
      rw [← hn, nextC_drop g1 g2, if_pos (by simpa using h1)] at this
      exact this
    · have ew : IntKind.i64.wrap ((i : Int) + 1) = ((i + 1 : Nat) : Int) := by rw [wrap64_of (by omega) (by omega)]; omega
      rw [ew]
      refine ⟨⟨i + 1, rfl, by omega, hf', ?_⟩, ?_⟩
      · rw [← hn, nextC_drop g1 g2, if_neg (by simpa using h1)]
      · show min dn kn - ((i + 1 : Nat) : Int).toNat < min dn kn - ((i : Nat) : Int).toNat
        omega
  · refine ⟨_, _, _, rfl, ?_⟩
    have := hk H' hf
    rw [← hn, nextC_end (by simp only [decide_eq_false_iff_not] at h0; omega)] at this
    exact this

end Go.Proofs
