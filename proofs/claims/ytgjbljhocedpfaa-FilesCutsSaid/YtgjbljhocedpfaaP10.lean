/- A part of a proof: see the last text of this claim. -/
import Derived.Test.YtgjbljhocedpfaaGvStr
import Derived.Test.YtgjbljhocedpfaaVc10
set_option linter.unusedVariables false
set_option maxRecDepth 20000
open Go Go.GV
namespace Go.Proofs

noncomputable abbrev MT : KeyT Try.prog 3 Int := keyInt Try.underlying3
theorem zero41 : zeroOf Try.prog 41 = some (.slice none 0 0) := by kernel_rfl
theorem elem9 : elemB Try.prog 9 1 16 = true := by kernel_rfl
theorem slice41 : sliceB Try.prog 41 9 = true := by kernel_rfl
theorem elem3 : elemB Try.prog 3 1 8 = true := by kernel_rfl
theorem slice53 : sliceB Try.prog 53 3 = true := by kernel_rfl

theorem succ64 {i : Nat} (h : i ≤ 1000000000000) : IntKind.i64.wrap ((i : Int) + 1) = ((i + 1 : Nat) : Int) := by
  rw [wrap64_of (by omega) (by omega)]; omega
theorem pred64 {i : Nat} (h : i ≤ 1000000000000) (h0 : 0 < i) : IntKind.i64.wrap ((i : Int) - 1) = ((i - 1 : Nat) : Int) := by
  rw [wrap64_of (by omega) (by omega)]; omega
theorem mu_lt {n i : Nat} (h : i < n) : n - ((i + 1 : Nat) : Int).toNat < n - ((i : Nat) : Int).toNat := by omega
theorem addr2 (ad : Addr) (i j : Nat) (h : ad.off = 0) (hp : ad = ⟨ad.block, 0, none⟩) : (ad.add i).add j = ad.add (i + j) := by
  rw [hp]; simp [add_at]

theorem Blk.len_lt {H : Heap} {a : Addr} {vs : List Value} (h : Blk H a vs) : a = ⟨a.block, 0, none⟩ := by
  obtain ⟨b, te, rfl, _⟩ := h; rfl
theorem Blk.set {P : Program} {t : TypeId} {H : Heap} {a : Addr} {vs : List Value} {j : Nat} {v : Value} {X : Heap → Prop} (h : Blk H a vs) (hs : szOf P t = 1) (hi : (P.info? t).isSome = true) (hv : v.cells = #[v]) (h1 : v.oneCell' = true) (hj : j < vs.length)
    (k : ∀ H', Blk H' a (vs.set j v) → Fr [a.block] H H' → X H') : ∃ H', St P t H (a.add j) v H' ∧ X H' := by
  have hc : v.cells.toList = [v] := by rw [hv]
  refine h.st (by rw [hs, hv]; rfl) hi (by rw [hc]; simpa using h1) (by rw [hv]; simp; omega) fun H' hb hf => k H' ?_ hf
  rw [hc] at hb
  have e : vs.take j ++ [v] ++ vs.drop (j + [v].length) = vs.set j v := by
    rw [List.set_eq_take_append_cons_drop, if_pos hj]; simp
  rwa [e] at hb

/-- What a disk has. -/
structure Dk where
  size : Int
  is : Nat → ByteArray
  wait : Int → List ByteArray
  off : Bool
  left : Int
  keep : Int
  calls : Int

def tailC (m : Dk) (r : Nat) : List Value := [.map (some r), .bool m.off, .int .i64 m.left, .int .u64 m.keep, .int .i64 m.calls]
def secs (f : Nat → ByteArray) (n : Nat) : List Value := (List.range n).map fun i => Value.string (f i)
theorem secs_len (f : Nat → ByteArray) (n : Nat) : (secs f n).length = n := by simp [secs]
theorem secs_get (f : Nat → ByteArray) {n i : Nat} (h : i < n) : (secs f n)[i]? = some (.string (f i)) := by simp [secs, h]
theorem secs_set (f : Nat → ByteArray) {n i : Nat} (h : i < n) (s : ByteArray) : (secs f n).set i (.string s) = secs (fun k => if k = i then s else f k) n := by
  apply List.ext_getElem?
  intro k
  rw [List.getElem?_set]
  by_cases hk : i = k
  · subst hk
    simp [secs, h]
  · by_cases hk2 : k < n
    · simp [secs, hk, hk2, Ne.symm hk]
    · simp [secs, hk, hk2]
def dkC (m : Dk) (r : Nat) : List Value := .int .i64 m.size :: (secs m.is 512 ++ tailC m r)
theorem dkC_len (m : Dk) (r : Nat) : (dkC m r).length = 518 := by rw [dkC, List.length_cons, List.length_append, secs_len]; rfl
theorem dkC_tail (m : Dk) (r t : Nat) : (dkC m r)[513 + t]? = (tailC m r)[t]? := by
  rw [dkC, show 513 + t = (512 + t) + 1 by omega, List.getElem?_cons_succ, List.getElem?_append_right (by rw [secs_len]; omega), secs_len, Nat.add_sub_cancel_left]
theorem dkC_is (m : Dk) (r : Nat) {i : Nat} (h : i < 512) : (dkC m r)[1 + i]? = some (.string (m.is i)) := by
  rw [dkC, Nat.add_comm, List.getElem?_cons_succ, List.getElem?_append_left (by rw [secs_len]; exact h), secs_get _ h]
theorem dkC_setT (m m' : Dk) (r t : Nat) (v : Value) (h1 : m'.size = m.size) (h2 : m'.is = m.is) (h : (tailC m r).set t v = tailC m' r) : (dkC m r).set (513 + t) v = dkC m' r := by
  rw [dkC, dkC, show 513 + t = (512 + t) + 1 by omega, List.set_cons_succ, List.set_append_right _ _ (by rw [secs_len]; omega), secs_len, Nat.add_sub_cancel_left, h, h1, h2]
theorem dkC_setI (m : Dk) (r : Nat) {i : Nat} (h : i < 512) (s : ByteArray) : (dkC m r).set (1 + i) (.string s) = dkC { m with is := fun k => if k = i then s else m.is k } r := by
  rw [dkC, dkC, Nat.add_comm, List.set_cons_succ, List.set_append_left _ _ (by rw [secs_len]; exact h), secs_set _ h]
  rfl

def blkV : Value → List Nat
  | .slice a _ _ => blkL a
  | _ => []

/-- A disk in memory: its block, its map, the lists that wait. -/
structure DL (H : Heap) (d : Addr) (r ck : Nat) (L : List (Ent Int)) (S : List Nat) (m : Dk) : Prop where
  blk : Blk H d (dkC m r)
  map : MapR MT H r ck L
  ne : d.block ≠ r
  ents : ∀ x ∈ L, ∃ a n c, x.2.1 = .slice a n c ∧ Own GV.encStr 9 0 H a n c (m.wait x.1) ∧ (∀ k ∈ blkL a, k ∈ S ∧ k ≠ d.block ∧ k ≠ r)
  apart : ∀ x ∈ L, ∀ y ∈ L, x.1 ≠ y.1 → Dj (blkV x.2.1) (blkV y.2.1)
  good : ∀ x ∈ L, m.wait x.1 ≠ [] ∧ 0 ≤ x.1 ∧ x.1 < m.size
  rest : ∀ k, getL k L = none → m.wait k = []
  size : 8 ≤ m.size ∧ m.size ≤ 512
  foot : d.block ∈ S ∧ r ∈ S
/-- The same, the numbers bounded. -/
structure DRep (H : Heap) (d : Addr) (S : List Nat) (m : Dk) (N : Nat) : Prop where
  it : ∃ r ck L, DL H d r ck L S m
  left : 0 ≤ m.left ∧ m.left ≤ 9223372036854775807
  calls : 0 ≤ m.calls ∧ m.calls ≤ N
  wlen : ∀ k, (m.wait k).length ≤ N
  inS : In H S

theorem DL.fr {H H' : Heap} {d : Addr} {r ck : Nat} {L : List (Ent Int)} {S T : List Nat} {m : Dk} (h : DL H d r ck L S m) (hf : Fr T H H') (hn : Dj S T) : DL H' d r ck L S m := by
  refine ⟨h.blk.fr hf (hn _ h.foot.1), h.map.fr MT hf (hn _ h.foot.2), h.ne, fun x hx => ?_, h.apart, h.good, h.rest, h.size, h.foot⟩
  obtain ⟨a, n, c, e, ho, hk⟩ := h.ents x hx
  exact ⟨a, n, c, e, ho.fr hf (fun ad ea => hn _ (hk ad.block (by simp [blkL, ea])).1), hk⟩
theorem DRep.fr {H H' : Heap} {d : Addr} {S T : List Nat} {m : Dk} {N : Nat} (h : DRep H d S m N) (hf : Fr T H H') (hn : Dj S T) : DRep H' d S m N := by
  obtain ⟨r, ck, L, hd⟩ := h.it
  exact ⟨⟨r, ck, L, hd.fr hf hn⟩, h.left, h.calls, h.wlen, h.inS.le hf.size⟩
theorem DRep.keep {H H' : Heap} {d : Addr} {S : List Nat} {m : Dk} {N : Nat} (h : DRep H d S m N) (hf : Fr [] H H') : DRep H' d S m N := h.fr hf (fun _ _ => by simp)
theorem DRep.mono {H : Heap} {d : Addr} {S : List Nat} {m : Dk} {N N' : Nat} (h : DRep H d S m N) (hN : N ≤ N') : DRep H d S m N' := ⟨h.it, h.left, ⟨h.calls.1, by have := h.calls.2; omega⟩, fun k => Nat.le_trans (h.wlen k) hN, h.inS⟩

theorem DL.ldM {H : Heap} {d : Addr} {r ck : Nat} {L : List (Ent Int)} {S : List Nat} {m : Dk} (h : DL H d r ck L S m) : Ld Try.prog 60 H (d.add 513) (.map (some r)) := h.blk.ld (by kernel_rfl) (dkC_tail m r 0)
theorem DL.ldOff {H : Heap} {d : Addr} {r ck : Nat} {L : List (Ent Int)} {S : List Nat} {m : Dk} (h : DL H d r ck L S m) : Ld Try.prog 4 H (d.add 514) (.bool m.off) := h.blk.ld (by kernel_rfl) (dkC_tail m r 1)
theorem DL.ldLeft {H : Heap} {d : Addr} {r ck : Nat} {L : List (Ent Int)} {S : List Nat} {m : Dk} (h : DL H d r ck L S m) : Ld Try.prog 3 H (d.add 515) (.int .i64 m.left) := h.blk.ld (by kernel_rfl) (dkC_tail m r 2)
theorem DL.ldKeep {H : Heap} {d : Addr} {r ck : Nat} {L : List (Ent Int)} {S : List Nat} {m : Dk} (h : DL H d r ck L S m) : Ld Try.prog 31 H (d.add 516) (.int .u64 m.keep) := h.blk.ld (by kernel_rfl) (dkC_tail m r 3)
theorem DL.ldCalls {H : Heap} {d : Addr} {r ck : Nat} {L : List (Ent Int)} {S : List Nat} {m : Dk} (h : DL H d r ck L S m) : Ld Try.prog 3 H (d.add 517) (.int .i64 m.calls) := h.blk.ld (by kernel_rfl) (dkC_tail m r 4)
theorem DL.ldSize {H : Heap} {d : Addr} {r ck : Nat} {L : List (Ent Int)} {S : List Nat} {m : Dk} (h : DL H d r ck L S m) : Ld Try.prog 3 H d (.int .i64 m.size) := h.blk.ld0 (by kernel_rfl) rfl

/-- A field behind the map is set. -/
theorem DL.stT {H : Heap} {d : Addr} {r ck : Nat} {L : List (Ent Int)} {S : List Nat} {m : Dk} (m' : Dk) {t : TypeId} {j : Nat} {v : Value} {X : Heap → Prop} (h : DL H d r ck L S m) (hs : szOf Try.prog t = 1) (hi : (Try.prog.info? t).isSome = true) (hv : v.cells = #[v]) (h1 : v.oneCell' = true) (hj : j < 5)
    (e1 : m'.size = m.size) (e2 : m'.is = m.is) (e3 : m'.wait = m.wait) (e4 : (tailC m r).set j v = tailC m' r)
    (k : ∀ H', DL H' d r ck L S m' → Fr [d.block] H H' → X H') : ∃ H', St Try.prog t H (d.add (513 + j)) v H' ∧ X H' := by
  refine Blk.set h.blk hs hi hv h1 (by rw [dkC_len]; omega) fun H' hb hf => k H' ⟨?_, h.map.fr MT hf (by simp [Ne.symm h.ne]), h.ne, fun x hx => ?_, h.apart, ?_, ?_, ?_, h.foot⟩ hf
  · rwa [dkC_setT m m' r j v e1 e2 e4] at hb
  · obtain ⟨a, n, c, e, ho, hk⟩ := h.ents x hx
    refine ⟨a, n, c, e, ?_, hk⟩
    rw [e3]
    exact ho.fr hf fun ad ea => by simpa using (hk ad.block (by simp [blkL, ea])).2.1
  · rw [e3, e1]; exact h.good
  · rw [e3]; exact h.rest
  · rw [e1]; exact h.size

theorem Dead_ok {d : Addr} {S : List Nat} {m : Dk} {N : Nat} {H : Heap} {K : Bool → Heap → Prop} (h : DRep H d S m N) (hk : K m.off H) : CallH Try.prog fn_block_Disk_Dead ⟨[.pointer (some d)]⟩ H fun v H' => ∃ b, v = .bool b ∧ K b H' := by
  apply vc_block_Disk_Dead
  obtain ⟨r, ck, L, hd⟩ := h.it
  exact ⟨_, hd.ldOff, _, rfl, hk⟩
theorem Calls_ok {d : Addr} {S : List Nat} {m : Dk} {N : Nat} {H : Heap} {K : Int → Heap → Prop} (h : DRep H d S m N) (hk : K m.calls H) : CallH Try.prog fn_block_Disk_Calls ⟨[.pointer (some d)]⟩ H fun v H' => ∃ b, v = .int .i64 b ∧ K b H' := by
  apply vc_block_Disk_Calls
  obtain ⟨r, ck, L, hd⟩ := h.it
  exact ⟨_, hd.ldCalls, _, rfl, hk⟩
theorem Size_ok {d : Addr} {S : List Nat} {m : Dk} {N : Nat} {H : Heap} {K : Int → Heap → Prop} (h : DRep H d S m N) (hk : K m.size H) : CallH Try.prog fn_block_Disk_Size ⟨[.pointer (some d)]⟩ H fun v H' => ∃ b, v = .int .i64 b ∧ K b H' := by
  apply vc_block_Disk_Size
  obtain ⟨r, ck, L, hd⟩ := h.it
  exact ⟨_, hd.ldSize, _, rfl, hk⟩

def cutM (m : Dk) (n keep : Int) : Dk := { m with left := if 0 > n then 0 else n, keep := keep }
theorem Cut_ok {d : Addr} {S : List Nat} {m : Dk} {N : Nat} {n keep : Int} {H : Heap} {K : Heap → Prop} (h : DRep H d S m N) (hn : I64 n) (hk : ∀ H', DRep H' d S (cutM m n keep) N → Fr [d.block] H H' → K H') :
    CallH Try.prog fn_block_Disk_Cut ⟨[.pointer (some d), .int .i64 n, .int .u64 keep]⟩ H fun v H' => v = .tuple ⟨[]⟩ ∧ K H' := by
  apply vc_block_Disk_Cut
  obtain ⟨r, ck, L, hd⟩ := h.it
  refine hd.stT { m with left := if 0 > n then 0 else n } (by kernel_rfl) (by kernel_rfl) rfl rfl (by decide : 2 < 5) rfl rfl rfl rfl fun H1 h1 hf1 => ?_
  refine h1.stT (cutM m n keep) (by kernel_rfl) (by kernel_rfl) rfl rfl (by decide : 3 < 5) rfl rfl rfl rfl fun H2 h2 hf2 => ⟨rfl, ?_⟩
  have hf := hf1.trans' hf2 (fun _ h _ => h) (fun _ h _ => h)
  refine hk H2 ⟨⟨r, ck, L, h2⟩, ?_, h.calls, h.wlen, h.inS.le hf.size⟩ hf
  unfold I64 at hn
  simp only [cutM]
  split <;> omega
def powerM (m : Dk) : Dk := { m with off := false, left := 0 }
theorem Power_ok {d : Addr} {S : List Nat} {m : Dk} {N : Nat} {H : Heap} {K : Heap → Prop} (h : DRep H d S m N) (hk : ∀ H', DRep H' d S (powerM m) N → Fr [d.block] H H' → K H') :
    CallH Try.prog fn_block_Disk_Power ⟨[.pointer (some d)]⟩ H fun v H' => v = .tuple ⟨[]⟩ ∧ K H' := by
  apply vc_block_Disk_Power
  obtain ⟨r, ck, L, hd⟩ := h.it
  refine hd.stT { m with off := false } (by kernel_rfl) (by kernel_rfl) rfl rfl (by decide : 1 < 5) rfl rfl rfl rfl fun H1 h1 hf1 => ?_
  refine h1.stT (powerM m) (by kernel_rfl) (by kernel_rfl) rfl rfl (by decide : 2 < 5) rfl rfl rfl rfl fun H2 h2 hf2 => ⟨rfl, ?_⟩
  have hf := hf1.trans' hf2 (fun _ h _ => h) (fun _ h _ => h)
  exact hk H2 ⟨⟨r, ck, L, h2⟩, by simp [powerM], h.calls, h.wlen, h.inS.le hf.size⟩ hf

/-- What waits for a sector, as it is looked up. -/
theorem DL.look {H : Heap} {d : Addr} {r ck : Nat} {L : List (Ent Int)} {S : List Nat} {m : Dk} (h : DL H d r ck L S m) (k : Int) :
    ∃ a n c, Rd Try.prog (Instr.lookup 60 (.map (some r)) (.int .i64 k) false) H (.slice a n c) ∧ Own GV.encStr 9 0 H a n c (m.wait k) ∧ (∀ b ∈ blkL a, b ∈ S ∧ b ≠ d.block ∧ b ≠ r) ∧ (getL k L = some (.slice a n c) ∨ (getL k L = none ∧ a = none)) ∧ (getL k L).getD (.slice none 0 0) = .slice a n c := by
  have hl := lookup_map MT (mt := 60) (e := 41) Try.underlying60 zero41 h.map k
  cases hg : getL k L with
  | none =>
    rw [hg] at hl
    refine ⟨none, 0, 0, hl, ?_, fun _ h => (by cases h), .inr ⟨rfl, rfl⟩, rfl⟩
    rw [h.rest k hg]
    exact Own.nil _ _ _ _
  | some v =>
    rw [hg] at hl
    obtain ⟨b, hb⟩ := mem_getL hg
    obtain ⟨a, n, c, e, ho, hk⟩ := h.ents _ hb
    have e : v = .slice a n c := e
    subst e
    exact ⟨a, n, c, hl, ho, hk, .inl rfl, rfl⟩

def rdM (m : Dk) (i : Int) : ByteArray × Int :=
  if m.off then (⟨#[]⟩, 90) else if i < 0 ∨ m.size ≤ i then (⟨#[]⟩, 91) else (((m.wait i).getLast?).getD (m.is i.toNat), 0)
theorem Read_ok {d : Addr} {S : List Nat} {m : Dk} {N : Nat} {i : Int} {H : Heap} {K : ByteArray → Int → Heap → Prop} (h : DRep H d S m N) (hN : N ≤ 1000000) (hk : K (rdM m i).1 (rdM m i).2 H) :
    CallH Try.prog fn_block_Disk_Read ⟨[.pointer (some d), .int .i64 i]⟩ H fun v H' => ∃ s n, v = .tuple ⟨[.string s, .int .i64 n]⟩ ∧ K s n H' := by
  apply vc_block_Disk_Read
  obtain ⟨r, ck, L, hd⟩ := h.it
  unfold rdM at hk
  refine ⟨fun _ H' => H' = H ∧ m.off = false ∧ 0 ≤ i ∧ i < m.size, ⟨_, hd.ldOff, brB_of (fun h0 => ⟨_, _, rfl, ?_⟩) (fun h0 => brB_of (fun h1 => ⟨_, _, rfl, ?_⟩) (fun h1 => ⟨_, hd.ldSize, brB_of (fun h2 => ⟨_, _, rfl, ?_⟩) (fun h2 => ?_)⟩))⟩, ?_⟩
  · rw [if_pos h0] at hk; exact hk
  · rw [if_neg (by simp [h0]), if_pos (.inl (by simpa using h1))] at hk; exact hk
  · rw [if_neg (by simp [h0]), if_pos (.inr (by simpa using h2))] at hk; exact hk
  · exact ⟨rfl, h0, by simpa using h1, by simpa using h2⟩
  · rintro J H' ⟨rfl, h0, h1, h2⟩
    rw [if_neg (by simp [h0]), if_neg (by omega)] at hk
    have hsz := hd.size
    obtain ⟨a, n, c, hl, ho, _, _, _⟩ := hd.look i
    have hn := ho.1
    have hw := h.wlen i
    refine ⟨_, hd.ldM, a, n, c, hl, brB_of (fun h3 => ?_) (fun h3 => ?_)⟩
    · have h3' : 0 < n := by simpa using h3
      rw [pred64 (by omega) h3']
      have hx : (m.wait i)[n - 1]? = some ((m.wait i)[n - 1]'(by omega)) := by simp
      refine ho.sl.get rfl hx (decide_eq_true (by omega)) fun ad ea hc => ⟨_, ld_one (by kernel_rfl) hc, _, _, rfl, ?_⟩
      rw [List.getLast?_eq_getElem?, ← hn, hx] at hk
      exact hk
    · refine chk_of ⟨by omega, by omega⟩ ?_
      have hw0 : m.wait i = [] := List.eq_nil_of_length_eq_zero (by simp at h3; omega)
      rw [hw0] at hk
      have hbl := Blk.len_lt hd.blk
      rw [addr2 d 1 _ (by rw [hbl]) hbl]
      refine ⟨_, hd.blk.ld (by kernel_rfl) (dkC_is m r (i := i.toNat * 1) (by omega)), _, _, rfl, ?_⟩
      rw [Nat.mul_one]
      exact hk
end Go.Proofs
