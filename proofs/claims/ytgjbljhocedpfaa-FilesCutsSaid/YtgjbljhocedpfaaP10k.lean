/- A part of a proof: see the last text of this claim. -/
import Derived.Test.YtgjbljhocedpfaaP10j
set_option linter.unusedVariables false
set_option maxRecDepth 100000
open Go Go.GV
namespace Go.Proofs

def putN (now : ByteArray → Option ByteArray) (k v : ByteArray) : ByteArray → Option ByteArray := fun x => if x = k then some v else now x
def delN (now : ByteArray → Option ByteArray) (k : ByteArray) : ByteArray → Option ByteArray := fun x => if x = k then none else now x
theorem setL_len {κ : Type} [DecidableEq κ] (k : κ) (v : Value) (L : List (Ent κ)) : (GV.setL k v L).length = L.length := by
  induction L with
  | nil => rfl
  | cons x l ih =>
    unfold GV.setL
    split
    · rfl
    · simp [ih]
theorem putL_len {κ : Type} [DecidableEq κ] (k : κ) (v : Value) (ck : Nat) (L : List (Ent κ)) : (putL k v ck L).length ≤ L.length + 1 := by
  unfold putL
  split
  · rw [setL_len]; omega
  · simp
theorem NowR.put {H : Heap} {r N : Nat} {now : ByteArray → Option ByteArray} {K : Heap → Prop} (h : NowR H r now N) (k v : ByteArray) (hk : ∀ H', NowR H' r (putN now k v) (N + 1) → Fr [r] H H' → K H') :
    SemU Try.prog (Instr.mapUpdate 51 (.map (some r)) (.string k) (.string v)) H K := by
  obtain ⟨ck, L, hm, hl, hg⟩ := h
  refine put_map SM (mt := 51) (e := 9) Try.underlying51 hm k fun H' hm' hf => hk H' ⟨_, _, hm', ?_, fun x => ?_⟩ hf
  · have := putL_len k (.string v) ck L
    omega
  · rw [getL_putL]
    unfold putN
    split
    · rfl
    · exact hg x
theorem NowR.del {H : Heap} {r N : Nat} {ty : TypeId} {now : ByteArray → Option ByteArray} {K : Heap → Prop} (h : NowR H r now N) (k : ByteArray) (hk : ∀ H', NowR H' r (delN now k) N → Fr [r] H H' → K H') :
    SemWp Try.prog (Builtin.delete_ ⟨[51, 9]⟩ ty ⟨[.map (some r), .string k]⟩) H fun v H' => v = .tuple ⟨[]⟩ ∧ K H' := by
  obtain ⟨ck, L, hm, hl, hg⟩ := h
  refine del_map SM (mt := 51) (e := 9) Try.underlying51 hm k fun H' hm' hf => hk H' ⟨_, _, hm', ?_, fun x => ?_⟩ hf
  · have : (delL k L).length ≤ L.length := List.length_filter_le _ _
    omega
  · rw [getL_delL]
    unfold delN
    split
    · rfl
    · exact hg x
theorem zero9 : zeroOf Try.prog 9 = some (.string ⟨#[]⟩) := by kernel_rfl
theorem NowR.look {H : Heap} {r N : Nat} {now : ByteArray → Option ByteArray} (h : NowR H r now N) (k : ByteArray) : Rd Try.prog (Instr.lookup 51 (.map (some r)) (.string k) false) H (.string ((now k).getD ⟨#[]⟩)) := by
  obtain ⟨ck, L, hm, hl, hg⟩ := h
  have := lookup_map SM (mt := 51) (e := 9) Try.underlying51 zero9 hm k
  rw [hg k] at this
  cases hn : now k <;> rw [hn] at this <;> exact this
theorem NowR.look2 {H : Heap} {r N : Nat} {now : ByteArray → Option ByteArray} (h : NowR H r now N) (k : ByteArray) : Rd Try.prog (Instr.lookup 51 (.map (some r)) (.string k) true) H (.tuple ⟨[.string ((now k).getD ⟨#[]⟩), .bool (now k).isSome]⟩) := by
  obtain ⟨ck, L, hm, hl, hg⟩ := h
  have := lookup_map_ok SM (mt := 51) (e := 9) Try.underlying51 zero9 hm k
  rw [hg k] at this
  cases hn : now k <;> rw [hn] at this <;> exact this

/-- What a store has. -/
structure Sto where
  now : ByteArray → Option ByteArray
  last : ByteArray → Option (ByteArray × List Int)
  dir : List Int
  gen : Int
  bad : Bool
/-- A store in memory: its block, its maps, its directory's sectors; the disk's own blocks are apart. -/
structure SL (H : Heap) (s d : Addr) (rn rl : Nat) (a : Option Addr) (n c : Nat) (Q Sd : List Nat) (st : Sto) (m : Dk) (N M : Nat) : Prop where
  blk : Blk H s [.pointer (some d), .map (some rn), .map (some rl), .slice a n c, .int .i64 st.gen, .bool st.bad]
  now : NowR H rn st.now M
  last : LastR H rl Q st.last
  dir : Sl encInt H a n c st.dir
  dirQ : ∀ k ∈ blkL a, k ∈ Q
  dk : DRep H d Sd m N
  own : s.block ∉ rn :: rl :: Q
  apart : Dj (s.block :: rn :: rl :: Q) Sd
  inQ : In H Q
theorem SL.fr {H H' : Heap} {s d : Addr} {rn rl : Nat} {a : Option Addr} {n c : Nat} {Q Sd T : List Nat} {st : Sto} {m : Dk} {N M : Nat} (h : SL H s d rn rl a n c Q Sd st m N M) (hf : Fr T H H') (h1 : Dj (s.block :: rn :: rl :: Q) T) (h2 : Dj Sd T) : SL H' s d rn rl a n c Q Sd st m N M :=
  ⟨h.blk.fr hf (h1 _ (by simp)), h.now.fr hf (h1 _ (by simp)), h.last.fr hf (h1 _ (by simp)) fun k hk => h1 _ (by simp [hk]), h.dir.fr hf fun ad e => h1 _ (by simp [h.dirQ ad.block (by simp [e, blkL])]), h.dirQ, h.dk.fr hf h2, h.own, h.apart, h.inQ.le hf.size⟩
theorem SL.keep {H H' : Heap} {s d : Addr} {rn rl : Nat} {a : Option Addr} {n c : Nat} {Q Sd : List Nat} {st : Sto} {m : Dk} {N M : Nat} (h : SL H s d rn rl a n c Q Sd st m N M) (hf : Fr [] H H') : SL H' s d rn rl a n c Q Sd st m N M := h.fr hf (fun _ _ => by simp) (fun _ _ => by simp)

theorem Gen_ok {s d : Addr} {rn rl : Nat} {a : Option Addr} {n c : Nat} {Q Sd : List Nat} {st : Sto} {m : Dk} {N M : Nat} {H : Heap} {K : Int → Heap → Prop} (h : SL H s d rn rl a n c Q Sd st m N M) (hk : K st.gen H) :
    CallH Try.prog fn_files_Store_Gen ⟨[.pointer (some s)]⟩ H fun v H' => ∃ n, v = .int .i64 n ∧ K n H' := by
  apply vc_files_Store_Gen
  exact ⟨_, h.blk.ld (by kernel_rfl) rfl, _, rfl, hk⟩
theorem Read10_ok {s d : Addr} {rn rl : Nat} {a : Option Addr} {n c : Nat} {Q Sd : List Nat} {st : Sto} {m : Dk} {N M : Nat} {H : Heap} {name : ByteArray} {K : ByteArray → Bool → Heap → Prop} (h : SL H s d rn rl a n c Q Sd st m N M)
    (hk : K ((st.now name).getD ⟨#[]⟩) (st.now name).isSome H) :
    CallH Try.prog fn_files_Store_Read ⟨[.pointer (some s), .string name]⟩ H fun v H' => ∃ t b, v = .tuple ⟨[.string t, .bool b]⟩ ∧ K t b H' := by
  apply vc_files_Store_Read
  exact ⟨_, h.blk.ld (by kernel_rfl) rfl, _, _, h.now.look2 name, _, _, rfl, hk⟩
/-- A map's names, in order. -/
def namesOf (now : ByteArray → Option ByteArray) (ys : List ByteArray) : Prop := (ys.map bl).Pairwise (· < ·) ∧ ∀ y, y ∈ ys ↔ (now y).isSome
theorem NowR.names {H : Heap} {r N : Nat} {now : ByteArray → Option ByteArray} {K : Option Addr → Nat → Nat → Heap → Prop} (h : NowR H r now N) (hN : N ≤ 1000000000000)
    (hk : ∀ ys a n c H', namesOf now ys → ys.length ≤ N → Own GV.encStr 9 H.size H' a n c ys → Fr [] H H' → K a n c H') :
    CallH Try.prog 52 ⟨[.map (some r)]⟩ H fun v H' => ∃ v_1, v = v_1 ∧ CallH Try.prog 51 ⟨[v_1]⟩ H' fun v H' => ∃ a n c, v = .slice a n c ∧ K a n c H' := by
  obtain ⟨ck, L, hm, hl, hg⟩ := h
  refine mapNames_ok hm (by omega) fun ys a n c H' hy ho hf => hk ys a n c H' ⟨hy.1, fun y => ?_⟩ ?_ ho hf
  · rw [hy.2]
    constructor
    · rintro ⟨x, hx, rfl⟩
      have := getL_mem hm.wf (k := x.1) (v := x.2.1) (b := x.2.2) hx
      rw [hg] at this
      cases hn : now x.1 with
      | none => rw [hn] at this; cases this
      | some v => rfl
    · intro h
      cases hn : now y with
      | none => rw [hn] at h; cases h
      | some v =>
        have := hg y
        rw [hn] at this
        obtain ⟨b, hb⟩ := mem_getL this
        exact ⟨_, hb, rfl⟩
  · have hnd : ys.Nodup := by
      rw [List.nodup_iff_pairwise_ne]
      have := hy.1
      rw [List.pairwise_map] at this
      exact this.imp fun h e => by rw [e] at h; exact (List.lt_irrefl _) h
    have := keysA_len (L := L) ⟨hnd, fun y h => (hy.2 y).1 h⟩
    omega
theorem Names_ok {s d : Addr} {rn rl : Nat} {a : Option Addr} {n c : Nat} {Q Sd : List Nat} {st : Sto} {m : Dk} {N M : Nat} {H : Heap} {K : Option Addr → Nat → Nat → Heap → Prop} (h : SL H s d rn rl a n c Q Sd st m N M) (hM : M ≤ 1000000000000)
    (hk : ∀ ys a n c H', namesOf st.now ys → ys.length ≤ M → Own GV.encStr 9 H.size H' a n c ys → Fr [] H H' → K a n c H') :
    CallH Try.prog fn_files_Store_Names ⟨[.pointer (some s)]⟩ H fun v H' => ∃ a n c, v = .slice a n c ∧ K a n c H' := by
  apply vc_files_Store_Names
  exact ⟨_, h.blk.ld (by kernel_rfl) rfl, h.now.names hM fun ys a n c H' h1 h2 h3 h4 => ⟨_, _, _, rfl, hk ys a n c H' h1 h2 h3 h4⟩⟩
end Go.Proofs
