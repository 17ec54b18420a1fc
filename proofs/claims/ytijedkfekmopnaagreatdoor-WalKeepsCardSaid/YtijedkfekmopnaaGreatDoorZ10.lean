/- Turned by a program of mine (portall.py) out of the same text of another seat. -/
import Derived.Test.YtijedkfekmopnaaGreatDoorZ11J
import Derived.Test.YtijedkfekmopnaaGreatDoorVcZD
import Derived.Test.YtijedkfekmopnaaGreatDoorSeq
import Derived.Test.YtijedkfekmopnaaGreatDoorSortS
import Derived.Test.YtijedkfekmopnaaGreatDoorShZD
set_option linter.unusedVariables false
set_option maxRecDepth 20000
open Go Go.GV
namespace Go.Proofs

noncomputable abbrev MT : KeyT Tryz.prog 3 Int := keyInt Tryz.underlying3
theorem zero41 : zeroOf Tryz.prog 92 = some (.slice none 0 0) := by kernel_rfl
theorem slice41 : sliceB Tryz.prog 92 9 = true := by kernel_rfl
theorem elem3 : elemB Tryz.prog 3 1 8 = true := by kernel_rfl
theorem slice53 : sliceB Tryz.prog 80 3 = true := by kernel_rfl

theorem addr2 (ad : Addr) (i j : Nat) (h : ad.off = 0) (hp : ad = ⟨ad.block, 0, none⟩) : (ad.add i).add j = ad.add (i + j) := by
  rw [hp]; simp [add_at]

theorem Blk.len_lt {H : Heap} {a : Addr} {vs : List Value} (h : Blk H a vs) : a = ⟨a.block, 0, none⟩ := by
  obtain ⟨b, te, rfl, _⟩ := h; rfl
theorem Blk.set {P : Program} {t : TypeId} {H : Heap} {a : Addr} {vs : List Value} {j : Nat} {v : Value} {X : Heap → Prop} (h : Blk H a vs) (hs : szOf P t = 1) (hi : (P.info? t).isSome = true) (hv : v.cells = #[v]) (h1 : v.oneCell' = true) (hj : j < vs.length)
    (k : ∀ H', Blk H' a (vs.set j v) → Fr [a.block] H H' → X H') : ∃ H', St P t H (a.add j) v H' ∧ X H' := by
  have hc : v.cells.toList = [v] := by rw [hv]
  refine h.st (by rw [hs, hv]; rfl) hi (by rw [hc]; simpa using h1) (by rw [hv]; simp; omega) fun H' hb hf => k H' ?_ hf
  rw [hc] at hb
  have e : vs.take j ++ [v] ++ vs.drop (j + [v].length) = vs.set j v := by
    rw [List.set_eq_take_append_cons_drop, if_pos hj]; simp
  rwa [e] at hb

structure Dk where
  size : Int
  is : Nat → ByteArray
  wait : Int → List ByteArray
  off : Bool
  left : Int
  keep : Int
  calls : Int

def tailC (m : Dk) (r : Nat) : List Value := [.map (some r), .bool m.off, .int .i64 m.left, .int .u64 m.keep, .int .i64 m.calls]
def secs (f : Nat → ByteArray) (n : Nat) : List Value := (List.range n).map fun i => Value.string (f i)
theorem secs_len (f : Nat → ByteArray) (n : Nat) : (secs f n).length = n := by simp [secs]
theorem secs_get (f : Nat → ByteArray) {n i : Nat} (h : i < n) : (secs f n)[i]? = some (.string (f i)) := by simp [secs, h]
def dkC (m : Dk) (r : Nat) : List Value := .int .i64 m.size :: (secs m.is 512 ++ tailC m r)
theorem dkC_tail (m : Dk) (r t : Nat) : (dkC m r)[513 + t]? = (tailC m r)[t]? := by
  rw [dkC, show 513 + t = (512 + t) + 1 by omega, List.getElem?_cons_succ, List.getElem?_append_right (by rw [secs_len]; omega), secs_len, Nat.add_sub_cancel_left]
theorem dkC_is (m : Dk) (r : Nat) {i : Nat} (h : i < 512) : (dkC m r)[1 + i]? = some (.string (m.is i)) := by
  rw [dkC, Nat.add_comm, List.getElem?_cons_succ, List.getElem?_append_left (by rw [secs_len]; exact h), secs_get _ h]
def blkV : Value → List Nat
  | .slice a _ _ => blkL a
  | _ => []

structure DL (H : Heap) (d : Addr) (r ck : Nat) (L : List (Ent Int)) (S : List Nat) (m : Dk) : Prop where
  blk : Blk H d (dkC m r)
  map : MapR MT H r ck L
  ne : d.block ≠ r
  ents : ∀ x ∈ L, ∃ a n c, x.2.1 = .slice a n c ∧ Own GV.encStr 9 0 H a n c (m.wait x.1) ∧ (∀ k ∈ blkL a, k ∈ S ∧ k ≠ d.block ∧ k ≠ r)
  apart : ∀ x ∈ L, ∀ y ∈ L, x.1 ≠ y.1 → Dj (blkV x.2.1) (blkV y.2.1)
  good : ∀ x ∈ L, m.wait x.1 ≠ [] ∧ 0 ≤ x.1 ∧ x.1 < m.size
  rest : ∀ k, getL k L = none → m.wait k = []
  size : 8 ≤ m.size ∧ m.size ≤ 512
  foot : d.block ∈ S ∧ r ∈ S
structure DRep (H : Heap) (d : Addr) (S : List Nat) (m : Dk) (N : Nat) : Prop where
  it : ∃ r ck L, DL H d r ck L S m
  left : 0 ≤ m.left ∧ m.left ≤ 9223372036854775807
  calls : 0 ≤ m.calls ∧ m.calls ≤ N
  wlen : ∀ k, (m.wait k).length ≤ N
  inS : In H S

theorem DL.fr {H H' : Heap} {d : Addr} {r ck : Nat} {L : List (Ent Int)} {S T : List Nat} {m : Dk} (h : DL H d r ck L S m) (hf : Fr T H H') (hn : Dj S T) : DL H' d r ck L S m := by
  refine ⟨h.blk.fr hf (hn _ h.foot.1), h.map.fr MT hf (hn _ h.foot.2), h.ne, fun x hx => ?_, h.apart, h.good, h.rest, h.size, h.foot⟩
  obtain ⟨a, n, c, e, ho, hk⟩ := h.ents x hx
  exact ⟨a, n, c, e, ho.fr hf (fun ad ea => hn _ (hk ad.block (by simp [blkL, ea])).1), hk⟩
theorem DRep.fr {H H' : Heap} {d : Addr} {S T : List Nat} {m : Dk} {N : Nat} (h : DRep H d S m N) (hf : Fr T H H') (hn : Dj S T) : DRep H' d S m N := by
  obtain ⟨r, ck, L, hd⟩ := h.it
  exact ⟨⟨r, ck, L, hd.fr hf hn⟩, h.left, h.calls, h.wlen, h.inS.le hf.size⟩
theorem DRep.keep {H H' : Heap} {d : Addr} {S : List Nat} {m : Dk} {N : Nat} (h : DRep H d S m N) (hf : Fr [] H H') : DRep H' d S m N := h.fr hf (fun _ _ => by simp)
theorem DRep.mono {H : Heap} {d : Addr} {S : List Nat} {m : Dk} {N N' : Nat} (h : DRep H d S m N) (hN : N ≤ N') : DRep H d S m N' := ⟨h.it, h.left, ⟨h.calls.1, by have := h.calls.2; omega⟩, fun k => Nat.le_trans (h.wlen k) hN, h.inS⟩

theorem DL.ldM {H : Heap} {d : Addr} {r ck : Nat} {L : List (Ent Int)} {S : List Nat} {m : Dk} (h : DL H d r ck L S m) : Ld Tryz.prog 123 H (d.add 513) (.map (some r)) := h.blk.ld (by kernel_rfl) (dkC_tail m r 0)
theorem DL.ldOff {H : Heap} {d : Addr} {r ck : Nat} {L : List (Ent Int)} {S : List Nat} {m : Dk} (h : DL H d r ck L S m) : Ld Tryz.prog 4 H (d.add 514) (.bool m.off) := h.blk.ld (by kernel_rfl) (dkC_tail m r 1)
theorem DL.ldSize {H : Heap} {d : Addr} {r ck : Nat} {L : List (Ent Int)} {S : List Nat} {m : Dk} (h : DL H d r ck L S m) : Ld Tryz.prog 3 H d (.int .i64 m.size) := h.blk.ld0 (by kernel_rfl) rfl

theorem Dead_ok {d : Addr} {S : List Nat} {m : Dk} {N : Nat} {H : Heap} {K : Bool → Heap → Prop} (h : DRep H d S m N) (hk : K m.off H) : CallH Tryz.prog fn_block_Disk_Dead ⟨[.pointer (some d)]⟩ H fun v H' => ∃ b, v = .bool b ∧ K b H' := by
  apply vc_block_Disk_Dead
  obtain ⟨r, ck, L, hd⟩ := h.it
  exact ⟨_, hd.ldOff, _, rfl, hk⟩
theorem Size_ok {d : Addr} {S : List Nat} {m : Dk} {N : Nat} {H : Heap} {K : Int → Heap → Prop} (h : DRep H d S m N) (hk : K m.size H) : CallH Tryz.prog fn_block_Disk_Size ⟨[.pointer (some d)]⟩ H fun v H' => ∃ b, v = .int .i64 b ∧ K b H' := by
  apply vc_block_Disk_Size
  obtain ⟨r, ck, L, hd⟩ := h.it
  exact ⟨_, hd.ldSize, _, rfl, hk⟩

theorem DL.look {H : Heap} {d : Addr} {r ck : Nat} {L : List (Ent Int)} {S : List Nat} {m : Dk} (h : DL H d r ck L S m) (k : Int) :
    ∃ a n c, Rd Tryz.prog (Instr.lookup 123 (.map (some r)) (.int .i64 k) false) H (.slice a n c) ∧ Own GV.encStr 9 0 H a n c (m.wait k) ∧ (∀ b ∈ blkL a, b ∈ S ∧ b ≠ d.block ∧ b ≠ r) ∧ (getL k L = some (.slice a n c) ∨ (getL k L = none ∧ a = none)) ∧ (getL k L).getD (.slice none 0 0) = .slice a n c := by
  have hl := lookup_map MT (mt := 123) (e := 92) Tryz.underlying123 zero41 h.map k
  cases hg : getL k L with
  | none =>
    rw [hg] at hl
    refine ⟨none, 0, 0, hl, ?_, fun _ h => (by cases h), .inr ⟨rfl, rfl⟩, rfl⟩
    rw [h.rest k hg]
    exact Own.nil _ _ _ _
  | some v =>
    rw [hg] at hl
    obtain ⟨b, hb⟩ := mem_getL hg
    obtain ⟨a, n, c, e, ho, hk⟩ := h.ents _ hb
    have e : v = .slice a n c := e
    subst e
    exact ⟨a, n, c, hl, ho, hk, .inl rfl, rfl⟩

def rdM (m : Dk) (i : Int) : ByteArray × Int :=
  if m.off then (⟨#[]⟩, 90) else if i < 0 ∨ m.size ≤ i then (⟨#[]⟩, 91) else (((m.wait i).getLast?).getD (m.is i.toNat), 0)
theorem Read_ok {d : Addr} {S : List Nat} {m : Dk} {N : Nat} {i : Int} {H : Heap} {K : ByteArray → Int → Heap → Prop} (h : DRep H d S m N) (hN : N ≤ 1000000) (hk : K (rdM m i).1 (rdM m i).2 H) :
    CallH Tryz.prog fn_block_Disk_Read ⟨[.pointer (some d), .int .i64 i]⟩ H fun v H' => ∃ s n, v = .tuple ⟨[.string s, .int .i64 n]⟩ ∧ K s n H' := by
  apply vc_block_Disk_Read
  obtain ⟨r, ck, L, hd⟩ := h.it
  unfold rdM at hk
  refine ⟨fun _ H' => H' = H ∧ m.off = false ∧ 0 ≤ i ∧ i < m.size, ⟨_, hd.ldOff, brB_of (fun h0 => ⟨_, _, rfl, ?_⟩) (fun h0 => brB_of (fun h1 => ⟨_, _, rfl, ?_⟩) (fun h1 => ⟨_, hd.ldSize, brB_of (fun h2 => ⟨_, _, rfl, ?_⟩) (fun h2 => ?_)⟩))⟩, ?_⟩
  · rw [if_pos h0] at hk; exact hk
  · rw [if_neg (by simp [h0]), if_pos (.inl (by simpa using h1))] at hk; exact hk
  · rw [if_neg (by simp [h0]), if_pos (.inr (by simpa using h2))] at hk; exact hk
  · exact ⟨rfl, h0, by simpa using h1, by simpa using h2⟩
  · rintro J H' ⟨rfl, h0, h1, h2⟩
    rw [if_neg (by simp [h0]), if_neg (by omega)] at hk
    have hsz := hd.size
    obtain ⟨a, n, c, hl, ho, _, _, _⟩ := hd.look i
    have hn := ho.1
    have hw := h.wlen i
    refine ⟨_, hd.ldM, a, n, c, hl, brB_of (fun h3 => ?_) (fun h3 => ?_)⟩
    · have h3' : 0 < n := by simpa using h3
      rw [pred64 (by omega) h3']
      have hx : (m.wait i)[n - 1]? = some ((m.wait i)[n - 1]'(by omega)) := by simp
      refine ho.sl.get rfl hx (decide_eq_true (by omega)) fun ad ea hc => ⟨_, ld_one (by kernel_rfl) hc, _, _, rfl, ?_⟩
      rw [List.getLast?_eq_getElem?, ← hn, hx] at hk
      exact hk
    · refine chk_of ⟨by omega, by omega⟩ ?_
      have hw0 : m.wait i = [] := List.eq_nil_of_length_eq_zero (by simp at h3; omega)
      rw [hw0] at hk
      have hbl := Blk.len_lt hd.blk
      rw [addr2 d 1 _ (by rw [hbl]) hbl]
      refine ⟨_, hd.blk.ld (by kernel_rfl) (dkC_is m r (i := i.toNat * 1) (by omega)), _, _, rfl, ?_⟩
      rw [Nat.mul_one]
      exact hk
end Go.Proofs
set_option linter.unusedVariables false
set_option maxRecDepth 100000
open Go Go.GV
namespace Go.Proofs

noncomputable abbrev SM : KeyT Tryz.prog 9 ByteArray := keyStr Tryz.underlying9

def keysA (L : List (Ent ByteArray)) (ys : List ByteArray) : Prop := ys.Nodup ∧ ∀ y ∈ ys, ∃ x ∈ L, x.1 = y
def keysF (L : List (Ent ByteArray)) (ys : List ByteArray) : Prop := ys.Nodup ∧ ∀ y, y ∈ ys ↔ ∃ x ∈ L, x.1 = y
theorem keys_seq {b r ck : Nat} {L : List (Ent ByteArray)} : SeqOk Tryz.prog (fun s => .string s) (.func (.func 129) ⟨[]⟩ ⟨[.pointer (some ⟨b, 0, none⟩)]⟩) (keysA L) (keysF L) [b, r]
    (fun H => Blk H ⟨b, 0, none⟩ [.map (some r)] ∧ MapR SM H r ck L) := by
  intro l H I K S hG hin hd h0 stab step fin
  obtain ⟨hb, hm⟩ := hG
  refine ⟨129, ⟨[]⟩, _, rfl, by kernel_rfl, ?_⟩
  apply vc_maps_Keys_map_string_string_string_string__1
  have hSb : b ∉ S := fun h => hd b h (by simp)
  have hSr : r ∉ S := fun h => hd r h (by simp)
  refine ⟨some r, hb.ld0 (by kernel_rfl) rfl, range_map SM (mt := 78) (e := 9) Tryz.underlying78 hm fun it H1 hn1 => ?_⟩
  have hit := hn1.eq
  have hs1 := hn1.size
  refine ⟨fun _ H2 => ∃ (ys : List ByteArray) (seen : Array Nat) (S2 : List Nat), I ys S2 H2 ∧ ys.Nodup ∧ (∀ k, k ∈ ys ↔ ∃ x ∈ L, x.1 = k ∧ x.2.2 ∈ seen) ∧ H2[it]? = some (.mapIter (some r) ck seen ck) ∧ it ∉ S2 ∧ Fr S H H2 ∧ Grow H S S2 ∧ In H2 S2,
    fun _ H2 => pendH H2 r it, ⟨[], #[], S, stab _ _ _ _ [] h0 hn1.fr (fun _ _ => by simp) (by simp), by simp, by simp, hn1.get, fun h => by have := hin it h; omega, hn1.fr.mono (by simp), Grow.refl _ _, hin.le hn1.fr.size⟩, ?_⟩
  rintro J H2 ⟨ys, seen, S2, hI, hnd, hmem, hi2, hit2, hf2, hg2, hin2⟩
  have hm2 := hm.fr SM hf2 hSr
  have hb2 := hb.fr hf2 hSb
  refine next_map SM hm2 hi2 (fun hall => ⟨rfl, ?_⟩) fun x hx hns H3 hi3 hf3 => ?_
  · refine fin ys S2 H2 ⟨hnd, fun y => ?_⟩ hI hin2 hf2 hg2
    rw [hmem]
    exact ⟨fun ⟨x, hx, e, _⟩ => ⟨x, hx, e⟩, fun ⟨x, hx, e⟩ => ⟨x, hx, e, hall x hx⟩⟩
  · have hrit : r ≠ it := fun e => by have := hm.lt; omega
    have hm3 := hm2.fr SM hf3 (by simp; exact hrit)
    have hI3 := stab ys S2 H2 H3 [it] hI hf3 (fun k hk => by simp; exact fun e => hit2 (e ▸ hk)) (fun k hk => by simp at hk; omega)
    have hin3 : In H3 S2 := hin2.le hf3.size
    refine entry_map SM hm3 hi3 hx rfl ⟨x.1, rfl, .inr ⟨l, rfl, (step ys x.1 S2 H3 ?_ hin3 hI3).mono fun v H4 => ?_⟩⟩
    · constructor
      · rw [List.nodup_append]
        refine ⟨hnd, by simp, fun a ha b' hb' => ?_⟩
        simp only [List.mem_singleton] at hb'
        subst hb'
        intro e
        subst e
        obtain ⟨z, hz, e, hs⟩ := (hmem _).1 ha
        have := ent_key hm.wf hz hx e
        subst this
        exact hns hs
      · intro y hy
        rcases List.mem_append.1 hy with hy | hy
        · obtain ⟨z, hz, e, _⟩ := (hmem y).1 hy; exact ⟨z, hz, e⟩
        · simp only [List.mem_singleton] at hy; exact ⟨x, hx, hy.symm⟩
    · rintro ⟨rfl, S4, hI4, hf4, hg4, hin4⟩
      have hlt3 : it < H3.size := lt_of_get hi3
      have hi4 : H4[it]? = some (.mapIter (some r) ck (seen.push x.2.2) ck) := hf4.get hi3 hit2
      have hf24 : Fr S H H3 := hf2.trans' hf3 (fun k hk _ => hk) (fun k hk hlt => by simp at hk; omega)
      have hf34 : Fr S H H4 := hf24.trans' hf4 (fun k hk _ => hk) (fun k hk hlt => by
        rcases hg2 k hk with h | h
        · exact h
        · omega)
      have hm4 := hm.fr SM hf34 hSr
      refine ⟨true, rfl, brB_of (fun h => by simp at h) fun _ => ⟨⟨ys ++ [x.1], seen.push x.2.2, S4, hI4, ?_, ?_, hi4, ?_, hf34, ?_, hin4⟩, ?_⟩⟩
      · rw [List.nodup_append]
        refine ⟨hnd, by simp, fun a ha b' hb' => ?_⟩
        simp only [List.mem_singleton] at hb'
        subst hb'
        intro e
        subst e
        obtain ⟨z, hz, e, hs⟩ := (hmem _).1 ha
        have := ent_key hm.wf hz hx e
        subst this
        exact hns hs
      · intro k
        rw [List.mem_append, hmem]
        constructor
        · rintro (⟨z, hz, e, hs⟩ | h)
          · exact ⟨z, hz, e, by simp [hs]⟩
          · simp only [List.mem_singleton] at h; exact ⟨x, hx, h.symm, by simp⟩
        · rintro ⟨z, hz, e, hs⟩
          simp only [Array.mem_push] at hs
          rcases hs with hs | hs
          · exact .inl ⟨z, hz, e, hs⟩
          · right
            have := ent_born hm.wf hz hx hs
            subst this
            simp [e]
      · intro h
        rcases hg4 it h with h | h
        · exact hit2 h
        · omega
      · exact hg2.trans (by have := hf2.size; exact this) (fun k hk => (hg4 k hk).imp id fun h => by have := hf3.size; omega)
      · show pendH H4 r it < pendH H2 r it
        rw [pendH_eq SM hm2 hi2, pendH_eq SM hm4 hi4]
        exact pendB_push (List.mem_map.2 ⟨x, hx, rfl⟩) hns

theorem collectS_ok {seq : Value} {A F : List ByteArray → Prop} {Q : List Nat} {G : Heap → Prop} {H : Heap} {K : Option Addr → Nat → Nat → Heap → Prop} (hq : SeqOk Tryz.prog (fun s => .string s) seq A F Q G)
    (hA : ∀ ys, A ys → ys.length ≤ 1000000000000) (hG : ∀ H', Fr [] H H' → G H') (hQ : ∀ k ∈ Q, k < H.size)
    (hk : ∀ xs a n c H', F xs → Own GV.encStr 9 H.size H' a n c xs → Fr [] H H' → K a n c H') :
    CallH Tryz.prog 127 ⟨[seq]⟩ H fun v H' => ∃ a n c, v = .slice a n c ∧ K a n c H' := by
  apply vc_slices_Collect_string_
  apply vc_slices_AppendSeq___string_string_
  exact collect_loop (K := fun a n c H' => ∃ a' n' c', Value.slice a n c = .slice a' n' c' ∧ ∃ a'' n'' c'', Value.slice a' n' c' = .slice a'' n'' c'' ∧ K a'' n'' c'' H') (E := GV.encStr) (t := 9) (bytes := 16) slice41 elem9 (by kernel_rfl) (by kernel_rfl) (by kernel_rfl) (fun _ => rfl) hq (fun ys h => by have := hA ys h; omega) hG hQ fun xs a n c H' h1 h2 h3 => ⟨_, _, _, rfl, _, _, _, rfl, hk xs a n c H' h1 h2 h3⟩
theorem sortedS_ok {seq : Value} {A F : List ByteArray → Prop} {Q : List Nat} {G : Heap → Prop} {H : Heap} {K : Option Addr → Nat → Nat → Heap → Prop} (hq : SeqOk Tryz.prog (fun s => .string s) seq A F Q G)
    (hA : ∀ ys, A ys → ys.length ≤ 1000000000000) (hF : ∀ ys, F ys → ys.length ≤ 1000000000000) (hG : ∀ H', Fr [] H H' → G H') (hQ : ∀ k ∈ Q, k < H.size)
    (hk : ∀ xs ys a n c H', F xs → ys.map bl = (xs.map bl).mergeSort (fun x y => decide (x ≤ y)) → Own GV.encStr 9 H.size H' a n c ys → Fr [] H H' → K a n c H') :
    CallH Tryz.prog 104 ⟨[seq]⟩ H fun v H' => ∃ a n c, v = .slice a n c ∧ K a n c H' := by
  apply vc_slices_Sorted_string_
  refine collectS_ok hq hA hG hQ fun xs a n c H1 hx ho hf => ?_
  refine sortS_ok Tryz.sortS (k := 128) rfl ho (by have := hF xs hx; have := ho.1; omega) fun H2 ys ho2 he hf2 => ⟨a, n, c, rfl, ?_⟩
  exact hk xs ys a n c H2 hx he ho2 (hf.keep hf2 fun k hk => (ho.ge k hk).1)

def keysS (L : List (Ent ByteArray)) (ys : List ByteArray) : Prop := (ys.map bl).Pairwise (· < ·) ∧ ∀ y, y ∈ ys ↔ ∃ x ∈ L, x.1 = y
theorem keysA_len {L : List (Ent ByteArray)} {ys : List ByteArray} (h : keysA L ys) : ys.length ≤ L.length := by
  have : ∀ (l k : List (List UInt8)), l.Nodup → (∀ x ∈ l, x ∈ k) → l.length ≤ k.length := by
    intro l
    induction l with
    | nil => intro k _ _; exact Nat.zero_le _
    | cons a l ih =>
      intro k hn hs
      rw [List.nodup_cons] at hn
      have ha : a ∈ k := hs a (by simp)
      have := ih (k.erase a) hn.2 fun x hx => by
        rw [List.mem_erase_of_ne (fun e => hn.1 (by rw [← e]; exact hx))]
        exact hs x (by simp [hx])
      rw [List.length_erase_of_mem ha] at this
      have h0 : 0 < k.length := List.length_pos_of_mem ha
      simp only [List.length_cons]
      omega
  have := this (ys.map bl) (L.map (fun x => bl x.1)) (by
    rw [List.nodup_iff_pairwise_ne, List.pairwise_map]
    exact (List.nodup_iff_pairwise_ne.1 h.1).imp fun hne e => hne (bl_inj e)) fun x hx => by
      obtain ⟨y, hy, rfl⟩ := List.mem_map.1 hx
      obtain ⟨z, hz, e⟩ := h.2 y hy
      exact List.mem_map.2 ⟨z, hz, by rw [e]⟩
  simpa using this
theorem keys_sorted {L : List (Ent ByteArray)} {xs ys : List ByteArray} (h : keysF L xs) (he : ys.map bl = (xs.map bl).mergeSort (fun x y => decide (x ≤ y))) : keysS L ys := by
  have hp : (ys.map bl).Perm (xs.map bl) := by rw [he]; exact List.mergeSort_perm _ _
  have hnd : (ys.map bl).Nodup := hp.nodup_iff.2 (by
    rw [List.nodup_iff_pairwise_ne, List.pairwise_map]
    exact (List.nodup_iff_pairwise_ne.1 h.1).imp fun hne e => hne (bl_inj e))
  have hs : (ys.map bl).Pairwise (· ≤ ·) := by
    rw [he]
    have := List.pairwise_mergeSort (le := fun x y : List UInt8 => decide (x ≤ y)) (fun a b c h1 h2 => by simp only [decide_eq_true_eq] at *; exact List.le_trans h1 h2) (fun a b => by simp only [Bool.or_eq_true, decide_eq_true_eq]; exact List.le_total a b) (xs.map bl)
    exact this.imp fun h => by simpa using h
  refine ⟨?_, fun y => ?_⟩
  · have := hs.and (List.nodup_iff_pairwise_ne.1 hnd)
    exact this.imp fun h => by
      rcases List.le_iff_lt_or_eq.1 h.1 with h1 | h1
      · exact h1
      · exact absurd h1 h.2
  · rw [← h.2]
    have : bl y ∈ ys.map bl ↔ bl y ∈ xs.map bl := hp.mem_iff
    simp only [List.mem_map] at this
    exact ⟨fun hy => by obtain ⟨z, hz, e⟩ := this.1 ⟨y, hy, rfl⟩; rw [← bl_inj e]; exact hz, fun hy => by obtain ⟨z, hz, e⟩ := this.2 ⟨y, hy, rfl⟩; rw [← bl_inj e]; exact hz⟩
theorem mapNames_ok {r ck : Nat} {L : List (Ent ByteArray)} {H : Heap} {K : Option Addr → Nat → Nat → Heap → Prop} (hm : MapR SM H r ck L) (hL : L.length ≤ 1000000000000)
    (hk : ∀ ys a n c H', keysS L ys → Own GV.encStr 9 H.size H' a n c ys → Fr [] H H' → K a n c H') :
    CallH Tryz.prog 105 ⟨[.map (some r)]⟩ H fun v H' => ∃ v_1, v = v_1 ∧ CallH Tryz.prog 104 ⟨[v_1]⟩ H' fun v H' => ∃ a n c, v = .slice a n c ∧ K a n c H' := by
  apply vc_maps_Keys_map_string_string_string_string_
  intro b H1 hn
  refine ⟨_, rfl, ?_⟩
  have hs := hn.size
  have he := hn.eq
  refine sortedS_ok (keys_seq (b := b) (r := r) (ck := ck) (L := L)) (fun ys h => by have := keysA_len h; omega) (fun ys h => by have := keysA_len (L := L) ⟨h.1, fun y hy => (h.2 y).1 hy⟩; omega) (fun H' hf => ⟨hn.blk.keep hf, (hm.keep SM hn.fr).keep SM hf⟩) (fun k hk => ?_) fun xs ys a n c H2 hF hy ho hf => ?_
  · have := hm.lt
    simp at hk
    omega
  · exact hk ys a n c H2 (keys_sorted hF hy) (ho.base (by omega)) (hn.fr.keep0 hf)
end Go.Proofs
set_option linter.unusedVariables false
set_option maxRecDepth 100000
open Go Go.GV
namespace Go.Proofs

def SetI (H : Heap) (r : Nat) (T : Int → Prop) : Prop := ∃ ck L, MapR MT H r ck L ∧ ∀ k, (T k ∧ getL k L = some (.bool true)) ∨ (¬ T k ∧ getL k L = none)
theorem SetI.fr {H H' : Heap} {r : Nat} {T : Int → Prop} {S : List Nat} (h : SetI H r T) (hf : Fr S H H') (hn : r ∉ S) : SetI H' r T := by
  obtain ⟨ck, L, hm, hk⟩ := h
  exact ⟨ck, L, hm.fr MT hf hn, hk⟩
theorem SetI.lt {H : Heap} {r : Nat} {T : Int → Prop} (h : SetI H r T) : r < H.size := by
  obtain ⟨ck, L, hm, hk⟩ := h
  exact hm.lt
theorem SetI.iff {H : Heap} {r : Nat} {T T' : Int → Prop} (h : SetI H r T) (he : ∀ k, T k ↔ T' k) : SetI H r T' := by
  have : T = T' := funext fun k => propext (he k)
  subst this; exact h
theorem SetI.new {H H' : Heap} {r : Nat} (h : New H r (.map ⟨[]⟩ 0) H') : SetI H' r fun _ => False := ⟨0, [], MapR.new MT h, fun k => .inr ⟨id, rfl⟩⟩
theorem SetI.put {H : Heap} {r : Nat} {T : Int → Prop} {K : Heap → Prop} (h : SetI H r T) (x : Int) (hk : ∀ H', SetI H' r (fun k => T k ∨ k = x) → Fr [r] H H' → K H') :
    SemU Tryz.prog (Instr.mapUpdate 161 (.map (some r)) (.int .i64 x) (.bool true)) H K := by
  obtain ⟨ck, L, hm, hg⟩ := h
  refine put_map MT (mt := 161) (e := 4) Tryz.underlying161 hm x fun H' hm' hf => hk H' ⟨_, _, hm', fun k => ?_⟩ hf
  rw [getL_putL]
  by_cases e : k = x
  · exact .inl ⟨.inr e, by rw [if_pos e]⟩
  · rw [if_neg e]
    rcases hg k with ⟨h1, h2⟩ | ⟨h1, h2⟩
    · exact .inl ⟨.inl h1, h2⟩
    · exact .inr ⟨fun h => h.elim h1 e, h2⟩
theorem zero4 : zeroOf Tryz.prog 4 = some (.bool false) := by kernel_rfl
theorem SetI.look {H : Heap} {r : Nat} {T : Int → Prop} (h : SetI H r T) (x : Int) : ∃ b, Rd Tryz.prog (Instr.lookup 161 (.map (some r)) (.int .i64 x) false) H (.bool b) ∧ (b = true ↔ T x) := by
  obtain ⟨ck, L, hm, hg⟩ := h
  have hl := lookup_map MT (mt := 161) (e := 4) Tryz.underlying161 zero4 hm x
  rcases hg x with ⟨h1, h2⟩ | ⟨h1, h2⟩
  · rw [h2] at hl
    exact ⟨true, hl, ⟨fun _ => h1, fun _ => rfl⟩⟩
  · rw [h2] at hl
    exact ⟨false, hl, ⟨(fun h => by cases h), fun h => absurd h h1⟩⟩

def LastR (H : Heap) (r : Nat) (Q : List Nat) (last : ByteArray → Option (ByteArray × List Int)) : Prop :=
  ∃ ck L, MapR SM H r ck L ∧ (∀ x ∈ L, ∃ d a n c xs, x.2.1 = .agg ⟨[.string d, .slice a n c]⟩ ∧ Sl encInt H a n c xs ∧ (∀ k ∈ blkL a, k ∈ Q) ∧ last x.1 = some (d, xs)) ∧ ∀ k, getL k L = none → last k = none
theorem LastR.fr {H H' : Heap} {r : Nat} {Q T : List Nat} {last : ByteArray → Option (ByteArray × List Int)} (h : LastR H r Q last) (hf : Fr T H H') (hr : r ∉ T) (hd : Dj Q T) : LastR H' r Q last := by
  obtain ⟨ck, L, hm, he, hn⟩ := h
  refine ⟨ck, L, hm.fr SM hf hr, fun x hx => ?_, hn⟩
  obtain ⟨d, a, n, c, xs, e, hs, hq, hl⟩ := he x hx
  exact ⟨d, a, n, c, xs, e, hs.fr hf (fun ad e => hd _ (hq _ (by simp [e, blkL]))), hq, hl⟩
theorem LastR.keep {H H' : Heap} {r : Nat} {Q : List Nat} {last : ByteArray → Option (ByteArray × List Int)} (h : LastR H r Q last) (hf : Fr [] H H') : LastR H' r Q last := h.fr hf (by simp) (fun _ _ => by simp)
theorem LastR.lt {H : Heap} {r : Nat} {Q : List Nat} {last : ByteArray → Option (ByteArray × List Int)} (h : LastR H r Q last) : r < H.size := by
  obtain ⟨ck, L, hm, _⟩ := h
  exact hm.lt

def NowR (H : Heap) (r : Nat) (now : ByteArray → Option ByteArray) (N : Nat) : Prop :=
  ∃ ck L, MapR SM H r ck L ∧ L.length ≤ N ∧ ∀ k, getL k L = (now k).map Value.string
theorem NowR.fr {H H' : Heap} {r : Nat} {T : List Nat} {now : ByteArray → Option ByteArray} {N : Nat} (h : NowR H r now N) (hf : Fr T H H') (hr : r ∉ T) : NowR H' r now N := by
  obtain ⟨ck, L, hm, he, hn⟩ := h
  exact ⟨ck, L, hm.fr SM hf hr, he, hn⟩
theorem NowR.lt {H : Heap} {r : Nat} {now : ByteArray → Option ByteArray} {N : Nat} (h : NowR H r now N) : r < H.size := by
  obtain ⟨ck, L, hm, _⟩ := h
  exact hm.lt

def lastS (last : ByteArray → Option (ByteArray × List Int)) (dir : List Int) (k : Int) : Prop := k ∈ dir ∨ ∃ nm d xs, last nm = some (d, xs) ∧ k ∈ xs

theorem lasting_ok {s : Addr} {cs : List Value} {rl : Nat} {Q : List Nat} {last : ByteArray → Option (ByteArray × List Int)} {a : Option Addr} {n c : Nat} {dir : List Int} {H : Heap} {K : Nat → Heap → Prop} (hs : Blk H s cs)
    (h2 : cs[2]? = some (.map (some rl))) (h3 : cs[3]? = some (.slice a n c)) (hl : LastR H rl Q last) (hd : Sl encInt H a n c dir) (hn : n ≤ 1000000000)
    (hq : ∀ nm d xs, last nm = some (d, xs) → xs.length ≤ 1000000000)
    (hk : ∀ r H', SetI H' r (lastS last dir) → H.size ≤ r → Fr [] H H' → K r H') :
    CallH Tryz.prog fn_files_Store_lasting ⟨[.pointer (some s)]⟩ H fun v H' => ∃ r, v = .map r ∧ ∃ r', r = some r' ∧ K r' H' := by
  apply vc_files_Store_lasting
  intro b H1 hn1
  have hb := hn1.eq
  have hs1 := hn1.size
  refine ⟨a, n, c, (hs.keep hn1.fr).ld (by kernel_rfl) h3, fun vs H2 => match vs with | [.int _ i] => ∃ j : Nat, i = j ∧ j ≤ n ∧ SetI H2 b (fun k => k ∈ dir.take j) ∧ Fr [] H H2 | _ => False,
    fun vs _ => match vs with | [.int _ i] => n - i.toNat | _ => 0, ⟨0, rfl, by omega, (SetI.new hn1).iff (by simp), hn1.fr⟩, ?_⟩
  rintro J i H2 ⟨j, rfl, hj, hset, hf2⟩
  have hlen := hd.len
  refine brB_of (fun h0 => ?_) (fun h0 => ?_)
  · have h0' : j < n := by simpa using h0
    have hx : dir[j]? = some (dir[j]'(by omega)) := by simp
    generalize dir[j]'(by omega) = x at hx
    refine (hd.keep hf2).get rfl hx (by simp; omega) fun ad e hc => ?_
    refine ⟨x, ld_one (by kernel_rfl) hc, hset.put x fun H3 h3 hf3 => ⟨⟨j + 1, succ64 (by omega), by omega, h3.iff fun k => ?_, hf2.keep hf3 (by simp; omega)⟩, ?_⟩⟩
    · rw [List.take_add_one, hx]
      simp
    · show n - (IntKind.i64.wrap ((j : Int) + 1)).toNat < n - ((j : Nat) : Int).toNat
      rw [succ64 (by omega)]
      exact mu_lt h0'
  · have hjn : j = n := by simp at h0; omega
    subst hjn
    have hset : SetI H2 b (fun k => k ∈ dir) := hset.iff fun k => by rw [List.take_of_length_le (by omega)]
    obtain ⟨ck, L, hm0, hents, hnone⟩ := hl
    have hm := hm0.keep SM hf2
    have hlt0 := hm0.lt
    refine ⟨some rl, (hs.keep hf2).ld (by kernel_rfl) h2, range_map SM (mt := 79) (e := 122) Tryz.underlying79 hm fun it H3 hn3 => ?_⟩
    have hit := hn3.eq
    have hs3 := hn3.size
    have hb2 := hset.lt
    have hitb : it ≠ b := by omega
    have hf3 : Fr [] H H3 := hf2.keep0 hn3.fr
    refine ⟨fun _ H4 => ∃ (seen : Array Nat), SetI H4 b (fun k => k ∈ dir ∨ ∃ x ∈ L, x.2.2 ∈ seen ∧ ∃ d xs, last x.1 = some (d, xs) ∧ k ∈ xs) ∧ H4[it]? = some (.mapIter (some rl) ck seen ck) ∧ Fr [] H H4,
      fun _ H4 => pendH H4 rl it, ⟨#[], (hset.fr hn3.fr (by simp)).iff (by simp), hn3.get, hf3⟩, ?_⟩
    rintro J2 H4 ⟨seen, hset4, hi4, hf4⟩
    have hm4 : MapR SM H4 rl ck L := hm0.keep SM hf4
    refine next_map SM hm4 hi4 (fun hall => ⟨_, rfl, _, rfl, ?_⟩) fun x hx hns H5 hi5 hf5 => ?_
    · refine hk b H4 (hset4.iff fun k => ?_) (by omega) hf4
      unfold lastS
      constructor
      · rintro (h | ⟨x, hx, _, d, xs, h1, h2⟩)
        · exact .inl h
        · exact .inr ⟨x.1, d, xs, h1, h2⟩
      · rintro (h | ⟨nm, d, xs, h1, h2⟩)
        · exact .inl h
        · refine .inr ?_
          cases hg : getL nm L with
          | none => rw [hnone nm hg] at h1; cases h1
          | some v =>
            obtain ⟨b', hb'⟩ := mem_getL hg
            exact ⟨_, hb', hall _ hb', d, xs, h1, h2⟩
    · obtain ⟨d, a2, n2, c2, xs, e, hsl, _, hlast⟩ := hents x hx
      have hm5 : MapR SM H5 rl ck L := hm4.fr SM hf5 (by simp; exact fun e => by have := hm.lt; omega)
      refine entry_map SM hm5 hi5 hx rfl ⟨d, a2, n2, c2, e, ?_⟩
      have hf05 : Fr [] H H5 := hf4.keep hf5 (by simp; omega)
      have hset5 := hset4.fr hf5 (by simp; exact fun e => hitb e.symm)
      refine var_blk (by kernel_rfl) (by kernel_rfl) (fun x hx => by simp [Value.cells] at hx; rcases hx with rfl | rfl <;> rfl) (by rfl) fun b1 H6 hb1 hbk hf6 => ?_
      have hf06 := hf05.keep0 hf6
      have hset6 := hset5.fr hf6 (by simp)
      have hn2 := hsl.len
      have hx2 := hq _ _ _ hlast
      have hi6 : H6[it]? = some (.mapIter (some rl) ck (seen.push x.2.2) ck) := hf6.get0 hi5
      refine ⟨a2, n2, c2, hbk.ldK (j := 1) (by kernel_rfl) rfl, fun vs H7 => match vs with | [.int _ i] => ∃ j : Nat, i = j ∧ j ≤ n2 ∧ SetI H7 b (fun k => (k ∈ dir ∨ ∃ x ∈ L, x.2.2 ∈ seen ∧ ∃ d xs, last x.1 = some (d, xs) ∧ k ∈ xs) ∨ k ∈ xs.take j) ∧ Fr [b] H6 H7 | _ => False,
        fun vs _ => match vs with | [.int _ i] => n2 - i.toNat | _ => 0, ⟨0, rfl, by omega, hset6.iff (by simp), Fr.refl _ _⟩, ?_⟩
      rintro J3 i7 H7 ⟨j, rfl, hj, hset7, hf7⟩
      have hf07 : Fr [] H H7 := hf06.keep hf7 (by simp; omega)
      refine brB_of (fun h0 => ?_) (fun h0 => ?_)
      · have h0' : j < n2 := by simpa using h0
        have hx3 : xs[j]? = some (xs[j]'(by omega)) := by simp
        generalize xs[j]'(by omega) = y at hx3
        have hsl7 : Sl encInt H7 a2 n2 c2 xs := by
          exact hsl.keep hf07
        refine hsl7.get rfl hx3 (by simp; omega) fun ad e hc => ?_
        refine ⟨y, ld_one (by kernel_rfl) hc, hset7.put y fun H8 h8 hf8 => ⟨⟨j + 1, succ64 (by omega), by omega, h8.iff fun k => ?_, hf7.trans' hf8 (fun k hk _ => hk) (fun k hk _ => hk)⟩, ?_⟩⟩
        · rw [List.take_add_one, hx3]
          simp [or_assoc]
        · show n2 - (IntKind.i64.wrap ((j : Int) + 1)).toNat < n2 - ((j : Nat) : Int).toNat
          rw [succ64 (by omega)]
          exact mu_lt h0'
      · have hjn : j = n2 := by simp at h0; omega
        subst hjn
        have hi7 : H7[it]? = some (.mapIter (some rl) ck (seen.push x.2.2) ck) := hf7.get hi6 (by simp; exact hitb)
        have hm7 : MapR SM H7 rl ck L := (hm5.keep SM hf6).fr SM hf7 (by simp; exact fun e => by omega)
        refine ⟨⟨seen.push x.2.2, hset7.iff fun k => ?_, hi7, hf07⟩, ?_⟩
        · rw [List.take_of_length_le (by omega)]
          constructor
          · rintro ((h | ⟨z, hz, h1, h2⟩) | h)
            · exact .inl h
            · exact .inr ⟨z, hz, by simp [h1], h2⟩
            · exact .inr ⟨x, hx, by simp, d, xs, hlast, h⟩
          · rintro (h | ⟨z, hz, h1, d', xs', h2, h3⟩)
            · exact .inl (.inl h)
            · simp only [Array.mem_push] at h1
              rcases h1 with h1 | h1
              · exact .inl (.inr ⟨z, hz, h1, d', xs', h2, h3⟩)
              · have := ent_born hm.wf hz hx h1
                subst this
                rw [hlast] at h2
                cases h2
                exact .inr h3
        · show pendH H7 rl it < pendH H4 rl it
          rw [pendH_eq SM hm4 hi4, pendH_eq SM hm7 hi7]
          exact pendB_push (List.mem_map.2 ⟨x, hx, rfl⟩) hns
end Go.Proofs
set_option linter.unusedVariables false
set_option maxRecDepth 100000
open Go Go.GV
namespace Go.Proofs

open Classical in
noncomputable def freeN (T : Int → Prop) (n : Nat) : List Int := ((List.range n).filter fun k : Nat => decide (2 ≤ k ∧ ¬ T (k : Int))).map fun k : Nat => (k : Int)
theorem freeN_succ (T : Int → Prop) (n : Nat) : freeN T (n + 1) = freeN T n ++ (open Classical in if 2 ≤ n ∧ ¬ T (n : Int) then [(n : Int)] else []) := by
  unfold freeN
  rw [List.range_succ, List.filter_append, List.map_append]
  congr 1
  by_cases h : 2 ≤ n ∧ ¬ T (n : Int)
  · simp [h]
  · simp [h]
theorem freeN_pre (T : Int → Prop) {n m : Nat} (h : n ≤ m) : freeN T n <+: freeN T m := by
  obtain ⟨k, rfl⟩ := Nat.exists_eq_add_of_le h
  clear h
  induction k with
  | zero => exact List.prefix_refl _
  | succ k ih => rw [← Nat.add_assoc, freeN_succ]; exact ih.trans (List.prefix_append _ _)
theorem freeN_two (T : Int → Prop) : freeN T 2 = [] := by
  rw [freeN_succ, freeN_succ]
  simp [freeN]
theorem freeN_len (T : Int → Prop) (n : Nat) : (freeN T n).length ≤ n := by
  unfold freeN
  rw [List.length_map]
  have := List.length_filter_le (fun k : Nat => (open Classical in decide (2 ≤ k ∧ ¬ T (k : Int)))) (List.range n)
  rw [List.length_range] at this
  exact this
theorem free_seq {b b1 rt : Nat} {s d : Addr} {cs : List Value} {T : Int → Prop} {Sd : List Nat} {m : Dk} {N sz : Nat} (hc : cs[0]? = some (.pointer (some d))) (hsz : m.size = sz) (hsz2 : sz ≤ 512) (h2 : 8 ≤ sz) :
    SeqOk Tryz.prog (fun n => .int .i64 n) (.func (.func 126) ⟨[]⟩ ⟨[.pointer (some ⟨b, 0, none⟩), .pointer (some ⟨b1, 0, none⟩)]⟩) (fun ys => ys <+: freeN T sz) (fun ys => ys = freeN T sz) (b :: b1 :: rt :: s.block :: Sd)
    (fun H => Blk H ⟨b, 0, none⟩ [.pointer (some s)] ∧ Blk H ⟨b1, 0, none⟩ [.map (some rt)] ∧ SetI H rt T ∧ Blk H s cs ∧ DRep H d Sd m N) := by
  intro l H I K S hG hin hd h0 stab step fin
  obtain ⟨hb, hb1, hset, hs, hdk⟩ := hG
  refine ⟨126, ⟨[]⟩, _, rfl, by kernel_rfl, ?_⟩
  apply vc_files_Store_free_1
  refine ⟨fun vs H2 => match vs with | [.int _ i] => ∃ (j : Nat) (S2 : List Nat), i = j ∧ 2 ≤ j ∧ j ≤ sz ∧ I (freeN T j) S2 H2 ∧ Fr S H H2 ∧ Grow H S S2 ∧ In H2 S2 | _ => False,
    fun vs _ => match vs with | [.int _ i] => sz - i.toNat | _ => 0, ⟨2, S, rfl, by omega, by omega, by rw [freeN_two]; exact h0, Fr.refl _ _, Grow.refl _ _, hin⟩, ?_⟩
  rintro J i H2 ⟨j, S2, rfl, hj2, hj, hI, hf, hg, hin2⟩
  have m1 : ∀ k ∈ (b :: b1 :: rt :: s.block :: Sd), k ∉ S := fun k hk hkS => hd k hkS hk
  have hb2 := hb.fr hf (m1 b (by simp))
  have hb12 := hb1.fr hf (m1 b1 (by simp))
  have hset2 := hset.fr hf (m1 rt (by simp))
  have hs2 := hs.fr hf (m1 _ (by simp))
  have hdk2 := hdk.fr hf fun k hk => m1 k (by simp [hk])
  have hmu : sz - (IntKind.i64.wrap ((j : Int) + 1)).toNat < sz - ((j : Nat) : Int).toNat ↔ j < sz := by
    rw [succ64 (by omega)]; omega
  refine ⟨_, hb2.ld0 (by kernel_rfl) rfl, _, hs2.ld0 (by kernel_rfl) hc, Size_ok hdk2 ?_⟩
  show brB (decide ((j : Int) < m.size)) _ _
  refine brB_of (fun hlt => ?_) (fun hge => ?_)
  · have hlt : j < sz := by rw [hsz] at hlt; simpa using hlt
    obtain ⟨bb, hlk, hT⟩ := hset2.look (j : Int)
    refine ⟨_, hb12.ld0 (by kernel_rfl) rfl, bb, hlk, brB_of (fun h3 => ?_) (fun h3 => ?_)⟩
    · have hnT : ¬ T (j : Int) := fun h => by rw [hT.2 h] at h3; cases h3
      have hnext : freeN T (j + 1) = freeN T j ++ [(j : Int)] := by rw [freeN_succ, if_pos ⟨hj2, hnT⟩]
      refine .inr ⟨l, rfl, (step (freeN T j) (j : Int) S2 H2 (by rw [← hnext]; exact freeN_pre T hlt) hin2 hI).mono fun v H3 => ?_⟩
      rintro ⟨rfl, S3, hI3, hf3, hg3, hin3⟩
      refine ⟨true, rfl, brB_of (fun h => by simp at h) fun _ => ⟨⟨j + 1, S3, succ64 (by omega), by omega, by omega, by rw [hnext]; exact hI3, ?_, ?_, hin3⟩, hmu.2 hlt⟩⟩
      · exact hf.trans' hf3 (fun k hk _ => hk) (fun k hk hl => (hg k hk).elim id fun h => by omega)
      · exact hg.trans hf.size hg3
    · have hTj : T (j : Int) := by
        cases bb with
        | true => exact hT.1 rfl
        | false => cases h3
      have hnext : freeN T (j + 1) = freeN T j := by rw [freeN_succ, if_neg (fun h => h.2 hTj), List.append_nil]
      exact ⟨⟨j + 1, S2, succ64 (by omega), by omega, by omega, by rw [hnext]; exact hI, hf, hg, hin2⟩, hmu.2 hlt⟩
  · have hge : j = sz := by rw [hsz] at hge; simp at hge; omega
    subst hge
    exact ⟨rfl, fin _ S2 H2 rfl hI hin2 hf hg⟩

theorem collectI_ok {seq : Value} {A F : List Int → Prop} {Q : List Nat} {G : Heap → Prop} {H : Heap} {K : Option Addr → Nat → Nat → Heap → Prop} (hq : SeqOk Tryz.prog (fun n => .int .i64 n) seq A F Q G)
    (hA : ∀ ys, A ys → ys.length ≤ 1000000000000) (hG : ∀ H', Fr [] H H' → G H') (hQ : ∀ k ∈ Q, k < H.size)
    (hk : ∀ xs a n c H', F xs → Own encInt 3 H.size H' a n c xs → Fr [] H H' → K a n c H') :
    CallH Tryz.prog 101 ⟨[seq]⟩ H fun v H' => ∃ a n c, v = .slice a n c ∧ K a n c H' := by
  apply vc_slices_Collect_int_
  apply vc_slices_AppendSeq___int_int_
  exact collect_loop (K := fun a n c H' => ∃ a' n' c', Value.slice a n c = .slice a' n' c' ∧ ∃ a'' n'' c'', Value.slice a' n' c' = .slice a'' n'' c'' ∧ K a'' n'' c'' H') (E := encInt) (t := 3) (bytes := 8) slice53 elem3 (by kernel_rfl) (by kernel_rfl) (by kernel_rfl) (fun _ => rfl) hq (fun ys h => by have := hA ys h; omega) hG hQ fun xs a n c H' h1 h2 h3 => ⟨_, _, _, rfl, _, _, _, rfl, hk xs a n c H' h1 h2 h3⟩

theorem freeList_ok {s d : Addr} {cs : List Value} {rl : Nat} {Q Sd : List Nat} {m : Dk} {N : Nat} {last : ByteArray → Option (ByteArray × List Int)} {a : Option Addr} {n c : Nat} {dir : List Int} {H : Heap} {K : Option Addr → Nat → Nat → Heap → Prop} (hs : Blk H s cs)
    (h0 : cs[0]? = some (.pointer (some d))) (h2 : cs[2]? = some (.map (some rl))) (h3 : cs[3]? = some (.slice a n c)) (hdk : DRep H d Sd m N) (hl : LastR H rl Q last) (hd : Sl encInt H a n c dir) (hn : n ≤ 1000000000)
    (hq : ∀ nm d xs, last nm = some (d, xs) → xs.length ≤ 1000000000)
    (hk : ∀ a n c H', Own encInt 3 H.size H' a n c (freeN (lastS last dir) m.size.toNat) → Fr [] H H' → K a n c H') :
    CallH Tryz.prog 102 ⟨[.pointer (some s)]⟩ H fun v H' => ∃ v_1, v = v_1 ∧ CallH Tryz.prog 101 ⟨[v_1]⟩ H' fun v H' => ∃ a n c, v = .slice a n c ∧ K a n c H' := by
  apply vc_files_Store_free
  intro b H1 hn1
  have hb := hn1.eq
  have hs1 := hn1.size
  have f1 := hn1.fr
  refine ⟨_, hn1.blk.ld0 (by kernel_rfl) rfl, ?_⟩
  have := lasting_ok (K := fun r H' => ∀ (b_1 : Nat) (H'_1 : Heap), New H' b_1 (.cells ⟨[.map none]⟩ 161) H'_1 → ∃ H'', St Tryz.prog 161 H'_1 ⟨b_1, 0, none⟩ (.map (some r)) H'' ∧ ∃ v_1, Value.func (.func 126) ⟨[]⟩ ⟨[.pointer (some ⟨b, 0, none⟩), .pointer (some ⟨b_1, 0, none⟩)]⟩ = v_1 ∧ CallH Tryz.prog 101 ⟨[v_1]⟩ H'' fun v H' => ∃ a n c, v = .slice a n c ∧ K a n c H')
    (hs.keep f1) h2 h3 (hl.keep f1) (hd.keep f1) hn hq fun r H2 hset hr f2 => ?_
  · refine CallH.mono this fun v H' => ?_
    rintro ⟨r, rfl, r', rfl, h⟩
    exact ⟨_, rfl, h⟩
  · refine var_blk (by kernel_rfl) (by kernel_rfl) (fun x hx => by simp [Value.cells] at hx; subst hx; rfl) (by rfl) fun b1 H3 hb1 hbk f3 => ⟨_, rfl, ?_⟩
    have f2' := f1.keep0 f2
    have f3' := f2'.keep0 f3
    have hsz : 8 ≤ m.size ∧ m.size ≤ 512 := by
      obtain ⟨r0, ck0, L0, hdl⟩ := hdk.it
      exact hdl.size
    have hin : In H Sd := hdk.inS
    refine collectI_ok (free_seq (b := b) (b1 := b1) (rt := r) (s := s) (d := d) (cs := cs) (T := lastS last dir) (Sd := Sd) (m := m) (N := N) (sz := m.size.toNat) h0 (by omega) (by omega) (by omega)) (fun ys h => ?_) (fun H' hf => ?_) (fun k hk' => ?_) fun xs a n c H4 hF ho hf => ?_
    · have := h.length_le
      have := freeN_len (lastS last dir) m.size.toNat
      omega
    · exact ⟨((hn1.blk.keep f2).keep f3).keep hf, hbk.keep hf, (hset.fr f3 (by simp)).fr hf (by simp), (hs.keep f3').keep hf, (hdk.keep f3').keep hf⟩
    · simp only [List.mem_cons] at hk'
      have s2 := f2.size
      have s3 := f3.size
      have sb1 := hbk.lt
      have sr := hset.lt
      have ss := hs.lt
      rcases hk' with rfl | rfl | rfl | rfl | h
      · omega
      · exact sb1
      · omega
      · omega
      · have := hin k h; omega
    · subst hF
      exact hk a n c H4 (ho.base (by have := f3'.size; omega)) (f3'.keep0 hf)
end Go.Proofs
set_option linter.unusedVariables false
set_option maxRecDepth 100000
open Go Go.GV
namespace Go.Proofs

def nCh (n : Nat) : Nat := (n + 63) / 64
def piece (a : Option Addr) (n i : Nat) : Option Addr × Nat × Nat := (slA (min (64 * i + 64) n) (64 * i) 1 a, min (64 * i + 64) n - 64 * i, min (64 * i + 64) n - 64 * i)
def pieces (a : Option Addr) (n : Nat) : List (Option Addr × Nat × Nat) := (List.range (nCh n)).map (piece a n)
def encP (x : Option Addr × Nat × Nat) : Value := .slice x.1 x.2.1 x.2.2
def chunkB (l : List UInt8) : List (List UInt8) := (List.range (nCh l.length)).map fun i => (l.take (min (64 * i + 64) l.length)).drop (64 * i)
def chunksS (s : ByteArray) : List ByteArray := (chunkB (bl s)).map fun l => ⟨l.toArray⟩
theorem pieces_len (a : Option Addr) (n : Nat) : (pieces a n).length = nCh n := by simp [pieces]
theorem chunksS_len (s : ByteArray) : (chunksS s).length = nCh s.size := by simp [chunksS, chunkB, bl_len]
theorem take_succ_range {α : Type} (f : Nat → α) {k n : Nat} (h : k < n) : ((List.range n).map f).take (k + 1) = ((List.range n).map f).take k ++ [f k] := by
  rw [List.take_add_one]
  simp [h]

theorem chunk_seq {b b1 : Nat} {a : Option Addr} {n c : Nat} (hn : n ≤ 1000000000000) (hc : n ≤ c) :
    SeqOk Tryz.prog encP (.func (.func 145) ⟨[]⟩ ⟨[.pointer (some ⟨b, 0, none⟩), .pointer (some ⟨b1, 0, none⟩)]⟩) (fun ys => ys <+: pieces a n) (fun ys => ys = pieces a n) [b, b1]
    (fun H => Blk H ⟨b, 0, none⟩ [.slice a n c] ∧ Blk H ⟨b1, 0, none⟩ [.int .i64 64]) := by
  intro l H I K S hG hin hd h0 stab step fin
  obtain ⟨hb, hb1⟩ := hG
  refine ⟨145, ⟨[]⟩, _, rfl, by kernel_rfl, ?_⟩
  apply vc_slices_Chunk___byte_byte__1
  refine ⟨fun vs H2 => match vs with | [.int _ i] => ∃ (j : Nat) (S2 : List Nat), i = ((64 * j : Nat) : Int) ∧ j ≤ nCh n ∧ I ((pieces a n).take j) S2 H2 ∧ Fr S H H2 ∧ Grow H S S2 ∧ In H2 S2 | _ => False,
    fun vs _ => match vs with | [.int _ i] => n + 64 - i.toNat | _ => 0, ⟨0, S, rfl, by omega, by simpa using h0, Fr.refl _ _, Grow.refl _ _, hin⟩, ?_⟩
  rintro J i H2 ⟨j, S2, rfl, hj, hI, hf, hg, hin2⟩
  have m1 : ∀ k ∈ [b, b1], k ∉ S := fun k hk hkS => hd k hkS hk
  have hb2 := hb.fr hf (m1 b (by simp))
  have hb12 := hb1.fr hf (m1 b1 (by simp))
  have hch : nCh n = (n + 63) / 64 := rfl
  refine ⟨a, n, c, hb2.ld0 (by kernel_rfl) rfl, brB_of (fun h => ?_) (fun h => ?_)⟩
  · have hlt : 64 * j < n := by
      have h1 : ((64 * j : Nat) : Int) < (n : Int) := by simpa using h
      omega
    have hj' : j < nCh n := by omega
    refine ⟨64, hb12.ld0 (by kernel_rfl) rfl, a, n, c, hb2.ld0 (by kernel_rfl) rfl, chk_true (decide_eq_true (by omega)) ⟨a, n, c, hb2.ld0 (by kernel_rfl) rfl, ?_⟩⟩
    have e0 : (((64 * j : Nat) : Int) + if (((n : Int).toNat - ((64 * j : Nat) : Int).toNat : Nat) : Int) < 64 then (((n : Int).toNat - ((64 * j : Nat) : Int).toNat : Nat) : Int) else 64) = ((min (64 * j + 64) n : Nat) : Int) := by
      split <;> omega
    have e1 : IntKind.i64.wrap (((64 * j : Nat) : Int) + if (((n : Int).toNat - ((64 * j : Nat) : Int).toNat : Nat) : Int) < 64 then (((n : Int).toNat - ((64 * j : Nat) : Int).toNat : Nat) : Int) else 64) = ((min (64 * j + 64) n : Nat) : Int) := by
      rw [e0, wrap64_of (by omega) (by omega)]
    rw [e1]
    refine chk_true (decide_eq_true (by omega)) ?_
    have hnext : (pieces a n).take (j + 1) = (pieces a n).take j ++ [piece a n j] := take_succ_range _ hj'
    refine .inr ⟨l, rfl, (step ((pieces a n).take j) (piece a n j) S2 H2 (by rw [← hnext]; exact List.take_prefix _ _) hin2 hI).mono fun v H3 => ?_⟩
    rintro ⟨rfl, S3, hI3, hf3, hg3, hin3⟩
    have hf' : Fr S H H3 := hf.trans' hf3 (fun k hk _ => hk) (fun k hk hl => (hg k hk).elim id fun h => by omega)
    refine ⟨true, rfl, brB_of (fun h => by simp at h) fun _ => ⟨64, (hb1.fr hf' (m1 b1 (by simp))).ld0 (by kernel_rfl) rfl, ⟨j + 1, S3, ?_, by omega, by rw [hnext]; exact hI3, hf', hg.trans hf.size hg3, hin3⟩, ?_⟩⟩
    · rw [wrap64_of (by omega) (by omega)]; omega
    · show n + 64 - (IntKind.i64.wrap (((64 * j : Nat) : Int) + 64)).toNat < n + 64 - (((64 * j : Nat) : Int)).toNat
      rw [wrap64_of (by omega) (by omega)]; omega
  · have hge : n ≤ 64 * j := by
      have h1 : ¬ ((64 * j : Nat) : Int) < (n : Int) := by simpa using h
      omega
    have hjj : j = nCh n := by omega
    subst hjj
    refine ⟨rfl, fin _ S2 H2 ?_ hI hin2 hf hg⟩
    rw [List.take_of_length_le (by rw [pieces_len]; exact Nat.le_refl _)]

theorem chunks_ok {s : ByteArray} {H : Heap} {K : Option Addr → Nat → Nat → Heap → Prop} (hs : s.size ≤ 1000000000)
    (hk : ∀ a n c H', Own GV.encStr 9 H.size H' a n c (chunksS s) → Fr [] H H' → K a n c H') :
    CallH Tryz.prog fn_files_chunks ⟨[.string s]⟩ H fun v H' => ∃ a n c, v = .slice a n c ∧ K a n c H' := by
  apply vc_files_chunks
  intro b H1 hn1
  have hb := hn1.eq
  have hs1 := hn1.size
  refine cv_sb bT.str bT.sl (by kernel_rfl) fun q qc H2 hq hsl f2 => ?_
  apply vc_slices_Chunk___byte_byte_
  intro b2 H3 hn3 b3 H4 hn4
  have hs3 := hn3.size
  have hs4 := hn4.size
  have e3 := hn3.eq
  have e4 := hn4.eq
  have s2 := f2.size
  have f13 : Fr [] H1 H3 := f2.keep0 hn3.fr
  have f14 : Fr [] H1 H4 := f13.keep0 hn4.fr
  refine ⟨64, hn4.blk.ld0 (by kernel_rfl) rfl, brB_of (fun h => by simp at h) fun _ => ⟨_, rfl, fun D l R0 H5 hnl hY => ?_⟩⟩
  have hblk := hn1.blk.keep f14
  obtain ⟨hI0, hin0⟩ := ColI.start (E := GV.encStr) (t := 9) (hn1.fr.keep0 f14) hblk (by omega) hnl
  obtain ⟨f45, _, _, eD, el, s5⟩ := hnl.out
  have hcap := hsl.cap
  have s45 := f45.size
  have hql : 0 < s.size → q < H2.size := fun h => by
    obtain ⟨b', off, e, hlt⟩ := hsl.arr.lt (by intro e; have := bl_len s; rw [e] at this; simp at this; omega)
    cases e
    exact hlt
  have hcs : chunksS s = (List.range (nCh s.size)).map fun i => (⟨((bl s).take (min (64 * i + 64) s.size) |>.drop (64 * i)).toArray⟩ : ByteArray) := by
    unfold chunksS chunkB
    rw [List.map_map, bl_len]
    rfl
  refine CallV.mono ((chunk_seq (b := b2) (b1 := b3) (a := some ⟨q, 0, none⟩) (n := s.size) (c := qc) (by omega) hcap) l H5
    (fun ys S Hx => ColI GV.encStr 9 H.size l D b R0 H ((chunksS s).take ys.length) S Hx ∧ (0 < s.size → Sl encByte Hx (some ⟨q, 0, none⟩) s.size qc (bl s) ∧ q ∉ S))
    (fun H4 => _) [b, l, D] ⟨(hn3.blk.keep hn4.fr).keep f45, hn4.blk.keep f45⟩ hin0 ?_ ⟨hI0, fun h0 => ⟨(hsl.keep (hn3.fr.keep0 hn4.fr)).keep f45, ?_⟩⟩ ?_ ?_ ?_) fun v H' h => h.2
  · intro k hk hkq
    simp only [List.mem_cons, List.mem_nil_iff, or_false] at hk hkq
    omega
  · have := hql h0
    intro h
    simp only [List.mem_cons, List.mem_nil_iff, or_false] at h
    omega
  · rintro ys S Ha Hb T ⟨hI, hx⟩ hf hd hT
    refine ⟨hI.stay hf hd fun k hk => by have := hT k hk; have := hn1.fr.size; omega, fun h0 => ⟨(hx h0).1.fr hf fun ad e hh => ?_, (hx h0).2⟩⟩
    cases e
    have h1 : H5.size ≤ q := hT _ hh
    have h2 := hql h0
    omega
  · rintro ys x S Hx hA hin ⟨hI, hx⟩
    have hj : ys.length < nCh s.size := by
      have := hA.length_le
      rw [pieces_len] at this
      simp at this
      omega
    have hch : nCh s.size = (s.size + 63) / 64 := rfl
    have h0 : 0 < s.size := by omega
    have hxe : x = piece (some ⟨q, 0, none⟩) s.size ys.length := by
      obtain ⟨zs, hz⟩ := hA
      have h1 : (pieces (some ⟨q, 0, none⟩) s.size)[ys.length]? = some x := by rw [← hz]; simp
      unfold pieces at h1
      simp [hj] at h1
      exact h1.symm
    subst hxe
    obtain ⟨hsx, hqS⟩ := hx h0
    obtain ⟨a2, n2, c2, hbk, ho, hS, m1, m2, m3⟩ := hI.it
    have hlq : q ≠ l := fun e => hqS (by simp [hS, e])
    refine hY _ _ _ Hx _ hI.lp ⟨hI.lp, a2, n2, c2, (hbk.fr (setLp_fr Hx l R0 .busy none) (by simp [hI.bl])).ld0 (by kernel_rfl) rfl, ?_⟩
    have hlen := bl_len s
    have hcut := (hsx.fr (setLp_fr Hx l R0 .busy none) (fun ad e hh => by cases e; simp at hh; exact hlq hh)).cut (k := 64 * ys.length) (m := min (64 * ys.length + 64) s.size) (by omega) (by omega)
    have hslA : slA qc (64 * ys.length) 1 (some ⟨q, 0, none⟩) = slA (min (64 * ys.length + 64) s.size) (64 * ys.length) 1 (some ⟨q, 0, none⟩) := by
      rw [slA_eq, slA_eq, if_neg (by omega), if_neg (by omega)]
    have hsl2 : Sl encByte (setLp Hx l R0 .busy none) (piece (some ⟨q, 0, none⟩) s.size ys.length).1 (piece (some ⟨q, 0, none⟩) s.size ys.length).2.1 (piece (some ⟨q, 0, none⟩) s.size ys.length).2.2 (((bl s).take (min (64 * ys.length + 64) s.size)).drop (64 * ys.length)) := by
      refine ⟨hcut.len, Nat.le_refl _, ?_⟩
      have h1 := hcut.arr
      rw [show encByte.sz = 1 from rfl, hslA] at h1
      exact h1
    have hnext : (chunksS s).take (ys.length + 1) = (chunksS s).take ys.length ++ [⟨(((bl s).take (min (64 * ys.length + 64) s.size)).drop (64 * ys.length)).toArray⟩] := by
      rw [hcs]; exact take_succ_range _ hj
    refine cv_bs (e := 5) bT.sl bT.str (by kernel_rfl) hsl2 ?_
    refine hI.more (E := GV.encStr) (bytes := 16) (x := ⟨(((bl s).take (min (64 * ys.length + 64) s.size)).drop (64 * ys.length)).toArray⟩) slice41 elem9 (by kernel_rfl) (by kernel_rfl) rfl hin hbk ho hS m1 m2 m3 ?_ (Fr.refl _ _) fun H6 S6 lp6 hI6 f6 g6 in6 => ⟨lp6, rfl, S6, ⟨?_, fun _ => ⟨?_, ?_⟩⟩, f6, g6, in6⟩
    · rw [List.length_take, chunksS_len]; omega
    · rw [List.length_append, List.length_singleton, hnext]; exact hI6
    · exact hsx.fr f6 fun ad e hh => by cases e; exact hqS hh
    · intro h
      have h1 := hql h0
      have h2 := hin0 b (by simp)
      rcases g6 q h with h | h
      · exact hqS h
      · have := hI.fr.size
        have h3 : q < Hx.size := by
          obtain ⟨b', off, e, hlt⟩ := hsx.arr.lt (by intro e; rw [e] at hlen; simp at hlen; omega)
          cases e
          exact hlt
        omega
  · rintro xs S1 H6 rfl ⟨hI, _⟩ hin hf hg
    refine .inl (hI.done (P := Tryz.prog) (ts := 41) (K := fun a n c H' => ∃ a_1 n_1 c_1, Value.slice a n c = Value.slice a_1 n_1 c_1 ∧ K a_1 n_1 c_1 H') (by kernel_rfl) fun a n c H7 ho hf7 _ => ⟨_, _, _, rfl, hk a n c H7 ?_ hf7⟩)
    rw [pieces_len, List.take_of_length_le (by rw [chunksS_len]; exact Nat.le_refl _)] at ho
    exact ho
end Go.Proofs
set_option linter.unusedVariables false
set_option maxRecDepth 100000
open Go Go.GV
namespace Go.Proofs

def okN (x : Int) : Prop := (97 ≤ x ∧ x ≤ 122) ∨ (48 ≤ x ∧ x ≤ 57) ∨ x = 46 ∨ x = 45
instance (x : Int) : Decidable (okN x) := by unfold okN; infer_instance
def rightP (s : ByteArray) : Prop := (∀ b ∈ bl s, okN (b.toNat : Int)) ∧ s.size ≠ 0 ∧ s.size ≤ 16
instance (s : ByteArray) : Decidable (rightP s) := by unfold rightP; infer_instance

theorem right_ok {s : ByteArray} {H : Heap} {K : Bool → Heap → Prop} (hs : s.size ≤ 1000000000000) (hk : ∀ H', Fr [] H H' → K (decide (rightP s)) H') :
    CallH Tryz.prog fn_files_right ⟨[.string s]⟩ H fun v H' => ∃ b, v = .bool b ∧ K b H' := by
  apply vc_files_right
  refine cv_sb bT.str bT.sl (by kernel_rfl) fun q c H1 hq hsl f1 => ?_
  have hlen := bl_len s
  refine ⟨fun vs H2 => match vs with | [.int _ i] => ∃ j : Nat, i = j ∧ j ≤ s.size ∧ (∀ b ∈ (bl s).take j, okN (b.toNat : Int)) ∧ Fr [] H H2 ∧ Fr [] H1 H2 | _ => False,
    fun vs _ => match vs with | [.int _ i] => s.size - i.toNat | _ => 0, ⟨0, rfl, by omega, by simp, f1, Fr.refl _ _⟩, ?_⟩
  rintro J i H2 ⟨j, rfl, hj, hok, hf, hf1⟩
  refine brB_of (fun h0 => ?_) (fun h0 => ?_)
  · have h0' : j < s.size := by simpa using h0
    have hx : (bl s)[j]? = some ((bl s)[j]'(by omega)) := by simp
    generalize (bl s)[j]'(by omega) = x at hx
    refine (hsl.keep hf1).get rfl hx (by simp; omega) fun ad e hc => ⟨x.toNat, ld_one (by kernel_rfl) hc, ?_⟩
    have stop : ¬ okN (x.toNat : Int) → ∃ b, Value.bool false = Value.bool b ∧ K b H2 := fun hno => by
      refine ⟨_, rfl, ?_⟩
      have : decide (rightP s) = false := by
        simp only [decide_eq_false_iff_not]
        exact fun h => hno (h.1 x (List.mem_of_getElem? hx))
      rw [← this]
      exact hk H2 hf
    have cont : okN (x.toNat : Int) → (fun (vs : List Value) (H2 : Heap) => match vs with | [.int _ i] => ∃ j : Nat, i = j ∧ j ≤ s.size ∧ (∀ b ∈ (bl s).take j, okN (b.toNat : Int)) ∧ Fr [] H H2 ∧ Fr [] H1 H2 | _ => False) [.int .i64 (IntKind.wrap .i64 ((j : Int) + 1))] H2 ∧
        (fun (vs : List Value) (_ : Heap) => match vs with | [.int _ i] => s.size - i.toNat | _ => 0) [.int .i64 (IntKind.wrap .i64 ((j : Int) + 1))] H2 < (fun (vs : List Value) (_ : Heap) => match vs with | [.int _ i] => s.size - i.toNat | _ => 0) [.int .i64 (j : Int)] H2 := fun hyes => by
      refine ⟨⟨j + 1, succ64 (by omega), by omega, fun b hb => ?_, hf, hf1⟩, ?_⟩
      · rw [List.take_add_one, hx] at hb
        simp only [Option.toList_some, List.mem_append, List.mem_singleton] at hb
        rcases hb with hb | rfl
        · exact hok b hb
        · exact hyes
      · show s.size - (IntKind.i64.wrap ((j : Int) + 1)).toNat < s.size - ((j : Nat) : Int).toNat
        rw [succ64 (by omega)]
        exact mu_lt h0'
    generalize (x.toNat : Int) = z at stop cont ⊢
    refine brB_of (fun h1 => brB_of (fun h2 => brB_of (fun h3 => brB_of (fun h4 => stop ?_) (fun h4 => cont ?_)) (fun h3 => cont ?_)) (fun h2 => brB_of (fun h3 => brB_of (fun h4 => brB_of (fun h5 => stop ?_) (fun h5 => cont ?_)) (fun h4 => cont ?_)) (fun h3 => cont ?_)))
      (fun h1 => brB_of (fun h2 => brB_of (fun h3 => brB_of (fun h4 => brB_of (fun h5 => stop ?_) (fun h5 => cont ?_)) (fun h4 => cont ?_)) (fun h3 => brB_of (fun h4 => brB_of (fun h5 => brB_of (fun h6 => stop ?_) (fun h6 => cont ?_)) (fun h5 => cont ?_)) (fun h4 => cont ?_))) (fun h2 => cont ?_))
    all_goals (unfold okN; simp at *; omega)
  · have hjs : j = s.size := by simp at h0; omega
    subst hjs
    rw [List.take_of_length_le (by omega)] at hok
    refine brB_of (fun h1 => ⟨_, rfl, ?_⟩) (fun h1 => ⟨_, rfl, ?_⟩)
    · have hne : s.size ≠ 0 := fun e => by
        have : bl s = [] := List.eq_nil_of_length_eq_zero (by omega)
        have e2 : s = ⟨#[]⟩ := bl_inj this
        rw [e2] at h1
        simp at h1
      have : decide ((s.size : Int) ≤ 16) = decide (rightP s) := by
        rw [decide_eq_decide]
        exact ⟨fun h => ⟨hok, hne, by omega⟩, fun h => by have := h.2.2; omega⟩
      rw [this]
      exact hk H2 hf
    · have : decide (rightP s) = false := by
        simp only [decide_eq_false_iff_not]
        intro h
        have h2 := h.2.1
        have e : ByteArray.toList s = ByteArray.toList ⟨#[]⟩ := by simpa using h1
        rw [toL, toL] at e
        have e2 : (bl s).length = 0 := by rw [e]; rfl
        omega
      rw [← this]
      exact hk H2 hf
end Go.Proofs
set_option linter.unusedVariables false
set_option maxRecDepth 100000
open Go Go.GV
namespace Go.Proofs

theorem Blk.cast {H : Heap} {a : Addr} {vs ws : List Value} (h : Blk H a vs) (e : vs = ws) : Blk H a ws := e ▸ h
def newM (n : Int) : Dk := { size := if (if 512 < n then 512 else n) > 8 then if 512 < n then 512 else n else 8, is := fun _ => ⟨#[]⟩, wait := fun _ => [], off := false, left := 0, keep := 0, calls := 0 }
theorem New_ok {n : Int} {H : Heap} {K : Option Addr → Heap → Prop} (hk : ∀ b H' S, (∀ k ∈ S, H.size ≤ k) → DRep H' ⟨b, 0, none⟩ S (newM n) 0 → Fr [] H H' → K (some ⟨b, 0, none⟩) H') :
    CallH Tryz.prog fn_block_New ⟨[.int .i64 n]⟩ H fun v H' => ∃ a, v = .pointer a ∧ K a H' := by
  apply vc_block_New
  intro b H1 hn1 b1 H2 hn2
  have hb := Blk.cast (ws := dkC (newM n) b) hn2.blk (by kernel_rfl)
  have e1 := hn1.eq
  have e2 := hn2.eq
  have s1 := hn1.size
  have s2 := hn2.size
  refine ⟨_, rfl, hk b1 H2 [b1, b] (by simp; omega) ⟨⟨b, 0, [], hb, (MapR.new MT hn1).keep MT hn2.fr, by simp; omega, by simp, by simp, by simp, fun _ _ => rfl, ?_, by simp⟩, by simp [newM], by simp [newM], fun _ => by simp [newM], ?_⟩ (hn1.fr.keep0 hn2.fr)⟩
  · simp only [newM]
    split <;> (repeat' split) <;> omega
  · intro k hk
    simp at hk
    omega

theorem clone_map {r ck : Nat} {L : List (Ent ByteArray)} {H : Heap} {K : Value → Heap → Prop} (hm : MapR SM H r ck L) (hk : ∀ r' H', H.size ≤ r' → MapR SM H' r' ck L → Fr [] H H' → K (.iface 78 (.map (some r'))) H') :
    ExtH Tryz.prog 100 ⟨[.iface 78 (.map (some r))]⟩ H K := by
  intro E d
  refine ⟨_, H.push (.map ⟨L.map SM.ent⟩ ck), d, ?_, hk H.size _ (Nat.le_refl _) ⟨by simp, hm.wf⟩ (push_fr _ _)⟩
  rw [run_callFunc_extern (e := Extern.MapsClone.clone) Tryz.func100 (by kernel_rfl) (by kernel_rfl) (by kernel_rfl) (by kernel_rfl)]
  have h1 := getObj_any (P := Tryz.prog) hm.blk (by simp) (mkW E H d) rfl
  have e : (Extern.MapsClone.clone ⟨[.iface 78 (.map (some r))]⟩).run Tryz.prog (mkW E H d) = .ok (.iface 78 (.map (some H.size))) (mkW E (H.push (.map ⟨L.map SM.ent⟩ ck)) d) := by
    have hc : Extern.MapsClone.clone ⟨[.iface 78 (.map (some r))]⟩ = (do
        let .map entries clock ← getObj r | stuck "maps.clone: a map expected"
        pure (.iface 78 (.map (some (← newObj (.map entries clock)))))) := rfl
    rw [hc]
    simp only [Sem.run_bind, h1, Result.andThen_ok, run_newObj_alloc]
    rfl
  rw [e]
  rfl
theorem assert_map {r : Option Nat} {H : Heap} : Rd Tryz.prog (Instr.typeAssert (.iface 78 (.map r)) 20 78 false) H (.map r) := by
  intro w hw
  unfold Instr.typeAssert
  simp [run_underlying' Tryz.underlying78]
theorem Clone_ok {r ck : Nat} {L : List (Ent ByteArray)} {H : Heap} {K : Nat → Heap → Prop} (hm : MapR SM H r ck L) (hk : ∀ r' H', H.size ≤ r' → MapR SM H' r' ck L → Fr [] H H' → K r' H') :
    CallH Tryz.prog 63 ⟨[.map (some r)]⟩ H fun v H' => ∃ m, v = .map m ∧ ∃ r', m = some r' ∧ K r' H' := by
  apply vc_maps_Clone_map_string_string_string_string_
  refine brB_of (fun h => by simp at h) fun _ => clone_map hm fun r' H' h1 h2 h3 => ⟨_, rfl, _, assert_map, _, rfl, _, rfl, hk r' H' h1 h2 h3⟩

theorem NowR.clone {r N : Nat} {now : ByteArray → Option ByteArray} {H : Heap} {K : Nat → Heap → Prop} (h : NowR H r now N) (hk : ∀ r' H', H.size ≤ r' → NowR H' r' now N → Fr [] H H' → K r' H') :
    CallH Tryz.prog 63 ⟨[.map (some r)]⟩ H fun v H' => ∃ m, v = .map m ∧ ∃ r', m = some r' ∧ K r' H' := by
  obtain ⟨ck, L, hm, hl, hg⟩ := h
  exact Clone_ok hm fun r' H' h1 h2 h3 => hk r' H' h1 ⟨ck, L, h2, hl, hg⟩ h3
end Go.Proofs
set_option linter.unusedVariables false
set_option maxRecDepth 100000
open Go Go.GV
namespace Go.Proofs

def putN (now : ByteArray → Option ByteArray) (k v : ByteArray) : ByteArray → Option ByteArray := fun x => if x = k then some v else now x
def delN (now : ByteArray → Option ByteArray) (k : ByteArray) : ByteArray → Option ByteArray := fun x => if x = k then none else now x
theorem setL_len {κ : Type} [DecidableEq κ] (k : κ) (v : Value) (L : List (Ent κ)) : (GV.setL k v L).length = L.length := by
  induction L with
  | nil => rfl
  | cons x l ih =>
    unfold GV.setL
    split
    · rfl
    · simp [ih]
theorem putL_len {κ : Type} [DecidableEq κ] (k : κ) (v : Value) (ck : Nat) (L : List (Ent κ)) : (putL k v ck L).length ≤ L.length + 1 := by
  unfold putL
  split
  · rw [setL_len]; omega
  · simp
theorem NowR.put {H : Heap} {r N : Nat} {now : ByteArray → Option ByteArray} {K : Heap → Prop} (h : NowR H r now N) (k v : ByteArray) (hk : ∀ H', NowR H' r (putN now k v) (N + 1) → Fr [r] H H' → K H') :
    SemU Tryz.prog (Instr.mapUpdate 78 (.map (some r)) (.string k) (.string v)) H K := by
  obtain ⟨ck, L, hm, hl, hg⟩ := h
  refine put_map SM (mt := 78) (e := 9) Tryz.underlying78 hm k fun H' hm' hf => hk H' ⟨_, _, hm', ?_, fun x => ?_⟩ hf
  · have := putL_len k (.string v) ck L
    omega
  · rw [getL_putL]
    unfold putN
    split
    · rfl
    · exact hg x
theorem NowR.del {H : Heap} {r N : Nat} {ty : TypeId} {now : ByteArray → Option ByteArray} {K : Heap → Prop} (h : NowR H r now N) (k : ByteArray) (hk : ∀ H', NowR H' r (delN now k) N → Fr [r] H H' → K H') :
    SemWp Tryz.prog (Builtin.delete_ ⟨[78, 9]⟩ ty ⟨[.map (some r), .string k]⟩) H fun v H' => v = .tuple ⟨[]⟩ ∧ K H' := by
  obtain ⟨ck, L, hm, hl, hg⟩ := h
  refine del_map SM (mt := 78) (e := 9) Tryz.underlying78 hm k fun H' hm' hf => hk H' ⟨_, _, hm', ?_, fun x => ?_⟩ hf
  · have : (delL k L).length ≤ L.length := List.length_filter_le _ _
    omega
  · rw [getL_delL]
    unfold delN
    split
    · rfl
    · exact hg x
theorem zero9 : zeroOf Tryz.prog 9 = some (.string ⟨#[]⟩) := by kernel_rfl
theorem NowR.look {H : Heap} {r N : Nat} {now : ByteArray → Option ByteArray} (h : NowR H r now N) (k : ByteArray) : Rd Tryz.prog (Instr.lookup 78 (.map (some r)) (.string k) false) H (.string ((now k).getD ⟨#[]⟩)) := by
  obtain ⟨ck, L, hm, hl, hg⟩ := h
  have := lookup_map SM (mt := 78) (e := 9) Tryz.underlying78 zero9 hm k
  rw [hg k] at this
  cases hn : now k <;> rw [hn] at this <;> exact this
theorem NowR.look2 {H : Heap} {r N : Nat} {now : ByteArray → Option ByteArray} (h : NowR H r now N) (k : ByteArray) : Rd Tryz.prog (Instr.lookup 78 (.map (some r)) (.string k) true) H (.tuple ⟨[.string ((now k).getD ⟨#[]⟩), .bool (now k).isSome]⟩) := by
  obtain ⟨ck, L, hm, hl, hg⟩ := h
  have := lookup_map_ok SM (mt := 78) (e := 9) Tryz.underlying78 zero9 hm k
  rw [hg k] at this
  cases hn : now k <;> rw [hn] at this <;> exact this

structure Sto where
  now : ByteArray → Option ByteArray
  last : ByteArray → Option (ByteArray × List Int)
  dir : List Int
  gen : Int
  bad : Bool
structure SL (H : Heap) (s d : Addr) (rn rl : Nat) (a : Option Addr) (n c : Nat) (Q Sd : List Nat) (st : Sto) (m : Dk) (N M : Nat) : Prop where
  blk : Blk H s [.pointer (some d), .map (some rn), .map (some rl), .slice a n c, .int .i64 st.gen, .bool st.bad]
  now : NowR H rn st.now M
  last : LastR H rl Q st.last
  dir : Sl encInt H a n c st.dir
  dirQ : ∀ k ∈ blkL a, k ∈ Q
  dk : DRep H d Sd m N
  own : s.block ∉ rn :: rl :: Q
  apart : Dj (s.block :: rn :: rl :: Q) Sd
  inQ : In H Q
theorem SL.fr {H H' : Heap} {s d : Addr} {rn rl : Nat} {a : Option Addr} {n c : Nat} {Q Sd T : List Nat} {st : Sto} {m : Dk} {N M : Nat} (h : SL H s d rn rl a n c Q Sd st m N M) (hf : Fr T H H') (h1 : Dj (s.block :: rn :: rl :: Q) T) (h2 : Dj Sd T) : SL H' s d rn rl a n c Q Sd st m N M :=
  ⟨h.blk.fr hf (h1 _ (by simp)), h.now.fr hf (h1 _ (by simp)), h.last.fr hf (h1 _ (by simp)) fun k hk => h1 _ (by simp [hk]), h.dir.fr hf fun ad e => h1 _ (by simp [h.dirQ ad.block (by simp [e, blkL])]), h.dirQ, h.dk.fr hf h2, h.own, h.apart, h.inQ.le hf.size⟩
theorem SL.keep {H H' : Heap} {s d : Addr} {rn rl : Nat} {a : Option Addr} {n c : Nat} {Q Sd : List Nat} {st : Sto} {m : Dk} {N M : Nat} (h : SL H s d rn rl a n c Q Sd st m N M) (hf : Fr [] H H') : SL H' s d rn rl a n c Q Sd st m N M := h.fr hf (fun _ _ => by simp) (fun _ _ => by simp)

theorem Read10_ok {s d : Addr} {rn rl : Nat} {a : Option Addr} {n c : Nat} {Q Sd : List Nat} {st : Sto} {m : Dk} {N M : Nat} {H : Heap} {name : ByteArray} {K : ByteArray → Bool → Heap → Prop} (h : SL H s d rn rl a n c Q Sd st m N M)
    (hk : K ((st.now name).getD ⟨#[]⟩) (st.now name).isSome H) :
    CallH Tryz.prog fn_files_Store_Read ⟨[.pointer (some s), .string name]⟩ H fun v H' => ∃ t b, v = .tuple ⟨[.string t, .bool b]⟩ ∧ K t b H' := by
  apply vc_files_Store_Read
  exact ⟨_, h.blk.ld (by kernel_rfl) rfl, _, _, h.now.look2 name, _, _, rfl, hk⟩
def namesOf (now : ByteArray → Option ByteArray) (ys : List ByteArray) : Prop := (ys.map bl).Pairwise (· < ·) ∧ ∀ y, y ∈ ys ↔ (now y).isSome
theorem NowR.names {H : Heap} {r N : Nat} {now : ByteArray → Option ByteArray} {K : Option Addr → Nat → Nat → Heap → Prop} (h : NowR H r now N) (hN : N ≤ 1000000000000)
    (hk : ∀ ys a n c H', namesOf now ys → ys.length ≤ N → Own GV.encStr 9 H.size H' a n c ys → Fr [] H H' → K a n c H') :
    CallH Tryz.prog 105 ⟨[.map (some r)]⟩ H fun v H' => ∃ v_1, v = v_1 ∧ CallH Tryz.prog 104 ⟨[v_1]⟩ H' fun v H' => ∃ a n c, v = .slice a n c ∧ K a n c H' := by
  obtain ⟨ck, L, hm, hl, hg⟩ := h
  refine mapNames_ok hm (by omega) fun ys a n c H' hy ho hf => hk ys a n c H' ⟨hy.1, fun y => ?_⟩ ?_ ho hf
  · rw [hy.2]
    constructor
    · rintro ⟨x, hx, rfl⟩
      have := getL_mem hm.wf (k := x.1) (v := x.2.1) (b := x.2.2) hx
      rw [hg] at this
      cases hn : now x.1 with
      | none => rw [hn] at this; cases this
      | some v => rfl
    · intro h
      cases hn : now y with
      | none => rw [hn] at h; cases h
      | some v =>
        have := hg y
        rw [hn] at this
        obtain ⟨b, hb⟩ := mem_getL this
        exact ⟨_, hb, rfl⟩
  · have hnd : ys.Nodup := by
      rw [List.nodup_iff_pairwise_ne]
      have := hy.1
      rw [List.pairwise_map] at this
      exact this.imp fun h e => by rw [e] at h; exact (List.lt_irrefl _) h
    have := keysA_len (L := L) ⟨hnd, fun y h => (hy.2 y).1 h⟩
    omega
end Go.Proofs
set_option linter.unusedVariables false
set_option maxRecDepth 100000
open Go Go.GV
namespace Go.Proofs

def encPut : Enc (Int × ByteArray) := ⟨fun x => [.int .i64 x.1, .string x.2], 2, fun _ => rfl, by decide, fun _ v h => by simp at h; rcases h with rfl | rfl <;> rfl⟩
theorem elem76 : elemB Tryz.prog 184 2 24 = true := by kernel_rfl
theorem slice70 : sliceB Tryz.prog 141 184 = true := by kernel_rfl

structure Tk where
  free : List Int
  puts : List (Int × ByteArray)
  need : Nat
  fits : Bool
def takeM (t : Tk) (c : ByteArray) : Tk × Int := match t.free with
  | [] => ({ t with need := t.need + 1, fits := false }, 500)
  | x :: r => ({ t with free := r, puts := t.puts ++ [(x, c)], need := t.need + 1 }, x)
def tkC (a : Option Addr) (n c : Nat) (vs : List Value) (t : Tk) : List Value := .slice a n c :: (vs ++ [.int .i64 t.need, .bool t.fits])
structure TkR (H : Heap) (pb fb base : Nat) (vs : List Value) (Fq S : List Nat) (t : Tk) : Prop where
  vl : vs.length = 4
  it : ∃ a n c fa fn fc, Blk H ⟨pb, 0, none⟩ (tkC a n c vs t) ∧ Own encPut 184 base H a n c t.puts ∧ Blk H ⟨fb, 0, none⟩ [.slice fa fn fc] ∧ Sl encInt H fa fn fc t.free ∧ (∀ k ∈ blkL fa, k ∈ Fq) ∧ S = pb :: fb :: blkL a ∧ pb ∉ blkL a ∧ fb ∉ blkL a
  ne : pb ≠ fb
  dj : Dj Fq S
  inF : In H Fq
  inS : In H S
theorem TkR.fr {H H' : Heap} {pb fb base : Nat} {vs : List Value} {Fq S T : List Nat} {t : Tk} (h : TkR H pb fb base vs Fq S t) (hf : Fr T H H') (h1 : Dj Fq T) (h2 : Dj S T) : TkR H' pb fb base vs Fq S t := by
  obtain ⟨hv, ⟨a, n, c, fa, fn, fc, hb, ho, hb2, hs, hq, hS, n1, n2⟩, ne, dj, iF, iS⟩ := h
  exact ⟨hv, ⟨a, n, c, fa, fn, fc, hb.fr hf (h2 _ (by simp [hS])), ho.fr hf (fun ad e => h2 _ (by simp [hS, e, blkL])), hb2.fr hf (h2 _ (by simp [hS])), hs.fr hf (fun ad e => h1 _ (hq _ (by simp [e, blkL]))), hq, hS, n1, n2⟩, ne, dj, iF.le hf.size, iS.le hf.size⟩

theorem slA_blk {c l sz : Nat} {a : Option Addr} : ∀ k ∈ blkL (slA c l sz a), k ∈ blkL a := by
  intro k hk
  rw [slA_eq] at hk
  split at hk
  · exact hk
  · cases a with
    | none => simp [blkL] at hk
    | some ad =>
      have e : (ad.add (l * sz)).block = ad.block := by
        cases ad
        unfold Addr.add
        split <;> rfl
      simp only [Option.map_some, blkL, List.mem_singleton] at hk ⊢
      rw [hk, e]
theorem takeP_ok {pb fb base : Nat} {vs : List Value} {Fq S : List Nat} {t : Tk} {c : ByteArray} {H : Heap} {K : Int → Heap → Prop} (h : TkR H pb fb base vs Fq S t) (hb : base ≤ H.size) (hn : t.need ≤ 1000000000) (hp : t.puts.length ≤ 1000000000)
    (hk : ∀ H' S', TkR H' pb fb base vs Fq S' (takeM t c).1 → Fr S H H' → Grow H S S' → K (takeM t c).2 H') :
    CallV Tryz.prog (.func (.func 103) ⟨[]⟩ ⟨[.pointer (some ⟨pb, 0, none⟩), .pointer (some ⟨fb, 0, none⟩)]⟩) [.string c] H fun v H' => ∃ n, v = .int .i64 n ∧ K n H' := by
  refine ⟨103, ⟨[]⟩, _, rfl, by kernel_rfl, ?_⟩
  apply vc_files_Store_planned_1
  obtain ⟨hv, ⟨a, n, c', fa, fn, fc, hbk, ho, hb2, hs, hq, hS, n1, n2⟩, ne, dj, iF, iS⟩ := h
  subst hS
  obtain ⟨v1, v2, v3, v4, rfl⟩ : ∃ v1 v2 v3 v4, vs = [v1, v2, v3, v4] := by
    match vs, hv with
    | [v1, v2, v3, v4], _ => exact ⟨v1, v2, v3, v4, rfl⟩
  have hfl := hs.len
  refine ⟨t.need, hbk.ld (j := 5) (by kernel_rfl) rfl, Go.Proofs.Blk.set hbk (j := 5) (v := .int .i64 (IntKind.i64.wrap ((t.need : Int) + 1))) (by kernel_rfl) (by kernel_rfl) rfl rfl (by simp [tkC]) fun H1 hb1 hf1 => ?_⟩
  rw [succ64 (by omega)] at hb1
  have hb1' : Blk H1 ⟨pb, 0, none⟩ (tkC a n c' [v1, v2, v3, v4] { t with need := t.need + 1 }) := hb1
  have hpb : ∀ {x : Nat}, x ≠ pb → x ∉ [pb] := fun h => by simpa using h
  have hb21 := hb2.fr hf1 (hpb (Ne.symm ne))
  have ho1 := ho.fr hf1 (fun ad e hh => n1 (by simp only [List.mem_singleton] at hh; simp [e, blkL, hh]))
  have hFp : ∀ k ∈ Fq, k ≠ pb ∧ k ≠ fb ∧ k ∉ blkL a := fun k hk => by
    have := dj k hk
    simp only [List.mem_cons, not_or] at this
    exact this
  have hs1 := hs.fr hf1 (fun ad e => hpb (hFp _ (hq _ (by simp [e, blkL]))).1)
  refine ⟨fa, fn, fc, hb21.ld0 (by kernel_rfl) rfl, ?_⟩
  unfold takeM at hk
  cases hfr : t.free with
  | nil =>
    rw [hfr] at hk hfl hs1
    refine brB_of (fun _ => ?_) (fun h => by simp at hfl; subst hfl; simp at h)
    refine Go.Proofs.Blk.set hb1' (j := 6) (v := .bool false) (by kernel_rfl) (by kernel_rfl) rfl rfl (by simp [tkC]) fun H2 hb2' hf2 => ⟨_, rfl, ?_⟩
    have hf : Fr (pb :: fb :: blkL a) H H2 := hf1.trans' hf2 (fun k hk _ => by simp at hk; simp [hk]) (fun k hk _ => by simp at hk; simp [hk])
    refine hk H2 (pb :: fb :: blkL a) ⟨rfl, ⟨a, n, c', fa, fn, fc, hb2', ho1.fr hf2 (fun ad e hh => n1 (by simp only [List.mem_singleton] at hh; simp [e, blkL, hh])), hb21.fr hf2 (hpb (Ne.symm ne)), ?_, hq, rfl, n1, n2⟩, ne, dj, iF.le hf.size, iS.le hf.size⟩ hf (Grow.refl _ _)
    have := hs1.fr hf2 (fun ad e => hpb (hFp _ (hq _ (by simp [e, blkL]))).1)
    exact this
  | cons x r =>
    rw [hfr] at hk hfl hs1
    refine brB_of (fun h => by simp at hfl; subst hfl; simp at h; omega) fun _ => ?_
    refine ⟨fa, fn, fc, hb21.ld0 (by kernel_rfl) rfl, hs1.get (i := 0) (k := 0) rfl rfl (by simp at hfl ⊢; omega) fun ad e hc => ⟨x, ?_, fa, fn, fc, hb21.ld0 (by kernel_rfl) rfl, chk_true (decide_eq_true (by have := hs.cap; simp at hfl; omega)) ?_⟩⟩
    · have := ld_one (P := Tryz.prog) (t := 3) (by kernel_rfl) hc
      simpa [addr_add0] using this
    have hs2 := hs1.drop (k := 1) (by simp at hfl; omega)
    refine hb21.st0 (v := .slice (slA fc 1 1 fa) ((fn : Int).toNat - 1) (fc - 1)) (by kernel_rfl) (by kernel_rfl) (fun x hx => by simp [Value.cells] at hx; subst hx; rfl) (by simp [Value.cells]) fun H2 hb22 hf2 => ?_
    have hb22' : Blk H2 ⟨fb, 0, none⟩ [.slice (slA fc 1 1 fa) ((fn : Int).toNat - 1) (fc - 1)] := by simpa [Value.cells] using hb22
    have hfb : ∀ {x : Nat}, x ≠ fb → x ∉ [fb] := fun h => by simpa using h
    have hb12 := hb1'.fr hf2 (hfb ne)
    have ho2 := ho1.fr hf2 (fun ad e hh => n2 (by simp only [List.mem_singleton] at hh; simp [e, blkL, hh]))
    have hsq : ∀ k ∈ blkL (slA fc 1 1 fa), k ∈ Fq := fun k hk => hq k (slA_blk k hk)
    have hs3 := hs2.fr hf2 (fun ad e => hfb (hFp _ (hsq _ (by rw [show slA fc 1 1 fa = some ad from e]; simp [blkL]))).2.1)
    have hbase2 : base ≤ H2.size := by have := hf1.size; have := hf2.size; omega
    refine ⟨a, n, c', hb12.ld0 (by kernel_rfl) rfl, fun b3 H3 hn3 => ?_⟩
    have hz3 := hn3.size
    have hz1 := hf1.size
    have hz2 := hf2.size
    refine ap_grow (E := encPut) (bytes := 24) slice70 elem76 (ho2.keep hn3.fr) (sl_one encPut (x, c) hn3 rfl) (by omega) (by rw [ho.1]; omega) fun a4 n4 c4 H4 ho4 hf4 hg4 => ?_
    have hb14 := (hb12.keep hn3.fr).fr hf4 n1
    have hb24 := (hb22'.keep hn3.fr).fr hf4 n2
    have hnew : ∀ k ∈ blkL a4, k ∈ blkL a ∨ H.size ≤ k := fun k hk => (hg4 k hk).imp id fun h => by omega
    have np : pb ∉ blkL a4 := fun hk => (hnew pb hk).elim n1 fun h => by have := iS pb (by simp); omega
    have nf : fb ∉ blkL a4 := fun hk => (hnew fb hk).elim n2 fun h => by have := iS fb (by simp); omega
    refine hb14.st0 (v := .slice a4 n4 c4) (by kernel_rfl) (by kernel_rfl) (fun x hx => by simp [Value.cells] at hx; subst hx; rfl) (by simp [Value.cells, tkC]) fun H5 hb15 hf5 => ⟨_, rfl, ?_⟩
    have f12 : Fr (pb :: fb :: blkL a) H H2 := hf1.trans' hf2 (fun k hk _ => by simp at hk; simp [hk]) (fun k hk _ => by simp at hk; simp [hk])
    have f13 : Fr (pb :: fb :: blkL a) H H3 := f12.trans' hn3.fr (fun k hk _ => hk) (by simp)
    have f14 : Fr (pb :: fb :: blkL a) H H4 := f13.trans' hf4 (fun k hk _ => hk) (fun k hk _ => by simp [hk])
    have f15 : Fr (pb :: fb :: blkL a) H H5 := f14.trans' hf5 (fun k hk _ => hk) (fun k hk _ => by simp at hk; simp [hk])
    refine hk H5 (pb :: fb :: blkL a4) ⟨rfl, ⟨a4, n4, c4, _, _, _, ?_, ho4.fr hf5 (fun ad e hh => np (by simp only [List.mem_singleton] at hh; simp [e, blkL, hh])), hb24.fr hf5 (hpb (Ne.symm ne)), ?_, ?_, rfl, np, nf⟩, ne, ?_, iF.le f15.size, ?_⟩ f15 ?_
    · simpa [Value.cells, tkC] using hb15
    · have h4 := (((hs3.keep hn3.fr).fr hf4 ?_).fr hf5 ?_)
      · exact h4
      · intro ad e hh
        exact (hFp _ (hsq _ (by rw [show slA fc 1 1 fa = some ad from e]; simp [blkL]))).2.2 hh
      · intro ad e hh
        simp only [List.mem_singleton] at hh
        exact (hFp _ (hsq _ (by rw [show slA fc 1 1 fa = some ad from e]; simp [blkL]))).1 hh
    · exact hsq
    · intro k hk
      have := hFp k hk
      simp only [List.mem_cons, not_or]
      refine ⟨this.1, this.2.1, fun h => (hnew k h).elim this.2.2 fun h => by have := iF k hk; omega⟩
    · intro k hk
      simp only [List.mem_cons] at hk
      have := f15.size
      rcases hk with hk | hk | hk
      · have := iS pb (by simp); omega
      · have := iS fb (by simp); omega
      · have := (ho4.ge k hk).2; have := hf5.size; omega
    · intro k hk
      simp only [List.mem_cons] at hk
      rcases hk with hk | hk | hk
      · exact .inl (by simp [hk])
      · exact .inl (by simp [hk])
      · exact (hnew k hk).imp (fun h => by simp [h]) id
end Go.Proofs
set_option linter.unusedVariables false
set_option maxRecDepth 100000
open Go Go.GV
namespace Go.Proofs

theorem number_empty {x : Addr} {v0 v4 : Value} {okv : Bool} {H : Heap} {K : Int → Heap → Prop} (h : Blk H x [v0, .string ⟨#[]⟩, .int .i64 0, .bool okv, v4])
    (hk : ∀ H', Blk H' x [v0, .string ⟨#[]⟩, .int .i64 0, .bool false, v4] → Fr [x.block] H H' → K 0 H') :
    CallH Tryz.prog fn_files_scan_number ⟨[.pointer (some x)]⟩ H fun v H' => ∃ n, v = .int .i64 n ∧ K n H' := by
  apply vc_files_scan_number
  refine ⟨_, h.ld (by kernel_rfl) rfl, _, h.ld (by kernel_rfl) rfl, GetUint_ok (by simp [ByteArray.size]) (fun hb => absurd ⟨by omega, by simp [ByteArray.size]⟩ hb) fun a ea ha v n e hg => ?_⟩
  have he : e ≠ 0 := by
    have hnil : (bl ⟨#[]⟩).drop a = [] := by simp [bl]
    rw [hnil] at hg
    rcases hg with ⟨n, rfl, h1, h2, h3, h4, h5⟩ | ⟨_, _, h, _⟩ | ⟨_, _, h, _⟩
    · exfalso
      have : uintL n = [] := List.eq_nil_of_length_eq_zero (by simpa using h3)
      unfold uintL at this
      split at this <;> cases this
    · omega
    · omega
  refine ⟨fun _ _ => False, ⟨fun vs H' => vs = [.bool true] ∧ H' = H, brB_of (fun _ => ⟨rfl, rfl⟩) (fun h => by simp at h; exact absurd h he), ?_⟩, fun J H' h => h.elim⟩
  rintro J b H' ⟨hb, rfl⟩
  cases hb
  refine brB_of (fun _ => ?_) (fun h => by simp at h)
  exact Go.Proofs.Blk.set h (j := 3) (by kernel_rfl) (by kernel_rfl) rfl rfl (by simp) fun H' hb' hf => ⟨_, rfl, hk H' hb' hf⟩
theorem root_empty {d : Addr} {Sd : List Nat} {m : Dk} {N : Nat} {slot : Int} {H : Heap} {K : Heap → Prop} (h : DRep H d Sd m N) (hN : N ≤ 1000000) (he : (rdM m slot).1 = ⟨#[]⟩) (hk : ∀ H', Fr [] H H' → K H') :
    CallH Tryz.prog fn_files_root ⟨[.pointer (some d), .int .i64 slot]⟩ H fun v H' => ∃ g r a n c, v = .tuple ⟨[.int .i64 g, .map r, .slice a n c]⟩ ∧ g = 0 ∧ K H' := by
  apply vc_files_root
  refine Read_ok h hN fun b H1 hn1 b1 H2 hn2 => ?_
  rw [he] at hn2
  have f2 := hn1.fr.keep0 hn2.fr
  have e1 := hn1.eq
  have e2 := hn2.eq
  have s1 := hn1.size
  refine number_empty hn2.blk fun H3 hb3 f3 => number_empty hb3 fun H4 hb4 f4 => ?_
  have f24 : Fr [] H H4 := (f2.keep f3 (by simp; omega)).keep f4 (by simp; omega)
  refine ⟨fun _ _ => False, ⟨fun vs H' => vs = [.bool true] ∧ H' = H4, ⟨false, hb4.ld (j := 3) (by kernel_rfl) rfl, brB_of (fun _ => ⟨rfl, rfl⟩) (fun h => by simp at h)⟩, ?_⟩, fun J H' h => h.elim⟩
  rintro J bb H' ⟨hb, rfl⟩
  cases hb
  exact brB_of (fun _ => ⟨_, _, _, _, _, rfl, rfl, hk _ f24⟩) (fun h => by simp at h)

def stoNew : Sto := { now := fun _ => none, last := fun _ => none, dir := [], gen := 0, bad := false }
theorem Open_fresh {d : Addr} {Sd : List Nat} {m : Dk} {N : Nat} {H : Heap} {K : Option Addr → Int → Heap → Prop} (h : DRep H d Sd m N) (hN : N ≤ 1000000) (hoff : m.off = false) (he : ∀ i : Int, 0 ≤ i → i < 2 → (rdM m i).1 = ⟨#[]⟩)
    (hk : ∀ s rn rl H', H.size ≤ s.block → SL H' s d rn rl none 0 0 [] Sd stoNew m N 0 → Fr [] H H' → K (some s) 0 H') :
    CallH Tryz.prog fn_files_Open ⟨[.pointer (some d)]⟩ H fun v H' => ∃ a e, v = .tuple ⟨[.pointer a, .int .i64 e]⟩ ∧ K a e H' := by
  apply vc_files_Open
  refine Dead_ok h ?_
  show brB m.off _ _
  refine brB_of (fun h => by rw [hoff] at h; cases h) fun _ => fun b H1 hn1 b1 H2 hn2 b2 H3 hn3 => ?_
  have e1 := hn1.eq
  have e2 := hn2.eq
  have e3 := hn3.eq
  have s1 := hn1.size
  have s2 := hn2.size
  have f3 := (hn1.fr.keep0 hn2.fr).keep0 hn3.fr
  refine ⟨fun vs H' => match vs with | [.int _ i] => ∃ j : Nat, i = j ∧ j ≤ 2 ∧ Fr [] H3 H' | _ => False, fun vs _ => match vs with | [.int _ i] => 2 - i.toNat | _ => 0, ⟨0, rfl, by omega, Fr.refl _ _⟩, ?_⟩
  rintro J i H4 ⟨j, rfl, hj, hf⟩
  have f4 := f3.keep0 hf
  refine brB_of (fun h0 => ?_) (fun h0 => ?_)
  · have h0' : j < 2 := by simp at h0; omega
    refine CallH.mono (root_empty (K := fun H' => Fr [] H4 H') (h.keep f4) hN (he j (by omega) (by omega)) (fun H' hf' => hf')) fun v H5 => ?_
    rintro ⟨g, r, a, n, c, rfl, rfl, hf5⟩
    refine ⟨_, _, _, _, _, rfl, 0, ((hn3.blk.keep hf).keep hf5).ldK (j := 4) (by kernel_rfl) rfl, brB_of (fun h => by simp at h) fun _ => ⟨⟨j + 1, succ64 (by omega), by omega, hf.keep0 hf5⟩, ?_⟩⟩
    show 2 - (IntKind.i64.wrap ((j : Int) + 1)).toNat < 2 - ((j : Nat) : Int).toNat
    rw [succ64 (by omega)]
    exact mu_lt h0'
  · have hb := hn3.blk.keep hf
    have hm1 : MapR SM H4 b1 0 [] := ((MapR.new SM hn2).keep SM hn3.fr).keep SM hf
    have hm0 : MapR SM H4 b 0 [] := (((MapR.new SM hn1).keep SM hn2.fr).keep SM hn3.fr).keep SM hf
    refine ⟨some b1, hb.ldK (j := 2) (by kernel_rfl) rfl, range_map SM (mt := 79) (e := 122) Tryz.underlying79 hm1 fun it H5 hn5 => ⟨fun _ H' => Fr [] H4 H' ∧ H'[it]? = some (.mapIter (some b1) 0 #[] 0), fun _ _ => 0, ⟨hn5.fr, hn5.get⟩, ?_⟩⟩
    rintro J2 H6 ⟨hf6, hi6⟩
    refine next_map SM (hm1.keep SM hf6) hi6 (fun _ => ⟨_, _, rfl, ?_⟩) fun x hx => by simp at hx
    have hf36 := hf.keep0 hf6
    refine hk ⟨b2, 0, none⟩ b b1 H6 (by simp; omega) ⟨hb.keep hf6, ⟨0, [], hm0.keep SM hf6, by simp, fun _ => rfl⟩, ⟨0, [], hm1.keep SM hf6, by simp, fun _ _ => rfl⟩, Sl.zero, by simp [blkL], h.keep (f3.keep0 hf36), by simp; omega, fun k hk hk' => ?_, by intro k hk; simp at hk⟩ (f3.keep0 hf36)
    have := h.inS k hk'
    simp only [List.mem_cons, List.mem_nil_iff, or_false] at hk
    omega
end Go.Proofs
set_option linter.unusedVariables false
set_option maxRecDepth 100000
open Go Go.GV
namespace Go.Proofs

def Chg (by' : Value) (G : Heap → Prop) (ch : (ByteArray → Option ByteArray) → ByteArray → Option ByteArray) : Prop :=
  ∀ (r N : Nat) (now : ByteArray → Option ByteArray) (H : Heap) (K : Heap → Prop), G H → NowR H r now N → (∀ H', NowR H' r (ch now) (N + 1) → Fr [r] H H' → K H') → CallV Tryz.prog by' [.map (some r)] H fun v H' => v = .tuple ⟨[]⟩ ∧ K H'
theorem NowR.mono {H : Heap} {r N N' : Nat} {now : ByteArray → Option ByteArray} (h : NowR H r now N) (hN : N ≤ N') : NowR H r now N' := by
  obtain ⟨ck, L, hm, hl, hg⟩ := h
  exact ⟨ck, L, hm, by omega, hg⟩
theorem chg_write {b1 b : Nat} {name data : ByteArray} : Chg (.func (.func 35) ⟨[]⟩ ⟨[.pointer (some ⟨b1, 0, none⟩), .pointer (some ⟨b, 0, none⟩)]⟩) (fun H => Blk H ⟨b1, 0, none⟩ [.string data] ∧ Blk H ⟨b, 0, none⟩ [.string name]) fun now => putN now name data := by
  intro r N now H K hG h hk
  obtain ⟨h1, h2⟩ := hG
  refine ⟨35, ⟨[]⟩, _, rfl, by kernel_rfl, ?_⟩
  apply vc_files_Store_Write_1
  exact ⟨_, h2.ld0 (by kernel_rfl) rfl, _, h1.ld0 (by kernel_rfl) rfl, h.put name data fun H' h' hf => ⟨rfl, hk H' h' hf⟩⟩
theorem chg_delete {b : Nat} {name : ByteArray} : Chg (.func (.func 83) ⟨[]⟩ ⟨[.pointer (some ⟨b, 0, none⟩)]⟩) (fun H => Blk H ⟨b, 0, none⟩ [.string name]) fun now => delN now name := by
  intro r N now H K hG h hk
  refine ⟨83, ⟨[]⟩, _, rfl, by kernel_rfl, ?_⟩
  apply vc_files_Store_Delete_1
  exact ⟨_, hG.ld0 (by kernel_rfl) rfl, h.del name fun H' h' hf => ⟨rfl, hk H' (h'.mono (by omega)) hf⟩⟩
end Go.Proofs
set_option linter.unusedVariables false
set_option maxRecDepth 100000
open Go Go.GV
namespace Go.Proofs

theorem zero59 : zeroOf Tryz.prog 122 = some (.agg ⟨[.string ⟨#[]⟩, .slice none 0 0]⟩) := by kernel_rfl
theorem LastR.look2 {H : Heap} {r : Nat} {Q : List Nat} {last : ByteArray → Option (ByteArray × List Int)} (h : LastR H r Q last) (k : ByteArray) :
    ∃ d a n c xs, Rd Tryz.prog (Instr.lookup 79 (.map (some r)) (.string k) true) H (.tuple ⟨[.agg ⟨[.string d, .slice a n c]⟩, .bool (last k).isSome]⟩) ∧ Rd Tryz.prog (Instr.lookup 79 (.map (some r)) (.string k) false) H (.agg ⟨[.string d, .slice a n c]⟩) ∧
      (last k).getD (⟨#[]⟩, []) = (d, xs) ∧ Sl encInt H a n c xs ∧ (∀ k ∈ blkL a, k ∈ Q) := by
  obtain ⟨ck, L, hm, he, hn⟩ := h
  have l1 := lookup_map_ok SM (mt := 79) (e := 122) Tryz.underlying79 zero59 hm k
  have l2 := lookup_map SM (mt := 79) (e := 122) Tryz.underlying79 zero59 hm k
  cases hg : getL k L with
  | none =>
    rw [hg] at l1 l2
    rw [hn k hg]
    exact ⟨_, none, 0, 0, [], l1, l2, rfl, Sl.zero, by simp [blkL]⟩
  | some v =>
    obtain ⟨b, hb⟩ := mem_getL hg
    obtain ⟨d, a, n, c, xs, e, hs, hq, hl⟩ := he _ hb
    rw [hg] at l1 l2
    simp only at e
    subst e
    rw [hl]
    exact ⟨d, a, n, c, xs, l1, l2, rfl, hs, hq⟩

end Go.Proofs
