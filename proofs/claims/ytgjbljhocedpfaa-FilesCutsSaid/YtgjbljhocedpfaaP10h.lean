/- A part of a proof: see the last text of this claim. -/
import Derived.Test.YtgjbljhocedpfaaP10g
set_option linter.unusedVariables false
set_option maxRecDepth 100000
open Go Go.GV
namespace Go.Proofs

def nCh (n : Nat) : Nat := (n + 63) / 64
def piece (a : Option Addr) (n i : Nat) : Option Addr × Nat × Nat := (slA (min (64 * i + 64) n) (64 * i) 1 a, min (64 * i + 64) n - 64 * i, min (64 * i + 64) n - 64 * i)
def pieces (a : Option Addr) (n : Nat) : List (Option Addr × Nat × Nat) := (List.range (nCh n)).map (piece a n)
def encP (x : Option Addr × Nat × Nat) : Value := .slice x.1 x.2.1 x.2.2
def chunkB (l : List UInt8) : List (List UInt8) := (List.range (nCh l.length)).map fun i => (l.take (min (64 * i + 64) l.length)).drop (64 * i)
/-- The chunks of a text. -/
def chunksS (s : ByteArray) : List ByteArray := (chunkB (bl s)).map fun l => ⟨l.toArray⟩
theorem pieces_len (a : Option Addr) (n : Nat) : (pieces a n).length = nCh n := by simp [pieces]
theorem chunksS_len (s : ByteArray) : (chunksS s).length = nCh s.size := by simp [chunksS, chunkB, bl_len]
theorem take_succ_range {α : Type} (f : Nat → α) {k n : Nat} (h : k < n) : ((List.range n).map f).take (k + 1) = ((List.range n).map f).take k ++ [f k] := by
  rw [List.take_add_one]
  simp [h]

theorem chunk_seq {b b1 : Nat} {a : Option Addr} {n c : Nat} (hn : n ≤ 1000000000000) (hc : n ≤ c) :
    SeqOk Try.prog encP (.func (.func 76) ⟨[]⟩ ⟨[.pointer (some ⟨b, 0, none⟩), .pointer (some ⟨b1, 0, none⟩)]⟩) (fun ys => ys <+: pieces a n) (fun ys => ys = pieces a n) [b, b1]
    (fun H => Blk H ⟨b, 0, none⟩ [.slice a n c] ∧ Blk H ⟨b1, 0, none⟩ [.int .i64 64]) := by
  intro l H I K S hG hin hd h0 stab step fin
  obtain ⟨hb, hb1⟩ := hG
  refine ⟨76, ⟨[]⟩, _, rfl, by kernel_rfl, ?_⟩
  apply vc_slices_Chunk___byte_byte__1
  refine ⟨fun vs H2 => match vs with | [.int _ i] => ∃ (j : Nat) (S2 : List Nat), i = ((64 * j : Nat) : Int) ∧ j ≤ nCh n ∧ I ((pieces a n).take j) S2 H2 ∧ Fr S H H2 ∧ Grow H S S2 ∧ In H2 S2 | _ => False,
    fun vs _ => match vs with | [.int _ i] => n + 64 - i.toNat | _ => 0, ⟨0, S, rfl, by omega, by simpa using h0, Fr.refl _ _, Grow.refl _ _, hin⟩, ?_⟩
  rintro J i H2 ⟨j, S2, rfl, hj, hI, hf, hg, hin2⟩
  have m1 : ∀ k ∈ [b, b1], k ∉ S := fun k hk hkS => hd k hkS hk
  have hb2 := hb.fr hf (m1 b (by simp))
  have hb12 := hb1.fr hf (m1 b1 (by simp))
  have hch : nCh n = (n + 63) / 64 := rfl
  refine ⟨a, n, c, hb2.ld0 (by kernel_rfl) rfl, brB_of (fun h => ?_) (fun h => ?_)⟩
  · have hlt : 64 * j < n := by
      have h1 : ((64 * j : Nat) : Int) < (n : Int) := by simpa using h
      omega
    have hj' : j < nCh n := by omega
    refine ⟨64, hb12.ld0 (by kernel_rfl) rfl, a, n, c, hb2.ld0 (by kernel_rfl) rfl, chk_true (decide_eq_true (by omega)) ⟨a, n, c, hb2.ld0 (by kernel_rfl) rfl, ?_⟩⟩
    have e0 : (((64 * j : Nat) : Int) + if (((n : Int).toNat - ((64 * j : Nat) : Int).toNat : Nat) : Int) < 64 then (((n : Int).toNat - ((64 * j : Nat) : Int).toNat : Nat) : Int) else 64) = ((min (64 * j + 64) n : Nat) : Int) := by
      split <;> omega
    have e1 : IntKind.i64.wrap (((64 * j : Nat) : Int) + if (((n : Int).toNat - ((64 * j : Nat) : Int).toNat : Nat) : Int) < 64 then (((n : Int).toNat - ((64 * j : Nat) : Int).toNat : Nat) : Int) else 64) = ((min (64 * j + 64) n : Nat) : Int) := by
      rw [e0, wrap64_of (by omega) (by omega)]
    rw [e1]
    refine chk_true (decide_eq_true (by omega)) ?_
    have hnext : (pieces a n).take (j + 1) = (pieces a n).take j ++ [piece a n j] := take_succ_range _ hj'
    refine .inr ⟨l, rfl, (step ((pieces a n).take j) (piece a n j) S2 H2 (by rw [← hnext]; exact List.take_prefix _ _) hin2 hI).mono fun v H3 => ?_⟩
    rintro ⟨rfl, S3, hI3, hf3, hg3, hin3⟩
    have hf' : Fr S H H3 := hf.trans' hf3 (fun k hk _ => hk) (fun k hk hl => (hg k hk).elim id fun h => by omega)
    refine ⟨true, rfl, brB_of (fun h => by simp at h) fun _ => ⟨64, (hb1.fr hf' (m1 b1 (by simp))).ld0 (by kernel_rfl) rfl, ⟨j + 1, S3, ?_, by omega, by rw [hnext]; exact hI3, hf', hg.trans hf.size hg3, hin3⟩, ?_⟩⟩
    · rw [wrap64_of (by omega) (by omega)]; omega
    · show n + 64 - (IntKind.i64.wrap (((64 * j : Nat) : Int) + 64)).toNat < n + 64 - (((64 * j : Nat) : Int)).toNat
      rw [wrap64_of (by omega) (by omega)]; omega
  · have hge : n ≤ 64 * j := by
      have h1 : ¬ ((64 * j : Nat) : Int) < (n : Int) := by simpa using h
      omega
    have hjj : j = nCh n := by omega
    subst hjj
    refine ⟨rfl, fin _ S2 H2 ?_ hI hin2 hf hg⟩
    rw [List.take_of_length_le (by rw [pieces_len]; exact Nat.le_refl _)]

theorem chunks_ok {s : ByteArray} {H : Heap} {K : Option Addr → Nat → Nat → Heap → Prop} (hs : s.size ≤ 1000000000)
    (hk : ∀ a n c H', Own GV.encStr 9 H.size H' a n c (chunksS s) → Fr [] H H' → K a n c H') :
    CallH Try.prog fn_files_chunks ⟨[.string s]⟩ H fun v H' => ∃ a n c, v = .slice a n c ∧ K a n c H' := by
  apply vc_files_chunks
  intro b H1 hn1
  have hb := hn1.eq
  have hs1 := hn1.size
  refine cv_sb bT.str bT.sl (by kernel_rfl) fun q qc H2 hq hsl f2 => ?_
  apply vc_slices_Chunk___byte_byte_
  intro b2 H3 hn3 b3 H4 hn4
  have hs3 := hn3.size
  have hs4 := hn4.size
  have e3 := hn3.eq
  have e4 := hn4.eq
  have s2 := f2.size
  have f13 : Fr [] H1 H3 := f2.keep0 hn3.fr
  have f14 : Fr [] H1 H4 := f13.keep0 hn4.fr
  refine ⟨64, hn4.blk.ld0 (by kernel_rfl) rfl, brB_of (fun h => by simp at h) fun _ => ⟨_, rfl, fun D l R0 H5 hnl hY => ?_⟩⟩
  have hblk := hn1.blk.keep f14
  obtain ⟨hI0, hin0⟩ := ColI.start (E := GV.encStr) (t := 9) (hn1.fr.keep0 f14) hblk (by omega) hnl
  obtain ⟨f45, _, _, eD, el, s5⟩ := hnl.out
  have hcap := hsl.cap
  have s45 := f45.size
  have hql : 0 < s.size → q < H2.size := fun h => by
    obtain ⟨b', off, e, hlt⟩ := hsl.arr.lt (by intro e; have := bl_len s; rw [e] at this; simp at this; omega)
    cases e
    exact hlt
  have hcs : chunksS s = (List.range (nCh s.size)).map fun i => (⟨((bl s).take (min (64 * i + 64) s.size) |>.drop (64 * i)).toArray⟩ : ByteArray) := by
    unfold chunksS chunkB
    rw [List.map_map, bl_len]
    rfl
  refine CallV.mono ((chunk_seq (b := b2) (b1 := b3) (a := some ⟨q, 0, none⟩) (n := s.size) (c := qc) (by omega) hcap) l H5
    (fun ys S Hx => ColI GV.encStr 9 H.size l D b R0 H ((chunksS s).take ys.length) S Hx ∧ (0 < s.size → Sl encByte Hx (some ⟨q, 0, none⟩) s.size qc (bl s) ∧ q ∉ S))
    (fun H4 => _) [b, l, D] ⟨(hn3.blk.keep hn4.fr).keep f45, hn4.blk.keep f45⟩ hin0 ?_ ⟨hI0, fun h0 => ⟨(hsl.keep (hn3.fr.keep0 hn4.fr)).keep f45, ?_⟩⟩ ?_ ?_ ?_) fun v H' h => h.2
  · intro k hk hkq
    simp only [List.mem_cons, List.mem_nil_iff, or_false] at hk hkq
    omega
  · have := hql h0
    intro h
    simp only [List.mem_cons, List.mem_nil_iff, or_false] at h
    omega
  · rintro ys S Ha Hb T ⟨hI, hx⟩ hf hd hT
    refine ⟨hI.stay hf hd fun k hk => by have := hT k hk; have := hn1.fr.size; omega, fun h0 => ⟨(hx h0).1.fr hf fun ad e hh => ?_, (hx h0).2⟩⟩
    cases e
    have h1 : H5.size ≤ q := hT _ hh
    have h2 := hql h0
    omega
  · rintro ys x S Hx hA hin ⟨hI, hx⟩
    have hj : ys.length < nCh s.size := by
      have := hA.length_le
      rw [pieces_len] at this
      simp at this
      omega
    have hch : nCh s.size = (s.size + 63) / 64 := rfl
    have h0 : 0 < s.size := by omega
    have hxe : x = piece (some ⟨q, 0, none⟩) s.size ys.length := by
      obtain ⟨zs, hz⟩ := hA
      have h1 : (pieces (some ⟨q, 0, none⟩) s.size)[ys.length]? = some x := by rw [← hz]; simp
      unfold pieces at h1
      simp [hj] at h1
      exact h1.symm
    subst hxe
    obtain ⟨hsx, hqS⟩ := hx h0
    obtain ⟨a2, n2, c2, hbk, ho, hS, m1, m2, m3⟩ := hI.it
    have hlq : q ≠ l := fun e => hqS (by simp [hS, e])
    refine hY _ _ _ Hx _ hI.lp ⟨hI.lp, a2, n2, c2, (hbk.fr (setLp_fr Hx l R0 .busy none) (by simp [hI.bl])).ld0 (by kernel_rfl) rfl, ?_⟩
    have hlen := bl_len s
    have hcut := (hsx.fr (setLp_fr Hx l R0 .busy none) (fun ad e hh => by cases e; simp at hh; exact hlq hh)).cut (k := 64 * ys.length) (m := min (64 * ys.length + 64) s.size) (by omega) (by omega)
    have hslA : slA qc (64 * ys.length) 1 (some ⟨q, 0, none⟩) = slA (min (64 * ys.length + 64) s.size) (64 * ys.length) 1 (some ⟨q, 0, none⟩) := by
      rw [slA_eq, slA_eq, if_neg (by omega), if_neg (by omega)]
    have hsl2 : Sl encByte (setLp Hx l R0 .busy none) (piece (some ⟨q, 0, none⟩) s.size ys.length).1 (piece (some ⟨q, 0, none⟩) s.size ys.length).2.1 (piece (some ⟨q, 0, none⟩) s.size ys.length).2.2 (((bl s).take (min (64 * ys.length + 64) s.size)).drop (64 * ys.length)) := by
      refine ⟨hcut.len, Nat.le_refl _, ?_⟩
      have h1 := hcut.arr
      rw [show encByte.sz = 1 from rfl, hslA] at h1
      exact h1
    have hnext : (chunksS s).take (ys.length + 1) = (chunksS s).take ys.length ++ [⟨(((bl s).take (min (64 * ys.length + 64) s.size)).drop (64 * ys.length)).toArray⟩] := by
      rw [hcs]; exact take_succ_range _ hj
    refine cv_bs (e := 5) bT.sl bT.str (by kernel_rfl) hsl2 ?_
    refine hI.more (E := GV.encStr) (bytes := 16) (x := ⟨(((bl s).take (min (64 * ys.length + 64) s.size)).drop (64 * ys.length)).toArray⟩) slice41 elem9 (by kernel_rfl) (by kernel_rfl) rfl hin hbk ho hS m1 m2 m3 ?_ (Fr.refl _ _) fun H6 S6 lp6 hI6 f6 g6 in6 => ⟨lp6, rfl, S6, ⟨?_, fun _ => ⟨?_, ?_⟩⟩, f6, g6, in6⟩
    · rw [List.length_take, chunksS_len]; omega
    · rw [List.length_append, List.length_singleton, hnext]; exact hI6
    · exact hsx.fr f6 fun ad e hh => by cases e; exact hqS hh
    · intro h
      have h1 := hql h0
      have h2 := hin0 b (by simp)
      rcases g6 q h with h | h
      · exact hqS h
      · have := hI.fr.size
        have h3 : q < Hx.size := by
          obtain ⟨b', off, e, hlt⟩ := hsx.arr.lt (by intro e; rw [e] at hlen; simp at hlen; omega)
          cases e
          exact hlt
        omega
  · rintro xs S1 H6 rfl ⟨hI, _⟩ hin hf hg
    refine .inl (hI.done (P := Try.prog) (ts := 41) (K := fun a n c H' => ∃ a_1 n_1 c_1, Value.slice a n c = Value.slice a_1 n_1 c_1 ∧ K a_1 n_1 c_1 H') (by kernel_rfl) fun a n c H7 ho hf7 _ => ⟨_, _, _, rfl, hk a n c H7 ?_ hf7⟩)
    rw [pieces_len, List.take_of_length_le (by rw [chunksS_len]; exact Nat.le_refl _)] at ho
    exact ho
end Go.Proofs
