/- A part of a proof: see the last text of this claim. -/
import Derived.Test.YtgjbljhocedpfaaP10f
import Derived.Test.YtgjbljhocedpfaaP10c
set_option linter.unusedVariables false
set_option maxRecDepth 100000
open Go Go.GV
namespace Go.Proofs

open Classical in
/-- The sectors that are free, below n. -/
noncomputable def freeN (T : Int → Prop) (n : Nat) : List Int := ((List.range n).filter fun k : Nat => decide (2 ≤ k ∧ ¬ T (k : Int))).map fun k : Nat => (k : Int)
theorem freeN_succ (T : Int → Prop) (n : Nat) : freeN T (n + 1) = freeN T n ++ (open Classical in if 2 ≤ n ∧ ¬ T (n : Int) then [(n : Int)] else []) := by
  unfold freeN
  rw [List.range_succ, List.filter_append, List.map_append]
  congr 1
  by_cases h : 2 ≤ n ∧ ¬ T (n : Int)
  · simp [h]
  · simp [h]
theorem freeN_pre (T : Int → Prop) {n m : Nat} (h : n ≤ m) : freeN T n <+: freeN T m := by
  obtain ⟨k, rfl⟩ := Nat.exists_eq_add_of_le h
  clear h
  induction k with
  | zero => exact List.prefix_refl _
  | succ k ih => rw [← Nat.add_assoc, freeN_succ]; exact ih.trans (List.prefix_append _ _)
theorem freeN_two (T : Int → Prop) : freeN T 2 = [] := by
  rw [freeN_succ, freeN_succ]
  simp [freeN]
theorem freeN_len (T : Int → Prop) (n : Nat) : (freeN T n).length ≤ n := by
  unfold freeN
  rw [List.length_map]
  have := List.length_filter_le (fun k : Nat => (open Classical in decide (2 ≤ k ∧ ¬ T (k : Int)))) (List.range n)
  rw [List.length_range] at this
  exact this
theorem freeN_mem {T : Int → Prop} {n : Nat} {k : Int} : k ∈ freeN T n ↔ 2 ≤ k ∧ k < n ∧ ¬ T k := by
  unfold freeN
  simp only [List.mem_map, List.mem_filter, List.mem_range, decide_eq_true_eq]
  constructor
  · rintro ⟨j, ⟨h1, h2, h3⟩, rfl⟩; exact ⟨by omega, by omega, h3⟩
  · rintro ⟨h1, h2, h3⟩
    refine ⟨k.toNat, ⟨by omega, by omega, ?_⟩, by omega⟩
    rw [show ((k.toNat : Nat) : Int) = k by omega]; exact h3
theorem freeN_nodup (T : Int → Prop) (n : Nat) : (freeN T n).Nodup := by
  unfold freeN
  rw [List.nodup_iff_pairwise_ne, List.pairwise_map]
  refine ((List.nodup_iff_pairwise_ne.1 List.nodup_range).filter _).imp fun h e => h (by omega)

theorem free_seq {b b1 rt : Nat} {s d : Addr} {cs : List Value} {T : Int → Prop} {Sd : List Nat} {m : Dk} {N sz : Nat} (hc : cs[0]? = some (.pointer (some d))) (hsz : m.size = sz) (hsz2 : sz ≤ 512) (h2 : 8 ≤ sz) :
    SeqOk Try.prog (fun n => .int .i64 n) (.func (.func 68) ⟨[]⟩ ⟨[.pointer (some ⟨b, 0, none⟩), .pointer (some ⟨b1, 0, none⟩)]⟩) (fun ys => ys <+: freeN T sz) (fun ys => ys = freeN T sz) (b :: b1 :: rt :: s.block :: Sd)
    (fun H => Blk H ⟨b, 0, none⟩ [.pointer (some s)] ∧ Blk H ⟨b1, 0, none⟩ [.map (some rt)] ∧ SetI H rt T ∧ Blk H s cs ∧ DRep H d Sd m N) := by
  intro l H I K S hG hin hd h0 stab step fin
  obtain ⟨hb, hb1, hset, hs, hdk⟩ := hG
  refine ⟨68, ⟨[]⟩, _, rfl, by kernel_rfl, ?_⟩
  apply vc_files_Store_free_1
  refine ⟨fun vs H2 => match vs with | [.int _ i] => ∃ (j : Nat) (S2 : List Nat), i = j ∧ 2 ≤ j ∧ j ≤ sz ∧ I (freeN T j) S2 H2 ∧ Fr S H H2 ∧ Grow H S S2 ∧ In H2 S2 | _ => False,
    fun vs _ => match vs with | [.int _ i] => sz - i.toNat | _ => 0, ⟨2, S, rfl, by omega, by omega, by rw [freeN_two]; exact h0, Fr.refl _ _, Grow.refl _ _, hin⟩, ?_⟩
  rintro J i H2 ⟨j, S2, rfl, hj2, hj, hI, hf, hg, hin2⟩
  have m1 : ∀ k ∈ (b :: b1 :: rt :: s.block :: Sd), k ∉ S := fun k hk hkS => hd k hkS hk
  have hb2 := hb.fr hf (m1 b (by simp))
  have hb12 := hb1.fr hf (m1 b1 (by simp))
  have hset2 := hset.fr hf (m1 rt (by simp))
  have hs2 := hs.fr hf (m1 _ (by simp))
  have hdk2 := hdk.fr hf fun k hk => m1 k (by simp [hk])
  have hmu : sz - (IntKind.i64.wrap ((j : Int) + 1)).toNat < sz - ((j : Nat) : Int).toNat ↔ j < sz := by
    rw [succ64 (by omega)]; omega
  refine ⟨_, hb2.ld0 (by kernel_rfl) rfl, _, hs2.ld0 (by kernel_rfl) hc, Size_ok hdk2 ?_⟩
  show brB (decide ((j : Int) < m.size)) _ _
  refine brB_of (fun hlt => ?_) (fun hge => ?_)
  · have hlt : j < sz := by rw [hsz] at hlt; simpa using hlt
    obtain ⟨bb, hlk, hT⟩ := hset2.look (j : Int)
    refine ⟨_, hb12.ld0 (by kernel_rfl) rfl, bb, hlk, brB_of (fun h3 => ?_) (fun h3 => ?_)⟩
    · have hnT : ¬ T (j : Int) := fun h => by rw [hT.2 h] at h3; cases h3
      have hnext : freeN T (j + 1) = freeN T j ++ [(j : Int)] := by rw [freeN_succ, if_pos ⟨hj2, hnT⟩]
      refine .inr ⟨l, rfl, (step (freeN T j) (j : Int) S2 H2 (by rw [← hnext]; exact freeN_pre T hlt) hin2 hI).mono fun v H3 => ?_⟩
      rintro ⟨rfl, S3, hI3, hf3, hg3, hin3⟩
      refine ⟨true, rfl, brB_of (fun h => by simp at h) fun _ => ⟨⟨j + 1, S3, succ64 (by omega), by omega, by omega, by rw [hnext]; exact hI3, ?_, ?_, hin3⟩, hmu.2 hlt⟩⟩
      · exact hf.trans' hf3 (fun k hk _ => hk) (fun k hk hl => (hg k hk).elim id fun h => by omega)
      · exact hg.trans hf.size hg3
    · have hTj : T (j : Int) := by
        cases bb with
        | true => exact hT.1 rfl
        | false => cases h3
      have hnext : freeN T (j + 1) = freeN T j := by rw [freeN_succ, if_neg (fun h => h.2 hTj), List.append_nil]
      exact ⟨⟨j + 1, S2, succ64 (by omega), by omega, by omega, by rw [hnext]; exact hI, hf, hg, hin2⟩, hmu.2 hlt⟩
  · have hge : j = sz := by rw [hsz] at hge; simp at hge; omega
    subst hge
    exact ⟨rfl, fin _ S2 H2 rfl hI hin2 hf hg⟩

theorem collectI_ok {seq : Value} {A F : List Int → Prop} {Q : List Nat} {G : Heap → Prop} {H : Heap} {K : Option Addr → Nat → Nat → Heap → Prop} (hq : SeqOk Try.prog (fun n => .int .i64 n) seq A F Q G)
    (hA : ∀ ys, A ys → ys.length ≤ 1000000000000) (hG : ∀ H', Fr [] H H' → G H') (hQ : ∀ k ∈ Q, k < H.size)
    (hk : ∀ xs a n c H', F xs → Own encInt 3 H.size H' a n c xs → Fr [] H H' → K a n c H') :
    CallH Try.prog 53 ⟨[seq]⟩ H fun v H' => ∃ a n c, v = .slice a n c ∧ K a n c H' := by
  apply vc_slices_Collect_int_
  apply vc_slices_AppendSeq___int_int_
  exact collect_loop (K := fun a n c H' => ∃ a' n' c', Value.slice a n c = .slice a' n' c' ∧ ∃ a'' n'' c'', Value.slice a' n' c' = .slice a'' n'' c'' ∧ K a'' n'' c'' H') (E := encInt) (t := 3) (bytes := 8) slice53 elem3 (by kernel_rfl) (by kernel_rfl) (by kernel_rfl) (fun _ => rfl) hq (fun ys h => by have := hA ys h; omega) hG hQ fun xs a n c H' h1 h2 h3 => ⟨_, _, _, rfl, _, _, _, rfl, hk xs a n c H' h1 h2 h3⟩

/-- The free sectors, gathered. -/
theorem freeList_ok {s d : Addr} {cs : List Value} {rl : Nat} {Q Sd : List Nat} {m : Dk} {N : Nat} {last : ByteArray → Option (ByteArray × List Int)} {a : Option Addr} {n c : Nat} {dir : List Int} {H : Heap} {K : Option Addr → Nat → Nat → Heap → Prop} (hs : Blk H s cs)
    (h0 : cs[0]? = some (.pointer (some d))) (h2 : cs[2]? = some (.map (some rl))) (h3 : cs[3]? = some (.slice a n c)) (hdk : DRep H d Sd m N) (hl : LastR H rl Q last) (hd : Sl encInt H a n c dir) (hn : n ≤ 1000000000)
    (hq : ∀ nm d xs, last nm = some (d, xs) → xs.length ≤ 1000000000)
    (hk : ∀ a n c H', Own encInt 3 H.size H' a n c (freeN (lastS last dir) m.size.toNat) → Fr [] H H' → K a n c H') :
    CallH Try.prog 54 ⟨[.pointer (some s)]⟩ H fun v H' => ∃ v_1, v = v_1 ∧ CallH Try.prog 53 ⟨[v_1]⟩ H' fun v H' => ∃ a n c, v = .slice a n c ∧ K a n c H' := by
  apply vc_files_Store_free
  intro b H1 hn1
  have hb := hn1.eq
  have hs1 := hn1.size
  have f1 := hn1.fr
  refine ⟨_, hn1.blk.ld0 (by kernel_rfl) rfl, ?_⟩
  have := lasting_ok (K := fun r H' => ∀ (b_1 : Nat) (H'_1 : Heap), New H' b_1 (.cells ⟨[.map none]⟩ 82) H'_1 → ∃ H'', St Try.prog 82 H'_1 ⟨b_1, 0, none⟩ (.map (some r)) H'' ∧ ∃ v_1, Value.func (.func 68) ⟨[]⟩ ⟨[.pointer (some ⟨b, 0, none⟩), .pointer (some ⟨b_1, 0, none⟩)]⟩ = v_1 ∧ CallH Try.prog 53 ⟨[v_1]⟩ H'' fun v H' => ∃ a n c, v = .slice a n c ∧ K a n c H')
    (hs.keep f1) h2 h3 (hl.keep f1) (hd.keep f1) hn hq fun r H2 hset hr f2 => ?_
  · refine CallH.mono this fun v H' => ?_
    rintro ⟨r, rfl, r', rfl, h⟩
    exact ⟨_, rfl, h⟩
  · refine var_blk (by kernel_rfl) (by kernel_rfl) (fun x hx => by simp [Value.cells] at hx; subst hx; rfl) (by rfl) fun b1 H3 hb1 hbk f3 => ⟨_, rfl, ?_⟩
    have f2' := f1.keep0 f2
    have f3' := f2'.keep0 f3
    have hsz : 8 ≤ m.size ∧ m.size ≤ 512 := by
      obtain ⟨r0, ck0, L0, hdl⟩ := hdk.it
      exact hdl.size
    have hin : In H Sd := hdk.inS
    refine collectI_ok (free_seq (b := b) (b1 := b1) (rt := r) (s := s) (d := d) (cs := cs) (T := lastS last dir) (Sd := Sd) (m := m) (N := N) (sz := m.size.toNat) h0 (by omega) (by omega) (by omega)) (fun ys h => ?_) (fun H' hf => ?_) (fun k hk' => ?_) fun xs a n c H4 hF ho hf => ?_
    · have := h.length_le
      have := freeN_len (lastS last dir) m.size.toNat
      omega
    · exact ⟨((hn1.blk.keep f2).keep f3).keep hf, hbk.keep hf, (hset.fr f3 (by simp)).fr hf (by simp), (hs.keep f3').keep hf, (hdk.keep f3').keep hf⟩
    · simp only [List.mem_cons] at hk'
      have s2 := f2.size
      have s3 := f3.size
      have sb1 := hbk.lt
      have sr := hset.lt
      have ss := hs.lt
      rcases hk' with rfl | rfl | rfl | rfl | h
      · omega
      · exact sb1
      · omega
      · omega
      · have := hin k h; omega
    · subst hF
      exact hk a n c H4 (ho.base (by have := f3'.size; omega)) (f3'.keep0 hf)
end Go.Proofs
