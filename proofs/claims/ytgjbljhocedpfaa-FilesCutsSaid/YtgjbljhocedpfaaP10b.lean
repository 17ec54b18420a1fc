/- A part of a proof: see the last text of this claim. -/
import Derived.Test.YtgjbljhocedpfaaL10
import Derived.Test.YtgjbljhocedpfaaGvSort
import Derived.Test.YtgjbljhocedpfaaSh10
set_option linter.unusedVariables false
set_option maxRecDepth 20000
open Go Go.GV
namespace Go.Proofs

theorem clear_map {H : Heap} {r ck : Nat} {L : List (Ent Int)} {ty : TypeId} {K : Heap → Prop} (h : MapR MT H r ck L)
    (hk : ∀ H', MapR MT H' r ck [] → Fr [r] H H' → K H') : SemWp Try.prog (Builtin.clear_ ⟨[60]⟩ ty ⟨[.map (some r)]⟩) H fun v H' => v = .tuple ⟨[]⟩ ∧ K H' := by
  intro E d
  refine ⟨.tuple ⟨[]⟩, setH H r (.map ⟨[]⟩ ck), d, ?_, rfl, hk _ ⟨by rw [setH_get h.blk]; rfl, by simp, by simp, by simp⟩ (setH_fr _ _ _)⟩
  unfold Builtin.clear_
  simp only [List.getElem?_toArray, List.getElem?_cons_zero]
  rw [Sem.run_bind, run_underlying' Try.underlying60]
  simp only [Result.andThen_ok]
  rw [Sem.run_bind, getObj_run h.blk _ rfl]
  simp only [Result.andThen_ok]
  rw [Sem.run_bind, setObj_run h.blk]
  rfl

theorem nodup_le : ∀ (l k : List Int), l.Nodup → (∀ x ∈ l, x ∈ k) → l.length ≤ k.length
  | [], _, _, _ => Nat.zero_le _
  | x :: l, k, h, hs => by
    have h' := List.nodup_cons.1 h
    have hx := hs x (by simp)
    have := nodup_le l (k.erase x) h'.2 fun y hy => by
      have hne : y ≠ x := fun e => h'.1 (by rw [← e]; exact hy)
      exact (List.mem_erase_of_ne hne).2 (hs y (by simp [hy]))
    rw [List.length_erase_of_mem hx] at this
    have hp := List.length_pos_of_mem hx
    simp only [List.length_cons]
    omega
theorem nodup_512 {n : Nat} {l : List Int} (h : l.Nodup) (hb : ∀ x ∈ l, 0 ≤ x ∧ x < n) : l.length ≤ n := by
  have := nodup_le l ((List.range n).map fun i : Nat => (i : Int)) h fun x hx => by
    have := hb x hx
    exact List.mem_map.2 ⟨x.toNat, List.mem_range.2 (by omega), by omega⟩
  simpa using this

theorem DL.stI {H : Heap} {d : Addr} {r ck : Nat} {L : List (Ent Int)} {S : List Nat} {m : Dk} {i : Nat} {z : Int} {s : ByteArray} {X : Heap → Prop} (h : DL H d r ck L S m) (hz : z = i) (hi : i < 512)
    (k : ∀ H', DL H' d r ck L S { m with is := fun k => if k = i then s else m.is k } → Fr [d.block] H H' → X H') : ∃ H', St Try.prog 9 H ((d.add 1).add (z.toNat * 1)) (.string s) H' ∧ X H' := by
  have hbl := Blk.len_lt h.blk
  subst hz
  rw [addr2 d 1 _ (by rw [hbl]) hbl, Int.toNat_natCast, Nat.mul_one]
  refine Blk.set h.blk (by kernel_rfl) (by kernel_rfl) rfl rfl (by rw [dkC_len]; omega) fun H' hb hf => k H' ⟨?_, h.map.fr MT hf (by simp [Ne.symm h.ne]), h.ne, fun x hx => ?_, h.apart, h.good, h.rest, h.size, h.foot⟩ hf
  · rwa [dkC_setI m r hi s] at hb
  · obtain ⟨a, n, c, e, ho, hk⟩ := h.ents x hx
    exact ⟨a, n, c, e, ho.fr hf fun ad ea => by simpa using (hk ad.block (by simp [blkL, ea])).2.1, hk⟩

set_option maxRecDepth 20000 in
theorem settle_ok {pick : Value} {pk : Nat → Nat → Nat} {G : Heap → Prop} {d : Addr} {S : List Nat} {m : Dk} {N : Nat} {H : Heap} {K : Heap → Prop} (h : DRep H d S m N) (hN : N ≤ 1000000)
    (hp : ∀ (j n : Nat) (H' : Heap) (K' : Int → Heap → Prop), n ≤ N → j ≤ 512 → G H' → K' (pk j n : Int) H' → CallV Try.prog pick [.int .i64 (j : Int), .int .i64 (n : Int)] H' fun v H'' => ∃ r, v = .int .i64 r ∧ K' r H'')
    (hb : ∀ j n, pk j n ≤ n) (hG : ∀ H', Fr S H H' → G H') (hk : ∀ H', DRep H' d S (settleM pk m) N → Fr S H H' → K H') :
    CallH Try.prog fn_block_Disk_settle ⟨[.pointer (some d), pick]⟩ H fun v H' => v = .tuple ⟨[]⟩ ∧ K H' := by
  apply vc_block_Disk_settle
  obtain ⟨r, ck, L, hd⟩ := h.it
  have hsz := hd.size
  refine ⟨some r, hd.ldM, range_map MT (mt := 60) (e := 41) Try.underlying60 hd.map fun it H1 hn1 => ?_⟩
  have hit : H.size ≤ it := by have := hn1.eq; omega
  have hSlt : ∀ k ∈ S, k < H.size := h.inS
  refine ⟨fun vs H' => match vs with | [.slice o p q] => ∃ (ks : List Int) (seen : Array Nat), Own encInt 3 H.size H' o p q ks ∧ ks.Nodup ∧ (∀ k, k ∈ ks ↔ ∃ x ∈ L, x.1 = k ∧ x.2.2 ∈ seen) ∧ H'[it]? = some (.mapIter (some r) ck seen ck) ∧ it ∉ blkL o ∧ Fr [] H H' | _ => False,
    fun _ H' => pendH H' r it, ⟨[], #[], Own.nil _ _ _ _, by simp, by simp, hn1.get, by simp [blkL], hn1.fr⟩, ?_⟩
  rintro J o p q H2 ⟨ks, seen, ho, hnd, hmem, hi2, hito, hf2⟩
  have hd2 := hd.fr (T := []) hf2 (fun _ _ => by simp)
  have hrange : ∀ k ∈ ks, 0 ≤ k ∧ k < (512 : Nat) := fun k hk => by
    obtain ⟨x, hx, rfl, _⟩ := (hmem k).1 hk
    have := hd.good x hx
    omega
  have hpl := ho.1
  have hp512 : p ≤ 512 := by rw [hpl]; exact nodup_512 hnd hrange
  refine next_map MT hd2.map hi2 (fun hall => ?_) fun x hx hns H3 hi3 hf3 => ?_
  · refine sortI_ok Try.sortI (k := 60) rfl ho (by omega) fun H3 ho3 hf3 => ?_
    have hsort := sorted_ws (m := m) hnd fun k => by
      rw [hmem]
      constructor
      · rintro ⟨x, hx, rfl, _⟩
        have := hd.good x hx
        exact ⟨this.2.1, by omega, this.1⟩
      · rintro ⟨h1, h2, h3⟩
        cases hg : getL k L with
        | none => exact absurd (hd.rest k hg) h3
        | some v =>
          obtain ⟨b, hb⟩ := mem_getL hg
          exact ⟨_, hb, rfl, hall _ hb⟩
    rw [hsort] at ho3
    have hf03 : Fr [] H H3 := hf2.keep hf3 fun k hk => (ho.ge k hk).1
    have hpW : p = (wsL m).length := by have := ho3.1; simpa using this
    have hd3 := hd.fr (T := []) hf03 (fun _ _ => by simp)
    have hob : ∀ {Hx : Heap}, Fr S H3 Hx → Own encInt 3 H.size Hx o p q ((wsL m).map fun i : Nat => (i : Int)) := fun hf => ho3.fr hf fun ad ea hk => by
      have h1 := (ho3.ge ad.block (by simp [blkL, ea])).1
      have h2 := hSlt _ hk
      omega
    refine ⟨fun vs H' => match vs with | [.int _ i] => ∃ j : Nat, i = j ∧ j ≤ p ∧ DL H' d r ck L S (midM pk m j) ∧ Fr S H3 H' | _ => False,
      fun vs _ => match vs with | [.int _ i] => p - i.toNat | _ => 0, ⟨0, rfl, by omega, by rw [midM_zero]; exact hd3, (Fr.refl _ _)⟩, ?_⟩
    rintro J2 i H4 ⟨j, rfl, hj, hd4, hf4⟩
    have hf04 : Fr S H H4 := (hf03.mono (by simp)).trans' hf4 (fun _ h _ => h) (fun _ h _ => h)
    refine brB_of (fun h0 => ?_) (fun h0 => ?_)
    · have h0' : j < p := by simpa using h0
      have hx1 : (wsL m)[j]? = some ((wsL m)[j]'(by omega)) := by simp
      generalize (wsL m)[j]'(by omega) = i at hx1
      obtain ⟨hi512, hwi, hrk⟩ := wsL_get hx1
      have hx2 : ((wsL m).map fun i : Nat => (i : Int))[j]? = some (i : Int) := by simp [hx1]
      refine (hob hf4).sl.get rfl hx2 (decide_eq_true (by omega)) fun ad ea hc => ⟨_, ld_one (by kernel_rfl) hc, ?_⟩
      obtain ⟨a, n, c, hl, how, hbk, _, _⟩ := hd4.look (i : Int)
      have how : Own GV.encStr 9 0 H4 a n c (m.wait (i : Int)) := how
      have hn := how.1
      have hw := h.wlen (i : Int)
      refine ⟨some r, hd4.ldM, a, n, c, hl, ?_⟩
      refine hp j n H4 _ (by omega) (by omega) (hG _ hf04) ?_
      have hpk := hb j n
      rw [succ64 (by omega)]
      have hset : setl pk m i = if 0 < pk j n then ((m.wait (i : Int))[pk j n - 1]?).getD (m.is i) else m.is i := by
        rw [setl, if_neg hwi, hrk, ← hn]
      refine brB_of (fun h1 => ?_) (fun h1 => ?_)
      · have h1' : 0 < pk j n := by simpa using h1
        rw [pred64 (by omega) h1']
        have hy : (m.wait (i : Int))[pk j n - 1]? = some ((m.wait (i : Int))[pk j n - 1]'(by omega)) := by simp
        rw [if_pos h1', hy] at hset
        generalize (m.wait (i : Int))[pk j n - 1]'(by omega) = s at hy hset
        refine how.sl.get rfl hy (decide_eq_true (by omega)) fun bd eb hc2 => ⟨_, ld_one (by kernel_rfl) hc2, chk_of ⟨by omega, by omega⟩ ?_⟩
        refine hd4.stI rfl hi512 fun H5 hd5 hf5 => ⟨⟨j + 1, rfl, by omega, ?_, hf4.trans' hf5 (fun _ h _ => h) (fun k hk _ => by simp at hk; subst hk; exact hd.foot.1)⟩, mu_lt h0'⟩
        have e : midM pk m (j + 1) = { midM pk m j with is := fun k => if k = i then s else (midM pk m j).is k } := by
          have : (midM pk m (j + 1)).is = fun k => if k = i then s else (midM pk m j).is k := funext fun k => by
            rw [midM_succ hx1 k, hset]; rfl
          simp only [midM] at this ⊢
          rw [this]
        rw [e]
        exact hd5
      · refine ⟨⟨j + 1, rfl, by omega, ?_, hf4⟩, mu_lt h0'⟩
        rw [if_neg (by simpa using h1)] at hset
        have e : midM pk m (j + 1) = midM pk m j := by
          have : (midM pk m (j + 1)).is = (midM pk m j).is := funext fun k => by
            rw [midM_succ hx1 k, hset]
            split
            · rename_i e
              subst e
              simp only [midM]
              split
              · exact hset.symm
              · rfl
            · rfl
          simp only [midM] at this ⊢
          rw [this]
        rw [e]
        exact hd4
    · have hj' : j = (wsL m).length := by simp at h0; omega
      subst hj'
      refine ⟨some r, hd4.ldM, clear_map hd4.map fun H5 hm5 hf5 => ⟨rfl, ?_⟩⟩
      have hf05 : Fr S H H5 := hf04.trans' hf5 (fun _ h _ => h) (fun k hk _ => by simp at hk; subst hk; exact hd.foot.2)
      refine hk H5 ⟨⟨r, ck, [], ?_⟩, h.left, h.calls, fun _ => by simp [settleM], h.inS.le hf05.size⟩ hf05
      refine ⟨?_, hm5, hd.ne, by simp, by simp, by simp, fun _ _ => rfl, hd.size, hd.foot⟩
      have hb5 := hd4.blk.fr hf5 (by simp [hd.ne])
      have e : dkC (midM pk m (wsL m).length) r = dkC (settleM pk m) r := by
        have : secs (midM pk m (wsL m).length).is 512 = secs (settleM pk m).is 512 := by
          refine List.map_congr_left fun i hi => ?_
          rw [midM_all (List.mem_range.1 hi)]
          rfl
        rw [dkC, dkC, this]
        rfl
      rwa [e] at hb5
  · have hd3 := hd2.fr hf3 (fun k hk => by have := hSlt k hk; simp; omega)
    refine entry_map MT hd3.map hi3 hx rfl ⟨_, rfl, fun b H4 hn4 => ?_⟩
    have hf03 : Fr [] H H3 := hf2.keep hf3 (by simpa using hit)
    have ho3 : Own encInt 3 H.size H3 o p q ks := ho.fr hf3 fun ad ea => by
      simp only [List.mem_singleton]
      intro e
      exact hito (by simp [blkL, ea, e])
    have hf4 := hn4.fr
    refine ap_grow (E := encInt) (t := 3) (bytes := 8) (base := H.size) slice53 elem3 (ho3.keep hf4) (sl_one encInt x.1 hn4 rfl) (hf03.keep0 hf4).size (by omega) fun o' p' q' H5 ho5 hf5 hg5 => ?_
    have hf05 : Fr [] H H5 := (hf03.keep0 hf4).keep hf5 fun k hk => (ho.ge k hk).1
    have hi5 : H5[it]? = some (.mapIter (some r) ck (seen.push x.2.2) ck) := hf5.get (hf4.get0 hi3) hito
    have hw := hd.map.wf
    have hnk : x.1 ∉ ks := fun hk => by
      obtain ⟨y, hy, e, hs⟩ := (hmem x.1).1 hk
      rw [ent_key hw hy hx e] at hs
      exact hns hs
    refine ⟨⟨ks ++ [x.1], seen.push x.2.2, ho5, ?_, fun k => ?_, hi5, fun hk => ?_, hf05⟩, ?_⟩
    · rw [List.nodup_append]
      refine ⟨hnd, by simp, fun a ha b hb => ?_⟩
      simp only [List.mem_singleton] at hb
      subst hb
      exact fun e => hnk (by rw [← e]; exact ha)
    · rw [List.mem_append, hmem, List.mem_singleton]
      constructor
      · rintro (⟨y, hy, e, hs⟩ | rfl)
        · exact ⟨y, hy, e, by simp [hs]⟩
        · exact ⟨x, hx, rfl, by simp⟩
      · rintro ⟨y, hy, rfl, hs⟩
        rcases Array.mem_push.1 hs with hs | hs
        · exact .inl ⟨y, hy, rfl, hs⟩
        · exact .inr (by rw [ent_born hw hy hx hs])
    · rcases hg5 _ hk with h1 | h1
      · exact hito h1
      · have := lt_of_get (hf4.get0 hi3); omega
    · show pendH H5 r it < pendH H2 r it
      have hm5 : MapR MT H5 r ck L := (hd.fr (T := []) hf05 (fun _ _ => by simp)).map
      rw [pendH_eq MT hm5 hi5, pendH_eq MT hd2.map hi2]
      exact pendB_push (List.mem_map_of_mem (f := fun x : Ent Int => x.2.2) hx) hns
end Go.Proofs
