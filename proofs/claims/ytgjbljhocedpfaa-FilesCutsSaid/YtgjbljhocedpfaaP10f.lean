/- A part of a proof: see the last text of this claim. -/
import Derived.Test.YtgjbljhocedpfaaP10e
set_option linter.unusedVariables false
set_option maxRecDepth 100000
open Go Go.GV
namespace Go.Proofs

/-- A set of numbers in memory. -/
def SetI (H : Heap) (r : Nat) (T : Int → Prop) : Prop := ∃ ck L, MapR MT H r ck L ∧ ∀ k, (T k ∧ getL k L = some (.bool true)) ∨ (¬ T k ∧ getL k L = none)
theorem SetI.fr {H H' : Heap} {r : Nat} {T : Int → Prop} {S : List Nat} (h : SetI H r T) (hf : Fr S H H') (hn : r ∉ S) : SetI H' r T := by
  obtain ⟨ck, L, hm, hk⟩ := h
  exact ⟨ck, L, hm.fr MT hf hn, hk⟩
theorem SetI.lt {H : Heap} {r : Nat} {T : Int → Prop} (h : SetI H r T) : r < H.size := by
  obtain ⟨ck, L, hm, hk⟩ := h
  exact hm.lt
theorem SetI.iff {H : Heap} {r : Nat} {T T' : Int → Prop} (h : SetI H r T) (he : ∀ k, T k ↔ T' k) : SetI H r T' := by
  have : T = T' := funext fun k => propext (he k)
  subst this; exact h
theorem SetI.new {H H' : Heap} {r : Nat} (h : New H r (.map ⟨[]⟩ 0) H') : SetI H' r fun _ => False := ⟨0, [], MapR.new MT h, fun k => .inr ⟨id, rfl⟩⟩
theorem SetI.put {H : Heap} {r : Nat} {T : Int → Prop} {K : Heap → Prop} (h : SetI H r T) (x : Int) (hk : ∀ H', SetI H' r (fun k => T k ∨ k = x) → Fr [r] H H' → K H') :
    SemU Try.prog (Instr.mapUpdate 82 (.map (some r)) (.int .i64 x) (.bool true)) H K := by
  obtain ⟨ck, L, hm, hg⟩ := h
  refine put_map MT (mt := 82) (e := 4) Try.underlying82 hm x fun H' hm' hf => hk H' ⟨_, _, hm', fun k => ?_⟩ hf
  rw [getL_putL]
  by_cases e : k = x
  · exact .inl ⟨.inr e, by rw [if_pos e]⟩
  · rw [if_neg e]
    rcases hg k with ⟨h1, h2⟩ | ⟨h1, h2⟩
    · exact .inl ⟨.inl h1, h2⟩
    · exact .inr ⟨fun h => h.elim h1 e, h2⟩
theorem zero4 : zeroOf Try.prog 4 = some (.bool false) := by kernel_rfl
theorem SetI.look {H : Heap} {r : Nat} {T : Int → Prop} (h : SetI H r T) (x : Int) : ∃ b, Rd Try.prog (Instr.lookup 82 (.map (some r)) (.int .i64 x) false) H (.bool b) ∧ (b = true ↔ T x) := by
  obtain ⟨ck, L, hm, hg⟩ := h
  have hl := lookup_map MT (mt := 82) (e := 4) Try.underlying82 zero4 hm x
  rcases hg x with ⟨h1, h2⟩ | ⟨h1, h2⟩
  · rw [h2] at hl
    exact ⟨true, hl, ⟨fun _ => h1, fun _ => rfl⟩⟩
  · rw [h2] at hl
    exact ⟨false, hl, ⟨(fun h => by cases h), fun h => absurd h h1⟩⟩

/-- What lasts of files, in memory. -/
def LastR (H : Heap) (r : Nat) (Q : List Nat) (last : ByteArray → Option (ByteArray × List Int)) : Prop :=
  ∃ ck L, MapR SM H r ck L ∧ (∀ x ∈ L, ∃ d a n c xs, x.2.1 = .agg ⟨[.string d, .slice a n c]⟩ ∧ Sl encInt H a n c xs ∧ (∀ k ∈ blkL a, k ∈ Q) ∧ last x.1 = some (d, xs)) ∧ ∀ k, getL k L = none → last k = none
theorem LastR.fr {H H' : Heap} {r : Nat} {Q T : List Nat} {last : ByteArray → Option (ByteArray × List Int)} (h : LastR H r Q last) (hf : Fr T H H') (hr : r ∉ T) (hd : Dj Q T) : LastR H' r Q last := by
  obtain ⟨ck, L, hm, he, hn⟩ := h
  refine ⟨ck, L, hm.fr SM hf hr, fun x hx => ?_, hn⟩
  obtain ⟨d, a, n, c, xs, e, hs, hq, hl⟩ := he x hx
  exact ⟨d, a, n, c, xs, e, hs.fr hf (fun ad e => hd _ (hq _ (by simp [e, blkL]))), hq, hl⟩
theorem LastR.keep {H H' : Heap} {r : Nat} {Q : List Nat} {last : ByteArray → Option (ByteArray × List Int)} (h : LastR H r Q last) (hf : Fr [] H H') : LastR H' r Q last := h.fr hf (by simp) (fun _ _ => by simp)
theorem LastR.lt {H : Heap} {r : Nat} {Q : List Nat} {last : ByteArray → Option (ByteArray × List Int)} (h : LastR H r Q last) : r < H.size := by
  obtain ⟨ck, L, hm, _⟩ := h
  exact hm.lt

/-- A store's files, as they stand. -/
def NowR (H : Heap) (r : Nat) (now : ByteArray → Option ByteArray) (N : Nat) : Prop :=
  ∃ ck L, MapR SM H r ck L ∧ L.length ≤ N ∧ ∀ k, getL k L = (now k).map Value.string
theorem NowR.fr {H H' : Heap} {r : Nat} {T : List Nat} {now : ByteArray → Option ByteArray} {N : Nat} (h : NowR H r now N) (hf : Fr T H H') (hr : r ∉ T) : NowR H' r now N := by
  obtain ⟨ck, L, hm, he, hn⟩ := h
  exact ⟨ck, L, hm.fr SM hf hr, he, hn⟩
theorem NowR.lt {H : Heap} {r : Nat} {now : ByteArray → Option ByteArray} {N : Nat} (h : NowR H r now N) : r < H.size := by
  obtain ⟨ck, L, hm, _⟩ := h
  exact hm.lt

/-- The sectors that last. -/
def lastS (last : ByteArray → Option (ByteArray × List Int)) (dir : List Int) (k : Int) : Prop := k ∈ dir ∨ ∃ nm d xs, last nm = some (d, xs) ∧ k ∈ xs

theorem lasting_ok {s : Addr} {cs : List Value} {rl : Nat} {Q : List Nat} {last : ByteArray → Option (ByteArray × List Int)} {a : Option Addr} {n c : Nat} {dir : List Int} {H : Heap} {K : Nat → Heap → Prop} (hs : Blk H s cs)
    (h2 : cs[2]? = some (.map (some rl))) (h3 : cs[3]? = some (.slice a n c)) (hl : LastR H rl Q last) (hd : Sl encInt H a n c dir) (hn : n ≤ 1000000000)
    (hq : ∀ nm d xs, last nm = some (d, xs) → xs.length ≤ 1000000000)
    (hk : ∀ r H', SetI H' r (lastS last dir) → H.size ≤ r → Fr [] H H' → K r H') :
    CallH Try.prog fn_files_Store_lasting ⟨[.pointer (some s)]⟩ H fun v H' => ∃ r, v = .map r ∧ ∃ r', r = some r' ∧ K r' H' := by
  apply vc_files_Store_lasting
  intro b H1 hn1
  have hb := hn1.eq
  have hs1 := hn1.size
  refine ⟨a, n, c, (hs.keep hn1.fr).ld (by kernel_rfl) h3, fun vs H2 => match vs with | [.int _ i] => ∃ j : Nat, i = j ∧ j ≤ n ∧ SetI H2 b (fun k => k ∈ dir.take j) ∧ Fr [] H H2 | _ => False,
    fun vs _ => match vs with | [.int _ i] => n - i.toNat | _ => 0, ⟨0, rfl, by omega, (SetI.new hn1).iff (by simp), hn1.fr⟩, ?_⟩
  rintro J i H2 ⟨j, rfl, hj, hset, hf2⟩
  have hlen := hd.len
  refine brB_of (fun h0 => ?_) (fun h0 => ?_)
  · have h0' : j < n := by simpa using h0
    have hx : dir[j]? = some (dir[j]'(by omega)) := by simp
    generalize dir[j]'(by omega) = x at hx
    refine (hd.keep hf2).get rfl hx (by simp; omega) fun ad e hc => ?_
    refine ⟨x, ld_one (by kernel_rfl) hc, hset.put x fun H3 h3 hf3 => ⟨⟨j + 1, succ64 (by omega), by omega, h3.iff fun k => ?_, hf2.keep hf3 (by simp; omega)⟩, ?_⟩⟩
    · rw [List.take_add_one, hx]
      simp
    · show n - (IntKind.i64.wrap ((j : Int) + 1)).toNat < n - ((j : Nat) : Int).toNat
      rw [succ64 (by omega)]
      exact mu_lt h0'
  · have hjn : j = n := by simp at h0; omega
    subst hjn
    have hset : SetI H2 b (fun k => k ∈ dir) := hset.iff fun k => by rw [List.take_of_length_le (by omega)]
    obtain ⟨ck, L, hm0, hents, hnone⟩ := hl
    have hm := hm0.keep SM hf2
    have hlt0 := hm0.lt
    refine ⟨some rl, (hs.keep hf2).ld (by kernel_rfl) h2, range_map SM (mt := 52) (e := 59) Try.underlying52 hm fun it H3 hn3 => ?_⟩
    have hit := hn3.eq
    have hs3 := hn3.size
    have hb2 := hset.lt
    have hitb : it ≠ b := by omega
    have hf3 : Fr [] H H3 := hf2.keep0 hn3.fr
    refine ⟨fun _ H4 => ∃ (seen : Array Nat), SetI H4 b (fun k => k ∈ dir ∨ ∃ x ∈ L, x.2.2 ∈ seen ∧ ∃ d xs, last x.1 = some (d, xs) ∧ k ∈ xs) ∧ H4[it]? = some (.mapIter (some rl) ck seen ck) ∧ Fr [] H H4,
      fun _ H4 => pendH H4 rl it, ⟨#[], (hset.fr hn3.fr (by simp)).iff (by simp), hn3.get, hf3⟩, ?_⟩
    rintro J2 H4 ⟨seen, hset4, hi4, hf4⟩
    have hm4 : MapR SM H4 rl ck L := hm0.keep SM hf4
    refine next_map SM hm4 hi4 (fun hall => ⟨_, rfl, _, rfl, ?_⟩) fun x hx hns H5 hi5 hf5 => ?_
    · refine hk b H4 (hset4.iff fun k => ?_) (by omega) hf4
      unfold lastS
      constructor
      · rintro (h | ⟨x, hx, _, d, xs, h1, h2⟩)
        · exact .inl h
        · exact .inr ⟨x.1, d, xs, h1, h2⟩
      · rintro (h | ⟨nm, d, xs, h1, h2⟩)
        · exact .inl h
        · refine .inr ?_
          cases hg : getL nm L with
          | none => rw [hnone nm hg] at h1; cases h1
          | some v =>
            obtain ⟨b', hb'⟩ := mem_getL hg
            exact ⟨_, hb', hall _ hb', d, xs, h1, h2⟩
    · obtain ⟨d, a2, n2, c2, xs, e, hsl, _, hlast⟩ := hents x hx
      have hm5 : MapR SM H5 rl ck L := hm4.fr SM hf5 (by simp; exact fun e => by have := hm.lt; omega)
      refine entry_map SM hm5 hi5 hx rfl ⟨d, a2, n2, c2, e, ?_⟩
      have hf05 : Fr [] H H5 := hf4.keep hf5 (by simp; omega)
      have hset5 := hset4.fr hf5 (by simp; exact fun e => hitb e.symm)
      refine var_blk (by kernel_rfl) (by kernel_rfl) (fun x hx => by simp [Value.cells] at hx; rcases hx with rfl | rfl <;> rfl) (by rfl) fun b1 H6 hb1 hbk hf6 => ?_
      have hf06 := hf05.keep0 hf6
      have hset6 := hset5.fr hf6 (by simp)
      have hn2 := hsl.len
      have hx2 := hq _ _ _ hlast
      have hi6 : H6[it]? = some (.mapIter (some rl) ck (seen.push x.2.2) ck) := hf6.get0 hi5
      refine ⟨a2, n2, c2, hbk.ldK (j := 1) (by kernel_rfl) rfl, fun vs H7 => match vs with | [.int _ i] => ∃ j : Nat, i = j ∧ j ≤ n2 ∧ SetI H7 b (fun k => (k ∈ dir ∨ ∃ x ∈ L, x.2.2 ∈ seen ∧ ∃ d xs, last x.1 = some (d, xs) ∧ k ∈ xs) ∨ k ∈ xs.take j) ∧ Fr [b] H6 H7 | _ => False,
        fun vs _ => match vs with | [.int _ i] => n2 - i.toNat | _ => 0, ⟨0, rfl, by omega, hset6.iff (by simp), Fr.refl _ _⟩, ?_⟩
      rintro J3 i7 H7 ⟨j, rfl, hj, hset7, hf7⟩
      have hf07 : Fr [] H H7 := hf06.keep hf7 (by simp; omega)
      refine brB_of (fun h0 => ?_) (fun h0 => ?_)
      · have h0' : j < n2 := by simpa using h0
        have hx3 : xs[j]? = some (xs[j]'(by omega)) := by simp
        generalize xs[j]'(by omega) = y at hx3
        have hsl7 : Sl encInt H7 a2 n2 c2 xs := by
          exact hsl.keep hf07
        refine hsl7.get rfl hx3 (by simp; omega) fun ad e hc => ?_
        refine ⟨y, ld_one (by kernel_rfl) hc, hset7.put y fun H8 h8 hf8 => ⟨⟨j + 1, succ64 (by omega), by omega, h8.iff fun k => ?_, hf7.trans' hf8 (fun k hk _ => hk) (fun k hk _ => hk)⟩, ?_⟩⟩
        · rw [List.take_add_one, hx3]
          simp [or_assoc]
        · show n2 - (IntKind.i64.wrap ((j : Int) + 1)).toNat < n2 - ((j : Nat) : Int).toNat
          rw [succ64 (by omega)]
          exact mu_lt h0'
      · have hjn : j = n2 := by simp at h0; omega
        subst hjn
        have hi7 : H7[it]? = some (.mapIter (some rl) ck (seen.push x.2.2) ck) := hf7.get hi6 (by simp; exact hitb)
        have hm7 : MapR SM H7 rl ck L := (hm5.keep SM hf6).fr SM hf7 (by simp; exact fun e => by omega)
        refine ⟨⟨seen.push x.2.2, hset7.iff fun k => ?_, hi7, hf07⟩, ?_⟩
        · rw [List.take_of_length_le (by omega)]
          constructor
          · rintro ((h | ⟨z, hz, h1, h2⟩) | h)
            · exact .inl h
            · exact .inr ⟨z, hz, by simp [h1], h2⟩
            · exact .inr ⟨x, hx, by simp, d, xs, hlast, h⟩
          · rintro (h | ⟨z, hz, h1, d', xs', h2, h3⟩)
            · exact .inl (.inl h)
            · simp only [Array.mem_push] at h1
              rcases h1 with h1 | h1
              · exact .inl (.inr ⟨z, hz, h1, d', xs', h2, h3⟩)
              · have := ent_born hm.wf hz hx h1
                subst this
                rw [hlast] at h2
                cases h2
                exact .inr h3
        · show pendH H7 rl it < pendH H4 rl it
          rw [pendH_eq SM hm4 hi4, pendH_eq SM hm7 hi7]
          exact pendB_push (List.mem_map.2 ⟨x, hx, rfl⟩) hns
end Go.Proofs
