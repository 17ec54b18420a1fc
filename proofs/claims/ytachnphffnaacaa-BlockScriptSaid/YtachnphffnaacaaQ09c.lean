/- A part of a proof: see the last text of this claim. -/
import Derived.Test.YtachnphffnaacaaQ09b
set_option linter.unusedVariables false
open Go Go.GV
namespace Go.Proofs

theorem elem4 : elemB Try.prog 4 1 1 = true := by kernel_rfl
theorem slice40 : sliceB Try.prog 40 4 = true := by kernel_rfl
theorem dj_new {S : List Nat} {H : Heap} {b : Nat} (h : In H S) (hb : H.size ≤ b) : b ∉ S := fun hk => by have := h b hk; omega

/-- Steps that are writes alone. -/
theorem Lasts_ok {la ma : Option Addr} {ln lc mn mc : Nat} {l more : List Step9} {keep : Int} {H : Heap} (hl : Sl encStep H la ln lc l) (hm : Sl encStep H ma mn mc more) (hkp : 0 ≤ keep ∧ keep < 18446744073709551616) :
    CallH Try.prog fn_law09_BlockLasts ⟨[.slice la ln lc, .slice ma mn mc, .int .u64 keep]⟩ H fun v H' => v = .bool true ∧ Fr [] H H' := by
  apply vc_law09_BlockLasts
  refine ⟨fun _ H' => H' = H ∧ ln ≤ 200 ∧ mn ≤ 200, heavy_ok hl fun hb hbn => brB_of (fun _ => ⟨rfl, Fr.refl _ _⟩) (fun hbf => heavy_ok hm fun hb2 hbn2 => brB_of (fun _ => ⟨rfl, Fr.refl _ _⟩) (fun hbf2 => ⟨rfl, hbn hbf, hbn2 hbf2⟩)), ?_⟩
  rintro J H0 ⟨rfl, hn, hmn⟩
  have hlen := hl.len
  have hmlen := hm.len
  have ld0 : ∀ {Hx : Heap} {ad : Addr} {o : Step9}, CellsAt Hx ad (encStep.cells o) → Ld Try.prog 3 Hx ad (.int .i64 o.1) := fun hc => ld_cell (by kernel_rfl) (by have := hc 0 _ rfl; rwa [addr_add0] at this)
  refine New_ok fun b H1 S hS h1 hf1 => ?_
  have hfoot : ∀ {m : Dk} {N : Nat} {Hx : Heap} {Sx : List Nat}, DRep Hx ⟨b, 0, none⟩ Sx m N → b ∈ Sx := fun h => by obtain ⟨_, _, _, hd⟩ := h.it; exact hd.foot.1
  refine ⟨fun vs H' => match vs with | [.int _ j] => ∃ (j' : Nat) (S' : List Nat) (m : Dk), j = j' ∧ j' ≤ ln ∧ (∀ k ∈ S', H0.size ≤ k) ∧ DRep H' ⟨b, 0, none⟩ S' m (2 * j') ∧ Calm m 12 ∧ Fr [] H0 H' | _ => False,
    fun vs _ => match vs with | [.int _ j] => ln - j.toNat | _ => 0, ⟨0, S, _, rfl, by omega, hS, h1, calm_new (by decide), hf1⟩, ?_⟩
  rintro J j H2 ⟨j', S2, m, rfl, hj, hS2, h2, hc2, hf2⟩
  refine brB_of (fun h0 => ?_) (fun h0 => ?_)
  · have h0' : j' < ln := by simpa using h0
    have hx : l[j']? = some (l[j']'(by omega)) := by simp
    generalize l[j']'(by omega) = o at hx
    have at' : ∀ {Hx : Heap} {X : Addr → Prop}, Fr [] H0 Hx → (∀ ad, la = some ad → CellsAt Hx (ad.add ((j' : Int).toNat * encStep.sz)) (encStep.cells o) → X ad) → exSome la fun ad => chk (decide ((0 : Int) ≤ j' ∧ (j' : Int) < ln)) (X ad) :=
      fun hf hk => (hl.keep hf).get rfl hx (decide_eq_true (by omega)) hk
    rw [succ64 (by omega)]
    refine at' hf2 fun ad ea hc => ⟨_, ld0 hc, brB_of (fun _ => ?_) (fun _ => ⟨⟨j' + 1, S2, m, rfl, by omega, hS2, h2.mono (by omega), hc2, hf2⟩, mu_lt h0'⟩)⟩
    refine at' hf2 fun ad ea hc => ⟨_, ld_part (j := 1) (by kernel_rfl) hc rfl, ?_⟩
    refine at' hf2 fun ad ea hc => ⟨_, ld_part (j := 2) (by kernel_rfl) hc rfl, ?_⟩
    refine Write_ok h2 (by omega) hc2.keep fun H3 S3 h3 hf3 hg3 => ⟨⟨j' + 1, S3, _, rfl, by omega, fun k hk => ?_, h3.mono (by omega), hc2.write _ _, hf2.keep hf3 hS2⟩, mu_lt h0'⟩
    rcases hg3 k hk with h | h
    · exact hS2 k h
    · exact Nat.le_trans hf2.size h
  -- flushed
  have hjn : 2 * j' + 1 ≤ 401 := by omega
  refine Flush_ok h2 (by omega) hc2.keep fun H3 h3 hf3 => ?_
  have hf3' := hf2.keep hf3 hS2
  have hr3 : (flushM m).2 = 0 := by rw [flush_calm hc2]
  rw [hr3]
  refine brB_of (fun h => by simp at h) (fun _ => ?_)
  have hc3 := hc2.flush
  have hw3 : ∀ i, (flushM m).1.wait i = [] := wait_flush hc2
  have h3 := h3.mono hjn
  generalize (flushM m).1 = m1 at h3 hc3 hw3
  refine mk_full (E := GV.encStr) (t := 9) (bytes := 16) (n := 12) (u := .string ⟨#[]⟩) ⟨#[]⟩ slice37 elem9 (by kernel_rfl) rfl rfl rfl (by decide) fun wb H4 hwb hown4 hf4 => ?_
  have hwbS : wb ∉ S2 := dj_new h3.inS hwb
  refine ⟨fun vs H' => match vs with | [.int _ i] => ∃ (i' : Nat) (ws : List ByteArray), i = i' ∧ i' ≤ 12 ∧ Own GV.encStr 9 H3.size H' (some ⟨wb, 0, none⟩) 12 12 ws ∧ (∀ k, k < i' → ws[k]? = some (cur m1 k)) ∧ DRep H' ⟨b, 0, none⟩ S2 m1 401 ∧ Fr [] H3 H' | _ => False,
    fun vs _ => match vs with | [.int _ i] => 12 - i.toNat | _ => 0, ⟨0, _, rfl, by omega, hown4, fun k hk => by omega, h3.keep hf4, hf4⟩, ?_⟩
  rintro J i H5 ⟨i', ws, rfl, hi, hown, hws, h5, hf5⟩
  refine brB_of (fun g => ?_) (fun g => ?_)
  · have g' : i' < 12 := by have : (i' : Int) < 12 := by simpa using g
                            omega
    refine Read_ok h5 (by omega) ?_
    rw [read_calm hc3 (by omega)]
    refine brB_of (fun h => by simp at h) (fun _ => ?_)
    rw [succ64 (by omega)]
    refine own_put (E := GV.encStr) (cur m1 i') hown rfl g' (decide_eq_true (by omega)) rfl (by kernel_rfl) (by kernel_rfl) fun H6 hown6 hf6 => ⟨⟨i' + 1, _, rfl, by omega, hown6, fun k hk => ?_, h5.fr hf6 (fun k hk => by simp [blkL]; intro e; exact hwbS (e ▸ hk)), hf5.keep hf6 (by simpa [blkL] using hwb)⟩, mu_lt g'⟩
    rw [List.getElem?_set]
    have := hown.1
    split
    · rename_i e; subst e; rw [if_pos (by omega)]
    · exact hws k (by omega)
  have hi12 : i' = 12 := by have : ¬ (i' : Int) < 12 := by simpa using g
                            omega
  subst hi12
  have hf05 : Fr [] H0 H5 := hf3'.keep0 hf5
  refine mk_full (E := encBool) (t := 4) (bytes := 1) (n := 12) (u := .bool false) false slice40 elem4 (by kernel_rfl) rfl rfl rfl (by decide) fun tb H6 htb hownT hf6 => ?_
  have htbS : tb ∉ S2 := dj_new h5.inS htb
  have hwlt : wb < H5.size := (hown.ge wb (by simp [blkL])).2
  refine ⟨fun vs H' => match vs with | [.int _ i] => ∃ (i' : Nat) (S' : List Nat) (m' : Dk) (bs : List Bool), i = i' ∧ i' ≤ mn ∧ (∀ k ∈ S', H0.size ≤ k) ∧ wb ∉ S' ∧ tb ∉ S' ∧ DRep H' ⟨b, 0, none⟩ S' m' (401 + 2 * i') ∧ Calm m' 12 ∧ Own GV.encStr 9 H3.size H' (some ⟨wb, 0, none⟩) 12 12 ws ∧ Own encBool 4 H5.size H' (some ⟨tb, 0, none⟩) 12 12 bs ∧
      (∀ k : Nat, bs[k]? = some false → m'.wait (k : Int) = [] ∧ m'.is k = cur m1 k) ∧ Fr [] H0 H' | _ => False,
    fun vs _ => match vs with | [.int _ i] => mn - i.toNat | _ => 0, ⟨0, S2, m1, _, rfl, by omega, hS2, hwbS, htbS, h5.keep hf6, hc3, hown.keep hf6, hownT, fun k _ => ⟨hw3 _, by unfold cur; rw [hw3]; rfl⟩, hf05.keep0 hf6⟩, ?_⟩
  rintro J i H7 ⟨i', S7, m7, bs, rfl, hi7, hS7, hwS7, htS7, h7, hc7, hown7, hownT7, hbs, hf7⟩
  have hbl := hownT7.1
  refine brB_of (fun g => ?_) (fun g => ?_)
  · have g' : i' < mn := by simpa using g
    have hx : more[i']? = some (more[i']'(by omega)) := by simp
    generalize more[i']'(by omega) = o at hx
    have at' : ∀ {Hx : Heap} {X : Addr → Prop}, Fr [] H0 Hx → (∀ ad, ma = some ad → CellsAt Hx (ad.add ((i' : Int).toNat * encStep.sz)) (encStep.cells o) → X ad) → exSome ma fun ad => chk (decide ((0 : Int) ≤ i' ∧ (i' : Int) < mn)) (X ad) :=
      fun hf hk => (hm.keep hf).get rfl hx (decide_eq_true (by omega)) hk
    obtain ⟨IM, hIM⟩ : ∃ M : List Value → Heap → Prop, M = fun _ H' => ∃ (S' : List Nat) (m' : Dk) (bs : List Bool), (∀ k ∈ S', H0.size ≤ k) ∧ wb ∉ S' ∧ tb ∉ S' ∧ DRep H' ⟨b, 0, none⟩ S' m' (401 + 2 * (i' + 1)) ∧ Calm m' 12 ∧ Own GV.encStr 9 H3.size H' (some ⟨wb, 0, none⟩) 12 12 ws ∧ Own encBool 4 H5.size H' (some ⟨tb, 0, none⟩) 12 12 bs ∧
      (∀ k : Nat, bs[k]? = some false → m'.wait (k : Int) = [] ∧ m'.is k = cur m1 k) ∧ Fr [] H0 H' := ⟨_, rfl⟩
    refine ⟨IM, ⟨fun vs H' => ∃ (S' : List Nat) (m' : Dk) (ok : Bool), vs = [.bool ok] ∧ (∀ k ∈ S', H0.size ≤ k) ∧ wb ∉ S' ∧ tb ∉ S' ∧ DRep H' ⟨b, 0, none⟩ S' m' (401 + 2 * (i' + 1)) ∧ Calm m' 12 ∧ Own GV.encStr 9 H3.size H' (some ⟨wb, 0, none⟩) 12 12 ws ∧ Own encBool 4 H5.size H' (some ⟨tb, 0, none⟩) 12 12 bs ∧
      (ok = true → 0 ≤ o.2.1 ∧ o.2.1 < 12) ∧ (∀ k : Nat, bs[k]? = some false → ¬ (ok = true ∧ o.2.1 = k) → m'.wait (k : Int) = [] ∧ m'.is k = cur m1 k) ∧ Fr [] H0 H', ?_, ?_⟩, ?_⟩
    · refine at' hf7 fun ad ea hc => ⟨_, ld0 hc, brB_of (fun _ => ?_) (fun _ => ⟨S7, m7, false, rfl, hS7, hwS7, htS7, h7.mono (by omega), hc7, hown7, hownT7, fun h => (by cases h), fun k hk _ => hbs k hk, hf7⟩)⟩
      refine at' hf7 fun ad ea hc => ⟨_, ld_part (j := 1) (by kernel_rfl) hc rfl, ?_⟩
      refine at' hf7 fun ad ea hc => ⟨_, ld_part (j := 2) (by kernel_rfl) hc rfl, ?_⟩
      refine Write_ok h7 (by omega) hc7.keep fun H8 S8 h8 hf8 hg8 => ?_
      have out : ∀ {x : Nat}, x ∉ S7 → x < H7.size → x ∉ S8 := fun h1 h2 hk => by
        rcases hg8 _ hk with h | h
        · exact h1 h
        · omega
      have hw8 := hown7.fr hf8 (fun ad ea => by cases ea; exact hwS7)
      have ht8 := hownT7.fr hf8 (fun ad ea => by cases ea; exact htS7)
      refine ⟨S8, _, _, rfl, fun k hk => ?_, out hwS7 (hown7.ge wb (by simp [blkL])).2, out htS7 (hownT7.ge tb (by simp [blkL])).2, h8.mono (by omega), hc7.write _ _, hw8, ht8, fun hok => ?_, fun k hk hne => ?_, hf7.keep hf8 hS7⟩
      · rcases hg8 k hk with h | h
        · exact hS7 k h
        · exact Nat.le_trans hf7.size h
      · rw [write_calm hc7] at hok
        split at hok
        · simp at hok
        · omega
      · have := hbs k hk
        rw [write_calm hc7] at hne ⊢
        split
        · exact this
        · rename_i hv
          rw [if_neg hv] at hne
          have hik : ¬ o.2.1 = (k : Int) := fun e => hne ⟨rfl, e⟩
          simp only [setW]
          rw [if_neg (Ne.symm hik)]
          exact this
    · rintro J2 b2 H8 ⟨S8, m8, ok, hok, hS8, hw8, ht8, h8, hc8, hown8, hownT8, hval, hbs8, hf8⟩
      have hok : b2 = ok := by simpa using hok
      subst hok
      refine brB_of (fun hok => ?_) (fun hok => ?_)
      · have hv := hval hok
        refine ⟨fun _ H' => H' = H8, ?_, ?_⟩
        · refine at' hf8 fun ad ea hc => ⟨_, ld_part (j := 1) (by kernel_rfl) hc rfl, brB_of (fun h => by simp at h; omega) (fun _ => ?_)⟩
          refine at' hf8 fun ad ea hc => ⟨_, ld_part (j := 1) (by kernel_rfl) hc rfl, brB_of (fun h => by simp at h; omega) (fun _ => rfl)⟩
        · rintro J3 H9 rfl
          refine at' hf8 fun ad ea hc => ⟨_, ld_part (j := 1) (by kernel_rfl) hc rfl, ?_⟩
          refine own_put (E := encBool) (k := o.2.1.toNat) true hownT8 (by omega) (by omega) (decide_eq_true (by omega)) rfl (by kernel_rfl) (by kernel_rfl) fun H9 hownT9 hf9 => ?_
          rw [hIM]
          have hne : ¬ tb = wb := by omega
          refine ⟨S8, m8, _, hS8, hw8, ht8, h8.fr hf9 (fun k hk => by simp [blkL]; intro e; exact ht8 (e ▸ hk)), hc8, hown8.fr hf9 (fun ad ea => by cases ea; simpa [blkL] using Ne.symm hne), hownT9, fun k hk => ?_, hf8.keep hf9 (by simp [blkL]; have := hf05.size; omega)⟩
          rw [List.getElem?_set] at hk
          split at hk
          · split at hk <;> cases hk
          · exact hbs8 k hk fun h => by omega
      · rw [hIM]
        exact ⟨S8, m8, bs, hS8, hw8, ht8, h8, hc8, hown8, hownT8, fun k hk => hbs8 k hk (by simp [hok]), hf8⟩
    · intro J2 H8 hh
      rw [hIM] at hh
      obtain ⟨S8, m8, bs8, hh⟩ := hh
      rw [succ64 (by omega)]
      exact ⟨⟨i' + 1, S8, m8, bs8, rfl, by omega, hh⟩, mu_lt g'⟩
  -- the power goes, and is there again
  refine Crash_ok h7 (by omega) hkp fun H8 h8 hf8 => Dead_ok h8 ?_
  rw [crash_off]
  refine brB_of (fun h => by cases h) (fun _ => ?_)
  refine Power_ok h8 fun H9 h9 hf9 => ?_
  have hbS7 := hfoot h7
  have hf79 : Fr S7 H7 H9 := hf8.trans' hf9 (fun _ h _ => h) (fun k hk _ => by simp at hk; subst hk; exact hbS7)
  have hown9 := hown7.fr hf79 (fun ad ea => by cases ea; exact hwS7)
  have hownT9 := hownT7.fr hf79 (fun ad ea => by cases ea; exact htS7)
  have hf09 : Fr [] H0 H9 := hf7.keep hf79 hS7
  obtain ⟨hc9, hw9, his9⟩ := again hc7 keep
  refine ⟨fun vs H' => match vs with | [.int _ i] => ∃ (i' : Nat), i = i' ∧ i' ≤ 12 ∧ H' = H9 | _ => False,
    fun vs _ => match vs with | [.int _ i] => 12 - i.toNat | _ => 0, ⟨0, rfl, by omega, rfl⟩, ?_⟩
  rintro J i HA ⟨i', rfl, hi9, rfl⟩
  refine brB_of (fun g => ?_) (fun g => ⟨rfl, hf09⟩)
  have g' : i' < 12 := by have : (i' : Int) < 12 := by simpa using g
                          omega
  refine ⟨fun _ H' => H' = HA, ?_, ?_⟩
  · refine Read_ok h9 (by omega) ?_
    rw [read_calm hc9 (by omega)]
    refine brB_of (fun h => by simp at h) (fun _ => ?_)
    have hb1 : bs[i']? = some (bs[i']'(by omega)) := by simp
    generalize bs[i']'(by omega) = bb at hb1
    refine hownT9.sl.get rfl hb1 (decide_eq_true (by omega)) fun ad ea hc => ⟨_, ld_one (by kernel_rfl) hc, brB_of (fun hbf => ?_) (fun _ => rfl)⟩
    have hbf : bb = false := by simpa using hbf
    subst hbf
    obtain ⟨hq1, hq2⟩ := hbs i' hb1
    refine hown9.sl.get rfl (hws i' (by omega)) (decide_eq_true (by omega)) fun ad ea hc => ⟨_, ld_one (by kernel_rfl) hc, brB_of (fun h => ?_) (fun _ => rfl)⟩
    exfalso
    have : cur (powerM (crashM keep m7)) i' = cur m1 i' := by
      unfold cur
      rw [hw9, his9, setl_none hq1, hq2]
      rfl
    rw [same_bytes this] at h
    cases h
  · rintro J2 HB rfl
    rw [succ64 (by omega)]
    exact ⟨⟨i' + 1, rfl, by omega, rfl⟩, mu_lt g'⟩
end Go.Proofs
