/- A part of a proof: see the last text of this claim. -/
import Derived.Test.YtgjbljhocedpfaaP10l
set_option linter.unusedVariables false
set_option maxRecDepth 100000
open Go Go.GV
namespace Go.Proofs

/-- A number is read at the end of an empty text: there is none. -/
theorem number_empty {x : Addr} {v0 v4 : Value} {okv : Bool} {H : Heap} {K : Int → Heap → Prop} (h : Blk H x [v0, .string ⟨#[]⟩, .int .i64 0, .bool okv, v4])
    (hk : ∀ H', Blk H' x [v0, .string ⟨#[]⟩, .int .i64 0, .bool false, v4] → Fr [x.block] H H' → K 0 H') :
    CallH Try.prog fn_files_scan_number ⟨[.pointer (some x)]⟩ H fun v H' => ∃ n, v = .int .i64 n ∧ K n H' := by
  apply vc_files_scan_number
  refine ⟨_, h.ld (by kernel_rfl) rfl, _, h.ld (by kernel_rfl) rfl, GetUint_ok (by simp [ByteArray.size]) (fun hb => absurd ⟨by omega, by simp [ByteArray.size]⟩ hb) fun a ea ha v n e hg => ?_⟩
  have he : e ≠ 0 := by
    have hnil : (bl ⟨#[]⟩).drop a = [] := by simp [bl]
    rw [hnil] at hg
    rcases hg with ⟨n, rfl, h1, h2, h3, h4, h5⟩ | ⟨_, _, h, _⟩ | ⟨_, _, h, _⟩
    · exfalso
      have : uintL n = [] := List.eq_nil_of_length_eq_zero (by simpa using h3)
      unfold uintL at this
      split at this <;> cases this
    · omega
    · omega
  refine ⟨fun _ _ => False, ⟨fun vs H' => vs = [.bool true] ∧ H' = H, brB_of (fun _ => ⟨rfl, rfl⟩) (fun h => by simp at h; exact absurd h he), ?_⟩, fun J H' h => h.elim⟩
  rintro J b H' ⟨hb, rfl⟩
  cases hb
  refine brB_of (fun _ => ?_) (fun h => by simp at h)
  exact Go.Proofs.Blk.set h (j := 3) (by kernel_rfl) (by kernel_rfl) rfl rfl (by simp) fun H' hb' hf => ⟨_, rfl, hk H' hb' hf⟩
theorem root_empty {d : Addr} {Sd : List Nat} {m : Dk} {N : Nat} {slot : Int} {H : Heap} {K : Heap → Prop} (h : DRep H d Sd m N) (hN : N ≤ 1000000) (he : (rdM m slot).1 = ⟨#[]⟩) (hk : ∀ H', Fr [] H H' → K H') :
    CallH Try.prog fn_files_root ⟨[.pointer (some d), .int .i64 slot]⟩ H fun v H' => ∃ g r a n c, v = .tuple ⟨[.int .i64 g, .map r, .slice a n c]⟩ ∧ g = 0 ∧ K H' := by
  apply vc_files_root
  refine Read_ok h hN fun b H1 hn1 b1 H2 hn2 => ?_
  rw [he] at hn2
  have f2 := hn1.fr.keep0 hn2.fr
  have e1 := hn1.eq
  have e2 := hn2.eq
  have s1 := hn1.size
  refine number_empty hn2.blk fun H3 hb3 f3 => number_empty hb3 fun H4 hb4 f4 => ?_
  have f24 : Fr [] H H4 := (f2.keep f3 (by simp; omega)).keep f4 (by simp; omega)
  refine ⟨fun _ _ => False, ⟨fun vs H' => vs = [.bool true] ∧ H' = H4, ⟨false, hb4.ld (j := 3) (by kernel_rfl) rfl, brB_of (fun _ => ⟨rfl, rfl⟩) (fun h => by simp at h)⟩, ?_⟩, fun J H' h => h.elim⟩
  rintro J bb H' ⟨hb, rfl⟩
  cases hb
  exact brB_of (fun _ => ⟨_, _, _, _, _, rfl, rfl, hk _ f24⟩) (fun h => by simp at h)

def stoNew : Sto := { now := fun _ => none, last := fun _ => none, dir := [], gen := 0, bad := false }
/-- Opened on a disk whose roots are empty: a store of nothing. -/
theorem Open_fresh {d : Addr} {Sd : List Nat} {m : Dk} {N : Nat} {H : Heap} {K : Option Addr → Int → Heap → Prop} (h : DRep H d Sd m N) (hN : N ≤ 1000000) (hoff : m.off = false) (he : ∀ i : Int, 0 ≤ i → i < 2 → (rdM m i).1 = ⟨#[]⟩)
    (hk : ∀ s rn rl H', H.size ≤ s.block → SL H' s d rn rl none 0 0 [] Sd stoNew m N 0 → Fr [] H H' → K (some s) 0 H') :
    CallH Try.prog fn_files_Open ⟨[.pointer (some d)]⟩ H fun v H' => ∃ a e, v = .tuple ⟨[.pointer a, .int .i64 e]⟩ ∧ K a e H' := by
  apply vc_files_Open
  refine Dead_ok h ?_
  show brB m.off _ _
  refine brB_of (fun h => by rw [hoff] at h; cases h) fun _ => fun b H1 hn1 b1 H2 hn2 b2 H3 hn3 => ?_
  have e1 := hn1.eq
  have e2 := hn2.eq
  have e3 := hn3.eq
  have s1 := hn1.size
  have s2 := hn2.size
  have f3 := (hn1.fr.keep0 hn2.fr).keep0 hn3.fr
  refine ⟨fun vs H' => match vs with | [.int _ i] => ∃ j : Nat, i = j ∧ j ≤ 2 ∧ Fr [] H3 H' | _ => False, fun vs _ => match vs with | [.int _ i] => 2 - i.toNat | _ => 0, ⟨0, rfl, by omega, Fr.refl _ _⟩, ?_⟩
  rintro J i H4 ⟨j, rfl, hj, hf⟩
  have f4 := f3.keep0 hf
  refine brB_of (fun h0 => ?_) (fun h0 => ?_)
  · have h0' : j < 2 := by simp at h0; omega
    refine CallH.mono (root_empty (K := fun H' => Fr [] H4 H') (h.keep f4) hN (he j (by omega) (by omega)) (fun H' hf' => hf')) fun v H5 => ?_
    rintro ⟨g, r, a, n, c, rfl, rfl, hf5⟩
    refine ⟨_, _, _, _, _, rfl, 0, ((hn3.blk.keep hf).keep hf5).ldK (j := 4) (by kernel_rfl) rfl, brB_of (fun h => by simp at h) fun _ => ⟨⟨j + 1, succ64 (by omega), by omega, hf.keep0 hf5⟩, ?_⟩⟩
    show 2 - (IntKind.i64.wrap ((j : Int) + 1)).toNat < 2 - ((j : Nat) : Int).toNat
    rw [succ64 (by omega)]
    exact mu_lt h0'
  · have hb := hn3.blk.keep hf
    have hm1 : MapR SM H4 b1 0 [] := ((MapR.new SM hn2).keep SM hn3.fr).keep SM hf
    have hm0 : MapR SM H4 b 0 [] := (((MapR.new SM hn1).keep SM hn2.fr).keep SM hn3.fr).keep SM hf
    refine ⟨some b1, hb.ldK (j := 2) (by kernel_rfl) rfl, range_map SM (mt := 52) (e := 59) Try.underlying52 hm1 fun it H5 hn5 => ⟨fun _ H' => Fr [] H4 H' ∧ H'[it]? = some (.mapIter (some b1) 0 #[] 0), fun _ _ => 0, ⟨hn5.fr, hn5.get⟩, ?_⟩⟩
    rintro J2 H6 ⟨hf6, hi6⟩
    refine next_map SM (hm1.keep SM hf6) hi6 (fun _ => ⟨_, _, rfl, ?_⟩) fun x hx => by simp at hx
    have hf36 := hf.keep0 hf6
    refine hk ⟨b2, 0, none⟩ b b1 H6 (by simp; omega) ⟨hb.keep hf6, ⟨0, [], hm0.keep SM hf6, by simp, fun _ => rfl⟩, ⟨0, [], hm1.keep SM hf6, by simp, fun _ _ => rfl⟩, Sl.zero, by simp [blkL], h.keep (f3.keep0 hf36), by simp; omega, fun k hk hk' => ?_, by intro k hk; simp at hk⟩ (f3.keep0 hf36)
    have := h.inS k hk'
    simp only [List.mem_cons, List.mem_nil_iff, or_false] at hk
    omega
end Go.Proofs
