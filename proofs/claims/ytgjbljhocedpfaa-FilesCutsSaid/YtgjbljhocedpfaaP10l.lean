/- A part of a proof: see the last text of this claim. -/
import Derived.Test.YtgjbljhocedpfaaP10k
set_option linter.unusedVariables false
set_option maxRecDepth 100000
open Go Go.GV
namespace Go.Proofs

def encPut : Enc (Int × ByteArray) := ⟨fun x => [.int .i64 x.1, .string x.2], 2, fun _ => rfl, by decide, fun _ v h => by simp at h; rcases h with rfl | rfl <;> rfl⟩
theorem elem76 : elemB Try.prog 76 2 24 = true := by kernel_rfl
theorem slice70 : sliceB Try.prog 70 76 = true := by kernel_rfl

/-- What 'take' turns. -/
structure Tk where
  free : List Int
  puts : List (Int × ByteArray)
  need : Nat
  fits : Bool
def takeM (t : Tk) (c : ByteArray) : Tk × Int := match t.free with
  | [] => ({ t with need := t.need + 1, fits := false }, 500)
  | x :: r => ({ t with free := r, puts := t.puts ++ [(x, c)], need := t.need + 1 }, x)
def tkC (a : Option Addr) (n c : Nat) (vs : List Value) (t : Tk) : List Value := .slice a n c :: (vs ++ [.int .i64 t.need, .bool t.fits])
structure TkR (H : Heap) (pb fb base : Nat) (vs : List Value) (Fq S : List Nat) (t : Tk) : Prop where
  vl : vs.length = 4
  it : ∃ a n c fa fn fc, Blk H ⟨pb, 0, none⟩ (tkC a n c vs t) ∧ Own encPut 76 base H a n c t.puts ∧ Blk H ⟨fb, 0, none⟩ [.slice fa fn fc] ∧ Sl encInt H fa fn fc t.free ∧ (∀ k ∈ blkL fa, k ∈ Fq) ∧ S = pb :: fb :: blkL a ∧ pb ∉ blkL a ∧ fb ∉ blkL a
  ne : pb ≠ fb
  dj : Dj Fq S
  inF : In H Fq
  inS : In H S
theorem TkR.fr {H H' : Heap} {pb fb base : Nat} {vs : List Value} {Fq S T : List Nat} {t : Tk} (h : TkR H pb fb base vs Fq S t) (hf : Fr T H H') (h1 : Dj Fq T) (h2 : Dj S T) : TkR H' pb fb base vs Fq S t := by
  obtain ⟨hv, ⟨a, n, c, fa, fn, fc, hb, ho, hb2, hs, hq, hS, n1, n2⟩, ne, dj, iF, iS⟩ := h
  exact ⟨hv, ⟨a, n, c, fa, fn, fc, hb.fr hf (h2 _ (by simp [hS])), ho.fr hf (fun ad e => h2 _ (by simp [hS, e, blkL])), hb2.fr hf (h2 _ (by simp [hS])), hs.fr hf (fun ad e => h1 _ (hq _ (by simp [e, blkL]))), hq, hS, n1, n2⟩, ne, dj, iF.le hf.size, iS.le hf.size⟩

theorem slA_blk {c l sz : Nat} {a : Option Addr} : ∀ k ∈ blkL (slA c l sz a), k ∈ blkL a := by
  intro k hk
  rw [slA_eq] at hk
  split at hk
  · exact hk
  · cases a with
    | none => simp [blkL] at hk
    | some ad =>
      have e : (ad.add (l * sz)).block = ad.block := by
        cases ad
        unfold Addr.add
        split <;> rfl
      simp only [Option.map_some, blkL, List.mem_singleton] at hk ⊢
      rw [hk, e]
theorem take_ok {pb fb base : Nat} {vs : List Value} {Fq S : List Nat} {t : Tk} {c : ByteArray} {H : Heap} {K : Int → Heap → Prop} (h : TkR H pb fb base vs Fq S t) (hb : base ≤ H.size) (hn : t.need ≤ 1000000000) (hp : t.puts.length ≤ 1000000000)
    (hk : ∀ H' S', TkR H' pb fb base vs Fq S' (takeM t c).1 → Fr S H H' → Grow H S S' → K (takeM t c).2 H') :
    CallV Try.prog (.func (.func 55) ⟨[]⟩ ⟨[.pointer (some ⟨pb, 0, none⟩), .pointer (some ⟨fb, 0, none⟩)]⟩) [.string c] H fun v H' => ∃ n, v = .int .i64 n ∧ K n H' := by
  refine ⟨55, ⟨[]⟩, _, rfl, by kernel_rfl, ?_⟩
  apply vc_files_Store_planned_1
  obtain ⟨hv, ⟨a, n, c', fa, fn, fc, hbk, ho, hb2, hs, hq, hS, n1, n2⟩, ne, dj, iF, iS⟩ := h
  subst hS
  obtain ⟨v1, v2, v3, v4, rfl⟩ : ∃ v1 v2 v3 v4, vs = [v1, v2, v3, v4] := by
    match vs, hv with
    | [v1, v2, v3, v4], _ => exact ⟨v1, v2, v3, v4, rfl⟩
  have hfl := hs.len
  refine ⟨t.need, hbk.ld (j := 5) (by kernel_rfl) rfl, Go.Proofs.Blk.set hbk (j := 5) (v := .int .i64 (IntKind.i64.wrap ((t.need : Int) + 1))) (by kernel_rfl) (by kernel_rfl) rfl rfl (by simp [tkC]) fun H1 hb1 hf1 => ?_⟩
  rw [succ64 (by omega)] at hb1
  have hb1' : Blk H1 ⟨pb, 0, none⟩ (tkC a n c' [v1, v2, v3, v4] { t with need := t.need + 1 }) := hb1
  have hpb : ∀ {x : Nat}, x ≠ pb → x ∉ [pb] := fun h => by simpa using h
  have hb21 := hb2.fr hf1 (hpb (Ne.symm ne))
  have ho1 := ho.fr hf1 (fun ad e hh => n1 (by simp only [List.mem_singleton] at hh; simp [e, blkL, hh]))
  have hFp : ∀ k ∈ Fq, k ≠ pb ∧ k ≠ fb ∧ k ∉ blkL a := fun k hk => by
    have := dj k hk
    simp only [List.mem_cons, not_or] at this
    exact this
  have hs1 := hs.fr hf1 (fun ad e => hpb (hFp _ (hq _ (by simp [e, blkL]))).1)
  refine ⟨fa, fn, fc, hb21.ld0 (by kernel_rfl) rfl, ?_⟩
  unfold takeM at hk
  cases hfr : t.free with
  | nil =>
    rw [hfr] at hk hfl hs1
    refine brB_of (fun _ => ?_) (fun h => by simp at hfl; subst hfl; simp at h)
    refine Go.Proofs.Blk.set hb1' (j := 6) (v := .bool false) (by kernel_rfl) (by kernel_rfl) rfl rfl (by simp [tkC]) fun H2 hb2' hf2 => ⟨_, rfl, ?_⟩
    have hf : Fr (pb :: fb :: blkL a) H H2 := hf1.trans' hf2 (fun k hk _ => by simp at hk; simp [hk]) (fun k hk _ => by simp at hk; simp [hk])
    refine hk H2 (pb :: fb :: blkL a) ⟨rfl, ⟨a, n, c', fa, fn, fc, hb2', ho1.fr hf2 (fun ad e hh => n1 (by simp only [List.mem_singleton] at hh; simp [e, blkL, hh])), hb21.fr hf2 (hpb (Ne.symm ne)), ?_, hq, rfl, n1, n2⟩, ne, dj, iF.le hf.size, iS.le hf.size⟩ hf (Grow.refl _ _)
    have := hs1.fr hf2 (fun ad e => hpb (hFp _ (hq _ (by simp [e, blkL]))).1)
    exact this
  | cons x r =>
    rw [hfr] at hk hfl hs1
    refine brB_of (fun h => by simp at hfl; subst hfl; simp at h; omega) fun _ => ?_
    refine ⟨fa, fn, fc, hb21.ld0 (by kernel_rfl) rfl, hs1.get (i := 0) (k := 0) rfl rfl (by simp at hfl ⊢; omega) fun ad e hc => ⟨x, ?_, fa, fn, fc, hb21.ld0 (by kernel_rfl) rfl, chk_true (decide_eq_true (by have := hs.cap; simp at hfl; omega)) ?_⟩⟩
    · have := ld_one (P := Try.prog) (t := 3) (by kernel_rfl) hc
      simpa [addr_add0] using this
    have hs2 := hs1.drop (k := 1) (by simp at hfl; omega)
    refine hb21.st0 (v := .slice (slA fc 1 1 fa) ((fn : Int).toNat - 1) (fc - 1)) (by kernel_rfl) (by kernel_rfl) (fun x hx => by simp [Value.cells] at hx; subst hx; rfl) (by simp [Value.cells]) fun H2 hb22 hf2 => ?_
    have hb22' : Blk H2 ⟨fb, 0, none⟩ [.slice (slA fc 1 1 fa) ((fn : Int).toNat - 1) (fc - 1)] := by simpa [Value.cells] using hb22
    have hfb : ∀ {x : Nat}, x ≠ fb → x ∉ [fb] := fun h => by simpa using h
    have hb12 := hb1'.fr hf2 (hfb ne)
    have ho2 := ho1.fr hf2 (fun ad e hh => n2 (by simp only [List.mem_singleton] at hh; simp [e, blkL, hh]))
    have hsq : ∀ k ∈ blkL (slA fc 1 1 fa), k ∈ Fq := fun k hk => hq k (slA_blk k hk)
    have hs3 := hs2.fr hf2 (fun ad e => hfb (hFp _ (hsq _ (by rw [show slA fc 1 1 fa = some ad from e]; simp [blkL]))).2.1)
    have hbase2 : base ≤ H2.size := by have := hf1.size; have := hf2.size; omega
    refine ⟨a, n, c', hb12.ld0 (by kernel_rfl) rfl, fun b3 H3 hn3 => ?_⟩
    have hz3 := hn3.size
    have hz1 := hf1.size
    have hz2 := hf2.size
    refine ap_grow (E := encPut) (bytes := 24) slice70 elem76 (ho2.keep hn3.fr) (sl_one encPut (x, c) hn3 rfl) (by omega) (by rw [ho.1]; omega) fun a4 n4 c4 H4 ho4 hf4 hg4 => ?_
    have hb14 := (hb12.keep hn3.fr).fr hf4 n1
    have hb24 := (hb22'.keep hn3.fr).fr hf4 n2
    have hnew : ∀ k ∈ blkL a4, k ∈ blkL a ∨ H.size ≤ k := fun k hk => (hg4 k hk).imp id fun h => by omega
    have np : pb ∉ blkL a4 := fun hk => (hnew pb hk).elim n1 fun h => by have := iS pb (by simp); omega
    have nf : fb ∉ blkL a4 := fun hk => (hnew fb hk).elim n2 fun h => by have := iS fb (by simp); omega
    refine hb14.st0 (v := .slice a4 n4 c4) (by kernel_rfl) (by kernel_rfl) (fun x hx => by simp [Value.cells] at hx; subst hx; rfl) (by simp [Value.cells, tkC]) fun H5 hb15 hf5 => ⟨_, rfl, ?_⟩
    have f12 : Fr (pb :: fb :: blkL a) H H2 := hf1.trans' hf2 (fun k hk _ => by simp at hk; simp [hk]) (fun k hk _ => by simp at hk; simp [hk])
    have f13 : Fr (pb :: fb :: blkL a) H H3 := f12.trans' hn3.fr (fun k hk _ => hk) (by simp)
    have f14 : Fr (pb :: fb :: blkL a) H H4 := f13.trans' hf4 (fun k hk _ => hk) (fun k hk _ => by simp [hk])
    have f15 : Fr (pb :: fb :: blkL a) H H5 := f14.trans' hf5 (fun k hk _ => hk) (fun k hk _ => by simp at hk; simp [hk])
    refine hk H5 (pb :: fb :: blkL a4) ⟨rfl, ⟨a4, n4, c4, _, _, _, ?_, ho4.fr hf5 (fun ad e hh => np (by simp only [List.mem_singleton] at hh; simp [e, blkL, hh])), hb24.fr hf5 (hpb (Ne.symm ne)), ?_, ?_, rfl, np, nf⟩, ne, ?_, iF.le f15.size, ?_⟩ f15 ?_
    · simpa [Value.cells, tkC] using hb15
    · have h4 := (((hs3.keep hn3.fr).fr hf4 ?_).fr hf5 ?_)
      · exact h4
      · intro ad e hh
        exact (hFp _ (hsq _ (by rw [show slA fc 1 1 fa = some ad from e]; simp [blkL]))).2.2 hh
      · intro ad e hh
        simp only [List.mem_singleton] at hh
        exact (hFp _ (hsq _ (by rw [show slA fc 1 1 fa = some ad from e]; simp [blkL]))).1 hh
    · exact hsq
    · intro k hk
      have := hFp k hk
      simp only [List.mem_cons, not_or]
      refine ⟨this.1, this.2.1, fun h => (hnew k h).elim this.2.2 fun h => by have := iF k hk; omega⟩
    · intro k hk
      simp only [List.mem_cons] at hk
      have := f15.size
      rcases hk with hk | hk | hk
      · have := iS pb (by simp); omega
      · have := iS fb (by simp); omega
      · have := (ho4.ge k hk).2; have := hf5.size; omega
    · intro k hk
      simp only [List.mem_cons] at hk
      rcases hk with hk | hk | hk
      · exact .inl (by simp [hk])
      · exact .inl (by simp [hk])
      · exact (hnew k hk).imp (fun h => by simp [h]) id
end Go.Proofs
