/- A part of a proof: see the last text of this claim. -/
import Derived.Test.YtgjbljhocedpfaaL10c
set_option linter.unusedVariables false
set_option maxRecDepth 100000
open Go Go.GV
namespace Go.Proofs

theorem Blk.setK {P : Program} {t : TypeId} {H : Heap} {b j : Nat} {vs : List Value} {v : Value} {X : Heap → Prop} (h : Blk H ⟨b, 0, none⟩ vs) (hs : szOf P t = 1) (hi : (P.info? t).isSome = true) (hv : v.cells = #[v]) (h1 : v.oneCell' = true) (hj : j < vs.length)
    (k : ∀ H', Blk H' ⟨b, 0, none⟩ (vs.set j v) → Fr [b] H H' → X H') : ∃ H', St P t H ⟨b, j, none⟩ v H' ∧ X H' := by
  have := Go.Proofs.Blk.set h hs hi hv h1 hj k
  rwa [add_at, Nat.zero_add] at this

theorem mem_putS {k : ByteArray} {v : Value} {ck : Nat} {L : List (Ent ByteArray)} (hw : WfL ck L) {y : Ent ByteArray} (h : y ∈ putL k v ck L) : (y.1 = k ∧ y.2.1 = v) ∨ (y.1 ≠ k ∧ y ∈ L) := by
  have hp := hw.put k v
  have hg := getL_mem hp (k := y.1) (v := y.2.1) (b := y.2.2) h
  rw [getL_putL] at hg
  by_cases e : y.1 = k
  · rw [if_pos e] at hg
    injection hg with hg
    exact .inl ⟨e, hg.symm⟩
  · refine .inr ⟨e, ?_⟩
    unfold putL at h
    split at h
    · have : ∀ M : List (Ent ByteArray), y ∈ GV.setL k v M → y ∈ M := by
        intro M
        induction M with
        | nil => exact id
        | cons x l ih =>
          unfold GV.setL
          split
          · intro h
            rcases List.mem_cons.1 h with h | h
            · exact absurd (by rw [h]) e
            · exact List.mem_cons_of_mem _ h
          · intro h
            rcases List.mem_cons.1 h with h | h
            · rw [h]; exact List.mem_cons_self
            · exact List.mem_cons_of_mem _ (ih h)
      exact this L h
    · rcases List.mem_append.1 h with h | h
      · exact h
      · exact absurd (by rw [List.mem_singleton.1 h]) e

def putF (last : ByteArray → Option (ByteArray × List Int)) (k : ByteArray) (v : ByteArray × List Int) : ByteArray → Option (ByteArray × List Int) := fun x => if x = k then some v else last x
theorem LastR.put {H : Heap} {r : Nat} {Q : List Nat} {last : ByteArray → Option (ByteArray × List Int)} {K : Heap → Prop} (h : LastR H r Q last) {d : ByteArray} {a : Option Addr} {n c : Nat} {xs : List Int} (k : ByteArray) (hs : Sl encInt H a n c xs) (hr : r ∉ Q ++ blkL a)
    (hk : ∀ H', LastR H' r (Q ++ blkL a) (putF last k (d, xs)) → Fr [r] H H' → K H') :
    SemU Try.prog (Instr.mapUpdate 52 (.map (some r)) (.string k) (.agg ⟨[.string d, .slice a n c]⟩)) H K := by
  obtain ⟨ck, L, hm, he, hn⟩ := h
  refine put_map SM (mt := 52) (e := 59) Try.underlying52 hm k fun H' hm' hf => hk H' ⟨_, _, hm', fun x hx => ?_, fun y hy => ?_⟩ hf
  · have hq : ∀ k ∈ Q ++ blkL a, k ∉ [r] := fun k hk e => by simp only [List.mem_singleton] at e; exact hr (e ▸ hk)
    unfold putF
    rcases mem_putS hm.wf hx with ⟨e1, e2⟩ | ⟨e1, e2⟩
    · exact ⟨d, a, n, c, xs, e2, hs.fr hf (fun ad e => hq _ (by simp [e, blkL])), fun k hk => by simp [hk], by rw [if_pos e1]⟩
    · obtain ⟨d', a', n', c', xs', e, hs', hq', hl'⟩ := he x e2
      exact ⟨d', a', n', c', xs', e, hs'.fr hf (fun ad e => hq _ (by simp [hq' ad.block (by simp [e, blkL])])), fun k hk => by simp [hq' k hk], by rw [if_neg e1]; exact hl'⟩
  · rw [getL_putL] at hy
    unfold putF
    split at hy
    · cases hy
    · rename_i h; rw [if_neg h]; exact hn y hy

/-- What lasts of such files: the last one of a name. -/
def lastOf (fs : List (ByteArray × ByteArray × List Int)) : ByteArray → Option (ByteArray × List Int) := fs.foldl (fun f x => putF f x.1 x.2) fun _ => none
theorem lastOf_snoc (fs : List (ByteArray × ByteArray × List Int)) (x : ByteArray × ByteArray × List Int) : lastOf (fs ++ [x]) = putF (lastOf fs) x.1 x.2 := by
  unfold lastOf; rw [List.foldl_append]; rfl

theorem TkR.need_ne {H : Heap} {pb fb base : Nat} {vs : List Value} {Fq S : List Nat} {t : Tk} (h : TkR H pb fb base vs Fq S t) : pb ∈ S ∧ fb ∈ S := by
  obtain ⟨_, ⟨a, n, c, fa, fn, fc, _, _, _, _, _, hS, _⟩, _⟩ := h
  subst hS; simp
theorem TkR.setv {H : Heap} {pb fb base : Nat} {vs : List Value} {Fq S : List Nat} {t : Tk} (h : TkR H pb fb base vs Fq S t) {ty : TypeId} {j : Nat} {v : Value} {X : Heap → Prop} (hs : szOf Try.prog ty = 1) (hi : (Try.prog.info? ty).isSome = true) (hv : v.cells = #[v]) (h1 : v.oneCell' = true) (hj : j < 4)
    (k : ∀ H', TkR H' pb fb base (vs.set j v) Fq S t → Fr [pb] H H' → X H') : ∃ H', St Try.prog ty H ⟨pb, j + 1, none⟩ v H' ∧ X H' := by
  obtain ⟨hvl, ⟨a, n, c, fa, fn, fc, hbk, ho, hb2, hsl, hq, hS, n1, n2⟩, ne, dj, iF, iS⟩ := h
  refine Blk.setK hbk hs hi hv h1 (by simp [tkC, hvl]; omega) fun H' hb hf => k H' ⟨by simpa using hvl, ⟨a, n, c, fa, fn, fc, ?_, ho.fr hf ?_, hb2.fr hf ?_, hsl.fr hf ?_, hq, hS, n1, n2⟩, ne, dj, iF.le hf.size, iS.le hf.size⟩ hf
  · refine Go.Proofs.Blk.cast hb ?_
    unfold tkC
    rw [List.set_cons_succ, List.set_append_left _ _ (by omega)]
  · intro ad e hh; exact n1 (by simp only [List.mem_singleton] at hh; simp [e, blkL, hh])
  · simpa using Ne.symm ne
  · intro ad e hh
    have := dj _ (hq ad.block (by simp [e, blkL]))
    rw [hS] at this
    simp only [List.mem_singleton] at hh
    rw [hh] at this
    simp at this
theorem TkR.setf {H : Heap} {pb fb base : Nat} {vs : List Value} {Fq S : List Nat} {t : Tk} (h : TkR H pb fb base vs Fq S t) {b : Bool} {X : Heap → Prop}
    (k : ∀ H', TkR H' pb fb base vs Fq S { t with fits := b } → Fr [pb] H H' → X H') : ∃ H', St Try.prog 4 H ⟨pb, 6, none⟩ (.bool b) H' ∧ X H' := by
  obtain ⟨hvl, ⟨a, n, c, fa, fn, fc, hbk, ho, hb2, hsl, hq, hS, n1, n2⟩, ne, dj, iF, iS⟩ := h
  refine Blk.setK hbk (by kernel_rfl) (by kernel_rfl) rfl rfl (by simp [tkC, hvl]) fun H' hb hf => k H' ⟨hvl, ⟨a, n, c, fa, fn, fc, ?_, ho.fr hf ?_, hb2.fr hf ?_, hsl.fr hf ?_, hq, hS, n1, n2⟩, ne, dj, iF.le hf.size, iS.le hf.size⟩ hf
  · refine Go.Proofs.Blk.cast hb ?_
    obtain ⟨v1, v2, v3, v4, rfl⟩ : ∃ v1 v2 v3 v4, vs = [v1, v2, v3, v4] := by
      match vs, hvl with
      | [v1, v2, v3, v4], _ => exact ⟨v1, v2, v3, v4, rfl⟩
    rfl
  · intro ad e hh; exact n1 (by simp only [List.mem_singleton] at hh; simp [e, blkL, hh])
  · simpa using Ne.symm ne
  · intro ad e hh
    have := dj _ (hq ad.block (by simp [e, blkL]))
    rw [hS] at this
    simp only [List.mem_singleton] at hh
    rw [hh] at this
    simp at this
theorem TkR.ldv {H : Heap} {pb fb base : Nat} {vs : List Value} {Fq S : List Nat} {t : Tk} (h : TkR H pb fb base vs Fq S t) {ty : TypeId} {j : Nat} {v : Value} (ht : aggB Try.prog ty = false) (hv : vs[j]? = some v) : Ld Try.prog ty H ⟨pb, j + 1, none⟩ v := by
  obtain ⟨hvl, ⟨a, n, c, fa, fn, fc, hbk, _⟩, _⟩ := h
  refine hbk.ldK ht ?_
  unfold tkC
  have : j < vs.length := (List.getElem?_eq_some_iff.1 hv).1
  rw [List.getElem?_cons_succ, List.getElem?_append_left this]; exact hv
theorem TkR.ldf {H : Heap} {pb fb base : Nat} {vs : List Value} {Fq S : List Nat} {t : Tk} (h : TkR H pb fb base vs Fq S t) : Ld Try.prog 4 H ⟨pb, 6, none⟩ (.bool t.fits) := by
  obtain ⟨hvl, ⟨a, n, c, fa, fn, fc, hbk, _⟩, _⟩ := h
  obtain ⟨v1, v2, v3, v4, rfl⟩ : ∃ v1 v2 v3 v4, vs = [v1, v2, v3, v4] := by
    match vs, hvl with
    | [v1, v2, v3, v4], _ => exact ⟨v1, v2, v3, v4, rfl⟩
  exact hbk.ldK (by kernel_rfl) rfl
/-- What was taken is bounded. -/
structure TkB (t : Tk) (B : Nat) : Prop where
  need : t.need ≤ B
  puts : t.puts.length ≤ B
theorem TkB.take {t : Tk} {B : Nat} (h : TkB t B) (c : ByteArray) : TkB (takeM t c).1 (B + 1) := by
  obtain ⟨h1, h2⟩ := h
  unfold takeM
  split
  · exact ⟨by simp; omega, by simp; omega⟩
  · exact ⟨by simp; omega, by simp; omega⟩
theorem TkB.mono {t : Tk} {B B' : Nat} (h : TkB t B) (hb : B ≤ B') : TkB t B' := ⟨by have := h.need; omega, by have := h.puts; omega⟩
theorem wrapU64_range (n : Int) : 0 ≤ IntKind.u64.wrap n ∧ IntKind.u64.wrap n < 18446744073709551616 := by
  have : IntKind.u64.wrap n = n % 18446744073709551616 := by
    simp [IntKind.wrap, IntKind.bits, IntKind.signed]
  rw [this]; omega
theorem app_mk (x y : List UInt8) : ((⟨x.toArray⟩ : ByteArray) ++ ⟨y.toArray⟩) = ⟨(x ++ y).toArray⟩ := by
  apply bl_inj
  simp [bl]
/-- One file's line of the directory. -/
def numsB (l : List Int) : List UInt8 := l.flatMap fun n => uintL (IntKind.u64.wrap n).toNat
def fileB (f : ByteArray × ByteArray × List Int) : List UInt8 := textL f.1 ++ uintL f.2.1.size ++ numsB f.2.2
theorem dirB_eq (fs : List (ByteArray × ByteArray × List Int)) : dirB fs = uintL fs.length ++ fs.flatMap fileB := rfl
theorem numsB_len (l : List Int) : (numsB l).length ≤ 10 * l.length := by
  induction l with
  | nil => simp [numsB]
  | cons x l ih =>
    have := wrapU64_range x
    have := uintL_len10 (n := (IntKind.u64.wrap x).toNat) (by omega)
    unfold numsB at ih ⊢
    simp only [List.flatMap_cons, List.length_append, List.length_cons]; omega
theorem numsB_snoc (l : List Int) (x : Int) : numsB (l ++ [x]) = numsB l ++ uintL (IntKind.u64.wrap x).toNat := by simp [numsB]
end Go.Proofs
