/- A part of a proof: see the last text of this claim. -/
import Derived.Test.YtnkkjfgelgdgcaaR18
set_option linter.unusedVariables false
open Go Go.GV
namespace Go.Proofs

abbrev Step4 := Int × Int × Int × Int
def encStep : Enc Step4 := ⟨fun x => [.int .i64 x.1, .int .i64 x.2.1, .int .i64 x.2.2.1, .int .i64 x.2.2.2], 4, fun _ => rfl, by decide, fun _ v h => by simp at h; rcases h with rfl | rfl | rfl | rfl <;> rfl⟩

def stepC (c : Cnt) (o : Step4) : Cnt := if o.1 = 0 then noteC c o.2.1 o.2.2.1 o.2.2.2 else if o.1 = 1 then halveC c else if o.1 = 2 then setC c o.2.1 (0, 0) else c
def none0 : Cnt := fun _ => (0, 0)

/-- A policy and its reference, of the same counts, made since H0. -/
structure Both (H0 H : Heap) (p : Addr) (r : Nat) (q : Addr) (S : List Nat) (c : Cnt) (m : Nat) : Prop where
  pol : PolRep H p r c
  ref : RefRep H q S c m
  dj : Dj S [p.block, r]
  ge : ∀ k ∈ p.block :: r :: S, H0.size ≤ k
  fr : Fr [] H0 H

theorem Both.keep {H0 H H' : Heap} {p : Addr} {r : Nat} {q : Addr} {S : List Nat} {c : Cnt} {m : Nat} (h : Both H0 H p r q S c m) (hf : Fr [] H H') : Both H0 H' p r q S c m :=
  ⟨h.pol.keep hf, h.ref.keep hf, h.dj, h.ge, h.fr.keep0 hf⟩
theorem Both.refOff {H0 H H' : Heap} {p : Addr} {r : Nat} {q : Addr} {S : List Nat} {c : Cnt} {m : Nat} (h : Both H0 H p r q S c m) (hf : Fr [r] H H') : RefRep H' q S c m :=
  h.ref.fr hf fun k hk h2 => h.dj k hk (by simp at h2 ⊢; exact .inr h2)
theorem Both.step {H0 H H1 H2 : Heap} {p : Addr} {r : Nat} {q : Addr} {S S' : List Nat} {c c' : Cnt} {m m' : Nat} (h : Both H0 H p r q S c m) (hp : PolRep H1 p r c') (hf : Fr [r] H H1) (hq : RefRep H2 q S' c' m') (hf2 : Fr S H1 H2) (hg : Grow H1 S S') :
    Both H0 H2 p r q S' c' m' := by
  have hs := h.fr.size
  have hs1 := hf.size
  refine ⟨hp.fr hf2 (fun hk => h.dj _ hk (by simp)) (fun hk => h.dj _ hk (by simp)), hq, h.dj.grow hg ?_, ?_, ?_⟩
  · intro k hk
    simp at hk
    rcases hk with rfl | rfl
    · exact hp.plt
    · exact hp.lt
  · intro k hk
    rcases List.mem_cons.1 hk with rfl | hk
    · exact h.ge _ (by simp)
    · rcases List.mem_cons.1 hk with rfl | hk
      · exact h.ge _ (by simp)
      · rcases hg k hk with h1 | h1
        · exact h.ge _ (by simp [h1])
        · omega
  · refine (h.fr.keep hf fun k hk => ?_).keep hf2 fun k hk => h.ge _ (by simp [hk])
    exact h.ge _ (by simp at hk ⊢; exact .inr (.inl hk))

theorem does_ok {H0 H : Heap} {p : Addr} {r : Nat} {q : Addr} {S : List Nat} {c : Cnt} {m : Nat} {o : Step4} {K : Heap → Prop} (h : Both H0 H p r q S c m) (hm : m ≤ 100000)
    (hk : ∀ H' S', Both H0 H' p r q S' (stepC c o) (m + 1) → K H') :
    CallH Try.prog fn_law18_does ⟨[.pointer (some p), .pointer (some q), .agg ⟨[.int .i64 o.1, .int .i64 o.2.1, .int .i64 o.2.2.1, .int .i64 o.2.2.2]⟩]⟩ H fun v H' => v = .tuple ⟨[]⟩ ∧ K H' := by
  apply vc_law18_does
  intro b H1 hn
  have h1 := h.keep hn.fr
  have hb := hn.blk
  have hdp : b ≠ r := by
    have e1 := hn.eq
    have e2 := h.pol.lt
    omega
  have hdS : b ∉ S := fun hk => by
    have e1 := hn.eq
    have e2 := h.ref.inH b hk
    omega
  refine ⟨_, ld1_blk (by kernel_rfl) hn.get rfl, brB_of (fun g0 => ?_) (fun g0 => brB_of (fun g1 => ?_) (fun g1 => brB_of (fun g2 => ?_) (fun g2 => ?_)))⟩
  · refine ⟨_, ld1_blk (by kernel_rfl) hn.get rfl, _, ld1_blk (by kernel_rfl) hn.get rfl, _, ld1_blk (by kernel_rfl) hn.get rfl, ?_⟩
    refine Note_ok h1.pol fun H2 hp2 hf2 => ?_
    have hg2 := hf2.get hn.get (by simpa using hdp)
    refine ⟨_, ld1_blk (by kernel_rfl) hg2 rfl, _, ld1_blk (by kernel_rfl) hg2 rfl, _, ld1_blk (by kernel_rfl) hg2 rfl, ?_⟩
    refine rNote_ok (h1.refOff hf2) (by omega) fun H3 S3 hq3 hf3 hg3 => ⟨rfl, hk H3 S3 ?_⟩
    have := h1.step hp2 hf2 hq3 hf3 hg3
    unfold stepC
    rw [if_pos (by simpa using g0)]
    exact this
  · refine Halve_ok h1.pol fun H2 hp2 hf2 => ?_
    refine rHalve_ok (h1.refOff hf2) (by omega) fun H3 hq3 hf3 => ⟨rfl, hk H3 S ?_⟩
    have := h1.step hp2 hf2 (hq3.mono (Nat.le_succ m)) hf3 (Grow.refl _ _)
    unfold stepC
    rw [if_neg (by simpa using g0), if_pos (by simpa using g1)]
    exact this
  · refine ⟨_, ld1_blk (by kernel_rfl) hn.get rfl, ?_⟩
    refine Forget_ok h1.pol fun H2 hp2 hf2 => ?_
    have hg2 := hf2.get hn.get (by simpa using hdp)
    refine ⟨_, ld1_blk (by kernel_rfl) hg2 rfl, ?_⟩
    refine rForget_ok (h1.refOff hf2) (by omega) fun H3 S3 hq3 hf3 hg3 => ⟨rfl, hk H3 S3 ?_⟩
    have := h1.step hp2 hf2 hq3 hf3 hg3
    unfold stepC
    rw [if_neg (by simpa using g0), if_neg (by simpa using g1), if_pos (by simpa using g2)]
    exact this
  · refine ⟨rfl, hk H1 S ?_⟩
    unfold stepC
    rw [if_neg (by simpa using g0), if_neg (by simpa using g1), if_neg (by simpa using g2)]
    exact ⟨h1.pol, h1.ref.mono (Nat.le_succ m), h1.dj, h1.ge, h1.fr⟩

theorem shown_ok {H : Heap} {K : Bool → Heap → Prop} (hk : ∀ H', Fr [] H H' → K true H') : CallH Try.prog fn_law18_shown ⟨[]⟩ H fun v H' => ∃ b, v = .bool b ∧ K b H' := by
  apply vc_law18_shown
  refine New_ok fun r H1 hb hp hf => ?_
  refine brB_of (fun h => by cases h) (fun _ => ?_)
  refine Note_ok hp fun H2 hp2 hf2 => ?_
  have hf2' : Fr [] H H2 := hf.keep hf2 (by simpa using hb)
  refine Counts_ok hp2 fun H3 hf3 => ?_
  have e : noteC (fun _ => (0, 0)) 3 1 9 3 = (0, 9) := by decide
  rw [e]
  refine brB_of (fun _ => brB_of (fun _ => ?_) (fun h => by cases h)) (fun h => by cases h)
  refine Wants_ok (hp2.keep hf3) fun H4 hf4 => ?_
  rw [e]
  exact ⟨_, rfl, hk H4 ((hf2'.keep0 hf3).keep0 hf4)⟩

theorem both_new {H : Heap} {b b2 : Nat} {H1 H2 : Heap} (hb : H.size ≤ b) (hp : PolRep H1 ⟨b + 1, 0, none⟩ b none0) (hf : Fr [] H H1) (hb2 : H1.size ≤ b2) (hq : RefRep H2 ⟨b2, 0, none⟩ [b2] none0 0) (hf2 : Fr [] H1 H2) :
    Both H H2 ⟨b + 1, 0, none⟩ b ⟨b2, 0, none⟩ [b2] none0 0 := by
  have h1 := hp.plt
  have h2 := hp.lt
  have h3 := hf.size
  refine ⟨hp.keep hf2, hq, ?_, ?_, hf.keep0 hf2⟩
  · intro k hk
    simp at hk h1 ⊢
    omega
  · intro k hk
    simp at hk h1
    omega

theorem wantX_idem (x : Int × Int) (hx : bdX x) (k : Int) : wantX x (wantX x k) = wantX x k := by
  unfold bdX at hx
  unfold wantX
  by_cases h1 : k = 0 ∧ x.2 > 2 * x.1 + 8
  · rw [if_pos h1, if_neg (by omega), if_neg (by omega)]
  · rw [if_neg h1]
    by_cases h2 : k = 1 ∧ x.1 > 2 * x.2 + 8
    · rw [if_pos h2, if_neg (by omega), if_neg (by omega)]
    · rw [if_neg h2, if_neg h1, if_neg h2]

theorem Rests_ok {a : Option Addr} {n c : Nat} {l : List Step4} {day : Int} {k : Bool} {H : Heap} (hl : Sl encStep H a n c l) :
    CallH Try.prog fn_law18_PolicyRests ⟨[.slice a n c, .int .i64 day, .bool k]⟩ H fun v H' => v = .bool true ∧ Fr [] H H' := by
  apply vc_law18_PolicyRests
  refine brB_of (fun g => shown_ok fun H' hf => ⟨rfl, hf⟩) (fun g => shown_ok fun H1 hf1 => brB_of (fun h => by cases h) (fun _ => ?_))
  simp only [decide_eq_false_iff_not, gt_iff_lt, Int.not_lt] at g
  refine New_ok fun r H2 hb hp hf2 => rNew_ok fun b2 H3 hb2 hq hf3 => ?_
  have hB := both_new hb hp hf2 hb2 hq hf3
  have hlen := hl.len
  refine ⟨fun vs H' => ∃ (i : Nat) (S : List Nat) (c : Cnt), vs = [.int .i64 i] ∧ i ≤ n ∧ Both H1 H' ⟨r + 1, 0, none⟩ r ⟨b2, 0, none⟩ S c i,
    fun vs _ => match vs with | [.int _ i] => n - i.toNat | _ => 0, ⟨0, _, _, rfl, by omega, hB⟩, ?_⟩
  rintro J i' H4 ⟨i, S, cn, hi, hle, hB⟩
  simp only [List.cons.injEq, Value.int.injEq, and_true, true_and] at hi
  subst hi
  have hf4 : Fr [] H H4 := hf1.keep0 hB.fr
  refine brB_of (fun h0 => ?_) (fun h0 => ?_)
  · have h0' : i < n := by simpa using h0
    have hx : l[i]? = some (l[i]'(by omega)) := by simp
    refine (hl.keep hf4).get rfl hx (decide_eq_true (by omega)) fun ad ea hc => ⟨_, _, _, _, ld_many (by kernel_rfl) (by kernel_rfl) hc, ?_⟩
    refine does_ok hB (by omega) fun H5 S5 hB5 => ?_
    rw [succ_wrap (by omega)]
    refine ⟨⟨i + 1, S5, _, rfl, by omega, hB5⟩, ?_⟩
    show n - ((i + 1 : Nat) : Int).toNat < n - ((i : Nat) : Int).toNat
    omega
  · have fin : ∀ k : Int, CallH Try.prog fn_policy_Policy_Wants ⟨[.pointer (some ⟨r + 1, 0, none⟩), .int .i64 day, .int .i64 k]⟩ H4 fun v H' => ∃ n, v = .int .i64 n ∧
        CallH Try.prog fn_policy_Policy_Wants ⟨[.pointer (some ⟨r + 1, 0, none⟩), .int .i64 day, .int .i64 n]⟩ H' fun v H' => ∃ n_1, v = .int .i64 n_1 ∧
          brB (n_1 == n) (CallH Try.prog fn_ref18_Policy_Wants ⟨[.pointer (some ⟨b2, 0, none⟩), .int .i64 day, .int .i64 k]⟩ H' fun v H' => ∃ n_2, v = .int .i64 n_2 ∧ Value.bool (n == n_2) = .bool true ∧ Fr [] H H')
            (Value.bool false = .bool true ∧ Fr [] H H') := by
      intro k
      refine Wants_ok hB.pol fun H5 hf5 => Wants_ok (hB.pol.keep hf5) fun H6 hf6 => ?_
      rw [wantX_idem _ (hB.pol.bd day)]
      refine brB_of (fun _ => ?_) (fun h => by simp at h)
      refine rWants_ok ((hB.ref.keep hf5).keep hf6) (by omega) ⟨by simp, (hf4.keep0 hf5).keep0 hf6⟩
    exact brB_of (fun _ => fin 1) (fun _ => fin 0)

end Go.Proofs
