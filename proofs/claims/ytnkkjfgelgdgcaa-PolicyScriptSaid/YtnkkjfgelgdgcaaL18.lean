/- A part of a proof: see the last text of this claim. -/
import Derived.Test.YtnkkjfgelgdgcaaR18
set_option linter.unusedVariables false
open Go Go.GV
namespace Go.Proofs

abbrev Step4 := Int × Int × Int × Int
def encStep : Enc Step4 := ⟨fun x => [.int .i64 x.1, .int .i64 x.2.1, .int .i64 x.2.2.1, .int .i64 x.2.2.2], 4, fun _ => rfl, by decide, fun _ v h => by simp at h; rcases h with rfl | rfl | rfl | rfl <;> rfl⟩

def stepC (c : Cnt) (o : Step4) : Cnt := if o.1 = 0 then noteC c o.2.1 o.2.2.1 o.2.2.2 else if o.1 = 1 then halveC c else if o.1 = 2 then setC c o.2.1 (0, 0) else c
def none0 : Cnt := fun _ => (0, 0)

/-- A policy and its reference, of the same counts, made since H0. -/
structure Both (H0 H : Heap) (p : Addr) (r : Nat) (q : Addr) (S : List Nat) (c : Cnt) (m : Nat) : Prop where
  pol : PolRep H p r c
  ref : RefRep H q S c m
  dj : Dj S [p.block, r]
  ge : ∀ k ∈ p.block :: r :: S, H0.size ≤ k
  fr : Fr [] H0 H

theorem Both.keep {H0 H H' : Heap} {p : Addr} {r : Nat} {q : Addr} {S : List Nat} {c : Cnt} {m : Nat} (h : Both H0 H p r q S c m) (hf : Fr [] H H') : Both H0 H' p r q S c m :=
  ⟨h.pol.keep hf, h.ref.keep hf, h.dj, h.ge, h.fr.keep0 hf⟩
theorem Both.refOff {H0 H H' : Heap} {p : Addr} {r : Nat} {q : Addr} {S : List Nat} {c : Cnt} {m : Nat} (h : Both H0 H p r q S c m) (hf : Fr [r] H H') : RefRep H' q S c m :=
  h.ref.fr hf fun k hk h2 => h.dj k hk (by simp at h2 ⊢; exact .inr h2)
theorem Both.step {H0 H H1 H2 : Heap} {p : Addr} {r : Nat} {q : Addr} {S S' : List Nat} {c c' : Cnt} {m m' : Nat} (h : Both H0 H p r q S c m) (hp : PolRep H1 p r c') (hf : Fr [r] H H1) (hq : RefRep H2 q S' c' m') (hf2 : Fr S H1 H2) (hg : Grow H1 S S') :
    Both H0 H2 p r q S' c' m' := by
  have hs := h.fr.size
  have hs1 := hf.size
  refine ⟨hp.fr hf2 (fun hk => h.dj _ hk (by simp)) (fun hk => h.dj _ hk (by simp)), hq, h.dj.grow hg ?_, ?_, ?_⟩
  · intro k hk
    simp at hk
    rcases hk with rfl | rfl
    · exact hp.plt
    · exact hp.lt
  · intro k hk
    rcases List.mem_cons.1 hk with rfl | hk
    · exact h.ge _ (by simp)
    · rcases List.mem_cons.1 hk with rfl | hk
      · exact h.ge _ (by simp)
      · rcases hg k hk with h1 | h1
        · exact h.ge _ (by simp [h1])
        · omega
  · refine (h.fr.keep hf fun k hk => ?_).keep hf2 fun k hk => h.ge _ (by simp [hk])
    exact h.ge _ (by simp at hk ⊢; exact .inr (.inl hk))

theorem does_ok {H0 H : Heap} {p : Addr} {r : Nat} {q : Addr} {S : List Nat} {c : Cnt} {m : Nat} {o : Step4} {K : Heap → Prop} (h : Both H0 H p r q S c m) (hm : m ≤ 100000)
    (hk : ∀ H' S', Both H0 H' p r q S' (stepC c o) (m + 1) → K H') :
    CallH Try.prog fn_law18_does ⟨[.pointer (some p), .pointer (some q), .agg ⟨[.int .i64 o.1, .int .i64 o.2.1, .int .i64 o.2.2.1, .int .i64 o.2.2.2]⟩]⟩ H fun v H' => v = .tuple ⟨[]⟩ ∧ K H' := by
  apply vc_law18_does
  intro b H1 hn
  have h1 := h.keep hn.fr
  have hb := hn.blk
  have hdp : b ≠ r := by
    have e1 := hn.eq
    have e2 := h.pol.lt
    omega
  have hdS : b ∉ S := fun hk => by
    have e1 := hn.eq
    have e2 := h.ref.inH b hk
    omega
  refine ⟨_, ld1_blk (by kernel_rfl) hn.get rfl, brB_of (fun g0 => ?_) (fun g0 => brB_of (fun g1 => ?_) (fun g1 => brB_of (fun g2 => ?_) (fun g2 => ?_)))⟩
  · refine ⟨_, ld1_blk (by kernel_rfl) hn.get rfl, _, ld1_blk (by kernel_rfl) hn.get rfl, _, ld1_blk (by kernel_rfl) hn.get rfl, ?_⟩
    refine Note_ok h1.pol fun H2 hp2 hf2 => ?_
    have hg2 := hf2.get hn.get (by simpa using hdp)
    refine ⟨_, ld1_blk (by kernel_rfl) hg2 rfl, _, ld1_blk (by kernel_rfl) hg2 rfl, _, ld1_blk (by kernel_rfl) hg2 rfl, ?_⟩
    refine rNote_ok (h1.refOff hf2) (by omega) fun H3 S3 hq3 hf3 hg3 => ⟨rfl, hk H3 S3 ?_⟩
    have := h1.step hp2 hf2 hq3 hf3 hg3
    unfold stepC
    rw [if_pos (by simpa using g0)]
    exact this
  · refine Halve_ok h1.pol fun H2 hp2 hf2 => ?_
    refine rHalve_ok (h1.refOff hf2) (by omega) fun H3 hq3 hf3 => ⟨rfl, hk H3 S ?_⟩
    have := h1.step hp2 hf2 (hq3.mono (Nat.le_succ m)) hf3 (Grow.refl _ _)
    unfold stepC
    rw [if_neg (by simpa using g0), if_pos (by simpa using g1)]
    exact this
  · refine ⟨_, ld1_blk (by kernel_rfl) hn.get rfl, ?_⟩
    refine Forget_ok h1.pol fun H2 hp2 hf2 => ?_
    have hg2 := hf2.get hn.get (by simpa using hdp)
    refine ⟨_, ld1_blk (by kernel_rfl) hg2 rfl, ?_⟩
    refine rForget_ok (h1.refOff hf2) (by omega) fun H3 S3 hq3 hf3 hg3 => ⟨rfl, hk H3 S3 ?_⟩
    have := h1.step hp2 hf2 hq3 hf3 hg3
    unfold stepC
    rw [if_neg (by simpa using g0), if_neg (by simpa using g1), if_pos (by simpa using g2)]
    exact this
  · refine ⟨rfl, hk H1 S ?_⟩
    unfold stepC
    rw [if_neg (by simpa using g0), if_neg (by simpa using g1), if_neg (by simpa using g2)]
    exact ⟨h1.pol, h1.ref.mono (Nat.le_succ m), h1.dj, h1.ge, h1.fr⟩

theorem shown_ok {H : Heap} {K : Bool → Heap → Prop} (hk : ∀ H', Fr [] H H' → K true H') : CallH Try.prog fn_law18_shown ⟨[]⟩ H fun v H' => ∃ b, v = .bool b ∧ K b H' := by
  apply vc_law18_shown
  refine New_ok fun r H1 hb hp hf => ?_
  refine brB_of (fun h => by cases h) (fun _ => ?_)
  refine Note_ok hp fun H2 hp2 hf2 => ?_
  have hf2' : Fr [] H H2 := hf.keep hf2 (by simpa using hb)
  refine Counts_ok hp2 fun H3 hf3 => ?_
  have e : noteC (fun _ => (0, 0)) 3 1 9 3 = (0, 9) := by decide
  rw [e]
  refine brB_of (fun _ => brB_of (fun _ => ?_) (fun h => by cases h)) (fun h => by cases h)
  refine Wants_ok (hp2.keep hf3) fun H4 hf4 => ?_
  rw [e]
  exact ⟨_, rfl, hk H4 ((hf2'.keep0 hf3).keep0 hf4)⟩

theorem both_new {H : Heap} {b b2 : Nat} {H1 H2 : Heap} (hb : H.size ≤ b) (hp : PolRep H1 ⟨b + 1, 0, none⟩ b none0) (hf : Fr [] H H1) (hb2 : H1.size ≤ b2) (hq : RefRep H2 ⟨b2, 0, none⟩ [b2] none0 0) (hf2 : Fr [] H1 H2) :
    Both H H2 ⟨b + 1, 0, none⟩ b ⟨b2, 0, none⟩ [b2] none0 0 := by
  have h1 := hp.plt
  have h2 := hp.lt
  have h3 := hf.size
  refine ⟨hp.keep hf2, hq, ?_, ?_, hf.keep0 hf2⟩
  · intro k hk
    simp at hk h1 ⊢
    omega
  · intro k hk
    simp at hk h1
    omega

theorem wantX_idem (x : Int × Int) (hx : bdX x) (k : Int) : wantX x (wantX x k) = wantX x k := by
  unfold bdX at hx
  unfold wantX
  by_cases h1 : k = 0 ∧ x.2 > 2 * x.1 + 8
  · rw [if_pos h1, if_neg (by omega), if_neg (by omega)]
  · rw [if_neg h1]
    by_cases h2 : k = 1 ∧ x.1 > 2 * x.2 + 8
    · rw [if_pos h2, if_neg (by omega), if_neg (by omega)]
    · rw [if_neg h2, if_neg h1, if_neg h2]

theorem Rests_ok {a : Option Addr} {n c : Nat} {l : List Step4} {day : Int} {k : Bool} {H : Heap} (hl : Sl encStep H a n c l) :
    CallH Try.prog fn_law18_PolicyRests ⟨[.slice a n c, .int .i64 day, .bool k]⟩ H fun v H' => v = .bool true ∧ Fr [] H H' := by
  apply vc_law18_PolicyRests
  refine brB_of (fun g => shown_ok fun H' hf => ⟨rfl, hf⟩) (fun g => shown_ok fun H1 hf1 => brB_of (fun h => by cases h) (fun _ => ?_))
  simp only [decide_eq_false_iff_not, gt_iff_lt, Int.not_lt] at g
  refine New_ok fun r H2 hb hp hf2 => rNew_ok fun b2 H3 hb2 hq hf3 => ?_
  have hB := both_new hb hp hf2 hb2 hq hf3
  have hlen := hl.len
  refine ⟨fun vs H' => ∃ (i : Nat) (S : List Nat) (c : Cnt), vs = [.int .i64 i] ∧ i ≤ n ∧ Both H1 H' ⟨r + 1, 0, none⟩ r ⟨b2, 0, none⟩ S c i,
    fun vs _ => match vs with | [.int _ i] => n - i.toNat | _ => 0, ⟨0, _, _, rfl, by omega, hB⟩, ?_⟩
  rintro J i' H4 ⟨i, S, cn, hi, hle, hB⟩
  simp only [List.cons.injEq, Value.int.injEq, and_true, true_and] at hi
  subst hi
  have hf4 : Fr [] H H4 := hf1.keep0 hB.fr
  refine brB_of (fun h0 => ?_) (fun h0 => ?_)
  · have h0' : i < n := by simpa using h0
    have hx : l[i]? = some (l[i]'(by omega)) := by simp
    refine (hl.keep hf4).get rfl hx (decide_eq_true (by omega)) fun ad ea hc => ⟨_, _, _, _, ld_many (by kernel_rfl) (by kernel_rfl) hc, ?_⟩
    refine does_ok hB (by omega) fun H5 S5 hB5 => ?_
    rw [succ_wrap (by omega)]
    refine ⟨⟨i + 1, S5, _, rfl, by omega, hB5⟩, ?_⟩
    show n - ((i + 1 : Nat) : Int).toNat < n - ((i : Nat) : Int).toNat
    omega
  · have fin : ∀ k : Int, CallH Try.prog fn_policy_Policy_Wants ⟨[.pointer (some ⟨r + 1, 0, none⟩), .int .i64 day, .int .i64 k]⟩ H4 fun v H' => ∃ n, v = .int .i64 n ∧
        CallH Try.prog fn_policy_Policy_Wants ⟨[.pointer (some ⟨r + 1, 0, none⟩), .int .i64 day, .int .i64 n]⟩ H' fun v H' => ∃ n_1, v = .int .i64 n_1 ∧
          brB (n_1 == n) (CallH Try.prog fn_ref18_Policy_Wants ⟨[.pointer (some ⟨b2, 0, none⟩), .int .i64 day, .int .i64 k]⟩ H' fun v H' => ∃ n_2, v = .int .i64 n_2 ∧ Value.bool (n == n_2) = .bool true ∧ Fr [] H H')
            (Value.bool false = .bool true ∧ Fr [] H H') := by
      intro k
      refine Wants_ok hB.pol fun H5 hf5 => Wants_ok (hB.pol.keep hf5) fun H6 hf6 => ?_
      rw [wantX_idem _ (hB.pol.bd day)]
      refine brB_of (fun _ => ?_) (fun h => by simp at h)
      refine rWants_ok ((hB.ref.keep hf5).keep hf6) (by omega) ⟨by simp, (hf4.keep0 hf5).keep0 hf6⟩
    exact brB_of (fun _ => fin 1) (fun _ => fin 0)

theorem halve_pow {x : Int} {i : Nat} (h : x * 2 ^ i ≤ 1073741824) : x / 2 * 2 ^ (i + 1) ≤ 1073741824 := by
  have h1 : x / 2 * 2 ≤ x := by omega
  have h2 : (0 : Int) ≤ 2 ^ i := Int.pow_nonneg (by decide)
  have h3 : x / 2 * 2 * 2 ^ i ≤ x * 2 ^ i := Int.mul_le_mul_of_nonneg_right h1 h2
  have e : x / 2 * 2 ^ (i + 1) = x / 2 * 2 * 2 ^ i := by rw [Int.pow_succ, Int.mul_assoc, Int.mul_comm (2 ^ i) 2]
  omega

theorem Halves_ok {a : Option Addr} {n c : Nat} {l : List Step4} {day : Int} {H : Heap} (hl : Sl encStep H a n c l) :
    CallH Try.prog fn_law18_PolicyHalves ⟨[.slice a n c, .int .i64 day]⟩ H fun v H' => v = .bool true ∧ Fr [] H H' := by
  apply vc_law18_PolicyHalves
  refine brB_of (fun g => shown_ok fun H' hf => ⟨rfl, hf⟩) (fun g => shown_ok fun H1 hf1 => brB_of (fun h => by cases h) (fun _ => ?_))
  simp only [decide_eq_false_iff_not, gt_iff_lt, Int.not_lt] at g
  refine New_ok fun r H2 hb hp hf2 => rNew_ok fun b2 H3 hb2 hq hf3 => ?_
  have hB := both_new hb hp hf2 hb2 hq hf3
  have hlen := hl.len
  refine ⟨fun vs H' => ∃ (i : Nat) (S : List Nat) (c : Cnt), vs = [.int .i64 i] ∧ i ≤ n ∧ Both H1 H' ⟨r + 1, 0, none⟩ r ⟨b2, 0, none⟩ S c i,
    fun vs _ => match vs with | [.int _ i] => n - i.toNat | _ => 0, ⟨0, _, _, rfl, by omega, hB⟩, ?_⟩
  rintro J i' H4 ⟨i, S, cn, hi, hle, hB⟩
  simp only [List.cons.injEq, Value.int.injEq, and_true, true_and] at hi
  subst hi
  have hf4 : Fr [] H H4 := hf1.keep0 hB.fr
  refine brB_of (fun h0 => ?_) (fun h0 => ?_)
  · have h0' : i < n := by simpa using h0
    have hx : l[i]? = some (l[i]'(by omega)) := by simp
    refine (hl.keep hf4).get rfl hx (decide_eq_true (by omega)) fun ad ea hc => ⟨_, _, _, _, ld_many (by kernel_rfl) (by kernel_rfl) hc, ?_⟩
    refine does_ok hB (by omega) fun H5 S5 hB5 => ?_
    rw [succ_wrap (by omega)]
    refine ⟨⟨i + 1, S5, _, rfl, by omega, hB5⟩, ?_⟩
    show n - ((i + 1 : Nat) : Int).toNat < n - ((i : Nat) : Int).toNat
    omega
  · have hge : ∀ k ∈ [r], H.size ≤ k := fun k hk => by
      have h1 := hB.ge r (by simp)
      have h2 := hf1.size
      simp at hk; omega
    have hbd := hB.pol.bd day
    refine ⟨fun vs H' => ∃ (i : Nat) (c : Cnt), vs = [.int .i64 i] ∧ i ≤ 31 ∧ PolRep H' ⟨r + 1, 0, none⟩ r c ∧ Fr [] H H' ∧ (c day).1 * 2 ^ i ≤ 1073741824 ∧ (c day).2 * 2 ^ i ≤ 1073741824,
      fun vs _ => match vs with | [.int _ i] => 31 - i.toNat | _ => 0, ⟨0, _, rfl, by omega, hB.pol, hf4, by have := hbd.2.1; omega, by have := hbd.2.2.2; omega⟩, ?_⟩
    rintro J i' H5 ⟨i, cn, hi, hle, hpol, hf5, hx1, hx2⟩
    simp only [List.cons.injEq, Value.int.injEq, and_true, true_and] at hi
    subst hi
    have hbd := hpol.bd day
    refine brB_of (fun h0 => ?_) (fun h0 => ?_)
    · have h0' : i < 31 := by simp at h0; omega
      refine Counts_ok hpol fun H6 hf6 => ?_
      refine Halve_ok (hpol.keep hf6) fun H7 hp7 hf7 => ?_
      refine Counts_ok hp7 fun H8 hf8 => ?_
      have hW : ∀ y : Int, 0 ≤ y → y ≤ 1073741824 → IntKind.i64.wrap (y.tdiv 2) = y / 2 := by
        intro y h1 h2
        rw [Int.tdiv_eq_ediv_of_nonneg h1]
        exact wrap64_of (by omega) (by omega)
      rw [hW _ hbd.1 hbd.2.1, hW _ hbd.2.2.1 hbd.2.2.2]
      refine brB_of (fun h => by simp [halveC, halveX] at h) (fun _ => brB_of (fun h => by simp [halveC, halveX] at h) (fun _ => ?_))
      rw [succ_wrap (by omega)]
      refine ⟨⟨i + 1, _, rfl, by omega, hp7.keep hf8, ((hf5.keep0 hf6).keep hf7 hge).keep0 hf8, halve_pow hx1, halve_pow hx2⟩, ?_⟩
      show 31 - ((i + 1 : Nat) : Int).toNat < 31 - ((i : Nat) : Int).toNat
      omega
    · have hi : i = 31 := by simp at h0; omega
      subst hi
      have e1 : (cn day).1 = 0 := by have := hbd.1; omega
      have e2 : (cn day).2 = 0 := by have := hbd.2.2.1; omega
      refine Counts_ok hpol fun H6 hf6 => ?_
      rw [e1, e2]
      refine brB_of (fun _ => brB_of (fun _ => ?_) (fun h => by simp at h)) (fun h => by simp at h)
      refine Wants_ok (hpol.keep hf6) fun H7 hf7 => ?_
      have w0 : wantX (cn day) 0 = 0 := by unfold wantX; rw [e1, e2]; decide
      have w1 : wantX (cn day) 1 = 1 := by unfold wantX; rw [e1, e2]; decide
      rw [w0]
      refine brB_of (fun _ => ?_) (fun h => by simp at h)
      refine Wants_ok ((hpol.keep hf6).keep hf7) fun H8 hf8 => ?_
      rw [w1]
      exact ⟨rfl, ((hf5.keep0 hf6).keep0 hf7).keep0 hf8⟩

/-- Two policies, made since H0, that count the same of one day. -/
structure Two (H0 H : Heap) (p : Addr) (r : Nat) (q : Addr) (r2 : Nat) (day : Int) (c d : Cnt) : Prop where
  p1 : PolRep H p r c
  p2 : PolRep H q r2 d
  dj : Dj [p.block, r] [q.block, r2]
  ge : ∀ k ∈ [p.block, r, q.block, r2], H0.size ≤ k
  fr : Fr [] H0 H
  say : c day = d day
theorem Two.keep {H0 H H' : Heap} {p : Addr} {r : Nat} {q : Addr} {r2 : Nat} {day : Int} {c d : Cnt} (h : Two H0 H p r q r2 day c d) (hf : Fr [] H H') : Two H0 H' p r q r2 day c d :=
  ⟨h.p1.keep hf, h.p2.keep hf, h.dj, h.ge, h.fr.keep0 hf, h.say⟩
theorem Two.left {H0 H H' : Heap} {p : Addr} {r : Nat} {q : Addr} {r2 : Nat} {day : Int} {c d c' : Cnt} (h : Two H0 H p r q r2 day c d) (hp : PolRep H' p r c') (hf : Fr [r] H H') (hs : c' day = d day) : Two H0 H' p r q r2 day c' d := by
  refine ⟨hp, h.p2.fr hf ?_ ?_, h.dj, h.ge, h.fr.keep hf fun k hk => h.ge k (by simp at hk; simp [hk]), hs⟩
  · exact fun hk => h.dj.symm q.block (by simp) (by simp at hk; simp [hk])
  · exact fun hk => h.dj.symm r2 (by simp) (by simp at hk; simp [hk])
theorem Two.offR {H0 H H' : Heap} {p : Addr} {r : Nat} {q : Addr} {r2 : Nat} {day : Int} {c d : Cnt} (h : Two H0 H p r q r2 day c d) (hf : Fr [r] H H') : PolRep H' q r2 d := by
  refine h.p2.fr hf ?_ ?_
  · exact fun hk => h.dj.symm q.block (by simp) (by simp at hk; simp [hk])
  · exact fun hk => h.dj.symm r2 (by simp) (by simp at hk; simp [hk])
theorem Two.both {H0 H H1 H2 : Heap} {p : Addr} {r : Nat} {q : Addr} {r2 : Nat} {day : Int} {c d c' d' : Cnt} (h : Two H0 H p r q r2 day c d) (hp : PolRep H1 p r c') (hf : Fr [r] H H1) (hq : PolRep H2 q r2 d') (hf2 : Fr [r2] H1 H2) (hs : c' day = d' day) : Two H0 H2 p r q r2 day c' d' := by
  refine ⟨hp.fr hf2 ?_ ?_, hq, h.dj, h.ge, (h.fr.keep hf fun k hk => h.ge k (by simp at hk; simp [hk])).keep hf2 fun k hk => h.ge k (by simp at hk; simp [hk]), hs⟩
  · exact fun hk => h.dj p.block (by simp) (by simp at hk; simp [hk])
  · exact fun hk => h.dj r (by simp) (by simp at hk; simp [hk])

theorem setC_other {c : Cnt} {d day : Int} {x : Int × Int} (h : d ≠ day) : setC c d x day = c day := by unfold setC; rw [if_neg (Ne.symm h)]
theorem noteC_other {c : Cnt} {d day k n : Int} (h : d ≠ day) : noteC c d k n day = c day := by
  unfold noteC; split
  · rfl
  · exact setC_other h
theorem noteC_same {c d : Cnt} {day k n : Int} (h : c day = d day) : noteC c day k n day = noteC d day k n day := by
  unfold noteC; split
  · exact h
  · unfold setC; rw [if_pos rfl, if_pos rfl, h]
theorem note_parts {c d : Cnt} {day k a b : Int} (hb : bdX (c day)) (h : c day = d day) (hk : k = 0 ∨ k = 1) (ha : 0 ≤ a ∧ a ≤ 65535) (hb2 : 0 ≤ b ∧ b ≤ 65535) : noteC (noteC c day k a) day k b day = noteC d day k (a + b) day := by
  have e : ∀ (c : Cnt) (n : Int), bdX (c day) → 0 ≤ n → n ≤ 1000000 → noteC c day k n day = if k = 0 then (min ((c day).1 + n) 1073741824, (c day).2) else ((c day).1, min ((c day).2 + n) 1073741824) := by
    intro c n hb h1 h2
    unfold noteC
    unfold bdX at hb
    split
    · have : n = 0 := by omega
      subst this
      split <;> (refine Prod.ext ?_ ?_ <;> simp only <;> omega)
    · unfold setC noteX
      rw [if_pos rfl]
      have : min n 1073741824 = n := by omega
      rw [this]
  rw [e (noteC c day k a) b (noteC_bd (c := fun _ => c day) (fun _ => hb) day |> fun h => by rw [noteC_same (c := c) (d := fun _ => c day) rfl]; exact h) hb2.1 (by omega), e c a hb ha.1 (by omega), e d (a + b) (by rw [← h]; exact hb) (by omega) (by omega), ← h]
  unfold bdX at hb
  rcases hk with rfl | rfl
  · simp only [if_true]
    refine Prod.ext ?_ ?_ <;> simp only <;> omega
  · simp only [if_neg (show ¬ (1 : Int) = 0 by decide)]
    refine Prod.ext ?_ ?_ <;> simp only <;> omega

theorem Apart_ok {la : Option Addr} {n cc : Nat} {l : List Step4} {day a b : Int} {kd : Bool} {H : Heap} (hl : Sl encStep H la n cc l) (ha : 0 ≤ a ∧ a ≤ 65535) (hb0 : 0 ≤ b ∧ b ≤ 65535) :
    CallH Try.prog fn_law18_PolicyApart ⟨[.slice la n cc, .int .i64 day, .int .u16 a, .int .u16 b, .bool kd]⟩ H fun v H' => v = .bool true ∧ Fr [] H H' := by
  apply vc_law18_PolicyApart
  refine brB_of (fun g => shown_ok fun H' hf => ⟨rfl, hf⟩) (fun g => shown_ok fun H1 hf1 => brB_of (fun h => by cases h) (fun _ => ?_))
  simp only [decide_eq_false_iff_not, gt_iff_lt, Int.not_lt] at g
  refine New_ok fun r H2 hb hp hf2 => New_ok fun r2 H3 hb2 hq hf3 => ?_
  have hlen := hl.len
  have hT : Two H1 H3 ⟨r + 1, 0, none⟩ r ⟨r2 + 1, 0, none⟩ r2 day none0 none0 := by
    have h1 := hp.plt
    have h3 := hf2.size
    simp at h1
    refine ⟨hp.keep hf3, hq, ?_, ?_, hf2.keep0 hf3, rfl⟩
    · intro k hk
      simp at hk ⊢
      omega
    · intro k hk
      simp at hk
      omega
  refine ⟨fun vs H' => ∃ (i : Nat) (c d : Cnt), vs = [.int .i64 i] ∧ i ≤ n ∧ Two H1 H' ⟨r + 1, 0, none⟩ r ⟨r2 + 1, 0, none⟩ r2 day c d,
    fun vs _ => match vs with | [.int _ i] => n - i.toNat | _ => 0, ⟨0, _, _, rfl, by omega, hT⟩, ?_⟩
  rintro J i' H4 ⟨i, c, d, hi, hle, hT⟩
  simp only [List.cons.injEq, Value.int.injEq, and_true, true_and] at hi
  subst hi
  have hf4 : Fr [] H H4 := hf1.keep0 hT.fr
  refine brB_of (fun h0 => ?_) (fun h0 => ?_)
  · have h0' : i < n := by simpa using h0
    have hx : l[i]? = some (l[i]'(by omega)) := by simp
    refine (hl.keep hf4).get rfl hx (decide_eq_true (by omega)) fun ad ea hc => ⟨_, _, _, _, ld_many (by kernel_rfl) (by kernel_rfl) hc, ?_⟩
    generalize l[i]'(by omega) = o
    refine var_st (by kernel_rfl) (by kernel_rfl) (by simp [Value.cells, Value.oneCell']) rfl fun b1 H5 hb1 hg5 hf5 => ?_
    have hT5 := hT.keep hf5
    have hne : b1 ≠ r ∧ b1 ≠ r2 := by
      have h1 := hT.p1.lt
      have h2 := hT.p2.lt
      omega
    refine ⟨fun _ H' => ∃ c d : Cnt, Two H1 H' ⟨r + 1, 0, none⟩ r ⟨r2 + 1, 0, none⟩ r2 day c d ∧ H'[b1]? = some (.cells ⟨[.int .i64 o.1, .int .i64 o.2.1, .int .i64 o.2.2.1, .int .i64 o.2.2.2]⟩ 28 (0, 0)), ?_, ?_⟩
    · refine ⟨_, ld1_blk (by kernel_rfl) hg5 rfl, brB_of (fun g0 => ?_) (fun g0 => ⟨c, d, hT5, hg5⟩)⟩
      refine ⟨_, ld1_blk (by kernel_rfl) hg5 rfl, _, ld1_blk (by kernel_rfl) hg5 rfl, _, ld1_blk (by kernel_rfl) hg5 rfl, ?_⟩
      refine Note_ok hT5.p1 fun H6 hp6 hf6 => ?_
      have hg6 := hf6.get hg5 (by simpa using hne.1)
      refine ⟨_, ld1_blk (by kernel_rfl) hg6 rfl, brB_of (fun g1 => ?_) (fun g1 => ?_)⟩
      · refine ⟨_, ld1_blk (by kernel_rfl) hg6 rfl, _, ld1_blk (by kernel_rfl) hg6 rfl, _, ld1_blk (by kernel_rfl) hg6 rfl, ?_⟩
        refine Note_ok (hT5.offR hf6) fun H7 hp7 hf7 => ?_
        simp only [beq_iff_eq] at g1
        refine ⟨_, _, hT5.both hp6 hf6 hp7 hf7 ?_, hf7.get hg6 (by simpa using hne.2)⟩
        rw [g1]
        exact noteC_same hT5.say
      · refine ⟨_, _, hT5.left hp6 hf6 ?_, hg6⟩
        rw [noteC_other (by simpa using g1)]
        exact hT5.say
    · rintro J2 H6 ⟨c6, d6, hT6, hg6⟩
      refine ⟨_, ld1_blk (by kernel_rfl) hg6 rfl, brB_of (fun g1 => ?_) (fun g1 => ?_)⟩
      · refine Halve_ok hT6.p1 fun H7 hp7 hf7 => Halve_ok (hT6.offR hf7) fun H8 hp8 hf8 => ?_
        rw [succ_wrap (by omega)]
        refine ⟨⟨i + 1, _, _, rfl, by omega, hT6.both hp7 hf7 hp8 hf8 ?_⟩, ?_⟩
        · unfold halveC; rw [hT6.say]
        · show n - ((i + 1 : Nat) : Int).toNat < n - ((i : Nat) : Int).toNat
          omega
      · rw [succ_wrap (by omega)]
        refine ⟨⟨i + 1, _, _, rfl, by omega, hT6⟩, ?_⟩
        show n - ((i + 1 : Nat) : Int).toNat < n - ((i : Nat) : Int).toNat
        omega
  · refine ⟨fun vs H' => (vs = [.int .i64 0] ∨ vs = [.int .i64 1]) ∧ H' = H4, brB_of (fun _ => ⟨.inr rfl, rfl⟩) (fun _ => ⟨.inl rfl, rfl⟩), ?_⟩
    rintro J2 k H' ⟨hk, rfl⟩
    have hk : k = 0 ∨ k = 1 := by simpa using hk
    have ew : ∀ x : Int, 0 ≤ x → x ≤ 200000 → IntKind.i64.wrap x = x := fun x h1 h2 => wrap64_of (by omega) (by omega)
    rw [ew a ha.1 (by omega), ew b hb0.1 (by omega), ew (a + b) (by omega) (by omega)]
    refine Note_ok hT.p1 fun H5 hp5 hf5 => Note_ok hp5 fun H6 hp6 hf6 => ?_
    have hf56 : Fr [r] H' H6 := hf5.trans' hf6 (fun _ h _ => h) (fun _ h _ => h)
    refine Note_ok (hT.offR hf56) fun H7 hp7 hf7 => ?_
    have hT7 := hT.both hp6 hf56 hp7 hf7 (note_parts (hT.p1.bd day) hT.say hk ha hb0)
    have hs := hT7.say
    have hfr := hf1.keep0 hT7.fr
    refine Counts_ok hT7.p1 fun H8 hf8 => Counts_ok (hT7.p2.keep hf8) fun H9 hf9 => ?_
    have hf79 := hf8.keep0 hf9
    refine brB_of (fun _ => brB_of (fun _ => ?_) (fun h => by simp [hs] at h)) (fun h => by simp [hs] at h)
    refine Wants_ok (hT7.p1.keep hf79) fun Ha hfa => Wants_ok (hT7.p2.keep (hf79.keep0 hfa)) fun Hb hfb => ?_
    refine brB_of (fun _ => ?_) (fun h => by simp [hs] at h)
    have hfb' := (hf79.keep0 hfa).keep0 hfb
    refine Wants_ok (hT7.p1.keep hfb') fun Hc hfc => Wants_ok (hT7.p2.keep (hfb'.keep0 hfc)) fun Hd hfd => ?_
    exact ⟨by simp [hs], hfr.keep0 ((hfb'.keep0 hfc).keep0 hfd)⟩

theorem Script_ok {la da ka : Option Addr} {n cc dn dc kn kc : Nat} {l : List Step4} {ds ks : List Int} {H : Heap} (hl : Sl encStep H la n cc l) (hd : Sl encInt H da dn dc ds) (hks : Sl encInt H ka kn kc ks) :
    CallH Try.prog fn_law18_PolicyScript ⟨[.slice la n cc, .slice da dn dc, .slice ka kn kc]⟩ H fun v H' => v = .bool true ∧ Fr [] H H' := by
  apply vc_law18_PolicyScript
  refine brB_of (fun g => shown_ok fun H' hf => ⟨rfl, hf⟩) (fun g => brB_of (fun g2 => shown_ok fun H' hf => ⟨rfl, hf⟩) (fun g2 => brB_of (fun g3 => shown_ok fun H' hf => ⟨rfl, hf⟩) (fun g3 => shown_ok fun H1 hf1 => brB_of (fun h => by cases h) (fun _ => ?_))))
  simp only [decide_eq_false_iff_not, gt_iff_lt, Int.not_lt] at g g2 g3
  refine New_ok fun r H2 hb hp hf2 => rNew_ok fun b2 H3 hb2 hq hf3 => ?_
  have hB := both_new hb hp hf2 hb2 hq hf3
  have hlen := hl.len
  refine ⟨fun vs H' => ∃ (i : Nat) (S : List Nat) (c : Cnt), vs = [.int .i64 i] ∧ i ≤ n ∧ Both H1 H' ⟨r + 1, 0, none⟩ r ⟨b2, 0, none⟩ S c i,
    fun vs _ => match vs with | [.int _ i] => n - i.toNat | _ => 0, ⟨0, _, _, rfl, by omega, hB⟩, ?_⟩
  rintro J i' H4 ⟨i, S, cn, hi, hle, hB⟩
  simp only [List.cons.injEq, Value.int.injEq, and_true, true_and] at hi
  subst hi
  have hf4 : Fr [] H H4 := hf1.keep0 hB.fr
  refine brB_of (fun h0 => ?_) (fun h0 => ?_)
  · have h0' : i < n := by simpa using h0
    have hx : l[i]? = some (l[i]'(by omega)) := by simp
    generalize l[i]'(by omega) = o at hx
    have at' : ∀ {Hx : Heap} {X : Addr → Prop}, Fr [] H Hx → (∀ ad, la = some ad → CellsAt Hx (ad.add ((i : Int).toNat * encStep.sz)) (encStep.cells o) → X ad) → exSome la fun ad => chk (decide ((0 : Int) ≤ i ∧ (i : Int) < n)) (X ad) :=
      fun hf hk => (hl.keep hf).get rfl hx (decide_eq_true (by omega)) hk
    refine at' hf4 fun ad ea hc => ⟨_, _, _, _, ld_many (by kernel_rfl) (by kernel_rfl) hc, ?_⟩
    refine does_ok hB (by omega) fun H5 S5 hB5 => ?_
    have hf5 : Fr [] H H5 := hf1.keep0 hB5.fr
    refine at' hf5 fun ad ea hc => ⟨_, ld_part (j := 1) (by kernel_rfl) hc rfl, ?_⟩
    refine Counts_ok hB5.pol fun H6 hf6 => ?_
    have hB6 := hB5.keep hf6
    refine at' (hf1.keep0 hB6.fr) fun ad ea hc => ⟨_, ld_part (j := 1) (by kernel_rfl) hc rfl, ?_⟩
    refine rCounts_ok hB6.ref (by omega) ?_
    refine brB_of (fun h => by simp at h) (fun _ => brB_of (fun h => by simp at h) (fun _ => ?_))
    refine ⟨fun vs H' => ∃ k : Int, vs = [.int .i64 k] ∧ -1 ≤ k ∧ k ≤ 3 ∧ Both H1 H' ⟨r + 1, 0, none⟩ r ⟨b2, 0, none⟩ S5 (stepC cn o) (i + 1),
      fun vs _ => match vs with | [.int _ k] => (3 - k).toNat | _ => 0, ⟨-1, rfl, by omega, by omega, hB6⟩, ?_⟩
    rintro J2 k' H7 ⟨k, hk, hk1, hk2, hB7⟩
    simp only [List.cons.injEq, Value.int.injEq, and_true, true_and] at hk
    subst hk
    have hf7 : Fr [] H H7 := hf1.keep0 hB7.fr
    refine brB_of (fun h3 => ?_) (fun h3 => ?_)
    · have h3' : k' < 3 := by simpa using h3
      refine at' hf7 fun ad ea hc => ⟨_, ld_part (j := 1) (by kernel_rfl) hc rfl, ?_⟩
      refine at' hf7 fun ad ea hc2 => ⟨_, ld_part (j := 1) (by kernel_rfl) hc2 rfl, ?_⟩
      refine Wants_ok hB7.pol fun H8 hf8 => ?_
      have hB8 := hB7.keep hf8
      refine ⟨ld_part (j := 1) (by kernel_rfl) (hc2.keep hf8) rfl, rWants_ok hB8.ref (by omega) ?_⟩
      refine brB_of (fun h => by simp at h) (fun _ => ?_)
      have ew : IntKind.i64.wrap (k' + 1) = k' + 1 := wrap64_of (by omega) (by omega)
      rw [ew]
      refine ⟨⟨k' + 1, rfl, by omega, by omega, hB8⟩, ?_⟩
      show (3 - (k' + 1)).toNat < (3 - k').toNat
      omega
    · rw [succ_wrap (by omega)]
      refine ⟨⟨i + 1, S5, _, rfl, by omega, hB7⟩, ?_⟩
      show n - ((i + 1 : Nat) : Int).toNat < n - ((i : Nat) : Int).toNat
      omega
  · refine Next_ok hB.pol (hd.keep hf4) (hks.keep hf4) (by omega) (by omega) fun H5 hf5 => ?_
    have hf45 := hf4.keep0 hf5
    refine rNext_ok (hB.ref.keep hf5) (by omega) (hd.keep hf45) (hks.keep hf45) (by omega) (by omega) ?_
    refine brB_of (fun _ => brB_of (fun _ => ⟨by simp, hf45⟩) (fun h => by simp at h)) (fun h => by simp at h)

end Go.Proofs
