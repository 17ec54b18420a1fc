/- A part of a proof: see the last text of this claim. -/
import Derived.Test.YtijedkfekmopnaaP11K
set_option linter.unusedVariables false
set_option maxRecDepth 100000
open Go Go.GV
namespace Go.Proofs

theorem GU.yes {s : ByteArray} {a most : Nat} {v n e : Int} (hm : most < 18446744073709551616) (h : GU ((bl s).drop a) a v n e) (ha : a ≤ s.size) (h1 : e = 0) : ∃ p w : Nat, v = w ∧ n = p ∧ a < p ∧ p ≤ s.size ∧ w < 18446744073709551616 ∧ (bl s).drop a = uintL w ++ (bl s).drop p := by
  rcases h with ⟨w, rfl, hw, h2, h3, rfl, _⟩ | ⟨_, _, h, _⟩ | ⟨_, _, h, _⟩
  · have := uintL_pos w
    rw [List.length_drop, bl_len] at h3
    rw [List.drop_drop] at h2
    exact ⟨_, w, rfl, rfl, by omega, by omega, hw, h2⟩
  · omega
  · omega
theorem GU.rd {s : ByteArray} {a most : Nat} {v n e : Int} (hm : most < 18446744073709551616) (h : GU ((bl s).drop a) a v n e) (ha : a ≤ s.size) :
    (¬ (e = 0 ∧ v ≤ most) → RdG s a true uL (fun v => 0 ≤ v ∧ v ≤ most) v a false) ∧ (e = 0 → v ≤ most → ∃ p : Nat, n = p ∧ p ≤ s.size ∧ 0 ≤ v ∧ RdG s a true uL (fun v => 0 ≤ v ∧ v ≤ most) v p true) := by
  refine ⟨fun hn => ⟨ha, (fun h => by cases h), fun _ y t hy ey => ?_⟩, fun he hv => ?_⟩
  · obtain ⟨g1, _, g3⟩ := h.of (n := y.toNat) (by omega) ey
    exact absurd ⟨g3, by omega⟩ hn
  · obtain ⟨p, w, rfl, rfl, h1, h2, h3, h4⟩ := h.yes hm ha he
    refine ⟨p, rfl, h2, by omega, h2, fun _ => ⟨rfl, by rw [h4]; simp [uL]⟩, fun _ y t hy ey => ?_⟩
    rw [h4] at ey
    obtain ⟨e1, e2⟩ := uint_eq (show uintL w ++ (bl s).drop p = uintL y.toNat ++ t from ey)
    exact ⟨rfl, by omega, e2.symm⟩
abbrev GT40 (v : Int) : Prop := 0 ≤ v ∧ v ≤ ((1099511627776 : Nat) : Int)
theorem slice77 : sliceB Try.prog 77 3 = true := by kernel_rfl
theorem elem3i : elemB Try.prog 3 encInt.sz 8 = true := by kernel_rfl
/-- Several numbers that stand there. -/
theorem rnumbers_ok {s : ByteArray} {a m : Nat} {H : Heap} {K : Option Addr → Nat → Nat → Int → Heap → Prop} (hs : s.size ≤ 100000000000) (ha : a ≤ s.size) (hm : m ≤ 10)
    (hno : (∀ (L : List Int) t, L.length = m → (∀ y ∈ L, GT40 y) → (bl s).drop a ≠ L.flatMap uL ++ t) → ∀ H', Fr [] H H' → K none 0 0 (-1) H')
    (hyes : ∀ (L : List Int) o n c (q : Nat) H', Own encInt 3 H.size H' o n c L → L.length = m → (∀ y ∈ L, GT40 y) → RdG s a true (fun L : List Int => L.flatMap uL) (fun L => L.length = m ∧ ∀ y ∈ L, GT40 y) L q true → q ≤ s.size → Fr [] H H' → K o n c q H') :
    CallH Try.prog fn_ref11_numbers ⟨[.string s, .int .i64 a, .int .i64 m]⟩ H fun v H' => ∃ o n c q, v = .tuple ⟨[.slice o n c, .int .i64 q]⟩ ∧ K o n c q H' := by
  apply vc_ref11_numbers
  intro b H1 hn1
  refine ⟨fun vs H' => match vs with
      | [.int _ q', .slice o n c, .int _ i] => ∃ (L : List Int) (q : Nat), q' = q ∧ i = L.length ∧ Own encInt 3 H.size H' o n c L ∧ (∀ y ∈ L, GT40 y) ∧ RdL s uL GT40 m a q L true ∧ Fr [] H H'
      | _ => False,
    fun vs _ => match vs with | [_, _, .int _ i] => m - i.toNat | _ => 0, ⟨[], a, rfl, rfl, Own.made _ _ hn1 (Nat.le_refl _), by simp, RdL.start ha, hn1.fr⟩, ?_⟩
  rintro J q' o n c i H2 ⟨L, q, rfl, rfl, ho, hG, hrl, hf⟩
  have hle := (hrl.2.1 rfl).1
  have hq := hrl.1
  refine brB_of (fun h => ?_) (fun h => ?_)
  · have hlt : L.length < m := by simp at h; omega
    refine rGetUint_ok hs (fun h => absurd ⟨by omega, by omega⟩ h) fun a' ea ha' v n' e H3 hg hf3 => ?_
    have ea : a' = q := by omega
    subst ea
    obtain ⟨g1, g2⟩ := hg.rd (most := 1099511627776) (by omega) hq
    have bad : ¬ (e = 0 ∧ v ≤ ((1099511627776 : Nat) : Int)) → K none 0 0 (-1) H3 := fun hn => by
      refine hno (fun L' t h1 h2 e' => ?_) H3 (hf.keep0 hf3)
      have := (hrl.step hlt (g1 hn)).2.2 L' t h1 h2 e'
      cases this.1
    refine brB_of (fun h1 => ⟨_, _, _, _, rfl, bad fun hh => ?_⟩) (fun h1 => brB_of (fun h2 => ⟨_, _, _, _, rfl, bad fun hh => ?_⟩) (fun h2 => ?_))
    · rw [hh.1] at h1; simp at h1
    · have := of_decide_eq_true h2; omega
    · have he : e = 0 := by simpa using h1
      have hv : v ≤ ((1099511627776 : Nat) : Int) := by have := of_decide_eq_false h2; omega
      obtain ⟨p, rfl, h3, h4, h5⟩ := g2 he hv
      have ew : IntKind.i64.wrap v = v := wrap64_of (by omega) (by omega)
      rw [ew]
      have hol := ho.1
      refine ap_one (E := encInt) v slice77 elem3i (ho.keep hf3) (hf.keep0 hf3) rfl (by omega) fun _ o' n' c' H4 ho4 hf4 _ => ?_
      rw [succ64 (by omega)]
      refine ⟨⟨L ++ [v], p, rfl, by simp, ho4, fun y hy => ?_, hrl.step hlt h5, hf4⟩, mu_lt hlt⟩
      rcases List.mem_append.1 hy with hy | hy
      · exact hG y hy
      · simp at hy; subst hy; exact ⟨h4, hv⟩
  · have hlm : m ≤ L.length := by simp at h; omega
    obtain ⟨h1, h2⟩ := hrl.done fun _ => hlm
    exact ⟨_, _, _, _, rfl, hyes L o n c q H2 ho (h2 rfl) hG h1 hq hf⟩
/-- An element of a list of numbers. -/
theorem _root_.Go.GV.Sl.at1 {H : Heap} {a : Option Addr} {n c : Nat} {x y : Int} {xs : List Int} (h : Sl encInt H a n c (x :: y :: xs)) {b : Bool} (hb : b = true) {X : Addr → Prop}
    (hk : ∀ ad, a = some ad → Ld Try.prog 3 H (ad.add 1) (.int .i64 y) → X ad) : exSome a fun ad => chk b (X ad) :=
  h.get (i := 1) (k := 1) rfl rfl hb fun ad e hc => hk ad e (ld_one (by kernel_rfl) hc)
theorem _root_.Go.GV.Sl.at2 {H : Heap} {a : Option Addr} {n c : Nat} {x y z : Int} {xs : List Int} (h : Sl encInt H a n c (x :: y :: z :: xs)) {b : Bool} (hb : b = true) {X : Addr → Prop}
    (hk : ∀ ad, a = some ad → Ld Try.prog 3 H (ad.add 2) (.int .i64 z) → X ad) : exSome a fun ad => chk b (X ad) :=
  h.get (i := 2) (k := 2) rfl rfl hb fun ad e hc => hk ad e (ld_one (by kernel_rfl) hc)
theorem _root_.Go.GV.Sl.at0 {H : Heap} {a : Option Addr} {n c : Nat} {x : Int} {xs : List Int} (h : Sl encInt H a n c (x :: xs)) {b : Bool} (hb : b = true) {X : Addr → Prop}
    (hk : ∀ ad, a = some ad → Ld Try.prog 3 H ad (.int .i64 x) → X ad) : exSome a fun ad => chk b (X ad) :=
  h.head hb fun ad e hc => hk ad e (ld_one (by kernel_rfl) hc)
theorem st33 {H : Heap} {b : Nat} {m m' : Rm} {X : Heap → Prop} (h : Blk H ⟨b, 0, none⟩ (rC m')) (k : ∀ H', Blk H' ⟨b, 0, none⟩ (rC m) → Fr [b] H H' → X H') : ∃ H', St Try.prog 33 H ⟨b, 0, none⟩ (.agg ⟨rC m⟩) H' ∧ X H' :=
  h.st0 (v := .agg ⟨rC m⟩) (by kernel_rfl) (by kernel_rfl) (fun x hx => by simp [Value.cells, rC] at hx; rcases hx with rfl | rfl | rfl | rfl | rfl <;> rfl) (by simp [Value.cells, rC]) fun H' hb hf => k H' (by simpa [Value.cells, rC] using hb) hf
/-- All of it was read, if it is a record's. -/
def CmpR (s : ByteArray) (r : Rc) (ok : Bool) : Prop := ∀ y, GoodR y → bl s = encR y → ok = true ∧ y = r
end Go.Proofs
