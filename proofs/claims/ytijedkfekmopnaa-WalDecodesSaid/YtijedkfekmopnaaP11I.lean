/- A part of a proof: see the last text of this claim. -/
import Derived.Test.YtijedkfekmopnaaP11H
set_option linter.unusedVariables false
set_option maxRecDepth 100000
open Go Go.GV
namespace Go.Proofs

/-! what is read, of things that are written by f: soundly, and all of it -/
def RdG {α : Type} (s : ByteArray) (a : Nat) (ok : Bool) (f : α → List UInt8) (G : α → Prop) (x : α) (p : Nat) (ok' : Bool) : Prop :=
  p ≤ s.size ∧ (ok' = true → ok = true ∧ (bl s).drop a = f x ++ (bl s).drop p) ∧ (ok = true → ∀ y t, G y → (bl s).drop a = f y ++ t → ok' = true ∧ y = x ∧ t = (bl s).drop p)
theorem RdG.weak {α : Type} {s : ByteArray} {a : Nat} {ok : Bool} {f : α → List UInt8} {G G' : α → Prop} {x : α} {p : Nat} {ok' : Bool} (h : RdG s a ok f G x p ok') (hg : ∀ y, G' y → G y) : RdG s a ok f G' x p ok' :=
  ⟨h.1, h.2.1, fun ho y t hy e => h.2.2 ho y t (hg y hy) e⟩
theorem RdG.pair {α β : Type} {s : ByteArray} {a p q : Nat} {ok ok' ok'' : Bool} {f : α → List UInt8} {g : β → List UInt8} {G : α → Prop} {G2 : β → Prop} {x : α} {y : β} (h : RdG s a ok f G x p ok') (h' : RdG s p ok' g G2 y q ok'') :
    RdG s a ok (fun z : α × β => f z.1 ++ g z.2) (fun z => G z.1 ∧ G2 z.2) (x, y) q ok'' := by
  refine ⟨h'.1, fun ho => ?_, fun ho z t hz e => ?_⟩
  · obtain ⟨h1, h2⟩ := h'.2.1 ho
    obtain ⟨h3, h4⟩ := h.2.1 h1
    exact ⟨h3, by rw [h4, h2, List.append_assoc]⟩
  · rw [List.append_assoc] at e
    obtain ⟨h1, h2, h3⟩ := h.2.2 ho z.1 _ hz.1 e
    obtain ⟨h4, h5, h6⟩ := h'.2.2 h1 z.2 t hz.2 h3.symm
    exact ⟨h4, by rw [← h2, ← h5], h6⟩
theorem NumR.rd {s : ByteArray} {a p most : Nat} {ok ok' : Bool} {v : Int} (ha : a ≤ s.size) (h : NumR s a ok most v p ok') : RdG s a ok uL (fun v => 0 ≤ v ∧ v ≤ most) v p ok' ∧ (0 ≤ v ∧ v ≤ most) := by
  rcases h with ⟨rfl, rfl, n, rfl, h1, h2, h3, h4⟩ | ⟨rfl, rfl, rfl, h⟩
  · refine ⟨⟨h4, fun _ => ⟨rfl, by rw [h2]; simp [uL]⟩, fun _ y t hy e => ?_⟩, by omega, by omega⟩
    rw [h2] at e
    obtain ⟨e1, e2⟩ := uint_eq (show uintL n ++ (bl s).drop p = uintL y.toNat ++ t from e)
    exact ⟨rfl, by omega, e2.symm⟩
  · exact ⟨⟨ha, (fun h => by cases h), fun ho y t hy e => absurd e (h ho y.toNat (by omega) t)⟩, by omega, by omega⟩
theorem intL_eq {v w : Int} {x y : List UInt8} (e : intL v ++ x = intL w ++ y) : v = w ∧ x = y := by
  obtain ⟨e1, e2⟩ := uint_eq (show uintL (foldN v) ++ x = uintL (foldN w) ++ y from e)
  exact ⟨by rw [← unfold_fold v, e1, unfold_fold], e2⟩
theorem ValR.rd {s : ByteArray} {a p : Nat} {ok ok' : Bool} {v : Int} (ha : a ≤ s.size) (h : ValR s a ok v p ok') : RdG s a ok intL I64 v p ok' ∧ I64 v := by
  rcases h with ⟨rfl, rfl, h1, h2, h3, h4⟩ | ⟨rfl, rfl, rfl, h⟩
  · refine ⟨⟨h4, fun _ => ⟨rfl, h2⟩, fun _ y t hy e => ?_⟩, h1⟩
    rw [h2] at e
    obtain ⟨e1, e2⟩ := intL_eq e
    exact ⟨rfl, e1.symm, e2.symm⟩
  · exact ⟨⟨ha, (fun h => by cases h), fun ho y t hy e => absurd e (h ho y hy t)⟩, by unfold I64; omega⟩

/-- A list of so many things, so far. -/
def RdL {α : Type} (s : ByteArray) (f : α → List UInt8) (G : α → Prop) (N a p : Nat) (M : List α) (ok : Bool) : Prop :=
  p ≤ s.size ∧ (ok = true → M.length ≤ N ∧ (bl s).drop a = M.flatMap f ++ (bl s).drop p) ∧ (∀ L t, L.length = N → (∀ y ∈ L, G y) → (bl s).drop a = L.flatMap f ++ t → ok = true ∧ ∃ R, L = M ++ R ∧ (bl s).drop p = R.flatMap f ++ t)
theorem RdL.start {α : Type} {s : ByteArray} {f : α → List UInt8} {G : α → Prop} {N a : Nat} (ha : a ≤ s.size) : RdL s f G N a a [] true :=
  ⟨ha, fun _ => ⟨Nat.zero_le _, by simp⟩, fun L t _ _ e => ⟨rfl, L, rfl, e⟩⟩
theorem RdL.step {α : Type} {s : ByteArray} {f : α → List UInt8} {G : α → Prop} {N a p p' : Nat} {M : List α} {ok ok' : Bool} {x : α} (h : RdL s f G N a p M ok) (hM : M.length < N) (h' : RdG s p ok f G x p' ok') : RdL s f G N a p' (M ++ [x]) ok' := by
  refine ⟨h'.1, fun ho => ?_, fun L t hL hG e => ?_⟩
  · obtain ⟨h1, h2⟩ := h'.2.1 ho
    obtain ⟨h3, h4⟩ := h.2.1 h1
    exact ⟨by simp; omega, by rw [h4, h2]; simp⟩
  · obtain ⟨h1, R, rfl, h3⟩ := h.2.2 L t hL hG e
    cases R with
    | nil => simp at hL; omega
    | cons y R =>
      rw [List.flatMap_cons, List.append_assoc] at h3
      obtain ⟨h4, h5, h6⟩ := h'.2.2 h1 y _ (hG y (by simp)) h3
      exact ⟨h4, R, by rw [h5]; simp, h6.symm⟩
theorem RdL.done {α : Type} {s : ByteArray} {f : α → List UInt8} {G : α → Prop} {N a p : Nat} {M : List α} {ok : Bool} (h : RdL s f G N a p M ok) (hM : ok = true → N ≤ M.length) : RdG s a true (fun L => L.flatMap f) (fun L => L.length = N ∧ ∀ y ∈ L, G y) M p ok ∧ (ok = true → M.length = N) := by
  refine ⟨⟨h.1, fun ho => ⟨rfl, (h.2.1 ho).2⟩, fun _ L t hL e => ?_⟩, fun ho => by have := (h.2.1 ho).1; have := hM ho; omega⟩
  obtain ⟨h1, R, rfl, h3⟩ := h.2.2 L t hL.1 hL.2 e
  have := hM h1
  have hl := hL.1
  rw [List.length_append] at hl
  have : R = [] := List.eq_nil_of_length_eq_zero (by omega)
  subst this
  exact ⟨h1, by simp, by simpa using h3.symm⟩
/-- The count, and the list. -/
theorem RdG.list {α : Type} {s : ByteArray} {f : α → List UInt8} {G : α → Prop} {n : Int} {N most a p q : Nat} {M : List α} {ok ok' ok'' : Bool} (e : n = N) (h : RdG s a ok uL (fun v => 0 ≤ v ∧ v ≤ most) n p ok')
    (h' : ok' = true → RdG s p true (fun L => L.flatMap f) (fun L => L.length = N ∧ ∀ y ∈ L, G y) M q ok'' ∧ (ok'' = true → M.length = N)) (hno : ok' = false → ok'' = false ∧ q ≤ s.size) :
    RdG s a ok (fun L => uintL L.length ++ L.flatMap f) (fun L => L.length ≤ most ∧ ∀ y ∈ L, G y) M q ok'' := by
  subst e
  cases ok' with
  | false =>
    obtain ⟨rfl, hq⟩ := hno rfl
    refine ⟨hq, (fun h => by cases h), fun ho y t hy e => ?_⟩
    rw [List.append_assoc] at e
    obtain ⟨h1, _⟩ := h.2.2 ho (y.length : Int) _ ⟨by omega, by omega⟩ (by simpa [uL] using e)
    cases h1
  | true =>
    obtain ⟨h1, h2⟩ := h' rfl
    refine ⟨h1.1, fun ho => ?_, fun ho y t hy e => ?_⟩
    · obtain ⟨_, h3⟩ := h1.2.1 ho
      obtain ⟨h4, h5⟩ := h.2.1 rfl
      refine ⟨h4, ?_⟩
      show _ = (uintL M.length ++ M.flatMap f) ++ _
      rw [h5, h3, h2 ho, List.append_assoc]; simp [uL]
    · rw [List.append_assoc] at e
      obtain ⟨_, h3, h4⟩ := h.2.2 ho (y.length : Int) _ ⟨by omega, by omega⟩ (by simpa [uL] using e)
      obtain ⟨h5, h6, h7⟩ := h1.2.2 rfl y t ⟨by omega, hy.2⟩ h4.symm
      exact ⟨h5, h6, h7⟩

/-! records that are read -/
structure GoodR (r : Rc) : Prop where
  fine : FineP r
  typ : TypR r
  chk : r.k = 0 → ChkP r.l
def m0 (k : Int) : Rm := (k, (none, 0, 0), (none, 0, 0), (none, 0, 0), 0)
/-- What a kind's own reading leaves. -/
structure Took (H : Heap) (m : Rm) (s : ByteArray) (a : Nat) (k : Int) (r : Rc) (p : Nat) (ok : Bool) : Prop where
  h : RcH H m r
  kind : r.k = k
  typ : TypR r
  small : Small m
  rd : RdG s a true bodyR (fun y => GoodR y ∧ y.k = k) r p ok
  chk : ok = true → k = 0 → ChkP r.l
/-- The blocks of a record's lists are not this one. -/
def NotIn (m : Rm) (b : Nat) : Prop := (∀ ad, m.2.1.1 = some ad → ad.block ≠ b) ∧ (∀ ad, m.2.2.1.1 = some ad → ad.block ≠ b) ∧ ∀ ad, m.2.2.2.1.1 = some ad → ad.block ≠ b
theorem no_ad {b : Nat} : ∀ ad : Addr, (none : Option Addr) = some ad → ad.block ≠ b := fun ad e => by cases e
theorem not_own {α : Type} {E : Enc α} {t : TypeId} {base : Nat} {H : Heap} {a : Option Addr} {n c : Nat} {xs : List α} (h : Own E t base H a n c xs) {b : Nat} (hb : b < base) : ∀ ad, a = some ad → ad.block ≠ b := fun ad e => by
  have := (h.ge ad.block (by subst e; simp [blkL])).1
  omega
theorem forms8_ok {H : Heap} {rb xb : Nat} {s : ByteArray} {a : Nat} {K : Heap → Prop} (hr : Blk H ⟨rb, 0, none⟩ (rC (m0 3))) (hx : Blk H ⟨xb, 0, none⟩ (rdC s a true)) (hne : rb ≠ xb) (hs : s.size ≤ 100000000000) (ha : a ≤ s.size)
    (hk : ∀ H' m r p ok', Blk H' ⟨rb, 0, none⟩ (rC m) → Blk H' ⟨xb, 0, none⟩ (rdC s p ok') → Took H' m s a 3 r p ok' → (∀ b, b < H.size → NotIn m b) → Fr [xb, rb] H H' → K H') :
    CallH Try.prog fn_wal_forms_8 ⟨[.pointer (some ⟨rb, 0, none⟩), .pointer (some ⟨xb, 0, none⟩)]⟩ H fun v H' => v = .tuple ⟨[]⟩ ∧ K H' := by
  apply vc_wal_forms_8
  refine number_ok (most := 1099511627776) hx hs ha (by omega) fun H1 v p ok' hx1 hn hf1 => ?_
  obtain ⟨hrd, hv⟩ := hn.rd ha
  have hr1 := hr.fr hf1 (by simp; exact hne)
  refine hr1.st (j := 4) (v := .int .i64 v) (by kernel_rfl) (by kernel_rfl) (fun x hx => by simp [Value.cells] at hx; subst hx; rfl) (by simp [Value.cells, rC]) fun H2 hr2 hf2 => ⟨rfl, ?_⟩
  refine hk H2 (3, (none, 0, 0), (none, 0, 0), (none, 0, 0), v) ⟨3, [], [], [], v⟩ p ok' (by simpa [Value.cells, rC, m0] using hr2) (hx1.fr hf2 (by simp; exact fun e => hne e.symm)) ?_ (fun b _ => ⟨no_ad, no_ad, no_ad⟩) (hf1.trans' hf2 (fun k hk _ => by simp at hk; simp [hk]) (fun k hk _ => by simp at hk; simp [hk]))
  refine ⟨⟨rfl, Sl.zero, Sl.zero, Sl.zero, rfl⟩, rfl, fun x hx => by simp at hx, ⟨by simp, by simp, by simp⟩, ⟨hrd.1, fun ho => ?_, fun ho y t hy e => ?_⟩, fun _ h => by omega⟩
  · obtain ⟨h1, h2⟩ := hrd.2.1 ho
    refine ⟨rfl, ?_⟩
    rw [h2]; unfold bodyR; rw [if_neg (by simp), if_neg (by simp), if_neg (by simp)]
  · have hyk := hy.2
    have hF := hy.1.fine
    have e2 : bodyR y = uL y.at' := by unfold bodyR; rw [if_neg (by omega), if_neg (by omega), if_neg (by omega)]
    rw [e2] at e
    obtain ⟨h1, h2, h3⟩ := hrd.2.2 rfl y.at' t ⟨hF.at'.1, by have := hF.at'.2; omega⟩ e
    refine ⟨h1, ?_, h3⟩
    have g1 : y.l = [] := Classical.byContradiction fun h => by have := hF.l h; omega
    have g2 : y.rows = [] := Classical.byContradiction fun h => by have := hF.rows h; omega
    have g3 : y.tombs = [] := Classical.byContradiction fun h => by have := hF.tombs h; omega
    cases y
    simp only at g1 g2 g3 hyk h2
    subst g1 g2 g3 hyk h2
    rfl
end Go.Proofs
