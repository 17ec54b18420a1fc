/- A part of a proof: see the last text of this claim. -/
import Derived.Test.YtjpjmpnlomkdbaaL13c
set_option linter.unusedVariables false
set_option maxRecDepth 100000
open Go Go.GV
namespace Go.Proofs

inductive All2 {α β : Type} (R : α → β → Prop) : List α → List β → Prop
  | nil : All2 R [] []
  | cons {x y xs ys} : R x y → All2 R xs ys → All2 R (x :: xs) (y :: ys)
section
variable {α β : Type} {R : α → β → Prop}
theorem All2.len {xs : List α} {ys : List β} (h : All2 R xs ys) : xs.length = ys.length := by
  induction h with
  | nil => rfl
  | cons _ _ ih => simp [ih]
theorem All2.mono {R' : α → β → Prop} {xs : List α} {ys : List β} (h : All2 R xs ys) (hr : ∀ x y, x ∈ xs → y ∈ ys → R x y → R' x y) : All2 R' xs ys := by
  induction h with
  | nil => exact .nil
  | cons h1 _ ih => exact .cons (hr _ _ (by simp) (by simp) h1) (ih fun x y hx hy => hr x y (by simp [hx]) (by simp [hy]))
theorem All2.app {xs xs' : List α} {ys ys' : List β} (h : All2 R xs ys) (h' : All2 R xs' ys') : All2 R (xs ++ xs') (ys ++ ys') := by
  induction h with
  | nil => exact h'
  | cons h1 _ ih => exact .cons h1 ih
theorem All2.get {xs : List α} {ys : List β} (h : All2 R xs ys) {i : Nat} {x : α} (hx : xs[i]? = some x) : ∃ y, ys[i]? = some y ∧ R x y := by
  induction h generalizing i with
  | nil => simp at hx
  | cons h1 _ ih =>
    cases i with
    | zero => simp at hx; subst hx; exact ⟨_, rfl, h1⟩
    | succ i => simp at hx; simpa using ih hx
theorem All2.get' {xs : List α} {ys : List β} (h : All2 R xs ys) {i : Nat} {y : β} (hy : ys[i]? = some y) : ∃ x, xs[i]? = some x ∧ R x y := by
  induction h generalizing i with
  | nil => simp at hy
  | cons h1 _ ih =>
    cases i with
    | zero => simp at hy; subst hy; exact ⟨_, rfl, h1⟩
    | succ i => simp at hy; simpa using ih hy
theorem All2.set {xs : List α} {ys : List β} (h : All2 R xs ys) {i : Nat} {x : α} {y : β} (hr : R x y) : All2 R (xs.set i x) (ys.set i y) := by
  induction h generalizing i with
  | nil => exact .nil
  | cons h1 h2 ih =>
    cases i with
    | zero => exact .cons hr h2
    | succ i => exact .cons h1 ih
theorem All2.mem {xs : List α} {ys : List β} (h : All2 R xs ys) {x : α} (hx : x ∈ xs) : ∃ y ∈ ys, R x y := by
  obtain ⟨i, hi⟩ := List.getElem?_of_mem hx
  obtain ⟨y, hy, hr⟩ := h.get hi
  exact ⟨y, List.mem_of_getElem? hy, hr⟩
theorem All2.mem' {xs : List α} {ys : List β} (h : All2 R xs ys) {y : β} (hy : y ∈ ys) : ∃ x ∈ xs, R x y := by
  obtain ⟨i, hi⟩ := List.getElem?_of_mem hy
  obtain ⟨x, hx, hr⟩ := h.get' hi
  exact ⟨x, List.mem_of_getElem? hx, hr⟩
end
/-- What follows a list that is drawn anew. -/
theorem All2.perm {α β : Type} {R : α → β → Prop} : ∀ {xs xs' : List α} {ys : List β}, xs'.Perm xs → All2 R xs ys → ∃ ys', ys'.Perm ys ∧ All2 R xs' ys' := by
  intro xs xs' ys hp
  induction hp generalizing ys with
  | nil => intro h; exact ⟨ys, List.Perm.refl _, h⟩
  | cons x _ ih =>
    intro h
    cases h with
    | cons h1 h2 =>
      obtain ⟨ys', p, q⟩ := ih h2
      exact ⟨_ :: ys', List.Perm.cons _ p, .cons h1 q⟩
  | swap x y l =>
    intro h
    cases h with
    | cons h1 h2 =>
      cases h2 with
      | cons h3 h4 => exact ⟨_, List.Perm.swap _ _ _, .cons h3 (.cons h1 h4)⟩
  | trans _ _ ih1 ih2 =>
    intro h
    obtain ⟨ys1, p1, q1⟩ := ih2 h
    obtain ⟨ys2, p2, q2⟩ := ih1 q1
    exact ⟨ys2, p2.trans p1, q2⟩

/-! series in memory -/
def SerR (H : Heap) (x : Sr) (s : Srs) : Prop := x.1 = s.1 ∧ Sl encS H x.2.1 x.2.2.1 x.2.2.2 s.2
def SerH (H : Heap) (hs : List Sr) (ss : List Srs) : Prop := All2 (SerR H) hs ss
theorem SerH.keep {H H' : Heap} {hs : List Sr} {ss : List Srs} (h : SerH H hs ss) (hf : Fr [] H H') : SerH H' hs ss := All2.mono h fun x y _ _ hr => ⟨hr.1, hr.2.keep hf⟩
theorem SerH.merge {H : Heap} : ∀ {hs hs' : List Sr} {ss ss' : List Srs}, SerH H hs ss → SerH H hs' ss' → SerH H (mrgC cfSr hs hs') (mrgC cfP ss ss')
  | [], hs', ss, ss', h, h' => by
    cases h
    rw [mrgC_nil, mrgC_nil]; exact h'
  | x :: hs, [], ss, ss', h, h' => by
    cases h'
    rw [mrgC_nil', mrgC_nil']; exact h
  | x :: hs, y :: hs', ss, ss', h, h' => by
    cases h with
    | cons h1 h2 =>
      cases h' with
      | cons h1' h2' =>
        rename_i s ss s' ss'
        have e : cfSr x y = cfP s s' := by unfold cfSr cfP; rw [h1.1, h1'.1]
        rw [mrgC_cons, mrgC_cons, e]
        split
        · exact .cons h1 (SerH.merge h2 (.cons h1' h2'))
        · split
          · exact .cons h1' (SerH.merge h2 h2')
          · exact .cons h1' (SerH.merge (.cons h1 h2) h2')
termination_by hs hs' => hs.length + hs'.length
theorem SerH.pw {H : Heap} {hs : List Sr} {ss : List Srs} (h : SerH H hs ss) (hr : ss.Pairwise fun a b => a.1 < b.1) : hs.Pairwise fun a b => a.1 < b.1 := by
  induction h with
  | nil => exact List.Pairwise.nil
  | cons h1 h2 ih =>
    have hr' := List.pairwise_cons.1 hr
    refine List.pairwise_cons.2 ⟨fun x hx => ?_, ih hr'.2⟩
    obtain ⟨y, hy, e⟩ := All2.mem h2 hx
    rw [h1.1, e.1]; exact hr'.1 y hy

/-! the groups -/
noncomputable abbrev MT : KeyT Try.prog 3 Int := keyInt Try.underlying3
theorem M63 : Try.prog.underlying 63 = some (.map 3 22) := Try.underlying63
theorem Z22 : zeroOf Try.prog 22 = some (.slice none 0 0) := by kernel_rfl
/-- By each id there lies what it is given; no two share memory. -/
structure Grp (H : Heap) (base r : Nat) (L : List (Ent Int)) (G : Int → List Smp) : Prop where
  ent : ∀ id v, getL id L = some v → ∃ a n c, v = .slice a n c ∧ Own encS 26 base H a n c (G id) ∧ G id ≠ [] ∧ r ∉ blkL a
  dj : ∀ id id' a n c a' n' c', id ≠ id' → getL id L = some (.slice a n c) → getL id' L = some (.slice a' n' c') → Dj (blkL a) (blkL a')
  no : ∀ id, getL id L = none → G id = []
theorem Grp.start (H : Heap) (base r : Nat) : Grp H base r [] (fun _ => []) := ⟨fun id v h => (by simp [getL] at h), fun id id' a n c a' n' c' _ h => (by simp [getL] at h), fun _ _ => rfl⟩
theorem _root_.Go.GV.Own.bIn {α : Type} {E : Enc α} {t : TypeId} {base : Nat} {H : Heap} {a : Option Addr} {n c : Nat} {xs : List α} (h : Own E t base H a n c xs) : ∀ k ∈ blkL a, k < H.size := fun k hk => (h.ge k hk).2
theorem own_fr {α : Type} {E : Enc α} {t : TypeId} {base : Nat} {H H' : Heap} {a : Option Addr} {n c : Nat} {xs : List α} {S : List Nat} (h : Own E t base H a n c xs) (hf : Fr S H H') (hd : Dj (blkL a) S) : Own E t base H' a n c xs :=
  h.fr hf fun ad e => hd ad.block (by subst e; simp [blkL])
theorem sl_fr {α : Type} {E : Enc α} {H H' : Heap} {a : Option Addr} {n c : Nat} {xs : List α} {S : List Nat} (h : Sl E H a n c xs) (hf : Fr S H H') (hd : Dj (blkL a) S) : Sl E H' a n c xs :=
  h.fr hf fun ad e => hd ad.block (by subst e; simp [blkL])
theorem group_ok {H : Heap} {b : Nat} {ra : Option Addr} {rn rc : Nat} {rows : List Rw} (hb : New H b (.map ⟨[]⟩ 0) (H.push (.map ⟨[]⟩ 0))) (hx : Sl encRw H ra rn rc rows) : True := trivial
end Go.Proofs
