/- A part of a proof: see the last text of this claim. -/
import Derived.Test.YtjpjmpnlomkdbaaP13k
import Derived.Test.YtjpjmpnlomkdbaaGvSortK
import Derived.Test.YtjpjmpnlomkdbaaSh13
set_option linter.unusedVariables false
set_option maxRecDepth 100000
open Go Go.GV
namespace Go.Proofs

theorem sl_lt {α : Type} {E : Enc α} {H : Heap} {a : Option Addr} {n c : Nat} {xs : List α} (h : Sl E H a n c xs) (hx : xs ≠ []) : ∀ k ∈ blkL a, k < H.size := fun k hk => by
  obtain ⟨b, off, rfl, hb⟩ := h.arr.lt hx
  simp [blkL] at hk; omega
def atS (ss : List Srs) (id : Int) : List Smp := match ss with | [] => [] | s :: ss => if s.1 = id then s.2 else atS ss id
theorem atS_val (ss : List Srs) (id t : Int) : valL (atS ss id) t = valS ss id t := by
  induction ss with
  | nil => rfl
  | cons s ss ih =>
    show valL (if s.1 = id then s.2 else atS ss id) t = if s.1 = id then valL s.2 t else valS ss id t
    split
    · rfl
    · exact ih
theorem atS_none {ss : List Srs} {id : Int} (h : ∀ s ∈ ss, s.1 ≠ id) : atS ss id = [] := by
  induction ss with
  | nil => rfl
  | cons s ss ih =>
    show (if s.1 = id then s.2 else atS ss id) = []
    rw [if_neg (h s (by simp))]; exact ih fun x hx => h x (by simp [hx])
theorem atS_get {ss : List Srs} (hp : ss.Pairwise fun a b => a.1 < b.1) {k : Nat} {s : Srs} (h : ss[k]? = some s) : atS ss s.1 = s.2 := by
  induction ss generalizing k with
  | nil => simp at h
  | cons x ss ih =>
    have hp' := List.pairwise_cons.1 hp
    show (if x.1 = s.1 then x.2 else atS ss s.1) = s.2
    cases k with
    | zero => simp at h; subst h; rw [if_pos rfl]
    | succ k =>
      simp at h
      have := hp'.1 s (List.mem_of_getElem? h)
      rw [if_neg (by omega)]; exact ih hp'.2 h
theorem atS_ris {ss : List Srs} (h : RightS ss) (id : Int) : Ris (atS ss id) := by
  induction ss with
  | nil => exact Ris.nil
  | cons x ss ih =>
    obtain ⟨_, h2, h3⟩ := RightS.cons.1 h
    show Ris (if x.1 = id then x.2 else atS ss id)
    split
    · exact h2.2
    · exact ih h3
def updS (ss : List Srs) (s : Srs) : Srs := (s.1, mrg (atS ss s.1) s.2)
theorem atS_len {ss : List Srs} {m : Nat} (h : ∀ s ∈ ss, s.2.length ≤ m) (id : Int) : (atS ss id).length ≤ m := by
  induction ss with
  | nil => simp [atS]
  | cons x ss ih =>
    show (if x.1 = id then x.2 else atS ss id).length ≤ m
    split
    · exact h x (by simp)
    · exact ih fun s hs => h s (by simp [hs])
theorem put1_len {x : Rw} {m : Nat} : ∀ {ss : List Srs}, (∀ s ∈ ss, s.2.length ≤ m) → (put1 ss x).length ≤ ss.length + 1 ∧ ∀ s ∈ put1 ss x, s.2.length ≤ m + 1
  | [], _ => ⟨Nat.le_refl _, fun s hs => by simp [put1] at hs; subst hs; simp⟩
  | y :: ss, h => by
    unfold put1
    split
    · refine ⟨by simp, fun s hs => ?_⟩
      rcases List.mem_cons.1 hs with rfl | hs
      · simp
      · have := h s hs; omega
    · split
      · refine ⟨by simp, fun s hs => ?_⟩
        rcases List.mem_cons.1 hs with rfl | hs
        · have h1 := len_mrg y.2 [(x.1, x.2.2)]
          have h2 := h y (by simp)
          simp at h1
          show (mrg y.2 [(x.1, x.2.2)]).length ≤ m + 1
          omega
        · have := h s (by simp [hs]); omega
      · obtain ⟨i1, i2⟩ := put1_len (x := x) (ss := ss) fun s hs => h s (by simp [hs])
        refine ⟨by simp; omega, fun s hs => ?_⟩
        rcases List.mem_cons.1 hs with rfl | hs
        · have := h s (by simp); omega
        · exact i2 s hs
theorem putR_len {m : Nat} : ∀ {rows : List Rw} {ss : List Srs}, (∀ s ∈ ss, s.2.length ≤ m) → (putR ss rows).length ≤ ss.length + rows.length ∧ ∀ s ∈ putR ss rows, s.2.length ≤ m + rows.length
  | [], ss, h => ⟨by simp [putR], fun s hs => by have := h s hs; simp; omega⟩
  | x :: rows, ss, h => by
    obtain ⟨i1, i2⟩ := put1_len (x := x) h
    obtain ⟨j1, j2⟩ := putR_len (m := m + 1) (rows := rows) (ss := put1 ss x) i2
    refine ⟨?_, fun s hs => ?_⟩
    · show (putR (put1 ss x) rows).length ≤ _
      simp; omega
    · have := j2 s hs
      simp; omega
theorem cfSr_neg {x y : Sr} : cfSr x y < 0 ↔ x.1 < y.1 := cmpI_neg
theorem swoS : Go.Sort.SWO (ltOf cfSr) where
  irrefl x := by simp only [ltOf, decide_eq_false_iff_not, cfSr_neg]; omega
  trans x y z h1 h2 := by simp only [ltOf, decide_eq_true_eq, cfSr_neg] at *; omega
  ntrans x y z h1 h2 := by simp only [ltOf, decide_eq_false_iff_not, cfSr_neg] at *; omega
theorem SortSr_ok {base : Nat} {H : Heap} {a : Option Addr} {n c : Nat} {xs : List Sr} {K : Heap → Prop} (ho : Own encSr 68 base H a n c xs) (hn : n ≤ 1000000000)
    (hk : ∀ H' ys, Own encSr 68 base H' a n c ys → ys.Perm xs → ys.Pairwise (fun x y => ¬ cfSr y x < 0) → Fr (blkL a) H H' → K H') :
    CallH Try.prog 45 ⟨[.slice a n c, .func (.func 43) #[] #[]]⟩ H fun v H' => v = .tuple ⟨[]⟩ ∧ K H' :=
  sortK_ok Try.sortSr (kf := 45) rfl (E := encSr) (t := 68) rfl (by kernel_rfl) ⟨_, Try.underlying68⟩ (by kernel_rfl) (by kernel_rfl) cfSr swoS (enters_of Try.func43 (by kernel_rfl) rfl) (fun x y H K hk => byId_ok hk) ho (by omega) hk
theorem take_upd {f : Srs → Srs} {l : List Srs} {k : Nat} {s : Srs} (h : l[k]? = some s) : ((l.take k).map f ++ l.drop k)[k]? = some s ∧ ((l.take k).map f ++ l.drop k).set k (f s) = (l.take (k + 1)).map f ++ l.drop (k + 1) := by
  obtain ⟨hk, rfl⟩ := List.getElem?_eq_some_iff.1 h
  have hl : ((l.take k).map f).length = k := by simp; omega
  have hd : l.drop k = l[k] :: l.drop (k + 1) := List.drop_eq_getElem_cons hk
  refine ⟨?_, ?_⟩
  · rw [List.getElem?_append_right (by omega), hl, hd]; simp
  · rw [List.set_append_right _ _ (by omega), hl, hd, Nat.sub_self, List.set_cons_zero, List.take_add_one, h, List.map_append]
    simp
end Go.Proofs
