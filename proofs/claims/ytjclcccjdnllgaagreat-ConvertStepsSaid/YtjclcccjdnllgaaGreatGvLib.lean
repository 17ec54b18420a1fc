/- Laws on heaps for the calculus of verification conditions: frames, cells, rows, slices that are read, slices that are owned, append. -/
import Derived.Test.YtjclcccjdnllgaaGreatGvCore
namespace Go.GV
open Go

def cellH (H : Heap) (a : Addr) : Option Value :=
  match H[a.block]? with
  | some (.cells c _ _) => if a.spot.isSome then none else c[a.off]?
  | _ => none
theorem cell_heap (w : World) (a : Addr) : w.cell? a = cellH w.heap a := rfl

@[simp] theorem add_at (b o n : Nat) : (⟨b, o, none⟩ : Addr).add n = ⟨b, o + n, none⟩ := by
  unfold Addr.add
  split
  · rename_i h; subst h; rfl
  · rfl

structure Fr (S : List Nat) (H H' : Heap) : Prop where
  size : H.size ≤ H'.size
  block : ∀ k, k < H.size → k ∉ S → H'[k]? = H[k]?

theorem Fr.refl (S : List Nat) (H : Heap) : Fr S H H := ⟨Nat.le_refl _, fun _ _ _ => rfl⟩
theorem Fr.mono {S S' : List Nat} {H H' : Heap} (h : Fr S H H') (hs : ∀ k ∈ S, k ∈ S') : Fr S' H H' := ⟨h.size, fun k hk hn => h.block k hk fun hk' => hn (hs k hk')⟩
theorem Fr.trans' {S S' T : List Nat} {H H' H'' : Heap} (h : Fr S H H') (h' : Fr S' H' H'') (h1 : ∀ k ∈ S, k < H.size → k ∈ T) (h2 : ∀ k ∈ S', k < H.size → k ∈ T) : Fr T H H'' :=
  ⟨Nat.le_trans h.size h'.size, fun k hk hn => by
    rw [h'.block k (Nat.lt_of_lt_of_le hk h.size) (fun hs => hn (h2 k hs hk)), h.block k hk (fun hs => hn (h1 k hs hk))]⟩
theorem Fr.keep {S : List Nat} {H H' H'' : Heap} (h : Fr [] H H') (h' : Fr S H' H'') (hs : ∀ k ∈ S, H.size ≤ k) : Fr [] H H'' :=
  h.trans' h' (by simp) fun k hk hlt => absurd (hs k hk) (by omega)
theorem Fr.keep0 {H H' H'' : Heap} (h : Fr [] H H') (h' : Fr [] H' H'') : Fr [] H H'' := h.keep h' (by simp)
theorem Fr.get {S : List Nat} {H H' : Heap} (h : Fr S H H') {b : Nat} {o : Obj} (hb : H[b]? = some o) (hn : b ∉ S) : H'[b]? = some o := by
  rw [h.block b (Array.getElem?_eq_some_iff.1 hb).1 hn]; exact hb
theorem Fr.get0 {H H' : Heap} (h : Fr [] H H') {b : Nat} {o : Obj} (hb : H[b]? = some o) : H'[b]? = some o := h.get hb (by simp)
theorem cellH_lt {H : Heap} {a : Addr} {v : Value} (h : cellH H a = some v) : a.block < H.size := by
  unfold cellH at h
  cases hb : H[a.block]? with
  | none => simp [hb] at h
  | some o => exact (Array.getElem?_eq_some_iff.1 hb).1
theorem Fr.cell {S : List Nat} {H H' : Heap} (h : Fr S H H') {a : Addr} {v : Value} (ha : cellH H a = some v) (hn : a.block ∉ S) : cellH H' a = some v := by
  unfold cellH at *
  rw [h.block a.block (cellH_lt (H := H) (a := a) (v := v) ha) hn]
  exact ha
theorem Fr.cell0 {H H' : Heap} (h : Fr [] H H') {a : Addr} {v : Value} (ha : cellH H a = some v) : cellH H' a = some v := h.cell ha (by simp)

theorem New.fr {H H' : Heap} {b : Nat} {o : Obj} (h : New H b o H') : Fr [] H H' := by
  obtain ⟨rfl, rfl⟩ := h
  exact ⟨by simp, fun k hk _ => by rw [Array.getElem?_push, if_neg (by omega)]⟩
theorem New.get {H H' : Heap} {b : Nat} {o : Obj} (h : New H b o H') : H'[b]? = some o := by
  obtain ⟨rfl, rfl⟩ := h
  simp
theorem New.eq {H H' : Heap} {b : Nat} {o : Obj} (h : New H b o H') : b = H.size := h.1
theorem New.size {H H' : Heap} {b : Nat} {o : Obj} (h : New H b o H') : H'.size = H.size + 1 := by
  obtain ⟨rfl, rfl⟩ := h
  simp

theorem lt_of_get {H : Heap} {b : Nat} {o : Obj} (h : H[b]? = some o) : b < H.size := (Array.getElem?_eq_some_iff.1 h).1
theorem cell_of_blk {H : Heap} {b : Nat} {cs : Array Value} {t : TypeId} {fz : Nat × Nat} (h : H[b]? = some (.cells cs t fz)) (off : Nat) : cellH H ⟨b, off, none⟩ = cs[off]? := by
  simp [cellH, h]

def aggB (P : Program) (t : TypeId) : Bool := match P.underlying t with
  | some (.struct _) => true | some (.array ..) => true | some _ => false | none => true
def isAggT (P : Program) (t : TypeId) : Bool := match P.underlying t with
  | some (.struct _) => true | some (.array ..) => true | _ => false

theorem run_isAgg {P : Program} {t : TypeId} {d : TypeDesc} (hu : P.underlying t = some d) (w : World) : (isAgg t).run P w = .ok (isAggT P t) w := by
  unfold isAgg
  rw [Sem.run_bind, run_underlying' hu]
  simp only [Result.andThen_ok]
  unfold isAggT
  rw [hu]
  cases d <;> rfl

theorem ld_cell {P : Program} {t : TypeId} {H : Heap} {a : Addr} {v : Value} (ht : aggB P t = false) (h : cellH H a = some v) : Ld P t H a v := by
  intro w hw
  unfold aggB at ht
  cases hu : P.underlying t with
  | none => simp [hu] at ht
  | some d =>
    have : isAggT P t = false := by unfold isAggT; rw [hu] at ht ⊢; cases d <;> simp_all
    unfold loadVar
    rw [Sem.run_bind, run_isAgg hu, this]
    have hc : w.cell? a = some v := by rw [cell_heap, hw]; exact h
    simp [load, Sem.run, hc]

theorem ld_agg {P : Program} {t : TypeId} {H : Heap} {a : Addr} {vs : List Value} (ht : isAggT P t = true) (hs : szOf P t = vs.length) (h : ∀ i v, vs[i]? = some v → cellH H (a.add i) = some v) : Ld P t H a (.agg ⟨vs⟩) := by
  intro w hw
  have hx := ht
  unfold isAggT at hx
  cases hu : P.underlying t with
  | none => simp [hu] at hx
  | some d =>
    have hi : ∃ i, P.info? t = some i := by
      cases hi : P.info? t with
      | some i => exact ⟨i, rfl⟩
      | none => simp [Program.underlying, hi] at hu
    obtain ⟨i, hi⟩ := hi
    have hs' : i.size = vs.length := by simpa [szOf, hi] using hs
    unfold loadVar
    rw [Sem.run_bind, run_isAgg hu, ht]
    simp only [Result.andThen_ok, if_true]
    rw [Sem.run_bind, sizeOf_run hi, hs']
    simp only [Result.andThen_ok]
    rw [Sem.run_bind, run_loadCells_list w a vs (fun j v hv => by rw [cell_heap, hw]; exact h j v hv)]
    rfl


def rowH (H : Heap) (g : Nat) (cs : Array Value) : Heap := H.modify g fun
  | .cells _ elem frozen => .cells cs elem frozen
  | o => o
theorem rowH_size (H : Heap) (g : Nat) (cs : Array Value) : (rowH H g cs).size = H.size := by simp [rowH]
theorem rowH_get {H : Heap} {g : Nat} {old cs : Array Value} {t : TypeId} {fr : Nat × Nat} (h : H[g]? = some (.cells old t fr)) : (rowH H g cs)[g]? = some (.cells cs t fr) := by
  simp [rowH, Array.getElem?_modify, h]
theorem rowH_fr (H : Heap) (g : Nat) (cs : Array Value) : Fr [g] H (rowH H g cs) :=
  ⟨by rw [rowH_size]; exact Nat.le_refl _, fun k hk hn => by
    have : g ≠ k := fun e => hn (by simp [e])
    simp [rowH, Array.getElem?_modify, this]⟩

theorem st_run {P : Program} {t : TypeId} {H : Heap} {b off : Nat} {v : Value} {cs : Array Value} {te : TypeId} (hb : H[b]? = some (.cells cs te (0, 0))) (hs : szOf P t = v.cells.size) (hi : (P.info? t).isSome = true)
    (h1 : ∀ x ∈ v.cells.toList, x.oneCell' = true) (hfit : off + v.cells.size ≤ cs.size) :
    St P t H ⟨b, off, none⟩ v (rowH H b (cs.toList.take off ++ v.cells.toList ++ cs.toList.drop (off + v.cells.toList.length)).toArray) := by
  intro w hw
  cases hi' : P.info? t with
  | none => simp [hi'] at hi
  | some i =>
    have hsz : i.size = v.cells.size := by simpa [szOf, hi'] using hs
    unfold storeVar
    rw [Sem.run_bind, sizeOf_run hi']
    simp only [Result.andThen_ok]
    rw [if_neg (by simp [hsz])]
    have hb' : w.heap[b]? = some (.cells cs te (0, 0)) := by rw [hw]; exact hb
    have := run_storeCells_at P b off te v.cells.toList 0 cs w hb' (by simpa using hfit) h1
    rw [this, ← hw]
    rfl

theorem st_blk {P : Program} {t : TypeId} {H : Heap} {b off : Nat} {v : Value} {cs : List Value} {te : TypeId} {X : Heap → Prop} (hb : H[b]? = some (.cells ⟨cs⟩ te (0, 0))) (hs : szOf P t = v.cells.size) (hi : (P.info? t).isSome = true)
    (h1 : ∀ x ∈ v.cells.toList, x.oneCell' = true) (hfit : off + v.cells.size ≤ cs.length)
    (k : ∀ H', H'[b]? = some (.cells ⟨cs.take off ++ v.cells.toList ++ cs.drop (off + v.cells.toList.length)⟩ te (0, 0)) → Fr [b] H H' → X H') : ∃ H', St P t H ⟨b, off, none⟩ v H' ∧ X H' :=
  ⟨_, st_run hb hs hi h1 (by simpa using hfit), k _ (rowH_get hb) (rowH_fr H b _)⟩


theorem ld1_blk {P : Program} {t : TypeId} {H : Heap} {b off : Nat} {v : Value} {cs : List Value} {te : TypeId} {fz : Nat × Nat} (ht : aggB P t = false) (hb : H[b]? = some (.cells ⟨cs⟩ te fz)) (h : cs[off]? = some v) : Ld P t H ⟨b, off, none⟩ v :=
  ld_cell ht (by rw [cell_of_blk hb]; simpa using h)
theorem ldA_blk {P : Program} {t : TypeId} {H : Heap} {b off : Nat} {vs cs : List Value} {te : TypeId} {fz : Nat × Nat} (ht : isAggT P t = true) (hs : szOf P t = vs.length) (hb : H[b]? = some (.cells ⟨cs⟩ te fz))
    (h : (cs.drop off).take vs.length = vs) : Ld P t H ⟨b, off, none⟩ (.agg ⟨vs⟩) := by
  refine ld_agg ht hs fun i v hv => ?_
  rw [add_at, cell_of_blk hb]
  rw [← h, List.getElem?_take] at hv
  split at hv
  · rw [List.getElem?_drop] at hv; simpa using hv
  · cases hv

theorem var_st {P : Program} {t te : TypeId} {H : Heap} {v : Value} {zs : List Value} {K : Nat → Heap → Prop} (hs : szOf P t = v.cells.size) (hi : (P.info? t).isSome = true)
    (h1 : ∀ x ∈ v.cells.toList, x.oneCell' = true) (hz : zs.length = v.cells.size)
    (k : ∀ b H', H.size ≤ b → H'[b]? = some (.cells ⟨v.cells.toList⟩ te (0, 0)) → Fr [] H H' → K b H') :
    ∀ b H', New H b (.cells ⟨zs⟩ te) H' → ∃ H'_1, St P t H' ⟨b, 0, none⟩ v H'_1 ∧ K b H'_1 := by
  intro b H' hn
  refine st_blk hn.get hs hi h1 (by simp [hz]) fun H2 hg hf => ?_
  refine k b H2 (Nat.le_of_eq hn.eq.symm) ?_ (hn.fr.keep hf (by simp [hn.eq]))
  rw [hg]
  have : zs.drop (0 + v.cells.toList.length) = [] := List.drop_eq_nil_of_le (by simp [hz])
  rw [this]
  simp

def Grow (H : Heap) (S S' : List Nat) : Prop := ∀ k ∈ S', k ∈ S ∨ H.size ≤ k
def Dj (S T : List Nat) : Prop := ∀ k ∈ S, k ∉ T
def In (H : Heap) (S : List Nat) : Prop := ∀ k ∈ S, k < H.size
theorem Grow.refl (H : Heap) (S : List Nat) : Grow H S S := fun _ h => .inl h
theorem Grow.trans {H H' : Heap} {S S' S'' : List Nat} (h : Grow H S S') (hs : H.size ≤ H'.size) (h' : Grow H' S' S'') : Grow H S S'' := fun k hk =>
  (h' k hk).elim (fun h1 => h k h1) (fun h1 => .inr (Nat.le_trans hs h1))
theorem Dj.symm {S T : List Nat} (h : Dj S T) : Dj T S := fun k hk hk' => h k hk' hk
theorem In.le {H H' : Heap} {S : List Nat} (h : In H S) (hs : H.size ≤ H'.size) : In H' S := fun k hk => Nat.lt_of_lt_of_le (h k hk) hs
def Blk (H : Heap) (a : Addr) (vs : List Value) : Prop := ∃ b te, a = ⟨b, 0, none⟩ ∧ H[b]? = some (.cells ⟨vs⟩ te (0, 0))
theorem New.blk {H H' : Heap} {b : Nat} {vs : List Value} {t : TypeId} (h : New H b (.cells ⟨vs⟩ t) H') : Blk H' ⟨b, 0, none⟩ vs := ⟨b, t, rfl, h.get⟩
theorem Blk.fr {H H' : Heap} {a : Addr} {vs : List Value} {S : List Nat} (h : Blk H a vs) (hf : Fr S H H') (hn : a.block ∉ S) : Blk H' a vs := by
  obtain ⟨b, te, rfl, h⟩ := h
  exact ⟨b, te, rfl, hf.get h hn⟩
theorem Blk.keep {H H' : Heap} {a : Addr} {vs : List Value} (h : Blk H a vs) (hf : Fr [] H H') : Blk H' a vs := h.fr hf (by simp)
theorem Blk.lt {H : Heap} {a : Addr} {vs : List Value} (h : Blk H a vs) : a.block < H.size := by
  obtain ⟨b, te, rfl, h⟩ := h
  exact lt_of_get h
theorem Blk.ld {P : Program} {t : TypeId} {H : Heap} {a : Addr} {vs : List Value} {j : Nat} {v : Value} (ht : aggB P t = false) (h : Blk H a vs) (hv : vs[j]? = some v) : Ld P t H (a.add j) v := by
  obtain ⟨b, te, rfl, h⟩ := h
  rw [add_at]
  exact ld1_blk ht h (by simpa using hv)
theorem Blk.ld0 {P : Program} {t : TypeId} {H : Heap} {a : Addr} {vs : List Value} {v : Value} (ht : aggB P t = false) (h : Blk H a vs) (hv : vs[0]? = some v) : Ld P t H a v := by
  obtain ⟨b, te, rfl, h⟩ := h
  exact ld1_blk ht h hv
theorem Blk.ldA0 {P : Program} {t : TypeId} {H : Heap} {a : Addr} {vs us : List Value} (ht : isAggT P t = true) (hs : szOf P t = us.length) (h : Blk H a vs) (hv : vs.take us.length = us) : Ld P t H a (.agg ⟨us⟩) := by
  obtain ⟨b, te, rfl, h⟩ := h
  exact ldA_blk ht hs h (by simpa using hv)
theorem Blk.st {P : Program} {t : TypeId} {H : Heap} {a : Addr} {vs : List Value} {j : Nat} {v : Value} {X : Heap → Prop} (h : Blk H a vs) (hs : szOf P t = v.cells.size) (hi : (P.info? t).isSome = true) (h1 : ∀ x ∈ v.cells.toList, x.oneCell' = true)
    (hfit : j + v.cells.size ≤ vs.length) (k : ∀ H', Blk H' a (vs.take j ++ v.cells.toList ++ vs.drop (j + v.cells.toList.length)) → Fr [a.block] H H' → X H') : ∃ H', St P t H (a.add j) v H' ∧ X H' := by
  obtain ⟨b, te, rfl, h⟩ := h
  rw [add_at]
  refine st_blk h hs hi h1 (by simpa using hfit) fun H' hg hf => k H' ⟨b, te, rfl, ?_⟩ hf
  rw [hg]
  simp
theorem Blk.st0 {P : Program} {t : TypeId} {H : Heap} {a : Addr} {vs : List Value} {v : Value} {X : Heap → Prop} (h : Blk H a vs) (hs : szOf P t = v.cells.size) (hi : (P.info? t).isSome = true) (h1 : ∀ x ∈ v.cells.toList, x.oneCell' = true)
    (hfit : v.cells.size ≤ vs.length) (k : ∀ H', Blk H' a (v.cells.toList ++ vs.drop v.cells.toList.length) → Fr [a.block] H H' → X H') : ∃ H', St P t H a v H' ∧ X H' := by
  obtain ⟨b, te, rfl, h⟩ := h
  refine st_blk h hs hi h1 (by simpa using hfit) fun H' hg hf => k H' ⟨b, te, rfl, ?_⟩ hf
  rw [hg]
  simp
theorem var_blk {P : Program} {t te : TypeId} {H : Heap} {v : Value} {zs : List Value} {K : Nat → Heap → Prop} (hs : szOf P t = v.cells.size) (hi : (P.info? t).isSome = true)
    (h1 : ∀ x ∈ v.cells.toList, x.oneCell' = true) (hz : zs.length = v.cells.size)
    (k : ∀ b H', H.size ≤ b → Blk H' ⟨b, 0, none⟩ v.cells.toList → Fr [] H H' → K b H') :
    ∀ b H', New H b (.cells ⟨zs⟩ te) H' → ∃ H'_1, St P t H' ⟨b, 0, none⟩ v H'_1 ∧ K b H'_1 :=
  var_st hs hi h1 hz fun b H' hb hg hf => k b H' hb ⟨b, te, rfl, hg⟩ hf

def I64 (n : Int) : Prop := -9223372036854775808 ≤ n ∧ n ≤ 9223372036854775807
theorem wrap64_of {n : Int} (h1 : -9223372036854775808 ≤ n) (h2 : n ≤ 9223372036854775807) : IntKind.i64.wrap n = n := by
  have := IntWalk.i64_in n ⟨h1, h2⟩
  exact this


structure Enc (α : Type) where
  cells : α → List Value
  sz : Nat
  len : ∀ x, (cells x).length = sz
  pos : 0 < sz
  one : ∀ x, ∀ v ∈ cells x, v.oneCell' = true

def encInt : Enc Int := ⟨fun n => [.int .i64 n], 1, fun _ => rfl, by decide, fun _ v h => by simp at h; subst h; rfl⟩
def encStr : Enc ByteArray := ⟨fun s => [.string s], 1, fun _ => rfl, by decide, fun _ v h => by simp at h; subst h; rfl⟩
def encBool : Enc Bool := ⟨fun s => [.bool s], 1, fun _ => rfl, by decide, fun _ v h => by simp at h; subst h; rfl⟩
def Arr {α : Type} (E : Enc α) (H : Heap) (a : Option Addr) (xs : List α) : Prop :=
  xs = [] ∨ ∃ b off, a = some ⟨b, off, none⟩ ∧ ∀ i x, xs[i]? = some x → ∀ j v, (E.cells x)[j]? = some v → cellH H ⟨b, off + i * E.sz + j, none⟩ = some v

theorem Arr.nil {α : Type} (E : Enc α) (H : Heap) (a : Option Addr) : Arr E H a [] := .inl rfl
theorem Arr.keep {α : Type} {E : Enc α} {H H' : Heap} {a : Option Addr} {xs : List α} (h : Arr E H a xs) (hf : Fr [] H H') : Arr E H' a xs := by
  rcases h with h | ⟨b, off, e, h⟩
  · exact .inl h
  · exact .inr ⟨b, off, e, fun i x hx j v hv => hf.cell0 (h i x hx j v hv)⟩
theorem Arr.fr {α : Type} {E : Enc α} {H H' : Heap} {a : Option Addr} {xs : List α} {S : List Nat} (h : Arr E H a xs) (hf : Fr S H H') (hn : ∀ ad, a = some ad → ad.block ∉ S) : Arr E H' a xs := by
  rcases h with h | ⟨b, off, e, h⟩
  · exact .inl h
  · exact .inr ⟨b, off, e, fun i x hx j v hv => hf.cell (h i x hx j v hv) (hn ⟨b, off, none⟩ e)⟩
theorem Arr.lt {α : Type} {E : Enc α} {H : Heap} {a : Option Addr} {xs : List α} (h : Arr E H a xs) (hx : xs ≠ []) : ∃ b off, a = some ⟨b, off, none⟩ ∧ b < H.size := by
  rcases h with h | ⟨b, off, e, h⟩
  · exact absurd h hx
  · cases xs with
    | nil => exact absurd rfl hx
    | cons x xs =>
      have hp := E.pos
      have hl := E.len x
      have hc : ∃ v, (E.cells x)[0]? = some v := by
        cases hx : E.cells x with
        | nil => simp [hx] at hl; omega
        | cons v l => exact ⟨v, rfl⟩
      obtain ⟨v, hv⟩ := hc
      exact ⟨b, off, e, cellH_lt (a := ⟨b, off + 0 * E.sz + 0, none⟩) (h 0 x rfl 0 v hv)⟩
theorem Arr.at {α : Type} {E : Enc α} {H : Heap} {a : Option Addr} {xs : List α} (h : Arr E H a xs) {i : Nat} {x : α} (hx : xs[i]? = some x) :
    ∃ b off, a = some ⟨b, off, none⟩ ∧ ∀ j v, (E.cells x)[j]? = some v → cellH H ⟨b, off + i * E.sz + j, none⟩ = some v := by
  rcases h with h | ⟨b, off, e, h⟩
  · subst h; simp at hx
  · exact ⟨b, off, e, fun j v hv => h i x hx j v hv⟩

structure Sl {α : Type} (E : Enc α) (H : Heap) (a : Option Addr) (n c : Nat) (xs : List α) : Prop where
  len : n = xs.length
  cap : n ≤ c
  arr : Arr E H a xs

theorem Sl.keep {α : Type} {E : Enc α} {H H' : Heap} {a : Option Addr} {n c : Nat} {xs : List α} (h : Sl E H a n c xs) (hf : Fr [] H H') : Sl E H' a n c xs := ⟨h.len, h.cap, h.arr.keep hf⟩
theorem Sl.fr {α : Type} {E : Enc α} {H H' : Heap} {a : Option Addr} {n c : Nat} {xs : List α} {S : List Nat} (h : Sl E H a n c xs) (hf : Fr S H H') (hn : ∀ ad, a = some ad → ad.block ∉ S) : Sl E H' a n c xs := ⟨h.len, h.cap, h.arr.fr hf hn⟩

def CellsAt (H : Heap) (ad : Addr) (vs : List Value) : Prop := ∀ j v, vs[j]? = some v → cellH H (ad.add j) = some v
theorem CellsAt.fr {H H' : Heap} {ad : Addr} {vs : List Value} {S : List Nat} (h : CellsAt H ad vs) (hf : Fr S H H') (hn : ad.block ∉ S) : CellsAt H' ad vs := fun j v hv => hf.cell (h j v hv) (by unfold Addr.add; split <;> exact hn)
theorem CellsAt.keep {H H' : Heap} {ad : Addr} {vs : List Value} (h : CellsAt H ad vs) (hf : Fr [] H H') : CellsAt H' ad vs := h.fr hf (by simp)
theorem ld_one {P : Program} {t : TypeId} {H : Heap} {ad : Addr} {v : Value} (ht : aggB P t = false) (h : CellsAt H ad [v]) : Ld P t H ad v := ld_cell ht (h 0 v rfl)
theorem ld_many {P : Program} {t : TypeId} {H : Heap} {ad : Addr} {vs : List Value} (ht : isAggT P t = true) (hs : szOf P t = vs.length) (h : CellsAt H ad vs) : Ld P t H ad (.agg ⟨vs⟩) := ld_agg ht hs h
theorem ld_part {P : Program} {t : TypeId} {H : Heap} {ad : Addr} {vs : List Value} {j : Nat} {v : Value} (ht : aggB P t = false) (h : CellsAt H ad vs) (hv : vs[j]? = some v) : Ld P t H (ad.add j) v := ld_cell ht (h j v hv)
theorem Sl.get {α : Type} {E : Enc α} {H : Heap} {a : Option Addr} {n c : Nat} {xs : List α} (h : Sl E H a n c xs) {i : Int} {k : Nat} {x : α} {b : Bool} (hi : i = k) (hx : xs[k]? = some x) (hb : b = true) {X : Addr → Prop}
    (hk : ∀ ad, a = some ad → CellsAt H (ad.add (i.toNat * E.sz)) (E.cells x) → X ad) : exSome a fun ad => chk b (X ad) := by
  obtain ⟨bb, off, rfl, hc⟩ := h.arr.at hx
  subst hi
  subst hb
  refine exSome_of rfl (chk_true rfl ?_)
  refine hk _ rfl fun j v hv => ?_
  rw [Int.toNat_natCast, add_at, add_at]
  exact hc j v hv

def Own {α : Type} (E : Enc α) (t : TypeId) (base : Nat) (H : Heap) (a : Option Addr) (n c : Nat) (xs : List α) : Prop :=
  n = xs.length ∧ ((a = none ∧ n = 0 ∧ c = 0) ∨
    ∃ b cur, a = some ⟨b, 0, none⟩ ∧ base ≤ b ∧ H[b]? = some (.cells cur t (0, 0)) ∧ n ≤ c ∧ c ≤ maxLen ∧ cur.size = c * E.sz ∧ cur.toList.take (n * E.sz) = xs.flatMap E.cells)

def blkL : Option Addr → List Nat
  | some a => [a.block]
  | none => []

theorem flatMap_len {α : Type} (E : Enc α) (xs : List α) : (xs.flatMap E.cells).length = xs.length * E.sz := by
  induction xs with
  | nil => simp
  | cons x xs ih => rw [List.flatMap_cons, List.length_append, ih, E.len, List.length_cons, Nat.add_mul]; omega

theorem flatMap_get {α : Type} (E : Enc α) : ∀ (xs : List α) (i : Nat) (x : α), xs[i]? = some x → ∀ j v, (E.cells x)[j]? = some v → (xs.flatMap E.cells)[i * E.sz + j]? = some v
  | [], i, x, h, _, _, _ => by simp at h
  | y :: ys, 0, x, h, j, v, hv => by
    simp only [List.getElem?_cons_zero, Option.some.injEq] at h
    subst h
    have hj : j < (E.cells y).length := (List.getElem?_eq_some_iff.1 hv).1
    rw [List.flatMap_cons, List.getElem?_append, Nat.zero_mul, Nat.zero_add, if_pos hj]
    exact hv
  | y :: ys, i + 1, x, h, j, v, hv => by
    simp only [List.getElem?_cons_succ] at h
    have ih := flatMap_get E ys i x h j v hv
    have hl := E.len y
    rw [List.flatMap_cons, List.getElem?_append, if_neg (by rw [hl, Nat.add_mul]; omega), hl, show (i + 1) * E.sz + j - E.sz = i * E.sz + j by rw [Nat.add_mul]; omega]
    exact ih

theorem flatMap_inv {α : Type} (E : Enc α) : ∀ (xs : List α) (j : Nat) (u : Value), (xs.flatMap E.cells)[j]? = some u → ∃ i x k, xs[i]? = some x ∧ (E.cells x)[k]? = some u ∧ j = i * E.sz + k
  | [], j, u, h => by simp at h
  | x :: xs, j, u, h => by
    rw [List.flatMap_cons, List.getElem?_append] at h
    have hl := E.len x
    split at h
    · exact ⟨0, x, j, rfl, h, by simp⟩
    · obtain ⟨i, y, k, h1, h2, h3⟩ := flatMap_inv E xs _ u h
      exact ⟨i + 1, y, k, h1, h2, by rw [Nat.add_mul]; omega⟩

theorem Own.nil {α : Type} (E : Enc α) (t : TypeId) (base : Nat) (H : Heap) : Own E t base H none 0 0 [] := ⟨rfl, .inl ⟨rfl, rfl, rfl⟩⟩
theorem Own.made {α : Type} (E : Enc α) (t : TypeId) {base : Nat} {H H' : Heap} {b : Nat} (h : New H b (.cells ⟨[]⟩ t) H') (hb : base ≤ H.size) : Own E t base H' (some ⟨b, 0, none⟩) 0 0 [] :=
  ⟨rfl, .inr ⟨b, _, rfl, by rw [h.eq]; exact hb, h.get, Nat.le_refl _, Nat.zero_le _, by simp, by simp⟩⟩
theorem Own.sl {α : Type} {E : Enc α} {t : TypeId} {base : Nat} {H : Heap} {a : Option Addr} {n c : Nat} {xs : List α} (h : Own E t base H a n c xs) : Sl E H a n c xs := by
  obtain ⟨hl, h⟩ := h
  rcases h with ⟨rfl, rfl, rfl⟩ | ⟨b, cur, rfl, _, hb, hc, _, _, ht⟩
  · exact ⟨hl, Nat.le_refl _, .inl (List.eq_nil_of_length_eq_zero hl.symm)⟩
  · refine ⟨hl, hc, .inr ⟨b, 0, rfl, fun i x hx j v hv => ?_⟩⟩
    have h1 := flatMap_get E xs i x hx j v hv
    rw [← ht, List.getElem?_take] at h1
    split at h1
    · rw [cell_of_blk hb, Nat.zero_add]
      simpa using h1
    · cases h1
theorem Own.fr {α : Type} {E : Enc α} {t : TypeId} {base : Nat} {H H' : Heap} {a : Option Addr} {n c : Nat} {xs : List α} {S : List Nat} (h : Own E t base H a n c xs) (hf : Fr S H H') (hn : ∀ ad, a = some ad → ad.block ∉ S) : Own E t base H' a n c xs := by
  obtain ⟨hl, h⟩ := h
  refine ⟨hl, ?_⟩
  rcases h with h | ⟨b, cur, rfl, h1, hb, r⟩
  · exact .inl h
  · exact .inr ⟨b, cur, rfl, h1, hf.get hb (hn _ rfl), r⟩
theorem Own.keep {α : Type} {E : Enc α} {t : TypeId} {base : Nat} {H H' : Heap} {a : Option Addr} {n c : Nat} {xs : List α} (h : Own E t base H a n c xs) (hf : Fr [] H H') : Own E t base H' a n c xs := h.fr hf (by simp)
theorem Own.ge {α : Type} {E : Enc α} {t : TypeId} {base : Nat} {H : Heap} {a : Option Addr} {n c : Nat} {xs : List α} (h : Own E t base H a n c xs) : ∀ k ∈ blkL a, base ≤ k ∧ k < H.size := by
  obtain ⟨_, h⟩ := h
  rcases h with ⟨rfl, _⟩ | ⟨b, cur, rfl, h1, hb, _⟩
  · simp [blkL]
  · intro k hk
    simp only [blkL, List.mem_singleton] at hk
    subst hk
    exact ⟨h1, lt_of_get hb⟩
theorem Own.base {α : Type} {E : Enc α} {t : TypeId} {base base' : Nat} {H : Heap} {a : Option Addr} {n c : Nat} {xs : List α} (h : Own E t base H a n c xs) (hb : base' ≤ base) : Own E t base' H a n c xs := by
  obtain ⟨hl, h⟩ := h
  refine ⟨hl, ?_⟩
  rcases h with h | ⟨b, cur, e, h1, r⟩
  · exact .inl h
  · exact .inr ⟨b, cur, e, Nat.le_trans hb h1, r⟩

theorem app3 {α : Type} (A B C : List α) (m : Nat) : (A ++ (B ++ C))[m]? = if m < A.length then A[m]? else if m < A.length + B.length then B[m - A.length]? else C[m - A.length - B.length]? := by
  by_cases h1 : m < A.length
  · rw [if_pos h1, List.getElem?_append_left h1]
  · rw [if_neg h1, List.getElem?_append_right (by omega)]
    by_cases h2 : m < A.length + B.length
    · rw [if_pos h2, List.getElem?_append_left (by omega)]
    · rw [if_neg h2, List.getElem?_append_right (by omega)]

theorem own_st {α : Type} {E : Enc α} {P : Program} {t tt : TypeId} {base : Nat} {H : Heap} {a : Option Addr} {n c : Nat} {xs : List α} {ad : Addr} {i : Int} {k j : Nat} {x x' : α} {v : Value} {X : Heap → Prop}
    (h : Own E t base H a n c xs) (ha : a = some ad) (hi : i = k) (hx : xs[k]? = some x) (hs : szOf P tt = v.cells.size) (hinfo : (P.info? tt).isSome = true) (h1 : ∀ x ∈ v.cells.toList, x.oneCell' = true)
    (hfit : j + v.cells.toList.length ≤ E.sz) (hx' : E.cells x' = (E.cells x).take j ++ v.cells.toList ++ (E.cells x).drop (j + v.cells.toList.length))
    (k' : ∀ H', Own E t base H' a n c (xs.set k x') → Fr (blkL a) H H' → X H') : ∃ H', St P tt H ((ad.add (i.toNat * E.sz)).add j) v H' ∧ X H' := by
  obtain ⟨hl, ho⟩ := h
  have hklt : k < xs.length := (List.getElem?_eq_some_iff.1 hx).1
  subst hi
  rcases ho with ⟨rfl, _, _⟩ | ⟨b, cur, rfl, hb, hh, hc, hm, hsz, htk⟩
  · cases ha
  · cases ha
    rw [Int.toNat_natCast, add_at, add_at]
    have hkn : k * E.sz + E.sz ≤ n * E.sz := by
      rw [← Nat.add_one_mul]
      exact Nat.mul_le_mul_right _ (by omega)
    have hnc : n * E.sz ≤ cur.size := by rw [hsz]; exact Nat.mul_le_mul_right _ hc
    have hvl : v.cells.toList.length = v.cells.size := by simp
    obtain ⟨cl⟩ := cur
    simp only at htk hsz hnc
    refine st_blk hh hs hinfo h1 (by simp at hnc; omega) fun H' hg hf => ?_
    refine k' H' ⟨by simpa using hl, .inr ⟨b, _, rfl, hb, hg, hc, hm, ?_, ?_⟩⟩ hf
    · simp at hsz hnc ⊢; omega
    · apply List.ext_getElem?
      intro m
      have hflen : (xs.flatMap E.cells).length = n * E.sz := by rw [flatMap_len, hl]
      have hflen' : ((xs.set k x').flatMap E.cells).length = n * E.sz := by rw [flatMap_len, List.length_set, hl]
      by_cases hmn : m < n * E.sz
      · have hp := E.pos
        have hq : m / E.sz < xs.length := by rw [← hl]; exact Nat.div_lt_of_lt_mul (by rw [Nat.mul_comm]; exact hmn)
        have hr : m % E.sz < E.sz := Nat.mod_lt _ hp
        have hdm : m / E.sz * E.sz + m % E.sz = m := by rw [Nat.mul_comm]; exact Nat.div_add_mod m E.sz
        have hcur : ∀ u, (xs.flatMap E.cells)[m]? = some u → cl[m]? = some u := by
          intro u hu
          rw [← htk] at hu
          simp only [List.getElem?_take, hmn, if_true] at hu
          exact hu
        rw [List.getElem?_take, if_pos hmn]
        have hy : ∃ y, xs[m / E.sz]? = some y := ⟨xs[m / E.sz], by simp [hq]⟩
        obtain ⟨y, hy⟩ := hy
        have hu : ∃ u, (E.cells y)[m % E.sz]? = some u := ⟨(E.cells y)[m % E.sz]'(by rw [E.len]; exact hr), by simp⟩
        obtain ⟨u, hu⟩ := hu
        have hfl := flatMap_get E xs _ y hy _ u hu
        rw [hdm] at hfl
        have hcm := hcur u hfl
        by_cases hk : m / E.sz = k
        · rw [hk, hx] at hy
          cases hy
          have hset : (xs.set k x')[k]? = some x' := by simp [hklt]
          have hmk : k * E.sz + m % E.sz = m := by rw [← hk]; exact hdm
          have hu' : ∃ u', (E.cells x')[m % E.sz]? = some u' := ⟨(E.cells x')[m % E.sz]'(by rw [E.len]; exact hr), by simp⟩
          obtain ⟨u', hu'⟩ := hu'
          have hfl' := flatMap_get E (xs.set k x') k x' hset _ u' hu'
          rw [hmk] at hfl'
          rw [hfl', ← hu', hx']
          have hex : (E.cells x).length = E.sz := E.len x
          have hL1 : (cl.take (0 + k * E.sz + j)).length = k * E.sz + j := by rw [List.length_take]; simp at hnc; omega
          have hL2 : ((E.cells x).take j).length = j := by rw [List.length_take]; omega
          rw [List.append_assoc, List.append_assoc, app3, app3, hL1, hL2]
          by_cases h1 : m % E.sz < j
          · rw [if_pos (by omega), if_pos h1, List.getElem?_take, List.getElem?_take, if_pos (by omega), if_pos h1, hcm, hu]
          · rw [if_neg (by omega), if_neg h1]
            by_cases h2 : m % E.sz < j + v.cells.toList.length
            · rw [if_pos (by omega), if_pos h2]
              congr 1
              omega
            · rw [if_neg (by omega), if_neg h2, List.getElem?_drop, List.getElem?_drop]
              have e1 : 0 + k * E.sz + j + v.cells.toList.length + (m - (k * E.sz + j) - v.cells.toList.length) = m := by omega
              have e2 : j + v.cells.toList.length + (m % E.sz - j - v.cells.toList.length) = m % E.sz := by omega
              rw [e1, e2, hcm, hu]
        · have hset : (xs.set k x')[m / E.sz]? = some y := by rw [List.getElem?_set_ne (Ne.symm hk)]; exact hy
          have hfl' := flatMap_get E (xs.set k x') _ y hset _ u hu
          rw [hdm] at hfl'
          rw [hfl', ← hcm]
          have hL1 : (cl.take (0 + k * E.sz + j)).length = k * E.sz + j := by rw [List.length_take]; simp at hnc; omega
          rw [List.append_assoc, app3, hL1]
          rcases Nat.lt_or_gt_of_ne hk with h | h
          · have : m < k * E.sz := by
              have := Nat.mul_le_mul_right E.sz h
              rw [Nat.succ_mul] at this
              omega
            rw [if_pos (by omega), List.getElem?_take, if_pos (by omega)]
          · have : (k + 1) * E.sz ≤ m := by
              have := Nat.mul_le_mul_right E.sz (show k + 1 ≤ m / E.sz from h)
              omega
            rw [Nat.add_one_mul] at this
            rw [if_neg (by omega), if_neg (by omega), List.getElem?_drop]
            congr 1
            omega
      · rw [List.getElem?_eq_none (by simp at hnc hmn ⊢; omega), List.getElem?_eq_none (by omega)]

def elemB (P : Program) (t : TypeId) (sz bytes : Nat) : Bool :=
  match P.info? t with
  | some i => (match i.zero with
    | some z => Nat.beq i.size sz && Nat.beq z.cells.toList.length sz && Nat.blt 0 sz && Nat.beq i.bytes bytes && Nat.blt 0 bytes
    | none => false)
  | none => false
def sliceB (P : Program) (ts t : TypeId) : Bool := match P.underlying ts with | some (.slice e) => Nat.beq e t | _ => false

theorem elemB_out {P : Program} {t : TypeId} {sz bytes : Nat} (h : elemB P t sz bytes = true) : ∃ i z, P.info? t = some i ∧ i.zero = some z ∧ i.size = sz ∧ z.cells.size = sz ∧ 0 < sz ∧ i.bytes = bytes ∧ 0 < bytes := by
  unfold elemB at h
  split at h
  · rename_i i hi
    split at h
    · rename_i z hz
      simp only [Bool.and_eq_true, Nat.blt_eq] at h
      obtain ⟨⟨⟨⟨h1, h2⟩, h3⟩, h4⟩, h5⟩ := h
      exact ⟨i, z, hi, hz, Nat.eq_of_beq_eq_true h1, by have := Nat.eq_of_beq_eq_true h2; simpa using this, h3, Nat.eq_of_beq_eq_true h4, h5⟩
    · cases h
  · cases h
theorem sliceB_out {P : Program} {ts t : TypeId} (h : sliceB P ts t = true) : P.underlying ts = some (.slice t) := by
  unfold sliceB at h
  split at h
  · rename_i e he; rw [he, Nat.eq_of_beq_eq_true h]
  · cases h

theorem ap_grow {α : Type} {E : Enc α} {P : Program} {ts ty t : TypeId} {bytes base : Nat} {H : Heap} {a : Option Addr} {n c : Nat} {xs ys : List α} {a2 : Option Addr} {m c2 : Nat} {K : Option Addr → Nat → Nat → Heap → Prop}
    (hts : sliceB P ts t = true) (ht : elemB P t E.sz bytes = true) (ho : Own E t base H a n c xs) (hs : Sl E H a2 m c2 ys) (hbase : base ≤ H.size) (hsz : (n + m) * bytes ≤ 140737488355328)
    (hk : ∀ a' n' c' H', Own E t base H' a' n' c' (xs ++ ys) → Fr (blkL a) H H' → Grow H (blkL a) (blkL a') → K a' n' c' H') :
    SemWp P (Builtin.append_ ⟨[ts, ts]⟩ ty ⟨[.slice a n c, .slice a2 m c2]⟩) H fun v H' => ∃ a n c, v = .slice a n c ∧ K a n c H' := by
  intro Ev d
  obtain ⟨i, z, hi, hz, h1, h2, h3, h4, h5⟩ := elemB_out ht
  have hu := sliceB_out hts
  have hown : (mkW Ev H d).ownsRow base t E.sz (.slice a n c) n (xs.flatMap E.cells) := by
    obtain ⟨hl, ho⟩ := ho
    refine ⟨by rw [flatMap_len, hl], ?_⟩
    rcases ho with ⟨rfl, rfl, rfl⟩ | ⟨b, cur, rfl, hb, hh, hc, hm, hs, ht⟩
    · exact .inl ⟨rfl, rfl⟩
    · exact .inr ⟨b, c, cur, rfl, hb, hh, hc, hm, hs, ht⟩
  have fin : ∀ v' w', w'.ownsRow base t E.sz v' (n + m) (xs.flatMap E.cells ++ ys.flatMap E.cells) → (mkW Ev H d).grownBy w' (Value.slice a n c).ownBlock → (∀ g cc, v' = .slice (some ⟨g, 0, none⟩) (n + m) cc → g ∈ blkL a ∨ H.size ≤ g) → d.1 ≤ w'.drawn →
      ∃ H' d', w' = mkW Ev H' d' ∧ ∃ a n c, v' = .slice a n c ∧ K a n c H' := by
    intro v' w' ho' hg hgw hdr
    refine ⟨w'.heap, ⟨w'.drawn, Nat.le_trans d.2 hdr⟩, ?_, ?_⟩
    · have e1 := hg.os; have e2 := hg.tape; have e3 := hg.output
      cases w'
      simp only [mkW] at e1 e2 e3 ⊢
      subst e1 e2 e3
      rfl
    · have hfr : Fr (blkL a) H w'.heap := ⟨hg.size, fun k hk hn => hg.block k hk (by
        cases a with
        | none => simp [Value.ownBlock]
        | some ad => simp only [Value.ownBlock, ne_eq, Option.some.injEq]; intro e; exact hn (by simp [blkL, e]))⟩
      obtain ⟨hlen, ho'⟩ := ho'
      have hlen' : n + m = (xs ++ ys).length := by rw [List.length_append, ← ho.1, ← hs.len]
      rcases ho' with ⟨rfl, h0⟩ | ⟨g, cap, cur, rfl, hb, hh, hc, hm, hcs, htk⟩
      · exact ⟨none, 0, 0, rfl, hk none 0 0 w'.heap ⟨by omega, .inl ⟨rfl, rfl, rfl⟩⟩ hfr (fun _ h => by cases h)⟩
      · exact ⟨_, _, _, rfl, hk _ _ _ w'.heap ⟨hlen', .inr ⟨g, cur, rfl, hb, hh, hc, hm, hcs, by rw [htk, List.flatMap_append]⟩⟩ hfr (fun k hk => by simp [blkL] at hk; subst hk; exact hgw _ _ rfl)⟩
  have hmax : n + m ≤ maxLen := by
    have : n + m ≤ (n + m) * bytes := Nat.le_mul_of_pos_right _ h5
    simp only [maxLen]; omega
  cases a2 with
  | none =>
    have hy : ys = [] := by
      rcases hs.arr with h | ⟨b, off, e, _⟩
      · exact h
      · cases e
    subst hy
    have hm : m = 0 := hs.len
    subst hm
    have hK := hk a n c H (by rw [List.append_nil]; exact ho) (Fr.refl _ _) (Grow.refl _ _)
    obtain ⟨hl, ho1⟩ := ho
    have hnc : n ≤ c := by
      rcases ho1 with ⟨_, rfl, rfl⟩ | ⟨_, _, _, _, _, h, _⟩
      · exact Nat.le_refl _
      · exact h
    refine ⟨.slice a n c, H, d, ?_, a, n, c, rfl, hK⟩
    unfold Builtin.append_
    simp only [List.getElem?_toArray, List.getElem?_cons_zero, List.getElem?_cons_succ]
    cases a with
    | none => simp [run_underlying' hu, sizeOf_run hi, Builtin.lenOf, hnc, Builtin.firstCells]
    | some ad => simp [run_underlying' hu, sizeOf_run hi, Builtin.lenOf, hnc, Builtin.firstCells, storeCells]
  | some ad =>
    have hcell : ∀ j u, (ys.flatMap E.cells)[j]? = some u → (mkW Ev H d).cell? (ad.add j) = some u := by
      intro j u hu
      obtain ⟨i, x, k, h1, h2, rfl⟩ := flatMap_inv E ys j u hu
      obtain ⟨b, off, e, hc⟩ := hs.arr.at h1
      simp only [Option.some.injEq] at e
      subst e
      rw [add_at, cell_heap, ← Nat.add_assoc]
      exact hc k u h2
    obtain ⟨v', w', hr, ho', hg, hnn⟩ := run_append_own (P := P) (mkW Ev H d) base ts ty t i z E.sz bytes hu hi hz h1 h4 h2 h3 _ n _ hown ad m c2 (ys.flatMap E.cells) (by rw [flatMap_len, hs.len]) hcell
      (fun u hu => by obtain ⟨x, _, hx⟩ := List.mem_flatMap.1 hu; exact E.one x u hx) hmax hsz hbase
    have hl2 : (ys.flatMap E.cells).length = m * i.size := by rw [flatMap_len, hs.len, h1]
    have hone : ∀ u ∈ ys.flatMap E.cells, u.oneCell' = true := fun u hu => by obtain ⟨x, _, hx⟩ := List.mem_flatMap.1 hu; exact E.one x u hx
    have hgw : (∀ g cc, v' = .slice (some ⟨g, 0, none⟩) (n + m) cc → g ∈ blkL a ∨ H.size ≤ g) ∧ d.1 ≤ w'.drawn := by
      obtain ⟨hlx, ⟨rfl, rfl, rfl⟩ | ⟨b, cur, rfl, hb, hh, hc, hm, hcs, htk⟩⟩ := id ho
      · by_cases hm0 : m = 0
        · subst hm0
          have hr2 : (Builtin.append_ #[ts, ts] ty #[.slice none 0 0, .slice (some ad) 0 c2]).run P (mkW Ev H d) = .ok (.slice none 0 0) (mkW Ev H d) := by
            simp [Builtin.append_, run_underlying' hu, sizeOf_run hi, Builtin.lenOf, Builtin.firstCells, loadCells, loadCellsFrom]
          rw [hr] at hr2
          injection hr2 with e1 e2
          refine ⟨fun g cc hv => ?_, by rw [e2]; exact Nat.le_refl _⟩
          rw [hv] at e1
          cases e1
        · have hr2 := run_append_nil (P := P) (mkW Ev H d) ts ty t i z hu hi hz ad m c2 (ys.flatMap E.cells) hl2 hcell (by omega) (by simp only [maxLen] at hmax; omega) (by rw [h4]; simp only [Nat.zero_add] at hsz; omega)
          rw [hr] at hr2
          injection hr2 with e1 e2
          refine ⟨fun g cc hv => ?_, by rw [e2]; exact Nat.le_succ _⟩
          rw [hv] at e1
          injection e1 with e1
          injection e1 with e1
          injection e1 with e1
          exact .inr (Nat.le_of_eq e1.symm)
      · by_cases hroom : n + m ≤ c
        · have hr2 := run_append_room (P := P) (mkW Ev H d) ts ty t i hu hi b n c cur hh ad m c2 (ys.flatMap E.cells) hl2 hcell hone hroom (by rw [hl2, hcs, h1, ← Nat.add_mul]; exact Nat.mul_le_mul_right _ hroom)
          rw [hr] at hr2
          injection hr2 with e1 e2
          refine ⟨fun g cc hv => ?_, by rw [e2]; exact Nat.le_refl _⟩
          rw [hv] at e1
          injection e1 with e1
          injection e1 with e1
          injection e1 with e1
          exact .inl (by simp [blkL, e1])
        · have holds : ∀ j u, (xs.flatMap E.cells)[j]? = some u → (mkW Ev H d).cell? ((⟨b, 0, none⟩ : Addr).add j) = some u := hown.cells (g := b) rfl
          have hr2 := run_append_grow (P := P) (mkW Ev H d) ts ty t i z hu hi hz ⟨b, 0, none⟩ n c (xs.flatMap E.cells) (by rw [flatMap_len, hlx, h1]) holds ad m c2 (ys.flatMap E.cells) hl2 hcell (by omega) (by simp only [maxLen] at hmax; omega) (growslice_fits (by omega) (by rw [h4]; exact hsz))
          rw [hr] at hr2
          injection hr2 with e1 e2
          refine ⟨fun g cc hv => ?_, by rw [e2]; exact Nat.le_succ _⟩
          rw [hv] at e1
          injection e1 with e1
          injection e1 with e1
          injection e1 with e1
          exact .inr (Nat.le_of_eq e1.symm)
    obtain ⟨H', d', hw, hK⟩ := fin v' w' ho' hg hgw.1 hgw.2
    subst hw
    exact ⟨v', H', d', hr, hK⟩

theorem ap_raw {α : Type} {E : Enc α} {P : Program} {ts ty t : TypeId} {bytes base : Nat} {H : Heap} {a : Option Addr} {n c : Nat} {xs ys : List α} {a2 : Option Addr} {m c2 : Nat} {K : Option Addr → Nat → Nat → Heap → Prop}
    (hts : sliceB P ts t = true) (ht : elemB P t E.sz bytes = true) (ho : Own E t base H a n c xs) (hs : Sl E H a2 m c2 ys) (hbase : base ≤ H.size) (hsz : (n + m) * bytes ≤ 140737488355328)
    (hk : ∀ a' n' c' H', Own E t base H' a' n' c' (xs ++ ys) → Fr (blkL a) H H' → K a' n' c' H') :
    SemWp P (Builtin.append_ ⟨[ts, ts]⟩ ty ⟨[.slice a n c, .slice a2 m c2]⟩) H fun v H' => ∃ a n c, v = .slice a n c ∧ K a n c H' :=
  ap_grow hts ht ho hs hbase hsz fun a' n' c' H' h1 h2 _ => hk a' n' c' H' h1 h2


theorem sl_one {α : Type} (E : Enc α) {H H' : Heap} {b : Nat} {vs : List Value} {t : TypeId} (x : α) (h : New H b (.cells ⟨vs⟩ t) H') (hv : vs = E.cells x) : Sl E H' (some ⟨b, 0, none⟩) 1 1 [x] := by
  refine ⟨rfl, Nat.le_refl _, .inr ⟨b, 0, rfl, fun i y hy j v hj => ?_⟩⟩
  cases i with
  | zero =>
    simp only [List.getElem?_cons_zero, Option.some.injEq] at hy
    subst hy
    subst hv
    rw [cell_of_blk h.get]
    simpa using hj
  | succ i => simp at hy

structure KeyT (P : Program) (kt : TypeId) (κ : Type) [DecidableEq κ] where
  ek : κ → Value
  d : TypeDesc
  und : P.underlying kt = some d
  cmp : ∀ a b, Instr.sameNow d (ek a) (ek b) = some (decide (a = b))
  chk : ∀ e k w, (Instr.checkKey e 10000 kt (ek k)).run P w = .ok () w
  same : ∀ a, Instr.sameBits 10000 (ek a) (ek a) = true

theorem checkKey_int {P : Program} {kt : TypeId} {q : IntKind} (h : P.underlying kt = some (.int q)) (e : Bool) (n : Nat) (k : IntKind) (a : Int) (w : World) : (Instr.checkKey e (n + 1) kt (.int k a)).run P w = .ok () w := by
  unfold Instr.checkKey
  rw [Sem.run_bind, run_underlying' h]
  rfl
def keyInt {P : Program} {kt : TypeId} (h : P.underlying kt = some (.int .i64)) : KeyT P kt Int where
  ek := fun n => .int .i64 n
  d := .int .i64
  und := h
  cmp := fun a b => rfl
  chk := fun e k w => checkKey_int h e 9999 .i64 k w
  same := fun a => by
    show (IntKind.i64 == IntKind.i64 && a == a) = true
    simp
section
variable {P : Program} {kt : TypeId} {κ : Type} [DecidableEq κ] (T : KeyT P kt κ)

abbrev Ent (κ : Type) := κ × Value × Nat
def KeyT.ent (x : Ent κ) : MapEntry := { key := T.ek x.1, val := x.2.1, born := x.2.2 }
structure WfL (ck : Nat) (L : List (Ent κ)) : Prop where
  keys : (L.map (·.1)).Nodup
  born : (L.map (·.2.2)).Nodup
  lt : ∀ x ∈ L, x.2.2 < ck
structure MapR (H : Heap) (r : Nat) (ck : Nat) (L : List (Ent κ)) : Prop where
  blk : H[r]? = some (.map ⟨L.map T.ent⟩ ck)
  wf : WfL ck L

def getL (k : κ) : List (Ent κ) → Option Value
  | [] => none
  | x :: l => if x.1 = k then some x.2.1 else getL k l
def setL (k : κ) (v : Value) : List (Ent κ) → List (Ent κ)
  | [] => []
  | x :: l => if x.1 = k then (k, v, x.2.2) :: l else x :: setL k v l
def delL (k : κ) (L : List (Ent κ)) : List (Ent κ) := L.filter fun x => decide (x.1 ≠ k)
def putL (k : κ) (v : Value) (ck : Nat) (L : List (Ent κ)) : List (Ent κ) := match getL k L with | some _ => setL k v L | none => L ++ [(k, v, ck)]
def putC (k : κ) (ck : Nat) (L : List (Ent κ)) : Nat := match getL k L with | some _ => ck | none => ck + 1

def findL (k : κ) : List (Ent κ) → Nat → Option (Nat × Value)
  | [], _ => none
  | x :: l, i => if x.1 = k then some (i, x.2.1) else findL k l (i + 1)

theorem findNow_eq (k : κ) : ∀ (L : List (Ent κ)) (i : Nat), Instr.findNow T.d (T.ek k) (L.map T.ent) i = some (findL k L i)
  | [], i => rfl
  | x :: l, i => by
    simp only [List.map_cons, Instr.findNow, KeyT.ent, T.cmp, findL]
    by_cases h : x.1 = k
    · have h' : decide (k = x.1) = true := by simp [h]
      rw [h', if_pos h]
    · have h' : decide (k = x.1) = false := by simp; exact fun e => h e.symm
      rw [h', if_neg h]
      exact findNow_eq k l (i + 1)

theorem findKey_run (k : κ) (L : List (Ent κ)) (w : World) : (Instr.findKey kt (T.ek k) (L.map T.ent)).run P w = .ok (findL k L 0) w := by
  unfold Instr.findKey
  rw [Sem.run_bind, run_underlying' T.und]
  simp only [Result.andThen_ok, findNow_eq]
  rfl

theorem findL_get (k : κ) : ∀ (L : List (Ent κ)) (i : Nat), (findL k L i).map (·.2) = getL k L
  | [], _ => rfl
  | x :: l, i => by
    simp only [findL, getL]
    split
    · rfl
    · exact findL_get k l (i + 1)

theorem getObj_run {H : Heap} {r : Nat} {es : Array MapEntry} {ck : Nat} (h : H[r]? = some (.map es ck)) (w : World) (hw : w.heap = H) : (getObj r).run P w = .ok (.map es ck) w := by
  simp [getObj, Sem.run, hw, h]

theorem lookup_map {H : Heap} {r ck : Nat} {L : List (Ent κ)} {mt e : TypeId} {z : Value} (hm : P.underlying mt = some (.map kt e)) (hz : zeroOf P e = some z) (h : MapR T H r ck L) (k : κ) :
    Rd P (Instr.lookup mt (.map (some r)) (T.ek k) false) H ((getL k L).getD z) := by
  intro w hw
  have hf := findL_get k L 0
  unfold Instr.lookup
  rw [Sem.run_bind, run_underlying' hm]
  simp only [Result.andThen_ok]
  rw [Sem.run_bind, getObj_run h.blk w hw]
  simp only [Result.andThen_ok]
  rw [Sem.run_bind]
  simp only [Sem.run_pure, Result.andThen_ok]
  rw [Sem.run_bind, T.chk]
  simp only [Result.andThen_ok]
  rw [Sem.run_bind, findKey_run]
  simp only [Result.andThen_ok]
  cases hx : findL k L 0 with
  | none => rw [hx] at hf; simp at hf; simp [← hf, zeroOf_run hz]
  | some x => rw [hx] at hf; simp at hf; simp [← hf]

theorem getL_none_iff {k : κ} {L : List (Ent κ)} : getL k L = none ↔ k ∉ L.map (·.1) := by
  induction L with
  | nil => simp [getL]
  | cons x l ih =>
    simp only [getL, List.map_cons, List.mem_cons, not_or]
    split
    · rename_i h; simp [h]
    · rename_i h; rw [ih]; exact ⟨fun h' => ⟨fun e => h e.symm, h'⟩, fun h' => h'.2⟩
theorem getL_setL {k k' : κ} {v : Value} {L : List (Ent κ)} : getL k' (setL k v L) = if k' = k then (getL k L).map (fun _ => v) else getL k' L := by
  induction L with
  | nil => simp [getL, setL]
  | cons x l ih =>
    simp only [setL]
    by_cases h : x.1 = k
    · rw [if_pos h]
      by_cases h' : k' = k
      · subst h'; simp [getL, h]
      · rw [if_neg h']
        have h1 : ¬ k = k' := fun e => h' e.symm
        have h2 : ¬ x.1 = k' := by rw [h]; exact h1
        simp [getL, h1, h2]
    · rw [if_neg h]
      simp only [getL, ih]
      by_cases h' : k' = k
      · subst h'; simp [h]
      · simp [h']
theorem map_setL (k : κ) (v : Value) (L : List (Ent κ)) : (setL k v L).map (·.1) = L.map (·.1) ∧ (setL k v L).map (·.2.2) = L.map (·.2.2) := by
  induction L with
  | nil => simp [setL]
  | cons x l ih =>
    simp only [setL]
    split
    · rename_i h; simp [h]
    · simp [ih]
theorem getL_append {k : κ} {L M : List (Ent κ)} : getL k (L ++ M) = (getL k L).or (getL k M) := by
  induction L with
  | nil => simp [getL]
  | cons x l ih =>
    simp only [List.cons_append, getL]
    split
    · simp
    · exact ih
theorem getL_putL {k k' : κ} {v : Value} {ck : Nat} {L : List (Ent κ)} : getL k' (putL k v ck L) = if k' = k then some v else getL k' L := by
  unfold putL
  cases h : getL k L with
  | some u => simp only; rw [getL_setL]; simp [h]
  | none =>
    simp only [getL_append, getL]
    by_cases h' : k' = k
    · subst h'; simp [h]
    · have h1 : ¬ k = k' := fun e => h' e.symm
      simp [h', h1]
theorem WfL.put {ck : Nat} {L : List (Ent κ)} (h : WfL ck L) (k : κ) (v : Value) : WfL (putC k ck L) (putL k v ck L) := by
  unfold putC putL
  cases hg : getL k L with
  | some u =>
    simp only
    have hm := map_setL k v L
    refine ⟨by rw [hm.1]; exact h.keys, by rw [hm.2]; exact h.born, fun x hx => ?_⟩
    have : x.2.2 ∈ (setL k v L).map (·.2.2) := List.mem_map_of_mem hx
    rw [hm.2] at this
    obtain ⟨y, hy, e⟩ := List.mem_map.1 this
    rw [← e]; exact h.lt y hy
  | none =>
    simp only
    refine ⟨?_, ?_, fun x hx => ?_⟩
    · rw [List.map_append, List.nodup_append]
      refine ⟨h.keys, by simp, fun a ha b hb => ?_⟩
      simp only [List.map_cons, List.map_nil, List.mem_singleton] at hb
      subst hb
      exact fun e => getL_none_iff.1 hg (e ▸ ha)
    · rw [List.map_append, List.nodup_append]
      refine ⟨h.born, by simp, fun a ha b hb => ?_⟩
      simp only [List.map_cons, List.map_nil, List.mem_singleton] at hb
      subst hb
      obtain ⟨y, hy, rfl⟩ := List.mem_map.1 ha
      have := h.lt y hy
      omega
    · rcases List.mem_append.1 hx with hx | hx
      · have := h.lt x hx; omega
      · simp only [List.mem_singleton] at hx; subst hx; simp
theorem findL_some {k : κ} : ∀ {L : List (Ent κ)} {i j : Nat} {v : Value}, findL k L i = some (j, v) → ∃ m b, j = i + m ∧ L[m]? = some (k, v, b)
  | [], _, _, _, h => by simp [findL] at h
  | x :: l, i, j, v, h => by
    simp only [findL] at h
    split at h
    · rename_i hk
      simp only [Option.some.injEq, Prod.mk.injEq] at h
      exact ⟨0, x.2.2, by omega, by obtain ⟨h1, h2⟩ := h; subst h2; obtain ⟨a, b, c⟩ := x; simp at hk ⊢; exact hk⟩
    · obtain ⟨m, b, hj, hm⟩ := findL_some h
      exact ⟨m + 1, b, by omega, by simpa using hm⟩
theorem findL_set {k : κ} {v : Value} : ∀ {L : List (Ent κ)} {i j : Nat} {u : Value}, findL k L i = some (j, u) → ∀ m, j = i + m → setL k v L = L.modify m (fun x => (k, v, x.2.2))
  | [], _, _, _, h, _, _ => by simp [findL] at h
  | x :: l, i, j, u, h, m, hm => by
    simp only [findL] at h
    simp only [setL]
    split at h
    · rename_i hk
      simp only [Option.some.injEq, Prod.mk.injEq] at h
      have : m = 0 := by omega
      subst this
      rw [if_pos hk]
      simp
    · rename_i hk
      rw [if_neg hk]
      obtain ⟨m', b, hj, _⟩ := findL_some h
      have hm' : m = m' + 1 := by omega
      subst hm'
      rw [findL_set h m' (by omega)]
      simp
theorem findL_del {k : κ} : ∀ {L : List (Ent κ)} {i j : Nat} {u : Value}, (L.map (·.1)).Nodup → findL k L i = some (j, u) → ∀ m, j = i + m → delL k L = L.eraseIdx m
  | [], _, _, _, _, h, _, _ => by simp [findL] at h
  | x :: l, i, j, u, hn, h, m, hm => by
    simp only [findL] at h
    simp only [List.map_cons, List.nodup_cons] at hn
    unfold delL
    rw [List.filter_cons]
    split at h
    · rename_i hk
      simp only [Option.some.injEq, Prod.mk.injEq] at h
      have : m = 0 := by omega
      subst this
      rw [if_neg (by simp [hk])]
      simp only [List.eraseIdx_cons_zero]
      rw [List.filter_eq_self]
      intro y hy
      simp only [ne_eq, decide_not, Bool.not_eq_true', decide_eq_false_iff_not]
      intro e
      exact hn.1 (by rw [hk, ← e]; exact List.mem_map_of_mem hy)
    · rename_i hk
      rw [if_pos (by simp [hk])]
      obtain ⟨m', b, hj, _⟩ := findL_some h
      have hm' : m = m' + 1 := by omega
      subst hm'
      have := findL_del hn.2 h m' (by omega)
      unfold delL at this
      rw [this]
      rfl

def setH (H : Heap) (r : Nat) (o : Obj) : Heap := H.setIfInBounds r o
theorem setH_get {H : Heap} {r : Nat} {o o' : Obj} (h : H[r]? = some o) : (setH H r o')[r]? = some o' := by
  have := lt_of_get h
  simp [setH, this]
theorem setH_fr (H : Heap) (r : Nat) (o : Obj) : Fr [r] H (setH H r o) :=
  ⟨by simp [setH], fun k _ hn => by
    have : r ≠ k := fun e => hn (by simp [e])
    simp [setH, this]⟩

theorem setObj_run {E : Env} {H : Heap} {d : Dr E} {r : Nat} {es : Array MapEntry} {ck : Nat} (h : H[r]? = some (.map es ck)) (o : Obj) : (setObj r o).run P (mkW E H d) = .ok () (mkW E (setH H r o) d) := by
  simp [setObj, Sem.run, mkW, h, setH]

theorem put_map {H : Heap} {r ck : Nat} {L : List (Ent κ)} {mt e : TypeId} {v : Value} {K : Heap → Prop} (hm : P.underlying mt = some (.map kt e)) (h : MapR T H r ck L) (k : κ)
    (hk : ∀ H', MapR T H' r (putC k ck L) (putL k v ck L) → Fr [r] H H' → K H') : SemU P (Instr.mapUpdate mt (.map (some r)) (T.ek k) v) H K := by
  intro E d
  have hf := findL_get k L 0
  have hg := getObj_run h.blk (mkW E H d) rfl (P := P)
  cases hx : findL k L 0 with
  | none =>
    rw [hx] at hf
    simp only [Option.map_none] at hf
    refine ⟨setH H r (.map ((L.map T.ent).toArray.push { key := T.ek k, val := v, born := ck }) (ck + 1)), d, ?_, hk _ ⟨?_, h.wf.put k v⟩ (setH_fr _ _ _)⟩
    · unfold Instr.mapUpdate
      rw [Sem.run_bind, run_underlying' hm]
      simp only [Result.andThen_ok]
      rw [Sem.run_bind, hg]
      simp only [Result.andThen_ok]
      rw [Sem.run_bind, T.chk]
      simp only [Result.andThen_ok]
      rw [Sem.run_bind, findKey_run, hx]
      simp only [Result.andThen_ok]
      exact setObj_run h.blk _
    · rw [setH_get h.blk]
      unfold putC putL
      rw [← hf]
      simp [KeyT.ent]
  | some x =>
    obtain ⟨j, u⟩ := x
    rw [hx] at hf
    simp only [Option.map_some] at hf
    obtain ⟨m, b, hj, hmm⟩ := findL_some hx
    have hj' : j = m := by omega
    subst hj'
    refine ⟨setH H r (.map ((L.map T.ent).toArray.modify j fun e => { e with key := T.ek k, val := v }) ck), d, ?_, hk _ ⟨?_, h.wf.put k v⟩ (setH_fr _ _ _)⟩
    · unfold Instr.mapUpdate
      rw [Sem.run_bind, run_underlying' hm]
      simp only [Result.andThen_ok]
      rw [Sem.run_bind, hg]
      simp only [Result.andThen_ok]
      rw [Sem.run_bind, T.chk]
      simp only [Result.andThen_ok]
      rw [Sem.run_bind, findKey_run, hx]
      simp only [Result.andThen_ok]
      have hkey : ((({ toList := L.map T.ent } : Array MapEntry)[j]?).map (·.key)).getD (T.ek k) = T.ek k := by
        simp [hmm, KeyT.ent]
      rw [hkey]
      have hst : (Instr.keyThatStays (T.ek k) (T.ek k)).run P (mkW E H d) = .ok (T.ek k) (mkW E H d) := by
        unfold Instr.keyThatStays
        rw [T.same]
        rfl
      rw [Sem.run_bind, hst]
      simp only [Result.andThen_ok]
      exact setObj_run h.blk _
    · rw [setH_get h.blk]
      unfold putC putL
      rw [← hf]
      simp only [Option.some.injEq, Obj.map.injEq, and_true]
      rw [findL_set (v := v) hx j (by omega)]
      apply Array.ext'
      apply List.ext_getElem?
      intro i
      simp only [Array.toList_modify, List.getElem?_map, List.getElem?_modify]
      by_cases hi : j = i
      · subst hi
        simp [hmm, KeyT.ent]
      · simp [hi]

theorem MapR.fr {H H' : Heap} {r ck : Nat} {L : List (Ent κ)} {S : List Nat} (h : MapR T H r ck L) (hf : Fr S H H') (hn : r ∉ S) : MapR T H' r ck L := ⟨hf.get h.blk hn, h.wf⟩
theorem MapR.keep {H H' : Heap} {r ck : Nat} {L : List (Ent κ)} (h : MapR T H r ck L) (hf : Fr [] H H') : MapR T H' r ck L := ⟨hf.get0 h.blk, h.wf⟩
theorem MapR.new {H H' : Heap} {r : Nat} (h : New H r (.map ⟨[]⟩ 0) H') : MapR T H' r 0 [] := ⟨h.get, ⟨by simp, by simp, by simp⟩⟩
theorem MapR.lt {H : Heap} {r ck : Nat} {L : List (Ent κ)} (h : MapR T H r ck L) : r < H.size := lt_of_get h.blk

theorem range_map {H : Heap} {r ck : Nat} {L : List (Ent κ)} {mt e : TypeId} {K : Option Addr → Heap → Prop} (hm : P.underlying mt = some (.map kt e)) (h : MapR T H r ck L)
    (hk : ∀ b H', New H b (.mapIter (some r) ck #[] ck) H' → K (some ⟨b, 0, none⟩) H') :
    SemWp P (Instr.range mt (.map (some r))) H fun v H' => ∃ a, v = .pointer a ∧ K a H' := by
  intro E d
  refine ⟨_, H.push (.mapIter (some r) ck #[] ck), d, ?_, some ⟨H.size, 0, none⟩, rfl, hk H.size _ ⟨rfl, rfl⟩⟩
  unfold Instr.range
  rw [Sem.run_bind, run_underlying' hm]
  simp only [Result.andThen_ok]
  rw [Sem.run_bind, getObj_run h.blk (mkW E H d) rfl]
  simp only [Result.andThen_ok]
  rw [Sem.run_bind, Sem.run_pure]
  rfl

theorem getObj_any {H : Heap} {r : Nat} {o : Obj} (h : H[r]? = some o) (ho : ∀ c t z, o ≠ .cells c t z) (w : World) (hw : w.heap = H) : (getObj r).run P w = .ok o w := by
  cases o with
  | cells c t z => exact absurd rfl (ho c t z)
  | _ => simp [getObj, Sem.run, hw, h]
theorem setObj_any {E : Env} {H : Heap} {d : Dr E} {r : Nat} {o : Obj} (h : H[r]? = some o) (ho : ∀ c t z, o ≠ .cells c t z) (o' : Obj) : (setObj r o').run P (mkW E H d) = .ok () (mkW E (setH H r o') d) := by
  cases o with
  | cells c t z => exact absurd rfl (ho c t z)
  | _ => simp [setObj, Sem.run, mkW, h, setH]

theorem next_map {H : Heap} {r it ck : Nat} {L : List (Ent κ)} {seen : Array Nat} {ty : TypeId} {KE : Heap → Prop} {KN : Value → Value → Heap → Prop} (h : MapR T H r ck L) (hi : H[it]? = some (.mapIter (some r) ck seen ck))
    (hend : (∀ x ∈ L, x.2.2 ∈ seen) → KE H)
    (hk : ∀ x ∈ L, x.2.2 ∉ seen → ∀ H', H'[it]? = some (.mapIter (some r) ck (seen.push x.2.2) ck) → Fr [it] H H' → KN (T.ek x.1) x.2.1 H') :
    SemWp P (Instr.next (.pointer (some ⟨it, 0, none⟩)) false ty) H fun v H' => (v = .tuple #[.bool false] ∧ KE H') ∨ (∃ k x, v = .tuple #[.bool true, k, x] ∧ KN k x H') := by
  intro E d
  have h1 := getObj_any (P := P) hi (by simp) (mkW E H d) rfl
  have h2 := getObj_run (P := P) h.blk (mkW E H d) rfl
  have hnot : (!seen.isEmpty && !(L.map T.ent).toArray.isEmpty && (L.map T.ent).toArray.all (fun e => decide (e.born ≥ ck))) = false := by
    cases L with
    | nil => simp
    | cons x l =>
      have hlt := h.wf.lt x (by simp)
      simp [KeyT.ent]
      omega
  let left := (L.map T.ent).toArray.filter fun e => !seen.contains e.born
  let old := left.filter fun e => decide (e.born < ck)
  let new := left.filter fun e => decide (e.born ≥ ck)
  let cand : Array (Option MapEntry) := (if old.isEmpty then #[none] else #[]) ++ (old ++ new).map some
  have hrun : (Instr.next (.pointer (some ⟨it, 0, none⟩)) false ty).run P (mkW E H d) = ((do
      match cand[← choose (.mapNext cand.size)]? with
      | some (some e) =>
        setObj it (.mapIter (some r) ck (seen.push e.born) ck)
        pure (.tuple #[.bool true, e.key, e.val])
      | some none => pure (.tuple #[.bool false])
      | none => stuck "Next: no such candidate" : Sem Value)).run P (mkW E H d) := by
    unfold Instr.next
    simp only
    rw [Sem.run_bind, h1]
    simp only [Result.andThen_ok]
    rw [Sem.run_bind, h2]
    simp only [Result.andThen_ok]
    rw [hnot]
    simp only [Bool.false_eq_true, if_false]
    rfl
  have hpos : 0 < cand.size := by
    by_cases ho : old.isEmpty
    · simp only [cand, ho, if_true]; simp; omega
    · have : 0 < old.size := by
        rcases Nat.eq_zero_or_pos old.size with h0 | h0
        · exact absurd (by simpa [Array.isEmpty] using h0) ho
        · exact h0
      simp only [cand, ho]; simp; omega
  have hch : ∃ j d', j < cand.size ∧ (choose (.mapNext cand.size)).run P (mkW E H d) = .ok j (mkW E H d') := by
    by_cases hf : (Question.mapNext cand.size).forced = true
    · refine ⟨0, d, hpos, ?_⟩
      simp [choose, Sem.run, hf]
    · refine ⟨E.tape d.1 (.mapNext cand.size) % cand.size, up d, Nat.mod_lt _ hpos, ?_⟩
      have hf' : (Question.mapNext cand.size).forced = false := by simpa using hf
      simp [choose, Sem.run, hf', Question.cut, mkW]
  obtain ⟨j, d', hj, hc⟩ := hch
  rw [hrun, Sem.run_bind, hc]
  simp only [Result.andThen_ok]
  have hget : cand[j]? = some cand[j] := by simp [hj]
  rw [hget]
  have hmem : cand[j] ∈ cand := Array.getElem_mem hj
  cases he : cand[j] with
  | none =>
    refine ⟨_, H, d', rfl, .inl ⟨rfl, hend fun x hx => ?_⟩⟩
    rw [he] at hmem
    have hoe : old.isEmpty = true := by
      cases ho : old.isEmpty with
      | true => rfl
      | false => simp [cand, ho] at hmem
    by_cases hs : x.2.2 ∈ seen
    · exact hs
    · exfalso
      have hlt := h.wf.lt x hx
      have : T.ent x ∈ old := by
        simp only [old, left, Array.mem_filter]
        refine ⟨⟨by simp only [List.mem_toArray]; exact List.mem_map_of_mem hx, by simp [KeyT.ent, hs]⟩, by simp [KeyT.ent, hlt]⟩
      have h0 : old = #[] := by simpa using hoe
      rw [h0] at this
      simp at this
  | some e =>
    rw [he] at hmem
    have : e ∈ left := by
      simp only [cand, Array.mem_append, Array.mem_map] at hmem
      rcases hmem with hm | ⟨y, hy, e1⟩
      · split at hm <;> simp at hm
      · simp only [Option.some.injEq] at e1
        subst e1
        rcases hy with hy | hy
        · exact (Array.mem_filter.1 hy).1
        · exact (Array.mem_filter.1 hy).1
    simp only [left, Array.mem_filter, List.mem_toArray, List.mem_map] at this
    obtain ⟨⟨x, hx, rfl⟩, hns⟩ := this
    have hns' : x.2.2 ∉ seen := by simpa [KeyT.ent] using hns
    refine ⟨_, setH H it (.mapIter (some r) ck (seen.push x.2.2) ck), d', ?_, .inr ⟨_, _, rfl, hk x hx hns' _ (setH_get hi) (setH_fr _ _ _)⟩⟩
    rw [Sem.run_bind, setObj_any hi (by simp)]
    rfl

theorem entry_map {H : Heap} {r it ck b : Nat} {L : List (Ent κ)} {seen : Array Nat} {x : Ent κ} {K : Value → Value → Heap → Prop} (h : MapR T H r ck L) (hi : H[it]? = some (.mapIter (some r) ck (seen.push b) ck)) (hx : x ∈ L) (hb : x.2.2 = b)
    (hk : K (T.ek x.1) x.2.1 H) : SemWp P (Instr.entry (.pointer (some ⟨it, 0, none⟩))) H fun v H' => ∃ k x, v = .tuple #[k, x] ∧ K k x H' := by
  intro E d
  refine ⟨_, H, d, ?_, _, _, rfl, hk⟩
  have h1 := getObj_any (P := P) hi (by simp) (mkW E H d) rfl
  have h2 := getObj_run (P := P) h.blk (mkW E H d) rfl
  have hfind : (L.map T.ent).toArray.find? (fun e => e.born == b) = some (T.ent x) := by
    have hn := h.wf.born
    clear h h1 h2 hi hk
    simp only [List.find?_toArray]
    induction L with
    | nil => simp at hx
    | cons y l ih =>
      simp only [List.map_cons, List.find?_cons]
      simp only [List.map_cons, List.nodup_cons] at hn
      rcases List.mem_cons.1 hx with rfl | hx'
      · have : ((T.ent x).born == b) = true := by simp [KeyT.ent, hb]
        rw [this]
      · have : ((T.ent y).born == b) = false := by
          simp only [KeyT.ent, beq_eq_false_iff_ne, ne_eq]
          intro e
          exact hn.1 (by rw [e, ← hb]; exact List.mem_map_of_mem hx')
        rw [this]
        exact ih hx' hn.2
  unfold Instr.entry
  simp only
  rw [Sem.run_bind, h1]
  simp only [Result.andThen_ok, Array.back?_push]
  rw [Sem.run_bind, h2]
  simp only [Result.andThen_ok]
  rw [if_neg (by simp), hfind]
  rfl


def pendB (seen : Array Nat) (l : List Nat) : Nat := (l.filter fun b => !seen.contains b).length
def pendH (H : Heap) (r it : Nat) : Nat := match H[r]?, H[it]? with
  | some (.map es _), some (.mapIter _ _ seen _) => pendB seen (es.toList.map (·.born))
  | _, _ => 0
theorem pendH_eq {H : Heap} {r it ck c1 c2 : Nat} {L : List (Ent κ)} {seen : Array Nat} {o : Option Nat} (h : MapR T H r ck L) (hi : H[it]? = some (.mapIter o c1 seen c2)) : pendH H r it = pendB seen (L.map (·.2.2)) := by
  unfold pendH
  rw [h.blk, hi]
  simp only [List.map_map]
  rfl
theorem pendB_push {seen : Array Nat} {l : List Nat} {b : Nat} (hb : b ∈ l) (hs : b ∉ seen) : pendB (seen.push b) l < pendB seen l := by
  unfold pendB
  have sub : ∀ l : List Nat, (l.filter fun x => !(seen.push b).contains x).length ≤ (l.filter fun x => !seen.contains x).length := by
    intro l
    induction l with
    | nil => simp
    | cons y l ih =>
      simp only [List.filter_cons]
      by_cases h1 : y ∈ seen
      · have h2 : y ∈ seen.push b := by simp [h1]
        simpa [h1] using ih
      · by_cases h3 : y = b
        · subst h3; simp [h1]; simp at ih; omega
        · simp [h1, h3]; simp at ih; omega
  induction l with
  | nil => cases hb
  | cons y l ih =>
    simp only [List.filter_cons]
    by_cases h3 : y = b
    · subst h3
      have := sub l
      simp [hs]; simp at this; omega
    · have hb' : b ∈ l := by
        rcases List.mem_cons.1 hb with h | h
        · exact absurd h.symm h3
        · exact h
      have := ih hb'
      by_cases h1 : y ∈ seen
      · simp [h1]; simp at this; omega
      · simp [h1, h3]; simp at this; omega
theorem getL_mem {k : κ} {v : Value} {b : Nat} {ck : Nat} {L : List (Ent κ)} (hw : WfL ck L) (h : (k, v, b) ∈ L) : getL k L = some v := by
  have hk := hw.keys
  clear hw
  induction L with
  | nil => cases h
  | cons y l ih =>
    simp only [getL]
    simp only [List.map_cons, List.nodup_cons] at hk
    rcases List.mem_cons.1 h with h | h
    · subst h; simp
    · have : y.1 ≠ k := fun e => hk.1 (by rw [e]; exact List.mem_map_of_mem (f := fun x : Ent κ => x.1) h)
      rw [if_neg this]
      exact ih h hk.2
theorem mem_getL {k : κ} {v : Value} {L : List (Ent κ)} (h : getL k L = some v) : ∃ b, (k, v, b) ∈ L := by
  induction L with
  | nil => cases h
  | cons y l ih =>
    simp only [getL] at h
    split at h
    · rename_i e
      cases h
      exact ⟨y.2.2, by rw [← e]; simp⟩
    · obtain ⟨b, hb⟩ := ih h; exact ⟨b, by simp [hb]⟩

end
end Go.GV
