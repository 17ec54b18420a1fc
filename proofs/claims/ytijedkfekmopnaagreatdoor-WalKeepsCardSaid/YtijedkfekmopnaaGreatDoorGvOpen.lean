/- From a law's condition on heaps to the given statement: what the arguments are, and that they read as they did. -/
import Derived.WalkKit
import Derived.ProofKit
import Derived.OpenShut
import Derived.Carry
import Derived.Deep.Slices
import Derived.Test.YtijedkfekmopnaaGreatDoorGvLib
set_option linter.unusedVariables false
namespace Go.GV
open Go Go.ChangeShapes Go.WideShapes Go.RowKit

def OkC (P : Program) (H : Heap) : Nat → TypeId → List Value → Prop
  | 0, _, _ => False
  | n + 1, t, cs => match P.underlying t with
    | some .bool => ∃ b, cs = [.bool b]
    | some (.int k) => ∃ x, cs = [.int k x] ∧ (Lit.int k x).wf = true
    | some .string => ∃ s, cs = [.string s] ∧ s.size ≤ maxLen
    | some (.slice e) => ∃ (a : Option Addr) (len cap : Nat) (rows : List (List Value)), cs = [.slice a len cap] ∧ len ≤ cap ∧ cap ≤ maxLen ∧ rows.length = len ∧
        ∀ i r, rows[i]? = some r → r.length = P.cellsOf e ∧ OkC P H n e r ∧ ∃ ad, a = some ad ∧ CellsAt H (ad.add (i * P.cellsOf e)) r
    | some (.struct fs) => cs.length = P.cellsOf t ∧ ∀ (i : Nat) (f : Field), fs[i]? = some f → OkC P H n f.type ((cs.drop f.offset).take (P.cellsOf f.type))
    | some (.array _ _) => cs.length = P.cellsOf t
    | _ => True

theorem trod_ok {X : Type} {enc : TypeId × Value → X} {P : Program} {w : World} {base : Nat} {sp : Nat → Bool} {held : Bool} : ∀ (n : Nat) (t : TypeId) (cs : List Value) (x : DataW X × List MemPlace), DataW.trod enc P w base sp held n t cs = some x → OkC P w.heap n t cs := by
  intro n
  induction n with
  | zero => intro t cs x h; simp [DataW.trod] at h
  | succ n ih =>
    intro t cs x h
    unfold OkC
    split
    · rename_i hu
      obtain ⟨b, h, _⟩ := DataW.trod_bool hu h
      exact ⟨b, h⟩
    · rename_i k hu
      obtain ⟨b, h, _, hw⟩ := DataW.trod_int hu h
      exact ⟨b, h, hw⟩
    · rename_i hu
      obtain ⟨b, h, _, hw⟩ := DataW.trod_string hu h
      exact ⟨b, h, hw⟩
    · rename_i e hu
      rcases DataW.trod_slice hu h with ⟨rfl, rfl⟩ | ⟨a, len, cap, elems, rest, m, hm, rfl, rfl, hb, hl, hc, hlen, hel, hsp, hns⟩
      · exact ⟨none, 0, 0, [], rfl, Nat.le_refl _, Nat.zero_le _, rfl, fun i r hr => by simp at hr⟩
      · have hm' : m = n := by omega
        subst hm'
        have each : ∀ i, i < len → ∃ r, w.cells? base (a.add (i * P.cellsOf e)) (P.cellsOf e) = some r ∧ DataW.trod enc P w base sp held m e r = elems[i]? := by
          intro i hi
          have := hel i hi
          rw [List.getElem?_eq_getElem (by omega)] at this
          obtain ⟨r, h1, h2⟩ := Option.bind_eq_some_iff.1 this
          exact ⟨r, h1, by rw [h2, List.getElem?_eq_getElem (by omega)]⟩
        obtain ⟨R, hR⟩ := Go.Deep.choose_lt each
        refine ⟨some a, len, cap, (List.range len).map R, rfl, hl, hc, by simp, fun i r hr => ?_⟩
        have hi : i < len := by
          have := (List.getElem?_eq_some_iff.1 hr).1
          simpa using this
        have hr' : r = R i := by simp [hi] at hr; exact hr.symm
        subst hr'
        obtain ⟨h1, h2⟩ := hR i hi
        obtain ⟨_, hcl, hcell⟩ := World.cells?_some h1
        rw [List.getElem?_eq_getElem (by omega)] at h2
        refine ⟨hcl, ih e _ _ h2, a, rfl, fun j v hv => ?_⟩
        · have hj : j < P.cellsOf e := by
            have := (List.getElem?_eq_some_iff.1 hv).1
            omega
          have := hcell j hj
          rw [hv] at this
          exact this
    · rename_i fs hu
      obtain ⟨xs, m, hm, rfl, hcl, hxl, hf⟩ := DataW.trod_struct hu h
      have hm' : m = n := by omega
      subst hm'
      refine ⟨hcl, fun i f hfi => ?_⟩
      have h1 := hf i f hfi
      have hi : i < xs.length := by rw [hxl]; exact (Array.getElem?_eq_some_iff.1 hfi).1
      rw [List.getElem?_eq_getElem hi] at h1
      exact ih _ _ _ h1
    · rename_i m e hu
      unfold DataW.trod at h
      rw [hu] at h
      simp only at h
      split at h
      · assumption
      · cases h
    · trivial

def OkA (P : Program) (H : Heap) (t : TypeId) (v : Value) : Prop :=
  (∃ n, OkC P H n t v.cells.toList) ∧ (match P.underlying t with
    | some .bool | some (.int _) | some .string | some (.slice _) => v.cells = #[v]
    | some (.struct _) => ∃ cs, v = .agg cs
    | _ => True)
def OkArgs (P : Program) (H : Heap) : List TypeId → List Value → Prop
  | [], vs => vs = []
  | t :: ts, vs => ∃ v vs', vs = v :: vs' ∧ OkA P H t v ∧ OkArgs P H ts vs'

theorem OkA.int {P : Program} {H : Heap} {t : TypeId} {v : Value} {k : IntKind} (ht : P.underlying t = some (.int k)) (h : OkA P H t v) : ∃ x, v = .int k x ∧ (Lit.int k x).wf = true := by
  obtain ⟨⟨n, h⟩, h2⟩ := h
  rw [ht] at h2
  cases n with
  | zero => exact h.elim
  | succ n =>
    unfold OkC at h
    rw [ht] at h
    obtain ⟨x, h, hw⟩ := h
    have h2 : v.cells = #[v] := h2
    rw [h2] at h
    exact ⟨x, by simpa using h, hw⟩
theorem OkA.bool {P : Program} {H : Heap} {t : TypeId} {v : Value} (ht : P.underlying t = some .bool) (h : OkA P H t v) : ∃ x, v = .bool x := by
  obtain ⟨⟨n, h⟩, h2⟩ := h
  rw [ht] at h2
  cases n with
  | zero => exact h.elim
  | succ n =>
    unfold OkC at h
    rw [ht] at h
    obtain ⟨x, h⟩ := h
    have h2 : v.cells = #[v] := h2
    rw [h2] at h
    exact ⟨x, by simpa using h⟩
theorem OkA.str {P : Program} {H : Heap} {t : TypeId} {v : Value} (ht : P.underlying t = some .string) (h : OkA P H t v) : ∃ x, v = .string x ∧ x.size ≤ maxLen := by
  obtain ⟨⟨n, h⟩, h2⟩ := h
  rw [ht] at h2
  cases n with
  | zero => exact h.elim
  | succ n =>
    unfold OkC at h
    rw [ht] at h
    obtain ⟨x, h, hw⟩ := h
    have h2 : v.cells = #[v] := h2
    rw [h2] at h
    exact ⟨x, by simpa using h, hw⟩

theorem OkC.sl {α : Type} {E : Enc α} {P : Program} {H : Heap} {n : Nat} {t e : TypeId} {cs : List Value} {G : α → Prop} (ht : P.underlying t = some (.slice e)) (hsz : P.cellsOf e = E.sz) (h : OkC P H n t cs)
    (hel : ∀ m r, OkC P H m e r → r.length = E.sz → ∃ x, E.cells x = r ∧ G x) : ∃ a len cap xs, cs = [.slice a len cap] ∧ Sl E H a len cap xs ∧ cap ≤ maxLen ∧ ∀ x ∈ xs, G x := by
  cases n with
  | zero => exact h.elim
  | succ n =>
    unfold OkC at h
    rw [ht] at h
    obtain ⟨a, len, cap, rows, rfl, hl, hc, hlen, hr⟩ := h
    have key : ∀ (L : List (List Value)), (∀ r ∈ L, ∃ x, E.cells x = r ∧ G x) → ∃ xs : List α, xs.map E.cells = L ∧ ∀ x ∈ xs, G x := by
      intro L
      induction L with
      | nil => intro _; exact ⟨[], rfl, by simp⟩
      | cons r L ih =>
        intro hL
        obtain ⟨x, hx, hg⟩ := hL r (by simp)
        obtain ⟨xs, hxs, hgs⟩ := ih fun r hr => hL r (by simp [hr])
        exact ⟨x :: xs, by simp [hx, hxs], fun y hy => (List.mem_cons.1 hy).elim (fun e => by rw [e]; exact hg) (hgs y)⟩
    obtain ⟨xs, hxs, hgs⟩ := key rows fun r hr' => by
      obtain ⟨i, hi⟩ := List.getElem?_of_mem hr'
      obtain ⟨h1, h2, _⟩ := hr i r hi
      exact hel n r h2 (by rw [h1, hsz])
    have hxl : xs.length = len := by rw [← hlen, ← hxs]; simp
    refine ⟨a, len, cap, xs, rfl, ⟨hxl.symm, hl, ?_⟩, hc, hgs⟩
    cases hx0 : xs with
    | nil => exact .inl rfl
    | cons x0 xs0 =>
      have h0 : rows[0]? = some (E.cells x0) := by rw [← hxs, hx0]; rfl
      obtain ⟨hl0, _, ad, rfl, hc0⟩ := hr 0 _ h0
      have hpos := E.pos
      have hex : ∃ v, (E.cells x0)[0]? = some v := ⟨(E.cells x0)[0]'(by rw [E.len]; exact hpos), by simp⟩
      obtain ⟨v0, hv0⟩ := hex
      have hcell := hc0 0 v0 hv0
      obtain ⟨b, off, spot⟩ := ad
      cases spot with
      | some s =>
        exfalso
        have e0 : ∀ x : Addr, x.add 0 = x := fun x => by cases x; rfl
        rw [Nat.zero_mul, e0, e0] at hcell
        unfold cellH at hcell
        split at hcell <;> simp at hcell
      | none =>
        refine .inr ⟨b, off, rfl, fun i x hx j v hv => ?_⟩
        rw [← hx0] at hx
        have hri : rows[i]? = some (E.cells x) := by rw [← hxs, List.getElem?_map, hx]; rfl
        obtain ⟨_, _, ad, had, hc⟩ := hr i _ hri
        simp only [Option.some.injEq] at had
        subst had
        have := hc j v hv
        rw [add_at, add_at, hsz] at this
        exact this

theorem OkA.sl {α : Type} {E : Enc α} {P : Program} {H : Heap} {t e : TypeId} {v : Value} {G : α → Prop} (ht : P.underlying t = some (.slice e)) (hsz : P.cellsOf e = E.sz) (h : OkA P H t v)
    (hel : ∀ m r, OkC P H m e r → r.length = E.sz → ∃ x, E.cells x = r ∧ G x) : ∃ a len cap xs, v = .slice a len cap ∧ Sl E H a len cap xs ∧ cap ≤ maxLen ∧ ∀ x ∈ xs, G x := by
  obtain ⟨⟨n, h⟩, h2⟩ := h
  rw [ht] at h2
  have h2 : v.cells = #[v] := h2
  obtain ⟨a, len, cap, xs, hcs, r⟩ := h.sl ht hsz hel
  rw [h2] at hcs
  exact ⟨a, len, cap, xs, by simpa using hcs, r⟩

theorem OkC.int {P : Program} {H : Heap} {n : Nat} {t : TypeId} {k : IntKind} {r : List Value} (ht : P.underlying t = some (.int k)) (h : OkC P H n t r) : ∃ x, r = [.int k x] ∧ (Lit.int k x).wf = true := by
  cases n with
  | zero => exact h.elim
  | succ n => unfold OkC at h; rw [ht] at h; exact h
theorem OkC.bool {P : Program} {H : Heap} {n : Nat} {t : TypeId} {r : List Value} (ht : P.underlying t = some .bool) (h : OkC P H n t r) : ∃ x, r = [.bool x] := by
  cases n with
  | zero => exact h.elim
  | succ n => unfold OkC at h; rw [ht] at h; exact h
theorem OkC.str {P : Program} {H : Heap} {n : Nat} {t : TypeId} {r : List Value} (ht : P.underlying t = some .string) (h : OkC P H n t r) : ∃ x, r = [.string x] ∧ x.size ≤ maxLen := by
  cases n with
  | zero => exact h.elim
  | succ n => unfold OkC at h; rw [ht] at h; exact h
theorem OkC.struct {P : Program} {H : Heap} {n : Nat} {t : TypeId} {fs : Array Field} {r : List Value} (ht : P.underlying t = some (.struct fs)) (h : OkC P H n t r) :
    r.length = P.cellsOf t ∧ ∀ (i : Nat) (f : Field), fs[i]? = some f → ∃ m, OkC P H m f.type ((r.drop f.offset).take (P.cellsOf f.type)) := by
  cases n with
  | zero => exact h.elim
  | succ n => unfold OkC at h; rw [ht] at h; exact ⟨h.1, fun i f hf => ⟨n, h.2 i f hf⟩⟩

theorem two_of {α : Type} {l : List α} (h : l.length = 2) : ∃ a b, l = [a, b] := by
  match l, h with
  | [a, b], _ => exact ⟨a, b, rfl⟩
theorem three_of {α : Type} {l : List α} (h : l.length = 3) : ∃ a b c, l = [a, b, c] := by
  match l, h with
  | [a, b, c], _ => exact ⟨a, b, c, rfl⟩
theorem four_of {α : Type} {l : List α} (h : l.length = 4) : ∃ a b c d, l = [a, b, c, d] := by
  match l, h with
  | [a, b, c, d], _ => exact ⟨a, b, c, d, rfl⟩
theorem OkA.struct {P : Program} {H : Heap} {t : TypeId} {fs : Array Field} {v : Value} (ht : P.underlying t = some (.struct fs)) (h : OkA P H t v) : ∃ cs n, v = .agg ⟨cs⟩ ∧ OkC P H n t cs := by
  obtain ⟨⟨n, h⟩, h2⟩ := h
  rw [ht] at h2
  obtain ⟨cs, rfl⟩ := h2
  exact ⟨cs.toList, n, rfl, h⟩

theorem wf_i64 {x : Int} (h : (Lit.int .i64 x).wf = true) : I64 x := by
  simp only [Lit.wf, Bool.and_eq_true, decide_eq_true_eq] at h
  exact h

theorem okArgs_of {X : Type} {enc : TypeId × Value → X} {P : Program} {W : World} {base : Nat} {sp : Nat → Bool} {held : Bool} {r : Reach} {b0 : Nat} : ∀ {ts : List TypeId} {vs : List Value} {ds : List (DataW X)} {ps : List MemPlace},
    DataW.TrodAll enc P W base sp held ts vs ds ps → (∀ (j : Nat) t v, ts[j]? = some t → vs[j]? = some v → Value.okWide P W r b0 t v) → OkArgs P W.heap ts vs
  | [], vs, ds, ps, h, _ => (trodAll_nil h).1
  | t :: ts, vs, ds, ps, h, hok => by
    obtain ⟨v, vs', d, ds', p, q, rfl, rfl, rfl, h1, h2⟩ := trodAll_cons h
    refine ⟨v, vs', rfl, ⟨?_, ?_⟩, okArgs_of h2 fun j t' v' ht hv => hok (j + 1) t' v' (by simpa using ht) (by simpa using hv)⟩
    · obtain ⟨n, hn⟩ := h1
      exact ⟨n, trod_ok n _ _ _ hn⟩
    · have h0 := hok 0 t v rfl rfl
      split
      · rename_i hu; obtain ⟨b, rfl⟩ := okWide_bool hu h0; rfl
      · rename_i k hu; obtain ⟨b, rfl⟩ := okWide_int hu h0; rfl
      · rename_i hu; obtain ⟨b, rfl⟩ := okWide_string hu h0; rfl
      · rename_i e hu; obtain ⟨b, c, d, rfl⟩ := okWide_slice hu h0; rfl
      · rename_i fs hu; obtain ⟨b, hb, _⟩ := okWide_struct hu h0; exact ⟨b, hb⟩
      · trivial

theorem trodAll_stays {X : Type} {enc : TypeId × Value → X} {P : Program} {W W' : World} (hl : laidOutB P = true) {sp' : Nat → Bool} : ∀ {ts : List TypeId} {vs : List Value} {ds : List (DataW X)} {ps : List MemPlace},
    (∀ t ∈ ts, P.readableRec t = true ∧ t < P.types.size) → DataW.TrodAll enc P W 0 (fun _ => true) true ts vs ds ps → (∀ p ∈ ps, W.sameAt W' p) → (∀ p ∈ ps, sp' p.block = true) → DataW.TrodAll enc P W' 0 sp' true ts vs ds ps
  | [], vs, ds, ps, _, h, _, _ => by
    obtain ⟨rfl, rfl, rfl⟩ := trodAll_nil h
    exact trodAll_mk0
  | t :: ts, vs, ds, ps, hts, h, hs, hsp => by
    obtain ⟨v, vs', d, ds', p, q, rfl, rfl, rfl, h1, h2⟩ := trodAll_cons h
    obtain ⟨a, b⟩ := hts t (by simp)
    exact trodAll_cons_mk (WideElems.Trod_stays hl a b h1 (fun x hx => hs x (by simp [hx])) (fun x hx => hsp x (by simp [hx])))
      (trodAll_stays hl (fun t ht => hts t (by simp [ht])) h2 (fun x hx => hs x (by simp [hx])) (fun x hx => hsp x (by simp [hx])))

theorem same_of_fr {W W' : World} (hf : Fr [] W.heap W'.heap) {p : MemPlace} (hp : p.block < W.heap.size) : W.sameAt W' p := by
  have h := hf.block p.block hp (by simp)
  cases p with
  | cell b off =>
    show W'.cell? ⟨b, off, none⟩ = W.cell? ⟨b, off, none⟩
    simp only [MemPlace.block] at h
    rw [cell_heap, cell_heap]
    unfold cellH
    rw [h]
  | map b => exact h

theorem kept_of_fr {W W' : World} (ho : W'.os = W.os) (hout : W'.output = W.output) (hf : Fr [] W.heap W'.heap) (may : MemPlace → Prop) : W.keptBut W' may := by
  refine ⟨ho, hout, fun i hi => ?_⟩
  rw [hf.block i hi (by simp)]
  cases h : W.heap[i]? with
  | none => trivial
  | some o =>
    cases o with
    | cells c t fr => exact ⟨rfl, rfl, rfl, fun _ _ => rfl⟩
    | map es ck => exact .inr ⟨rfl, rfl⟩
    | _ => rfl

theorem trodAll_len {X : Type} {enc : TypeId × Value → X} {P : Program} {W : World} {base : Nat} {sp : Nat → Bool} {held : Bool} : ∀ {ts : List TypeId} {vs : List Value} {ds : List (DataW X)} {ps : List MemPlace}, DataW.TrodAll enc P W base sp held ts vs ds ps → ds.length = ts.length
  | [], vs, ds, ps, h => by obtain ⟨rfl, rfl, rfl⟩ := trodAll_nil h; rfl
  | t :: ts, vs, ds, ps, h => by
    obtain ⟨v, vs', d, ds', p, q, rfl, rfl, rfl, h1, h2⟩ := trodAll_cons h
    simp [trodAll_len h2]

end Go.GV
