/- From a law's condition on heaps to the given statement: what the arguments are, and that they read as they did. -/
import Derived.WalkKit
import Derived.ProofKit
import Derived.OpenShut
import Derived.Carry
import Derived.Deep.Slices
import Derived.Test.YtjclcccjdnllgaaGreatGvLib
import Derived.Test.YtjclcccjdnllgaaGreatGvCore
import Derived.Laws.Strings
import GoSem.Op.String
import Derived.Laws.MakeOwn
import Derived.Laws.OwnMore
import Derived.Lib.AppendStr
import Derived.Lib.UnsafeStr
import Derived.Lib.MakeNoZero
import Derived.Lib.Builder
import Derived.Laws.Externs
import Derived.Laws.IdiomStrings
import Derived.Laws.BytesString
import Derived.Defers
set_option linter.unusedVariables false
namespace Go.GV
open Go Go.ChangeShapes Go.WideShapes Go.RowKit

def OkC (P : Program) (H : Heap) : Nat → TypeId → List Value → Prop
  | 0, _, _ => False
  | n + 1, t, cs => match P.underlying t with
    | some .bool => ∃ b, cs = [.bool b]
    | some (.int k) => ∃ x, cs = [.int k x] ∧ (Lit.int k x).wf = true
    | some .string => ∃ s, cs = [.string s] ∧ s.size ≤ maxLen
    | some (.slice e) => ∃ (a : Option Addr) (len cap : Nat) (rows : List (List Value)), cs = [.slice a len cap] ∧ len ≤ cap ∧ cap ≤ maxLen ∧ rows.length = len ∧
        ∀ i r, rows[i]? = some r → r.length = P.cellsOf e ∧ OkC P H n e r ∧ ∃ ad, a = some ad ∧ CellsAt H (ad.add (i * P.cellsOf e)) r
    | some (.struct fs) => cs.length = P.cellsOf t ∧ ∀ (i : Nat) (f : Field), fs[i]? = some f → OkC P H n f.type ((cs.drop f.offset).take (P.cellsOf f.type))
    | some (.array _ _) => cs.length = P.cellsOf t
    | _ => True

theorem trod_ok {X : Type} {enc : TypeId × Value → X} {P : Program} {w : World} {base : Nat} {sp : Nat → Bool} {held : Bool} : ∀ (n : Nat) (t : TypeId) (cs : List Value) (x : DataW X × List MemPlace), DataW.trod enc P w base sp held n t cs = some x → OkC P w.heap n t cs := by
  intro n
  induction n with
  | zero => intro t cs x h; simp [DataW.trod] at h
  | succ n ih =>
    intro t cs x h
    unfold OkC
    split
    · rename_i hu
      obtain ⟨b, h, _⟩ := DataW.trod_bool hu h
      exact ⟨b, h⟩
    · rename_i k hu
      obtain ⟨b, h, _, hw⟩ := DataW.trod_int hu h
      exact ⟨b, h, hw⟩
    · rename_i hu
      obtain ⟨b, h, _, hw⟩ := DataW.trod_string hu h
      exact ⟨b, h, hw⟩
    · rename_i e hu
      rcases DataW.trod_slice hu h with ⟨rfl, rfl⟩ | ⟨a, len, cap, elems, rest, m, hm, rfl, rfl, hb, hl, hc, hlen, hel, hsp, hns⟩
      · exact ⟨none, 0, 0, [], rfl, Nat.le_refl _, Nat.zero_le _, rfl, fun i r hr => by simp at hr⟩
      · have hm' : m = n := by omega
        subst hm'
        have each : ∀ i, i < len → ∃ r, w.cells? base (a.add (i * P.cellsOf e)) (P.cellsOf e) = some r ∧ DataW.trod enc P w base sp held m e r = elems[i]? := by
          intro i hi
          have := hel i hi
          rw [List.getElem?_eq_getElem (by omega)] at this
          obtain ⟨r, h1, h2⟩ := Option.bind_eq_some_iff.1 this
          exact ⟨r, h1, by rw [h2, List.getElem?_eq_getElem (by omega)]⟩
        obtain ⟨R, hR⟩ := Go.Deep.choose_lt each
        refine ⟨some a, len, cap, (List.range len).map R, rfl, hl, hc, by simp, fun i r hr => ?_⟩
        have hi : i < len := by
          have := (List.getElem?_eq_some_iff.1 hr).1
          simpa using this
        have hr' : r = R i := by simp [hi] at hr; exact hr.symm
        subst hr'
        obtain ⟨h1, h2⟩ := hR i hi
        obtain ⟨_, hcl, hcell⟩ := World.cells?_some h1
        rw [List.getElem?_eq_getElem (by omega)] at h2
        refine ⟨hcl, ih e _ _ h2, a, rfl, fun j v hv => ?_⟩
        · have hj : j < P.cellsOf e := by
            have := (List.getElem?_eq_some_iff.1 hv).1
            omega
          have := hcell j hj
          rw [hv] at this
          exact this
    · rename_i fs hu
      obtain ⟨xs, m, hm, rfl, hcl, hxl, hf⟩ := DataW.trod_struct hu h
      have hm' : m = n := by omega
      subst hm'
      refine ⟨hcl, fun i f hfi => ?_⟩
      have h1 := hf i f hfi
      have hi : i < xs.length := by rw [hxl]; exact (Array.getElem?_eq_some_iff.1 hfi).1
      rw [List.getElem?_eq_getElem hi] at h1
      exact ih _ _ _ h1
    · rename_i m e hu
      unfold DataW.trod at h
      rw [hu] at h
      simp only at h
      split at h
      · assumption
      · cases h
    · trivial

def OkA (P : Program) (H : Heap) (t : TypeId) (v : Value) : Prop :=
  (∃ n, OkC P H n t v.cells.toList) ∧ (match P.underlying t with
    | some .bool | some (.int _) | some .string | some (.slice _) => v.cells = #[v]
    | some (.struct _) => ∃ cs, v = .agg cs
    | _ => True)
def OkArgs (P : Program) (H : Heap) : List TypeId → List Value → Prop
  | [], vs => vs = []
  | t :: ts, vs => ∃ v vs', vs = v :: vs' ∧ OkA P H t v ∧ OkArgs P H ts vs'

theorem OkA.int {P : Program} {H : Heap} {t : TypeId} {v : Value} {k : IntKind} (ht : P.underlying t = some (.int k)) (h : OkA P H t v) : ∃ x, v = .int k x ∧ (Lit.int k x).wf = true := by
  obtain ⟨⟨n, h⟩, h2⟩ := h
  rw [ht] at h2
  cases n with
  | zero => exact h.elim
  | succ n =>
    unfold OkC at h
    rw [ht] at h
    obtain ⟨x, h, hw⟩ := h
    have h2 : v.cells = #[v] := h2
    rw [h2] at h
    exact ⟨x, by simpa using h, hw⟩
theorem OkA.str {P : Program} {H : Heap} {t : TypeId} {v : Value} (ht : P.underlying t = some .string) (h : OkA P H t v) : ∃ x, v = .string x ∧ x.size ≤ maxLen := by
  obtain ⟨⟨n, h⟩, h2⟩ := h
  rw [ht] at h2
  cases n with
  | zero => exact h.elim
  | succ n =>
    unfold OkC at h
    rw [ht] at h
    obtain ⟨x, h, hw⟩ := h
    have h2 : v.cells = #[v] := h2
    rw [h2] at h
    exact ⟨x, by simpa using h, hw⟩

theorem OkC.sl {α : Type} {E : Enc α} {P : Program} {H : Heap} {n : Nat} {t e : TypeId} {cs : List Value} {G : α → Prop} (ht : P.underlying t = some (.slice e)) (hsz : P.cellsOf e = E.sz) (h : OkC P H n t cs)
    (hel : ∀ m r, OkC P H m e r → r.length = E.sz → ∃ x, E.cells x = r ∧ G x) : ∃ a len cap xs, cs = [.slice a len cap] ∧ Sl E H a len cap xs ∧ cap ≤ maxLen ∧ ∀ x ∈ xs, G x := by
  cases n with
  | zero => exact h.elim
  | succ n =>
    unfold OkC at h
    rw [ht] at h
    obtain ⟨a, len, cap, rows, rfl, hl, hc, hlen, hr⟩ := h
    have key : ∀ (L : List (List Value)), (∀ r ∈ L, ∃ x, E.cells x = r ∧ G x) → ∃ xs : List α, xs.map E.cells = L ∧ ∀ x ∈ xs, G x := by
      intro L
      induction L with
      | nil => intro _; exact ⟨[], rfl, by simp⟩
      | cons r L ih =>
        intro hL
        obtain ⟨x, hx, hg⟩ := hL r (by simp)
        obtain ⟨xs, hxs, hgs⟩ := ih fun r hr => hL r (by simp [hr])
        exact ⟨x :: xs, by simp [hx, hxs], fun y hy => (List.mem_cons.1 hy).elim (fun e => by rw [e]; exact hg) (hgs y)⟩
    obtain ⟨xs, hxs, hgs⟩ := key rows fun r hr' => by
      obtain ⟨i, hi⟩ := List.getElem?_of_mem hr'
      obtain ⟨h1, h2, _⟩ := hr i r hi
      exact hel n r h2 (by rw [h1, hsz])
    have hxl : xs.length = len := by rw [← hlen, ← hxs]; simp
    refine ⟨a, len, cap, xs, rfl, ⟨hxl.symm, hl, ?_⟩, hc, hgs⟩
    cases hx0 : xs with
    | nil => exact .inl rfl
    | cons x0 xs0 =>
      have h0 : rows[0]? = some (E.cells x0) := by rw [← hxs, hx0]; rfl
      obtain ⟨hl0, _, ad, rfl, hc0⟩ := hr 0 _ h0
      have hpos := E.pos
      have hex : ∃ v, (E.cells x0)[0]? = some v := ⟨(E.cells x0)[0]'(by rw [E.len]; exact hpos), by simp⟩
      obtain ⟨v0, hv0⟩ := hex
      have hcell := hc0 0 v0 hv0
      obtain ⟨b, off, spot⟩ := ad
      cases spot with
      | some s =>
        exfalso
        have e0 : ∀ x : Addr, x.add 0 = x := fun x => by cases x; rfl
        rw [Nat.zero_mul, e0, e0] at hcell
        unfold cellH at hcell
        split at hcell <;> simp at hcell
      | none =>
        refine .inr ⟨b, off, rfl, fun i x hx j v hv => ?_⟩
        rw [← hx0] at hx
        have hri : rows[i]? = some (E.cells x) := by rw [← hxs, List.getElem?_map, hx]; rfl
        obtain ⟨_, _, ad, had, hc⟩ := hr i _ hri
        simp only [Option.some.injEq] at had
        subst had
        have := hc j v hv
        rw [add_at, add_at, hsz] at this
        exact this

theorem OkA.sl {α : Type} {E : Enc α} {P : Program} {H : Heap} {t e : TypeId} {v : Value} {G : α → Prop} (ht : P.underlying t = some (.slice e)) (hsz : P.cellsOf e = E.sz) (h : OkA P H t v)
    (hel : ∀ m r, OkC P H m e r → r.length = E.sz → ∃ x, E.cells x = r ∧ G x) : ∃ a len cap xs, v = .slice a len cap ∧ Sl E H a len cap xs ∧ cap ≤ maxLen ∧ ∀ x ∈ xs, G x := by
  obtain ⟨⟨n, h⟩, h2⟩ := h
  rw [ht] at h2
  have h2 : v.cells = #[v] := h2
  obtain ⟨a, len, cap, xs, hcs, r⟩ := h.sl ht hsz hel
  rw [h2] at hcs
  exact ⟨a, len, cap, xs, by simpa using hcs, r⟩

theorem OkC.int {P : Program} {H : Heap} {n : Nat} {t : TypeId} {k : IntKind} {r : List Value} (ht : P.underlying t = some (.int k)) (h : OkC P H n t r) : ∃ x, r = [.int k x] ∧ (Lit.int k x).wf = true := by
  cases n with
  | zero => exact h.elim
  | succ n => unfold OkC at h; rw [ht] at h; exact h
theorem OkC.struct {P : Program} {H : Heap} {n : Nat} {t : TypeId} {fs : Array Field} {r : List Value} (ht : P.underlying t = some (.struct fs)) (h : OkC P H n t r) :
    r.length = P.cellsOf t ∧ ∀ (i : Nat) (f : Field), fs[i]? = some f → ∃ m, OkC P H m f.type ((r.drop f.offset).take (P.cellsOf f.type)) := by
  cases n with
  | zero => exact h.elim
  | succ n => unfold OkC at h; rw [ht] at h; exact ⟨h.1, fun i f hf => ⟨n, h.2 i f hf⟩⟩

theorem three_of {α : Type} {l : List α} (h : l.length = 3) : ∃ a b c, l = [a, b, c] := by
  match l, h with
  | [a, b, c], _ => exact ⟨a, b, c, rfl⟩
theorem okArgs_of {X : Type} {enc : TypeId × Value → X} {P : Program} {W : World} {base : Nat} {sp : Nat → Bool} {held : Bool} {r : Reach} {b0 : Nat} : ∀ {ts : List TypeId} {vs : List Value} {ds : List (DataW X)} {ps : List MemPlace},
    DataW.TrodAll enc P W base sp held ts vs ds ps → (∀ (j : Nat) t v, ts[j]? = some t → vs[j]? = some v → Value.okWide P W r b0 t v) → OkArgs P W.heap ts vs
  | [], vs, ds, ps, h, _ => (trodAll_nil h).1
  | t :: ts, vs, ds, ps, h, hok => by
    obtain ⟨v, vs', d, ds', p, q, rfl, rfl, rfl, h1, h2⟩ := trodAll_cons h
    refine ⟨v, vs', rfl, ⟨?_, ?_⟩, okArgs_of h2 fun j t' v' ht hv => hok (j + 1) t' v' (by simpa using ht) (by simpa using hv)⟩
    · obtain ⟨n, hn⟩ := h1
      exact ⟨n, trod_ok n _ _ _ hn⟩
    · have h0 := hok 0 t v rfl rfl
      split
      · rename_i hu; obtain ⟨b, rfl⟩ := okWide_bool hu h0; rfl
      · rename_i k hu; obtain ⟨b, rfl⟩ := okWide_int hu h0; rfl
      · rename_i hu; obtain ⟨b, rfl⟩ := okWide_string hu h0; rfl
      · rename_i e hu; obtain ⟨b, c, d, rfl⟩ := okWide_slice hu h0; rfl
      · rename_i fs hu; obtain ⟨b, hb, _⟩ := okWide_struct hu h0; exact ⟨b, hb⟩
      · trivial

theorem trodAll_stays {X : Type} {enc : TypeId × Value → X} {P : Program} {W W' : World} (hl : laidOutB P = true) {sp' : Nat → Bool} : ∀ {ts : List TypeId} {vs : List Value} {ds : List (DataW X)} {ps : List MemPlace},
    (∀ t ∈ ts, P.readableRec t = true ∧ t < P.types.size) → DataW.TrodAll enc P W 0 (fun _ => true) true ts vs ds ps → (∀ p ∈ ps, W.sameAt W' p) → (∀ p ∈ ps, sp' p.block = true) → DataW.TrodAll enc P W' 0 sp' true ts vs ds ps
  | [], vs, ds, ps, _, h, _, _ => by
    obtain ⟨rfl, rfl, rfl⟩ := trodAll_nil h
    exact trodAll_mk0
  | t :: ts, vs, ds, ps, hts, h, hs, hsp => by
    obtain ⟨v, vs', d, ds', p, q, rfl, rfl, rfl, h1, h2⟩ := trodAll_cons h
    obtain ⟨a, b⟩ := hts t (by simp)
    exact trodAll_cons_mk (WideElems.Trod_stays hl a b h1 (fun x hx => hs x (by simp [hx])) (fun x hx => hsp x (by simp [hx])))
      (trodAll_stays hl (fun t ht => hts t (by simp [ht])) h2 (fun x hx => hs x (by simp [hx])) (fun x hx => hsp x (by simp [hx])))

theorem same_of_fr {W W' : World} (hf : Fr [] W.heap W'.heap) {p : MemPlace} (hp : p.block < W.heap.size) : W.sameAt W' p := by
  have h := hf.block p.block hp (by simp)
  cases p with
  | cell b off =>
    show W'.cell? ⟨b, off, none⟩ = W.cell? ⟨b, off, none⟩
    simp only [MemPlace.block] at h
    rw [cell_heap, cell_heap]
    unfold cellH
    rw [h]
  | map b => exact h

theorem kept_of_fr {W W' : World} (ho : W'.os = W.os) (hout : W'.output = W.output) (hf : Fr [] W.heap W'.heap) (may : MemPlace → Prop) : W.keptBut W' may := by
  refine ⟨ho, hout, fun i hi => ?_⟩
  rw [hf.block i hi (by simp)]
  cases h : W.heap[i]? with
  | none => trivial
  | some o =>
    cases o with
    | cells c t fr => exact ⟨rfl, rfl, rfl, fun _ _ => rfl⟩
    | map es ck => exact .inr ⟨rfl, rfl⟩
    | _ => rfl

theorem trodAll_len {X : Type} {enc : TypeId × Value → X} {P : Program} {W : World} {base : Nat} {sp : Nat → Bool} {held : Bool} : ∀ {ts : List TypeId} {vs : List Value} {ds : List (DataW X)} {ps : List MemPlace}, DataW.TrodAll enc P W base sp held ts vs ds ps → ds.length = ts.length
  | [], vs, ds, ps, h => by obtain ⟨rfl, rfl, rfl⟩ := trodAll_nil h; rfl
  | t :: ts, vs, ds, ps, h => by
    obtain ⟨v, vs', d, ds', p, q, rfl, rfl, rfl, h1, h2⟩ := trodAll_cons h
    simp [trodAll_len h2]

theorem law_said {P : Program} {f : Func} {k : FuncId} {s : ChangeSpec} {X : Type} {enc : TypeId × Value → X} {tb : TypeId} {ts : List TypeId} (hp : f.params = ⟨ts⟩) (hvars : s.vars = []) (hfn : ∀ ds : List (DataW X), ds.length = ts.length → s.fn X ds = { results := [.lit (.bool true)], args := ds })
    (hres : f.resultTypes = #[tb]) (hb : P.underlying tb = some .bool) (hts : (ts.all fun t => P.readableRec t && decide (t < P.types.size)) = true) (hl : laidOutB P = true)
    (walk : ∀ (H : Heap) (vs : List Value), OkArgs P H ts vs → CallH P k ⟨vs⟩ H fun v H' => v = .bool true ∧ Fr [] H H')
    (W : World) (base : Nat) (args : Array Value) (ds gs : List (DataW X)) (before : List MemPlace)
    (hval : ∀ (j : Nat) t v, f.params[j]? = some t → args[j]? = some v → Value.okWide P W .any base t v)
    (hW : DataW.Whole enc P f.params.toList s.vars false W args.toList ds gs before) :
    Calls P k args W fun e W' => ∃ v, e = .returned v ∧ s.post enc P f false true false false W args v W' := by
  have hts : ∀ t ∈ ts, P.readableRec t = true ∧ t < P.types.size := fun t ht => by
    have := List.all_eq_true.1 hts t ht
    simpa using this
  have hpl : f.params.toList = ts := by rw [hp]
  have hW' := hW
  obtain ⟨p, q, hA, hV, rfl, hfz, hnd⟩ := hW
  rw [hvars] at hV
  obtain ⟨rfl, rfl⟩ := trodVars_none hV
  rw [hpl] at hA
  have hlen := hA.lt
  have hoa : OkArgs P W.heap ts args.toList := okArgs_of hA fun j t v ht hv => hval j t v (by rw [hp]; simpa using ht) (by simpa using hv)
  have hcall := walk W.heap args.toList hoa ⟨W.tape, W.os, W.output, W.drawn⟩ ⟨W.drawn, Nat.le_refl _⟩
  rw [← mkW_eta W] at hcall
  have ea : (⟨args.toList⟩ : Array Value) = args := rfl
  rw [ea] at hcall
  refine hcall.mono fun e W' => ?_
  rintro ⟨v, H', d', rfl, rfl, rfl, hf⟩
  have hdl : ds.length = ts.length := trodAll_len hA
  have hfr : Fr [] W.heap (mkW ⟨W.tape, W.os, W.output, W.drawn⟩ H' d').heap := hf
  refine ⟨_, rfl, ds, [], p ++ [], [], p, [], hW', ?_, ?_, ?_, ?_, fun h => by cases h⟩
  · rw [List.append_nil, hfn ds hdl, hres]
    exact trodAll_mk1 (shut_bool hb true)
  · rw [List.append_nil, hfn ds hdl]
    rw [hpl]
    exact trodAll_stays hl hts hA (fun x hx => same_of_fr hfr (hlen x hx)) (fun x hx => by simpa using hlen x hx)
  · rw [List.append_nil, hfn ds hdl, hvars]
    rfl
  · exact kept_of_fr (W := W) (W' := mkW ⟨W.tape, W.os, W.output, W.drawn⟩ H' d') rfl rfl hfr _

end Go.GV
set_option linter.unusedVariables false
set_option maxRecDepth 100000
open Go Go.GV
namespace Go.Proofs

abbrev bl (s : ByteArray) : List UInt8 := s.data.toList
theorem bl_inj {s t : ByteArray} (h : bl s = bl t) : s = t := by
  cases s; cases t; simp [bl] at h; exact congrArg ByteArray.mk (by simpa using h)
theorem bl_len (s : ByteArray) : (bl s).length = s.size := by cases s; simp [bl, ByteArray.size]
theorem bl_app (s t : ByteArray) : bl (s ++ t) = bl s ++ bl t := by simp [bl]
theorem bl_ext (s : ByteArray) (l h : Nat) : bl (s.extract l h) = ((bl s).take h).drop l := by
  simp [bl, ByteArray.data_extract, List.drop_take]
theorem bl_get (s : ByteArray) (i : Nat) : s[i]? = (bl s)[i]? := by
  cases s with | mk a =>
  show (if h : i < (ByteArray.mk a).size then some ((ByteArray.mk a)[i]) else none) = _
  simp only [bl]
  by_cases h : i < a.size
  · have h' : i < (ByteArray.mk a).size := h
    rw [dif_pos h']; simp [h]; rfl
  · have h' : ¬ i < (ByteArray.mk a).size := h
    rw [dif_neg h']; simp; omega
theorem atB_lt (s : ByteArray) (i : Nat) : atB s i < 256 := UInt8.toNat_lt _
theorem atB_of {s : ByteArray} {i : Nat} {b : UInt8} (h : s[i]? = some b) : atB s i = b.toNat := by
  have : i < s.size := by
    rw [bl_get] at h
    have := (List.getElem?_eq_some_iff.1 h).1
    rwa [bl_len] at this
  have h2 : s[i]? = some s[i] := by exact getElem?_pos s i this
  rw [h2] at h
  injection h with h
  subst h
  cases s with | mk a =>
  simp only [atB]
  show (a[i]!).toNat = (a[i]'_).toNat
  rw [getElem!_pos a i this]
def headN (c : Nat) : Nat := if 192 ≤ c ∧ c < 224 then 2 else if 224 ≤ c ∧ c < 240 then 3 else if 240 ≤ c ∧ c < 248 then 4 else 0
def headR (c : Nat) : Nat := if 192 ≤ c ∧ c < 224 then c - 192 else if 224 ≤ c ∧ c < 240 then c - 224 else if 240 ≤ c ∧ c < 248 then c - 240 else 0
def accR (s : ByteArray) (i : Nat) : Nat → Nat
  | 0 => headR (atB s i)
  | k + 1 => accR s i k * 64 + atB s (i + (k + 1)) - 128
def contR (s : ByteArray) (i k : Nat) : Prop := 128 ≤ atB s (i + k) ∧ atB s (i + k) < 192
instance (s : ByteArray) (i k : Nat) : Decidable (contR s i k) := inferInstanceAs (Decidable (_ ∧ _))
def badR (n r : Nat) : Prop := n = 2 ∧ r < 128 ∨ n = 3 ∧ r < 2048 ∨ n = 4 ∧ r < 65536 ∨ r > 1114111 ∨ (r ≥ 55296 ∧ r < 57344)
instance (n r : Nat) : Decidable (badR n r) := inferInstanceAs (Decidable (_ ∨ _))
def wideR (s : ByteArray) (i : Nat) : Nat :=
  if atB s i < 128 then 1 else
  let n := headN (atB s i)
  if n = 0 ∨ s.size < i + n then 0 else
  if ∀ k, k < n - 1 → contR s i (k + 1) then (if badR n (accR s i (n - 1)) then 0 else n) else 0

end Go.Proofs
set_option linter.unusedVariables false
set_option maxRecDepth 100000
open Go Go.GV
namespace Go.Proofs

theorem toL (s : ByteArray) : s.toList = bl s := ByteArray.toList_eq s
theorem beqS (s t : ByteArray) : (s.toList == t.toList) = decide (s = t) := by
  rw [toL, toL]
  by_cases h : s = t
  · subst h; simp
  · have : ¬ bl s = bl t := fun e => h (bl_inj e)
    simp only [h, decide_false, beq_eq_false_iff_ne, ne_eq]; exact this

def ltS (s t : ByteArray) : Bool := Op.bytesLess (bl s) (bl t)
def lowN (c : Nat) : Prop := 97 ≤ c ∧ c ≤ 122
def nchN (c : Nat) : Prop := (97 ≤ c ∧ c ≤ 122) ∨ (48 ≤ c ∧ c ≤ 57) ∨ c = 95
instance (c : Nat) : Decidable (lowN c) := inferInstanceAs (Decidable (_ ∧ _))
instance (c : Nat) : Decidable (nchN c) := inferInstanceAs (Decidable (_ ∨ _))
def NameP (s : ByteArray) : Prop := 1 ≤ s.size ∧ s.size ≤ 16 ∧ lowN (atB s 0) ∧ ∀ i, i < s.size → nchN (atB s i)
instance (s : ByteArray) : Decidable (NameP s) := inferInstanceAs (Decidable (_ ∧ _))

def okRunes (s : ByteArray) (i : Nat) : Bool :=
  if h : i < s.size then (if h2 : wideR s i = 0 then false else okRunes s (i + wideR s i)) else true
termination_by s.size - i
def ValP (s : ByteArray) : Prop := s.size ≤ 32 ∧ okRunes s 0 = true
instance (s : ByteArray) : Decidable (ValP s) := inferInstanceAs (Decidable (_ ∧ _))

theorem size_ext (s : ByteArray) (l : Nat) : (s.extract l s.size).size = s.size - l := by
  rw [← bl_len, bl_ext, List.length_drop, List.length_take, bl_len]; omega
def uintL (n : Nat) : List UInt8 := if h : n < 128 then [UInt8.ofNat n] else UInt8.ofNat (n % 128 + 128) :: uintL (n / 128)
termination_by n
theorem uintL_small {n : Nat} (h : n < 128) : uintL n = [UInt8.ofNat n] := by rw [uintL, dif_pos h]
theorem uintL_big {n : Nat} (h : ¬ n < 128) : uintL n = UInt8.ofNat (n % 128 + 128) :: uintL (n / 128) := by rw [uintL, dif_neg h]
theorem uintL_len : ∀ (k n : Nat), n < 128 ^ (k + 1) → (uintL n).length ≤ k + 1
  | 0, n, h => by rw [uintL_small (by omega)]; simp
  | k + 1, n, h => by
    by_cases h1 : n < 128
    · rw [uintL_small h1]; simp
    · rw [uintL_big h1, List.length_cons]
      have := uintL_len k (n / 128) (by rw [Nat.div_lt_iff_lt_mul (by omega)]; rw [Nat.pow_succ] at h; exact h)
      omega
theorem uintL_pos (n : Nat) : 1 ≤ (uintL n).length := by
  by_cases h1 : n < 128
  · rw [uintL_small h1]; simp
  · rw [uintL_big h1]; simp
abbrev Lbl := ByteArray × ByteArray
def RiseL (l : List Lbl) : Prop := ∀ i x y, l[i]? = some x → l[i + 1]? = some y → ltS x.1 y.1 = true
def LblP (x : Lbl) : Prop := NameP x.1 ∧ ValP x.2 ∧ 1 ≤ x.2.size
def ChkP (l : List Lbl) : Prop := l.length ≤ 8 ∧ (∀ x ∈ l, LblP x) ∧ RiseL l
end Go.Proofs
set_option linter.unusedVariables false
set_option maxRecDepth 100000
open Go Go.GV
namespace Go.Proofs

end Go.Proofs
set_option linter.unusedVariables false
set_option maxRecDepth 100000
open Go Go.GV
namespace Go.Proofs

def valL : List UInt8 → Nat
  | [] => 0
  | c :: r => c.toNat % 128 + 128 * valL r
theorem valL_app : ∀ (a b : List UInt8), valL (a ++ b) = valL a + 128 ^ a.length * valL b
  | [], b => by simp [valL]
  | c :: a, b => by
    simp only [List.cons_append, valL, valL_app a b, List.length_cons, Nat.pow_succ]
    rw [Nat.mul_add, Nat.add_assoc]
    congr 2
    rw [← Nat.mul_assoc, Nat.mul_comm 128]
theorem valL_lt : ∀ a : List UInt8, valL a < 128 ^ a.length
  | [] => by simp [valL]
  | c :: a => by
    have := valL_lt a
    simp only [valL, List.length_cons, Nat.pow_succ]
    omega
def HighL (l : List UInt8) : Prop := ∀ d ∈ l, 128 ≤ d.toNat
theorem uintL_form : ∀ (k n : Nat), n < 128 ^ (k + 1) → ∃ ds c, uintL n = ds ++ [c] ∧ HighL ds ∧ c.toNat < 128 ∧ (ds ≠ [] → c.toNat ≠ 0) ∧ valL (ds ++ [c]) = n
  | k, n, h => by
    by_cases h1 : n < 128
    · refine ⟨[], UInt8.ofNat n, by rw [uintL_small h1]; rfl, fun d hd => (by cases hd), ?_, fun h => absurd rfl h, ?_⟩
      · rw [UInt8.toNat_ofNat']; omega
      · simp only [List.nil_append, valL]; rw [UInt8.toNat_ofNat']; omega
    · cases k with
      | zero => simp at h; omega
      | succ k =>
        obtain ⟨ds, c, e, h2, h3, h4, h5⟩ := uintL_form k (n / 128) (by rw [Nat.div_lt_iff_lt_mul (by omega)]; rw [Nat.pow_succ] at h; exact h)
        refine ⟨UInt8.ofNat (n % 128 + 128) :: ds, c, by rw [uintL_big h1, e]; rfl, fun d hd => ?_, h3, fun _ => ?_, ?_⟩
        · rcases List.mem_cons.1 hd with h | h
          · subst h; rw [UInt8.toNat_ofNat']; omega
          · exact h2 d h
        · by_cases hds : ds = []
          · subst hds
            simp only [List.nil_append, valL] at h5
            omega
          · exact h4 hds
        · simp only [List.cons_append, valL, h5]
          rw [UInt8.toNat_ofNat']; omega
theorem pow_big (n : Nat) : ∃ k, n < 128 ^ (k + 1) := ⟨n, by
  have : n < 128 ^ n := Nat.lt_pow_self (by omega)
  rw [Nat.pow_succ]; omega⟩
theorem uintL_val : ∀ (ds : List UInt8) (c : UInt8), HighL ds → c.toNat < 128 → (ds ≠ [] → c.toNat ≠ 0) → uintL (valL (ds ++ [c])) = ds ++ [c]
  | [], c, _, h, _ => by
    simp only [List.nil_append, valL]
    rw [uintL_small (by omega)]
    congr 1
    apply UInt8.toNat.inj
    rw [UInt8.toNat_ofNat']; omega
  | d :: ds, c, hh, h, hz => by
    have h0 : c.toNat ≠ 0 := hz (by simp)
    have ih := uintL_val ds c (fun x hx => hh x (by simp [hx])) h (fun _ => h0)
    have hp : 1 ≤ valL (ds ++ [c]) := by
      rw [valL_app]
      have : 1 ≤ 128 ^ ds.length := Nat.pow_pos (by omega)
      have h5 : 1 ≤ valL [c] := by simp only [valL]; omega
      have := Nat.mul_le_mul this h5
      omega
    have hd := hh d (by simp)
    have hd2 := d.toNat_lt
    simp only [List.cons_append, valL]
    rw [uintL_big (by omega)]
    have e1 : (d.toNat % 128 + 128 * valL (ds ++ [c])) / 128 = valL (ds ++ [c]) := by omega
    rw [e1, ih]
    congr 1
    apply UInt8.toNat.inj
    rw [UInt8.toNat_ofNat']; omega
theorem low_split : ∀ {ds ds' : List UInt8} {c c' : UInt8} {t t' : List UInt8}, HighL ds → HighL ds' → c.toNat < 128 → c'.toNat < 128 → ds ++ c :: t = ds' ++ c' :: t' → ds = ds' ∧ c = c' ∧ t = t'
  | [], [], c, c', t, t', _, _, _, _, e => by simp at e; exact ⟨rfl, e⟩
  | [], d :: ds', c, c', t, t', _, h, h1, _, e => by
    simp at e
    have := h d (by simp)
    rw [e.1] at h1; omega
  | d :: ds, [], c, c', t, t', h, _, _, h1, e => by
    simp at e
    have := h d (by simp)
    rw [← e.1] at h1; omega
  | d :: ds, d' :: ds', c, c', t, t', h, h', h1, h2, e => by
    simp only [List.cons_append, List.cons.injEq] at e
    obtain ⟨e1, e2, e3⟩ := low_split (fun x hx => h x (by simp [hx])) (fun x hx => h' x (by simp [hx])) h1 h2 e.2
    exact ⟨by rw [e.1, e1], e2, e3⟩
theorem low_pre {ds t t' : List UInt8} {c : UInt8} {n : Nat} (hd : HighL ds) (hc : c.toNat < 128) (e : ds ++ c :: t = uintL n ++ t') : uintL n = ds ++ [c] ∧ t = t' ∧ n = valL (ds ++ [c]) ∧ (ds ≠ [] → c.toNat ≠ 0) := by
  obtain ⟨k, hk⟩ := pow_big n
  obtain ⟨ds', c', e1, h2, h3, h4, h5⟩ := uintL_form k n hk
  rw [e1, List.append_assoc, List.singleton_append] at e
  obtain ⟨rfl, rfl, rfl⟩ := low_split hd h2 hc h3 e
  exact ⟨e1, rfl, h5.symm, h4⟩
theorem high_pre {r t : List UInt8} {n : Nat} (hn : n < 18446744073709551616) (hr : ∀ d ∈ r.take 10, 128 ≤ d.toNat) (e : r = uintL n ++ t) : False := by
  obtain ⟨ds, c, e1, h2, h3, h4, h5⟩ := uintL_form 9 n (by omega)
  have hl := uintL_len 9 n (by omega)
  have : c ∈ r.take 10 := by
    rw [e, List.take_append, List.take_of_length_le (by omega), e1]; simp
  have := hr c this
  omega
theorem uint_eq {n m : Nat} {x y : List UInt8} (e : uintL n ++ x = uintL m ++ y) : n = m ∧ x = y := by
  obtain ⟨k, hk⟩ := pow_big n
  obtain ⟨ds, c, e1, h2, h3, h4, h5⟩ := uintL_form k n hk
  rw [e1, List.append_assoc, List.singleton_append] at e
  obtain ⟨h6, h7, h8, _⟩ := low_pre h2 h3 e
  exact ⟨by rw [← h5, h8], h7⟩

def ShortU (r : List UInt8) : Prop := r.length < 10 ∧ HighL r
def NoU (r : List UInt8) : Prop := ∀ n, n < 18446744073709551616 → ∀ t, r ≠ uintL n ++ t
theorem ShortU.no {r : List UInt8} (h : ShortU r) : NoU r := fun n hn t e => high_pre hn (fun d hd => h.2 d (List.mem_of_mem_take hd)) e
def GU (r : List UInt8) (a : Nat) (v next e : Int) : Prop :=
  (∃ n : Nat, v = n ∧ n < 18446744073709551616 ∧ r = uintL n ++ r.drop (uintL n).length ∧ (uintL n).length ≤ r.length ∧ next = ((a + (uintL n).length : Nat) : Int) ∧ e = 0) ∨ (v = 0 ∧ next = 0 ∧ e = 10 ∧ ShortU r) ∨ (v = 0 ∧ next = 0 ∧ e = 11 ∧ ¬ ShortU r ∧ NoU r)
theorem GU.same {r : List UInt8} {a : Nat} {v next e v' next' e' : Int} (h : GU r a v next e) (h' : GU r a v' next' e') : v = v' ∧ next = next' ∧ e = e' := by
  rcases h with ⟨n, rfl, h1, h2, _, rfl, rfl⟩ | ⟨rfl, rfl, rfl, h1⟩ | ⟨rfl, rfl, rfl, h1, h2⟩ <;> rcases h' with ⟨n', rfl, h1', h2', _, rfl, rfl⟩ | ⟨rfl, rfl, rfl, h1'⟩ | ⟨rfl, rfl, rfl, h1', h2'⟩
  · obtain ⟨rfl, _⟩ := uint_eq (h2.symm.trans h2')
    exact ⟨rfl, rfl, rfl⟩
  · exact absurd h2 (h1'.no n h1 _)
  · exact absurd h2 (h2' n h1 _)
  · exact absurd h2' (h1.no n' h1' _)
  · exact ⟨rfl, rfl, rfl⟩
  · exact absurd h1 h1'
  · exact absurd h2' (h2 n' h1' _)
  · exact absurd h1' h1
  · exact ⟨rfl, rfl, rfl⟩
theorem GU.of {r t : List UInt8} {a n : Nat} {v next e : Int} (h : GU r a v next e) (hn : n < 18446744073709551616) (hr : r = uintL n ++ t) : v = n ∧ next = ((a + (uintL n).length : Nat) : Int) ∧ e = 0 := by
  refine h.same (.inl ⟨n, rfl, hn, ?_, ?_, rfl, rfl⟩)
  · rw [hr]; simp
  · rw [hr]; simp
end Go.Proofs
set_option linter.unusedVariables false
open Go Go.GV
namespace Go.GV

theorem Arr.cut {α : Type} {E : Enc α} {H : Heap} {a : Option Addr} {xs : List α} (h : Arr E H a xs) (k m : Nat) : Arr E H (a.map (·.add (k * E.sz))) ((xs.take m).drop k) := by
  rcases h with rfl | ⟨b, off, rfl, h⟩
  · exact .inl (by simp)
  · refine .inr ⟨b, off + k * E.sz, by simp [add_at], fun i x hx j v hv => ?_⟩
    rw [List.getElem?_drop, List.getElem?_take] at hx
    split at hx
    · have := h (k + i) x hx j v hv
      rw [Nat.add_mul] at this
      rw [show off + k * E.sz + i * E.sz + j = off + (k * E.sz + i * E.sz) + j by omega]
      exact this
    · cases hx
theorem Sl.cut {α : Type} {E : Enc α} {H : Heap} {a : Option Addr} {n c : Nat} {xs : List α} (h : Sl E H a n c xs) {k m : Nat} (hk : k ≤ m) (hm : m ≤ n) : Sl E H (slA c k E.sz a) (m - k) (c - k) ((xs.take m).drop k) := by
  have hl := h.len
  have hc := h.cap
  refine ⟨by simp; omega, by omega, ?_⟩
  rw [slA_eq]
  split
  · refine .inl (List.drop_eq_nil_of_le (by simp; omega))
  · exact h.arr.cut k m
theorem Sl.drop {α : Type} {E : Enc α} {H : Heap} {a : Option Addr} {n c : Nat} {xs : List α} (h : Sl E H a n c xs) {k : Nat} (hk : k ≤ n) : Sl E H (slA c k E.sz a) (n - k) (c - k) (xs.drop k) := by
  have := h.cut hk (Nat.le_refl n)
  rwa [List.take_of_length_le (by have := h.len; omega)] at this
theorem Sl.take {α : Type} {E : Enc α} {H : Heap} {a : Option Addr} {n c : Nat} {xs : List α} (h : Sl E H a n c xs) {m : Nat} (hm : m ≤ n) : Sl E H a m c (xs.take m) := by
  have := h.cut (Nat.zero_le m) hm
  simpa [slA] using this
theorem Sl.zero {α : Type} {E : Enc α} {H : Heap} {a : Option Addr} {c : Nat} : Sl E H a 0 c ([] : List α) := ⟨rfl, Nat.zero_le _, .inl rfl⟩
theorem Sl.head {α : Type} {E : Enc α} {H : Heap} {a : Option Addr} {n c : Nat} {x : α} {xs : List α} (h : Sl E H a n c (x :: xs)) {b : Bool} (hb : b = true) {X : Addr → Prop}
    (hk : ∀ ad, a = some ad → CellsAt H ad (E.cells x) → X ad) : exSome a fun ad => chk b (X ad) := by
  obtain ⟨bb, off, rfl, hc⟩ := h.arr.at (i := 0) rfl
  subst hb
  refine exSome_of rfl (chk_true rfl ?_)
  refine hk _ rfl fun j v hv => ?_
  rw [add_at]
  simpa using hc j v hv
theorem Own.take {α : Type} {E : Enc α} {t : TypeId} {base : Nat} {H : Heap} {a : Option Addr} {n c : Nat} {xs : List α} (h : Own E t base H a n c xs) {m : Nat} (hm : m ≤ n) : Own E t base H a m c (xs.take m) := by
  obtain ⟨hl, h⟩ := h
  refine ⟨by simp; omega, ?_⟩
  rcases h with ⟨rfl, rfl, rfl⟩ | ⟨b, cur, rfl, hb, hh, hc, hm', hs, ht⟩
  · exact .inl ⟨rfl, by omega, rfl⟩
  · refine .inr ⟨b, cur, rfl, hb, hh, by omega, hm', hs, ?_⟩
    have e : (m * E.sz) ≤ n * E.sz := Nat.mul_le_mul_right _ hm
    have : cur.toList.take (m * E.sz) = (xs.flatMap E.cells).take (m * E.sz) := by rw [← ht, List.take_take, Nat.min_eq_left e]
    rw [this]
    clear this ht
    induction xs generalizing m n with
    | nil => simp
    | cons x l ih =>
      cases m with
      | zero => simp
      | succ m =>
        simp only [List.flatMap_cons, List.take_succ_cons, Nat.add_mul, Nat.one_mul]
        rw [List.take_append, E.len, List.take_of_length_le (by rw [E.len]; omega)]
        congr 1
        rw [show m * E.sz + E.sz - E.sz = m * E.sz by omega]
        simp only [List.length_cons] at hl
        exact ih (n := n - 1) (m := m) (by omega) (by omega) (by omega) (Nat.mul_le_mul_right _ (by omega))
theorem ap_own {α : Type} {E : Enc α} {P : Program} {ts ty t : TypeId} {bytes : Nat} {H0 H : Heap} {a : Option Addr} {n c : Nat} {xs ys : List α} {a2 : Option Addr} {m c2 : Nat} {K : Option Addr → Nat → Nat → Heap → Prop}
    (hts : sliceB P ts t = true) (ht : elemB P t E.sz bytes = true) (ho : Own E t H0.size H a n c xs) (hf : Fr [] H0 H) (hs : Sl E H a2 m c2 ys) (hsz : (n + m) * bytes ≤ 140737488355328)
    (hk : ∀ a' n' c' H', Own E t H0.size H' a' n' c' (xs ++ ys) → Fr [] H0 H' → Fr (blkL a) H H' → K a' n' c' H') :
    SemWp P (Builtin.append_ ⟨[ts, ts]⟩ ty ⟨[.slice a n c, .slice a2 m c2]⟩) H fun v H' => ∃ a n c, v = .slice a n c ∧ K a n c H' :=
  ap_raw hts ht ho hs hf.size hsz fun a' n' c' H' h1 h2 => hk a' n' c' H' h1 (hf.keep h2 fun k hk => (ho.ge k hk).1) h2
theorem ap_one {α : Type} {E : Enc α} {P : Program} {ts ty t t' : TypeId} {bytes : Nat} {H0 H : Heap} {a : Option Addr} {n c : Nat} {xs : List α} (x : α) {vs : List Value} {K : Nat → Option Addr → Nat → Nat → Heap → Prop}
    (hts : sliceB P ts t = true) (ht : elemB P t E.sz bytes = true) (ho : Own E t H0.size H a n c xs) (hf : Fr [] H0 H) (hv : vs = E.cells x) (hsz : (n + 1) * bytes ≤ 140737488355328)
    (hk : ∀ b a' n' c' H', Own E t H0.size H' a' n' c' (xs ++ [x]) → Fr [] H0 H' → Fr (blkL a) H H' → K b a' n' c' H') :
    ∀ b H1, New H b (.cells ⟨vs⟩ t') H1 → SemWp P (Builtin.append_ ⟨[ts, ts]⟩ ty ⟨[.slice a n c, .slice (some ⟨b, 0, none⟩) 1 1]⟩) H1 fun v H' => ∃ a n c, v = .slice a n c ∧ K b a n c H' := fun b H1 hn =>
  ap_own hts ht (ho.keep hn.fr) (hf.keep0 hn.fr) (sl_one E x hn hv) hsz fun a' n' c' H' h1 h2 h3 => hk b a' n' c' H' h1 h2 (hn.fr.trans' h3 (by simp) (fun k hk _ => hk))

theorem mk_own {α : Type} {E : Enc α} {P : Program} {ts t : TypeId} {bytes : Nat} {H : Heap} {c : Int} {kl kc : IntKind} {K : Option Addr → Nat → Nat → Heap → Prop}
    (hts : sliceB P ts t = true) (ht : elemB P t E.sz bytes = true) (h0 : 0 ≤ c) (hsz : c.toNat * bytes ≤ 140737488355328)
    (hk : ∀ b H', Own E t H.size H' (some ⟨b, 0, none⟩) 0 c.toNat ([] : List α) → Fr [] H H' → K (some ⟨b, 0, none⟩) 0 c.toNat H') :
    SemWp P (Instr.makeSlice ts (.int kl 0) (.int kc c)) H fun v H' => ∃ a n c, v = .slice a n c ∧ K a n c H' := by
  intro Ev d
  obtain ⟨i, z, hi, hz, h1, h2, h3, h4, h5⟩ := elemB_out ht
  have hu := sliceB_out hts
  obtain ⟨cn, rfl⟩ : ∃ cn : Nat, c = cn := ⟨c.toNat, by omega⟩
  simp only [Int.toNat_natCast] at hsz hk
  have hcb : cn ≤ cn * bytes := Nat.le_mul_of_pos_right _ h5
  have hr := run_make (P := P) (mkW Ev H d) ts t i z hu hi hz kl kc 0 cn (Int.le_refl _) (by omega) (by
    rw [h4, Int.mul_comm, ← Int.natCast_mul]; omega) (by omega)
  refine ⟨_, _, d, hr, _, _, _, rfl, hk H.size (H.push (.cells (madeCells z.cells (cn * i.size)) t)) ?_ ?_⟩
  · exact ⟨rfl, .inr ⟨H.size, madeCells z.cells (cn * i.size), rfl, Nat.le_refl _, by simp, Nat.zero_le _, by simp only [maxLen]; omega, by rw [size_madeCells, h1], by simp⟩⟩
  · exact ⟨by simp, fun k hk _ => by simp [Array.getElem?_push]; omega⟩

theorem clear_tail {α : Type} {E : Enc α} {P : Program} {ts ty t base : Nat} {zc : List Value} {H : Heap} {a : Option Addr} {n c k : Nat} {xs : List α} {K : Heap → Prop}
    (hts : sliceB P ts t = true) (hz : zeroOf P t = some (.agg ⟨zc⟩)) (hzl : zc.length = E.sz) (hz1 : ∀ v ∈ zc, v.oneCell' = true)
    (ho : Own E t base H a n c xs) (hk : k ≤ n) (hK : ∀ H', Own E t base H' a k c (xs.take k) → Fr (blkL a) H H' → K H') :
    SemWp P (Builtin.clear_ ⟨[ts]⟩ ty ⟨[.slice (slA c k E.sz a) (n - k) (c - k)]⟩) H fun v H' => v = .tuple #[] ∧ K H' := by
  intro Ev d
  have hu := sliceB_out hts
  have hot := ho.take hk
  by_cases hnk : n - k = 0
  · refine ⟨_, H, d, ?_, rfl, hK H hot (Fr.refl _ _)⟩
    rw [hnk]
    unfold Builtin.clear_
    cases hA : slA c k E.sz a with
    | none => simp [run_underlying' hu]
    | some ad => simp [run_underlying' hu]
  · have hlen := ho.1
    obtain ⟨hl, ho1⟩ := ho
    rcases ho1 with ⟨rfl, h0, h1⟩ | ⟨b, cur, rfl, hb, hh, hc, hm, hs, ht⟩
    · omega
    · rw [slA_eq, if_neg (by omega)]
      simp only [Option.map_some, add_at]
      obtain ⟨i, hi, hzi⟩ : ∃ i, P.info? t = some i ∧ i.zero = some (.agg ⟨zc⟩) := by
        unfold zeroOf at hz
        split at hz
        · exact ⟨_, by assumption, hz⟩
        · cases hz
      have hsz : (Builtin.zeroCells (Value.agg ⟨zc⟩).cells (n - k)).toList.length = (n - k) * E.sz := by
        rw [Array.length_toList, size_zeroCells]
        simp [Value.cells, hzl]
      have hfit : k * E.sz + (n - k) * E.sz ≤ cur.size := by
        rw [hs, ← Nat.add_mul]
        exact Nat.mul_le_mul_right _ (by omega)
      have hone : ∀ v ∈ (Builtin.zeroCells (Value.agg ⟨zc⟩).cells (n - k)).toList, v.oneCell' = true := by
        intro v hv
        simp only [Builtin.zeroCells, Value.cells, Array.toList_map, List.mem_map] at hv
        obtain ⟨j, _, rfl⟩ := hv
        have hp := E.pos
        have : j % zc.length < zc.length := Nat.mod_lt _ (by omega)
        have e : (⟨zc⟩ : Array Value)[j % (⟨zc⟩ : Array Value).size]! = zc[j % zc.length]'this := by simp [this]
        rw [e]
        exact hz1 _ (List.getElem_mem _)
      refine ⟨_, rowH H b (cur.toList.take (k * E.sz) ++ (Builtin.zeroCells (Value.agg ⟨zc⟩).cells (n - k)).toList ++ cur.toList.drop (k * E.sz + (n - k) * E.sz)).toArray, d, ?_, rfl, hK _ ?_ (rowH_fr H b _)⟩
      · have hst := run_storeCells_at P b (0 + k * E.sz) t (Builtin.zeroCells (Value.agg ⟨zc⟩).cells (n - k)).toList 0 cur (mkW Ev H d) hh (by rw [hsz]; omega) hone
        unfold Builtin.clear_
        have : ∃ m, n - k = m + 1 := ⟨n - k - 1, by omega⟩
        obtain ⟨m, hm'⟩ := this
        rw [hm'] at hst hsz ⊢
        simp only [List.getElem?_toArray, List.getElem?_cons_zero]
        simp only [Sem.run_bind, run_underlying' hu, Result.andThen_ok, zeroValue, typeInfo, program]
        simp only [Sem.run, pure, Result.andThen_ok, hi, hzi]
        rw [hst, hsz]
        simp only [Nat.zero_add, Nat.add_zero]
        rfl
      · refine ⟨by simp; omega, .inr ⟨b, _, rfl, hb, rowH_get hh, by omega, hm, ?_, ?_⟩⟩
        · simp only [List.size_toArray, List.length_append, List.length_take, List.length_drop, hsz, Array.length_toList]
          omega
        · have h2 : (cur.toList.take (k * E.sz)).length = k * E.sz := by simp; omega
          rw [show (cur.toList.take (k * E.sz) ++ (Builtin.zeroCells (Value.agg ⟨zc⟩).cells (n - k)).toList ++ cur.toList.drop (k * E.sz + (n - k) * E.sz)).toArray.toList = cur.toList.take (k * E.sz) ++ ((Builtin.zeroCells (Value.agg ⟨zc⟩).cells (n - k)).toList ++ cur.toList.drop (k * E.sz + (n - k) * E.sz)) by simp]
          rw [List.take_append_of_le_length (by omega), List.take_of_length_le (by omega)]
          obtain ⟨_, h | ⟨b', cur', e, _, hh', _, _, _, ht'⟩⟩ := hot
          · cases h.1
          · cases e
            rw [hh] at hh'
            cases hh'
            exact ht'

theorem addr_add0 (ad : Addr) : ad.add 0 = ad := by cases ad; rfl
theorem own_put {α : Type} {E : Enc α} {P : Program} {t tt : TypeId} {base : Nat} {H : Heap} {a : Option Addr} {n c : Nat} {xs : List α} {i : Int} {k : Nat} (x' : α) {v : Value} {b : Bool} {X : Heap → Prop}
    (h : Own E t base H a n c xs) (hi : i = k) (hkn : k < n) (hb : b = true) (hv : v.cells.toList = E.cells x') (hs : szOf P tt = E.sz) (hinfo : (P.info? tt).isSome = true)
    (k' : ∀ H', Own E t base H' a n c (xs.set k x') → Fr (blkL a) H H' → X H') : exSome a fun ad => chk b (∃ H', St P tt H (ad.add (i.toNat * E.sz)) v H' ∧ X H') := by
  have hl := h.1
  have hx : xs[k]? = some (xs[k]'(by omega)) := by simp
  cases a with
  | none =>
    obtain ⟨_, ⟨_, h0, _⟩ | ⟨_, _, e, _⟩⟩ := h
    · omega
    · cases e
  | some ad =>
    refine exSome_of rfl (chk_true hb ?_)
    have hlen := E.len x'
    have hsz : v.cells.size = E.sz := by rw [← Array.length_toList, hv, hlen]
    have := own_st (P := P) (tt := tt) (j := 0) (x' := x') (v := v) (X := X) h rfl hi hx (by rw [hs, hsz]) hinfo (by rw [hv]; exact E.one x') (by rw [hv, hlen]; omega) (by
      rw [hv, hlen]
      have h2 := E.len (xs[k]'(by omega))
      rw [List.take_zero, List.nil_append, List.drop_of_length_le (by omega), List.append_nil]) k'
    rwa [addr_add0] at this

theorem Blk.ldK {P : Program} {t : TypeId} {H : Heap} {b j : Nat} {vs : List Value} {v : Value} (ht : aggB P t = false) (h : Blk H ⟨b, 0, none⟩ vs) (hv : vs[j]? = some v) : Ld P t H ⟨b, j, none⟩ v := by
  obtain ⟨b', te, e, hb⟩ := h
  cases e
  exact ld1_blk ht hb hv
theorem Blk.ldAK {P : Program} {t : TypeId} {H : Heap} {b j : Nat} {vs us : List Value} (ht : isAggT P t = true) (hs : szOf P t = us.length) (h : Blk H ⟨b, 0, none⟩ vs) (hv : (vs.drop j).take us.length = us) : Ld P t H ⟨b, j, none⟩ (.agg ⟨us⟩) := by
  obtain ⟨b', te, e, hb⟩ := h
  cases e
  exact ldA_blk ht hs hb hv

theorem ent_born {κ : Type} {ck : Nat} {L : List (Ent κ)} (hw : WfL ck L) {x y : Ent κ} (hx : x ∈ L) (hy : y ∈ L) (e : x.2.2 = y.2.2) : x = y := by
  have hb := hw.born
  clear hw
  induction L with
  | nil => cases hx
  | cons z l ih =>
    simp only [List.map_cons, List.nodup_cons] at hb
    rcases List.mem_cons.1 hx with h1 | h1 <;> rcases List.mem_cons.1 hy with h2 | h2
    · rw [h1, h2]
    · exact absurd (by rw [← h1, e]; exact List.mem_map_of_mem (f := fun x : Ent κ => x.2.2) h2) hb.1
    · exact absurd (by rw [← h2, ← e]; exact List.mem_map_of_mem (f := fun x : Ent κ => x.2.2) h1) hb.1
    · exact ih h1 h2 hb.2
theorem ent_key {κ : Type} {ck : Nat} {L : List (Ent κ)} (hw : WfL ck L) {x y : Ent κ} (hx : x ∈ L) (hy : y ∈ L) (e : x.1 = y.1) : x = y := by
  have hb := hw.keys
  clear hw
  induction L with
  | nil => cases hx
  | cons z l ih =>
    simp only [List.map_cons, List.nodup_cons] at hb
    rcases List.mem_cons.1 hx with h1 | h1 <;> rcases List.mem_cons.1 hy with h2 | h2
    · rw [h1, h2]
    · exact absurd (by rw [← h1, e]; exact List.mem_map_of_mem (f := fun x : Ent κ => x.1) h2) hb.1
    · exact absurd (by rw [← h2, ← e]; exact List.mem_map_of_mem (f := fun x : Ent κ => x.1) h1) hb.1
    · exact ih h1 h2 hb.2

theorem made_one (u : Value) (n : Nat) : (madeCells #[u] n).toList = List.replicate n u := by
  apply List.ext_getElem?
  intro i
  by_cases h : i < n
  · simp [madeCells, h, Nat.mod_one]
  · simp [madeCells, h]
theorem flatMap_rep {α : Type} (E : Enc α) {z0 : α} {u : Value} (h : E.cells z0 = [u]) : ∀ n : Nat, (List.replicate n z0).flatMap E.cells = List.replicate n u
  | 0 => rfl
  | n + 1 => by rw [List.replicate_succ, List.flatMap_cons, flatMap_rep E h n, h]; rfl
theorem mk_full {α : Type} {E : Enc α} {P : Program} {ts t : TypeId} {bytes n : Nat} {u : Value} (z0 : α) {H : Heap} {ni : Int} {kl kc : IntKind} {K : Option Addr → Nat → Nat → Heap → Prop}
    (hts : sliceB P ts t = true) (ht : elemB P t E.sz bytes = true) (hz : zeroOf P t = some u) (hu : u.cells = #[u]) (hc : E.cells z0 = [u]) (hni : ni = n) (hsz : n * bytes ≤ 140737488355328)
    (hk : ∀ b H', H.size ≤ b → Own E t H.size H' (some ⟨b, 0, none⟩) n n (List.replicate n z0) → Fr [] H H' → K (some ⟨b, 0, none⟩) n n H') :
    SemWp P (Instr.makeSlice ts (.int kl ni) (.int kc ni)) H fun v H' => ∃ a n c, v = .slice a n c ∧ K a n c H' := by
  intro Ev d
  subst hni
  obtain ⟨i, z, hi, hz', h1, h2, h3, h4, h5⟩ := elemB_out ht
  have hzz : z = u := by
    unfold zeroOf at hz
    rw [hi] at hz
    simp only [hz'] at hz
    cases hz; rfl
  subst hzz
  have hus := sliceB_out hts
  have hcb : n ≤ n * bytes := Nat.le_mul_of_pos_right _ h5
  have hr := run_make (P := P) (mkW Ev H d) ts t i z hus hi hz' kl kc n n (by omega) (Int.le_refl _) (by
    rw [h4, Int.mul_comm, ← Int.natCast_mul]; omega) (by omega)
  have hs1 : E.sz = 1 := by have := E.len z0; rw [hc] at this; simpa using this.symm
  refine ⟨_, _, d, hr, _, _, _, rfl, hk H.size (H.push (.cells (madeCells z.cells (n * i.size)) t)) (Nat.le_refl _) ?_ ?_⟩
  · refine ⟨by simp, .inr ⟨H.size, madeCells z.cells (n * i.size), rfl, Nat.le_refl _, by simp, Nat.le_refl _, by simp only [maxLen]; omega, by rw [size_madeCells, h1], ?_⟩⟩
    rw [flatMap_rep E hc, h1, hs1, Nat.mul_one, hu, made_one]
    exact List.take_of_length_le (by simp)
  · exact ⟨by simp, fun k hk _ => by simp [Array.getElem?_push]; omega⟩
end Go.GV
set_option linter.unusedVariables false
open Go Go.GV Go.Proofs
namespace Go.GV

def encByte : Enc UInt8 := ⟨fun b => [.int .u8 b.toNat], 1, fun _ => rfl, by decide, fun _ v h => by simp at h; subst h; rfl⟩
theorem flat_bytes (xs : List UInt8) : xs.flatMap encByte.cells = xs.map fun b => Value.int .u8 b.toNat := by
  induction xs with
  | nil => rfl
  | cons x l ih => rw [List.flatMap_cons, ih]; rfl
theorem strCells_bl (s : ByteArray) : Lib.strCells s = (bl s).flatMap encByte.cells := by rw [flat_bytes]; rfl
def strB (P : Program) (t : TypeId) : Bool := match P.underlying t with | some .string => true | _ => false
theorem strB_out {P : Program} {t : TypeId} (h : strB P t = true) : P.underlying t = some .string := by
  unfold strB at h
  split at h
  · assumption
  · cases h
def byteB (P : Program) (t : TypeId) : Bool := match P.info? t with
  | some i => (match i.zero with | some (.int .u8 z) => decide (z = 0) && Nat.beq i.size 1 && Nat.beq i.bytes 1 | _ => false)
  | none => false
theorem byteB_out {P : Program} {t : TypeId} (h : byteB P t = true) : ∃ i, P.info? t = some i ∧ i.zero = some (.int .u8 0) ∧ i.size = 1 ∧ i.bytes = 1 := by
  unfold byteB at h
  split at h
  · rename_i i hi
    split at h
    · rename_i z hz
      simp only [Bool.and_eq_true, decide_eq_true_eq] at h
      obtain ⟨⟨rfl, h1⟩, h2⟩ := h
      exact ⟨i, hi, hz, Nat.eq_of_beq_eq_true h1, Nat.eq_of_beq_eq_true h2⟩
    · cases h
  · cases h

theorem ap_str {P : Program} {ts tx ty t : TypeId} {base : Nat} {H : Heap} {a : Option Addr} {n c : Nat} {xs : List UInt8} {s : ByteArray} {K : Option Addr → Nat → Nat → Heap → Prop}
    (hts : sliceB P ts t = true) (htx : strB P tx = true) (ht : byteB P t = true) (ho : Own encByte t base H a n c xs) (hbase : base ≤ H.size) (hsz : n + s.size ≤ 140737488355328)
    (hk : ∀ a' n' c' H', Own encByte t base H' a' n' c' (xs ++ bl s) → Fr (blkL a) H H' → Grow H (blkL a) (blkL a') → K a' n' c' H') :
    SemWp P (Builtin.append_ ⟨[ts, tx]⟩ ty ⟨[.slice a n c, .string s]⟩) H fun v H' => ∃ a n c, v = .slice a n c ∧ K a n c H' := by
  intro Ev d
  obtain ⟨i, hi, hz, h1, h4⟩ := byteB_out ht
  have hu := sliceB_out hts
  have hx := strB_out htx
  have hown : (mkW Ev H d).ownsRow base t 1 (.slice a n c) n (xs.flatMap encByte.cells) := by
    obtain ⟨hl, ho⟩ := ho
    refine ⟨by rw [flatMap_len, hl]; rfl, ?_⟩
    rcases ho with ⟨rfl, rfl, rfl⟩ | ⟨b, cur, rfl, hb, hh, hc, hm, hs, ht⟩
    · exact .inl ⟨rfl, rfl⟩
    · exact .inr ⟨b, c, cur, rfl, hb, hh, hc, hm, hs, ht⟩
  have hmax : n + s.size ≤ maxLen := by simp only [maxLen]; omega
  have fin : ∀ v' w', w'.ownsRow base t 1 v' (n + s.size) (xs.flatMap encByte.cells ++ Lib.strCells s) → (mkW Ev H d).grownBy w' (Value.slice a n c).ownBlock → (∀ g cc, v' = .slice (some ⟨g, 0, none⟩) (n + s.size) cc → g ∈ blkL a ∨ H.size ≤ g) → d.1 ≤ w'.drawn →
      ∃ H' d', w' = mkW Ev H' d' ∧ ∃ a n c, v' = .slice a n c ∧ K a n c H' := by
    intro v' w' ho' hg hgw hdr
    refine ⟨w'.heap, ⟨w'.drawn, Nat.le_trans d.2 hdr⟩, ?_, ?_⟩
    · have e1 := hg.os; have e2 := hg.tape; have e3 := hg.output
      cases w'
      simp only [mkW] at e1 e2 e3 ⊢
      subst e1 e2 e3
      rfl
    · have hfr : Fr (blkL a) H w'.heap := ⟨hg.size, fun k hk hn => hg.block k hk (by
        cases a with
        | none => simp [Value.ownBlock]
        | some ad => simp only [Value.ownBlock, ne_eq, Option.some.injEq]; intro e; exact hn (by simp [blkL, e]))⟩
      rw [strCells_bl, ← List.flatMap_append] at ho'
      obtain ⟨hlen, ho'⟩ := ho'
      have hlen' : n + s.size = (xs ++ bl s).length := by rw [List.length_append, ← ho.1, bl_len]
      rcases ho' with ⟨rfl, h0⟩ | ⟨g, cap, cur, rfl, hb, hh, hc, hm, hcs, htk⟩
      · exact ⟨none, 0, 0, rfl, hk none 0 0 w'.heap ⟨by omega, .inl ⟨rfl, rfl, rfl⟩⟩ hfr (fun _ h => by cases h)⟩
      · exact ⟨_, _, _, rfl, hk _ _ _ w'.heap ⟨hlen', .inr ⟨g, cur, rfl, hb, hh, hc, hm, hcs, htk⟩⟩ hfr (fun k hk => by simp [blkL] at hk; subst hk; exact hgw _ _ rfl)⟩
  obtain ⟨v', w', hr, ho', hg, hnn⟩ := Lib.run_append_own_string (P := P) (mkW Ev H d) base ts tx ty t i hu hx hi hz h1 h4 _ n _ hown s hmax hsz hbase
  have hgw : (∀ g cc, v' = .slice (some ⟨g, 0, none⟩) (n + s.size) cc → g ∈ blkL a ∨ H.size ≤ g) ∧ d.1 ≤ w'.drawn := by
    obtain ⟨hlx, ⟨rfl, rfl, rfl⟩ | ⟨b, cur, rfl, hb, hh, hc, hm, hcs, htk⟩⟩ := id ho
    · by_cases hm0 : s.size = 0
      · have hr2 : (Builtin.append_ #[ts, tx] ty #[.slice none 0 0, .string s]).run P (mkW Ev H d) = .ok (.slice none 0 0) (mkW Ev H d) := by
          have hf := Lib.run_firstCells_string (P := P) (mkW Ev H d) 1 s
          rw [hm0] at hf
          simp [Builtin.append_, run_underlying' hu, run_underlying' hx, sizeOf_run hi, h1, Builtin.lenOf, hm0, hf]
        rw [hr] at hr2
        injection hr2 with e1 e2
        refine ⟨fun g cc hv => ?_, by rw [e2]; exact Nat.le_refl _⟩
        rw [hv] at e1
        cases e1
      · have hr2 := run_append_nil_string (P := P) (mkW Ev H d) ts tx ty t i (.int .u8 0) hu hx hi hz s (by omega) (by omega) (by rw [h4]; omega)
        rw [hr] at hr2
        injection hr2 with e1 e2
        refine ⟨fun g cc hv => ?_, by rw [e2]; exact Nat.le_succ _⟩
        rw [hv] at e1
        injection e1 with e1
        injection e1 with e1
        injection e1 with e1
        exact .inr (Nat.le_of_eq e1.symm)
    · by_cases hroom : n + s.size ≤ c
      · have hr2 := Lib.run_append_room_string (P := P) (mkW Ev H d) ts tx ty t i hu hx hi h1 b n c cur hh s hroom (by rw [hcs]; show n + s.size ≤ c * 1; omega)
        rw [hr] at hr2
        injection hr2 with e1 e2
        refine ⟨fun g cc hv => ?_, by rw [e2]; exact Nat.le_refl _⟩
        rw [hv] at e1
        injection e1 with e1
        injection e1 with e1
        injection e1 with e1
        exact .inl (by simp [blkL, e1])
      · have holds : ∀ j u, (xs.flatMap encByte.cells)[j]? = some u → (mkW Ev H d).cell? ((⟨b, 0, none⟩ : Addr).add j) = some u := hown.cells (g := b) rfl
        have hr2 := Lib.run_append_grow_string (P := P) (mkW Ev H d) ts tx ty t i (.int .u8 0) hu hx hi hz ⟨b, 0, none⟩ n c (xs.flatMap encByte.cells) (by rw [flatMap_len, hlx, h1]; rfl) holds s (by omega) (by omega) (by rw [h4]; exact growslice_fits (by omega) (by omega))
        rw [hr] at hr2
        injection hr2 with e1 e2
        refine ⟨fun g cc hv => ?_, by rw [e2]; exact Nat.le_succ _⟩
        rw [hv] at e1
        injection e1 with e1
        injection e1 with e1
        injection e1 with e1
        exact .inr (Nat.le_of_eq e1.symm)
  obtain ⟨H', d', hw, hK⟩ := fin v' w' ho' hg hgw.1 hgw.2
  subst hw
  exact ⟨v', H', d', hr, hK⟩

theorem push_fr (H : Heap) (o : Obj) : Fr [] H (H.push o) := ⟨by simp, fun k hk _ => by simp [Array.getElem?_push, Nat.ne_of_lt hk]⟩
theorem set_fr (H : Heap) (r : Nat) (o : Obj) : Fr [r] H (H.setIfInBounds r o) := ⟨by simp, fun k hk hn => by
  have : r ≠ k := fun e => hn (by simp [e])
  simp [this]⟩
theorem push_fold : ∀ (ns : List UInt8) (s : ByteArray), (ns.map fun b => (b.toNat : Int)).foldl (fun r n => r.push (UInt8.ofNat n.toNat)) s = s ++ ⟨ns.toArray⟩
  | [], s => by apply bl_inj; simp [bl]
  | b :: ns, s => by
    rw [List.map_cons, List.foldl_cons, push_fold ns]
    apply bl_inj
    simp [bl, ByteArray.push]
theorem cv_bs {P : Program} {src dst e : TypeId} {a : Option Addr} {n c : Nat} {xs : List UInt8} {H : Heap} {K : ByteArray → Heap → Prop} (hs : sliceB P src e = true) (hd : strB P dst = true) (he : P.underlying e = some (.int .u8))
    (hx : Sl encByte H a n c xs) (hk : K ⟨xs.toArray⟩ H) :
    SemWp P (convert src dst (.slice a n c)) H fun v H' => ∃ s, v = .string s ∧ K s H' := by
  intro E d
  cases a with
  | none =>
    have : xs = [] := by
      rcases hx.arr with h | ⟨b, off, e, _⟩
      · exact h
      · cases e
    subst this
    refine ⟨.string .empty, H, d, ?_, _, rfl, hk⟩
    simp [convert, run_underlying' (sliceB_out hs), run_underlying' (strB_out hd), run_underlying' he, Conv.bytesToString]
  | some ad =>
    have hl := hx.len
    have hcells : (loadCells ad n).run P (mkW E H d) = .ok ((xs.map fun b => (b.toNat : Int)).map (Value.int .u8)).toArray (mkW E H d) := by
      rw [List.map_map]
      have hall : ∀ (j : Nat) (u : Value), (xs.map fun b => Value.int .u8 (b.toNat : Int))[j]? = some u → (mkW E H d).cell? (ad.add j) = some u := ?_
      · have h0 := run_loadCells_list (P := P) (mkW E H d) ad _ hall
        rw [List.length_map, ← hl] at h0
        exact h0
      intro j u hu
      obtain ⟨x, hx1, rfl⟩ : ∃ x, xs[j]? = some x ∧ u = .int .u8 x.toNat := by
        rw [List.getElem?_map, Option.map_eq_some_iff] at hu
        obtain ⟨x, h1, h2⟩ := hu
        exact ⟨x, h1, h2.symm⟩
      obtain ⟨b, off, e1, hc⟩ := hx.arr.at hx1
      simp only [Option.some.injEq] at e1
      subst e1
      have := hc 0 _ rfl
      rw [show off + j * encByte.sz + 0 = off + j by show off + j * 1 + 0 = off + j; omega] at this
      rw [cell_heap, add_at]
      exact this
    have hb := run_bytesToString (P := P) (mkW E H d) ad n c _ hcells
    rw [push_fold] at hb
    have e0 : ByteArray.empty ++ ⟨xs.toArray⟩ = (⟨xs.toArray⟩ : ByteArray) := by apply bl_inj; simp [bl]
    rw [e0] at hb
    refine ⟨_, H, d, ?_, _, rfl, hk⟩
    simp [convert, run_underlying' (sliceB_out hs), run_underlying' (strB_out hd), run_underlying' he, hb]

def Bld (tB : TypeId) (H : Heap) (b : Nat) (S : List Nat) (xs : List UInt8) : Prop :=
  ∃ p o n c te, H[b]? = some (.cells ⟨[.pointer p, .slice o n c]⟩ te (0, 0)) ∧ ((p = none ∧ te = tB) ∨ p = some ⟨b, 0, none⟩) ∧ Own encByte 5 0 H o n c xs ∧ S = b :: blkL o ∧ b ∉ blkL o
theorem Bld.fr {tB : TypeId} {H H' : Heap} {b : Nat} {S T : List Nat} {xs : List UInt8} (h : Bld tB H b S xs) (hf : Fr T H H') (hd : ∀ k ∈ S, k ∉ T) : Bld tB H' b S xs := by
  obtain ⟨p, o, n, c, te, h1, h3, h4, rfl, h6⟩ := h
  exact ⟨p, o, n, c, te, hf.get h1 (hd _ (by simp)), h3, h4.fr hf (fun ad e => hd _ (by simp [e, blkL])), rfl, h6⟩
theorem Bld.keep {tB : TypeId} {H H' : Heap} {b : Nat} {S : List Nat} {xs : List UInt8} (h : Bld tB H b S xs) (hf : Fr [] H H') : Bld tB H' b S xs := h.fr hf (by simp)
theorem Bld.lt {tB : TypeId} {H : Heap} {b : Nat} {S : List Nat} {xs : List UInt8} (h : Bld tB H b S xs) : ∀ k ∈ S, k < H.size := by
  obtain ⟨p, o, n, c, te, h1, h3, h4, rfl, h6⟩ := h
  intro k hk
  rcases List.mem_cons.1 hk with rfl | hk
  · exact lt_of_get h1
  · exact (h4.ge k hk).2
theorem Bld.new {tB : TypeId} {H H' : Heap} {b : Nat} (h : New H b (.cells ⟨[.pointer none, .slice none 0 0]⟩ tB) H') : Bld tB H' b [b] [] :=
  ⟨none, none, 0, 0, tB, h.get, .inl ⟨rfl, rfl⟩, Own.nil _ _ _ _, rfl, by simp [blkL]⟩

theorem shape_of {w : World} {r : Nat} {cs : Array Value} {t : TypeId} {fz : Nat × Nat} (h : w.heap[r]? = some (.cells cs t fz)) : w.shape? r = some (t, cs.size) := by
  unfold World.shape?; rw [h]

structure BldT (P : Program) (tB tp tu tbs tstr tpb : TypeId) : Prop where
  ptr : P.underlying tp = some (.pointer tB)
  uns : P.underlying tu = some .unsafePointer
  sz : szOf P tB = 2
  inf : (P.info? tB).isSome = true
  lies : liesAt P P.depth tB (2 / P.cellsOf tB) 0 tB 1 = true
  sl : sliceB P tbs 5 = true
  str : strB P tstr = true
  byte : byteB P 5 = true
  pb : P.underlying tpb = some (.pointer 5)
  c5 : P.cellsOf 5 = 1
  p1 : szOf P tp = 1
  pi : (P.info? tp).isSome = true
  s1 : szOf P tbs = 1
  si : (P.info? tbs).isSome = true
  ap : aggB P tp = false
  ab : aggB P tbs = false

theorem to_unsafe {P : Program} {tB tp tu tbs tstr tpb : TypeId} (T : BldT P tB tp tu tbs tstr tpb) {H : Heap} {b : Nat} {cs : Array Value} {fz : Nat × Nat} {X : Value → Heap → Prop} (h1 : H[b]? = some (.cells cs tB fz)) (hcs : cs.size = 2)
    (hk : X (.pointer (some ⟨b, 0, none⟩)) H) : SemWp P (convert tp tu (.pointer (some ⟨b, 0, none⟩))) H X := by
  intro E d
  have hs := T.sz
  unfold szOf at hs
  split at hs
  · rename_i i hi
    exact ⟨_, H, d, Lib.run_to_unsafe (mkW E H d) ⟨b, 0, none⟩ T.ptr T.uns hi (by omega) (shape_of h1) (by rw [hcs]; exact Nat.zero_lt_succ 1), hk⟩
  · cases hs
theorem from_unsafe {P : Program} {tB tp tu tbs tstr tpb : TypeId} (T : BldT P tB tp tu tbs tstr tpb) {H : Heap} {b : Nat} {cs : Array Value} {fz : Nat × Nat} {K : Option Addr → Heap → Prop} (h1 : H[b]? = some (.cells cs tB fz)) (hcs : cs.size = 2)
    (hk : K (some ⟨b, 0, none⟩) H) : SemWp P (convert tu tp (.pointer (some ⟨b, 0, none⟩))) H fun v H' => ∃ a, v = .pointer a ∧ K a H' := by
  intro E d
  have hs := T.sz
  unfold szOf at hs
  split at hs
  · rename_i i hi
    exact ⟨_, H, d, Lib.run_from_unsafe (mkW E H d) ⟨b, 0, none⟩ T.uns T.ptr hi (shape_of h1) (by rw [hcs]; exact T.lies), _, rfl, hk⟩
  · cases hs
theorem neq_self {P : Program} {tB tp tu tbs tstr tpb : TypeId} (T : BldT P tB tp tu tbs tstr tpb) (ad : Addr) (x y : Nat) : RdA P (eqSem .neq tp (.tmp x) (.tmp y) (.pointer (some ad)) (.pointer (some ad))) (.bool false) := by
  intro w
  have hs := T.sz
  unfold szOf at hs
  split at hs
  · rename_i i hi
    have h2 := Lib.run_neq_ptr_same (P := P) w ad T.ptr hi
    have hg : eqGuard .neq tp (.tmp x) (.tmp y) (.pointer (some ad)) (.pointer (some ad)) = pure () := rfl
    unfold eqSem
    rw [hg]
    simpa using h2
  · cases hs
theorem ext_ok {P : Program} {k : FuncId} {fn : Func} {e : Array Value → Sem Value} {args : Array Value} {H : Heap} {v : Value} {K : Value → Heap → Prop} (hf : P.funcs[k]? = some fn) (hname : (fn.name == "runtime.NumGoroutine") = false)
    (hb : fn.body.isNone = true) (hn : Extern.findNext fn = none) (he : Extern.find fn = some e) (hr : ∀ w : World, (e args).run P w = .ok v w) (hk : K v H) : ExtH P k args H K := by
  intro E d
  refine ⟨v, H, d, ?_, hk⟩
  rw [run_callFunc_extern hf hname hb hn he, hr]
  rfl

theorem sl_data {P : Program} {tB tp tu tbs tstr tpb : TypeId} (T : BldT P tB tp tu tbs tstr tpb) {it sty : TypeId} {H : Heap} {o : Option Addr} {n c : Nat} {xs : List UInt8} {K L : Heap → Prop} {ts : Array TypeId} (ho : Own encByte 5 0 H o n c xs)
    (hn : n ≤ 140737488355328) (hL : ∀ H', Fr [] H H' → L H') (hk : ∀ H', Fr (blkL o) H H' → K H') :
    SemWp P (Builtin.unsafeSliceData_ ts tpb ⟨[.slice o n c]⟩) H fun v H' => ∃ a, v = .pointer a ∧ L H' ∧ SemWp P (Builtin.unsafeString_ ⟨[tpb, it]⟩ sty ⟨[.pointer a, .int .i64 n]⟩) H' fun v H' => ∃ s, v = .string s ∧ s = ⟨xs.toArray⟩ ∧ K H' := by
  intro E d
  obtain ⟨hl, ⟨rfl, rfl, rfl⟩ | ⟨g, cur, rfl, hb, hh, hc, hm, hcs, htk⟩⟩ := ho
  · refine ⟨_, H, d, Lib.run_unsafeSliceData_nil (mkW E H d) ts tpb 0 0, _, rfl, hL H (Fr.refl _ _), ?_⟩
    intro E d
    have : xs = [] := List.eq_nil_of_length_eq_zero hl.symm
    subst this
    exact ⟨_, H, d, Lib.run_unsafeString_none (mkW E H d) tpb it sty none, _, rfl, rfl, hk H (Fr.refl _ _)⟩
  · have hcell : ∀ j x, xs[j]? = some x → cellH H ⟨g, j, none⟩ = some (.int .u8 x.toNat) := by
      intro j x hx
      have h1 := flatMap_get encByte xs j x hx 0 _ rfl
      rw [← htk, List.getElem?_take] at h1
      split at h1
      · unfold cellH
        rw [hh]
        simp only [Option.isSome_none, Bool.false_eq_true, if_false]
        rw [← Array.getElem?_toList]
        rw [show j * encByte.sz + 0 = j by show j * 1 + 0 = j; omega] at h1
        exact h1
      · cases h1
    by_cases hc0 : c = 0
    · subst hc0
      have hn0 : n = 0 := by omega
      subst hn0
      have : xs = [] := List.eq_nil_of_length_eq_zero hl.symm
      subst this
      refine ⟨_, H.push (.view ⟨g, 0, none⟩ 5), d, Lib.run_unsafeSliceData_zero (mkW E H d) ts tpb 5 T.pb ⟨g, 0, none⟩ 0 _ (shape_of hh), _, rfl, hL _ (push_fr _ _), ?_⟩
      intro E d
      exact ⟨_, _, d, Lib.run_unsafeString_none (mkW E _ d) tpb it sty _, _, rfl, rfl, hk _ ((push_fr _ _).mono (by simp))⟩
    · refine ⟨_, H, d, Lib.run_unsafeSliceData_row (mkW E H d) ts tpb ⟨g, 0, none⟩ n c hc0, _, rfl, hL H (Fr.refl _ _), ?_⟩
      intro E d
      by_cases hn0 : xs = []
      · subst hn0
        have : n = 0 := hl
        subst this
        exact ⟨_, H, d, Lib.run_unsafeString_none (mkW E H d) tpb it sty _, _, rfl, rfl, hk H (Fr.refl _ _)⟩
      · have hr := Lib.run_unsafeString_row (P := P) (mkW E H d) tpb it sty 5 T.pb T.c5 g cur.size (shape_of hh) xs hn0 (by rw [hcs, ← hl]; show n ≤ c * 1; omega) (by rw [← hl]; omega) (fun j x hx => by rw [cell_heap, add_at, Nat.zero_add]; exact hcell j x hx)
        rw [← hl] at hr
        refine ⟨_, ((mkW E H d).freeze ⟨g, 0, none⟩ n).heap, d, hr.trans ?_, _, rfl, rfl, hk _ ?_⟩
        · unfold World.freeze
          split <;> rfl
        · unfold World.freeze
          split
          · exact Fr.refl _ _
          · exact ⟨by simp [mkW], fun k hk hne => by
              have : g ≠ k := fun e => hne (by simp [blkL, e])
              simp [mkW, Array.getElem?_modify, this]⟩
end Go.GV
set_option linter.unusedVariables false
open Go
namespace Go.GV

theorem init_mkA {args : List Value} {fn : Func} {n : Nat} (hn : fn.ntmps = n) (hle : Nat.ble args.length n = true) :
    { tmps := args.toArray ++ Array.replicate (fn.ntmps - args.toArray.size) undef, defers := [] } = mkA [] n (initF args) := by
  have hle' : args.length ≤ n := Nat.le_of_ble_eq_true hle
  unfold mkA
  congr 1
  apply Array.ext_getElem?
  intro i
  have hi : ∀ (l : List Value) (i : Nat), initF l i = l.getD i undef := by
    intro l
    induction l with
    | nil => intro i; rfl
    | cons v l ih => intro i; cases i with | zero => rfl | succ i => exact ih i
  simp only [Array.getElem?_append, Array.getElem?_ofFn, List.size_toArray, List.getElem?_toArray, hn, hi, Array.getElem?_replicate]
  by_cases h1 : i < args.length
  · have h2 : i < n := by omega
    simp [h1, h2, List.getD_eq_getElem?_getD]
  · by_cases h2 : i < n
    · have h3 : i - args.length < n - args.length := by omega
      simp [h1, h2, h3, List.getD_eq_getElem?_getD]
    · have h3 : ¬ i - args.length < n - args.length := by omega
      simp [h1, h2, h3]
theorem res_run {P : Program} {Df : List Deferred} {fn : Func} {n : Nat} {rs : List ResultVar} (hr : fn.results.toList = rs) {f : F} {H' : Heap} {E : Env} {d' : Dr E} {X : Value → Prop}
    (h : vcRes P n f H' rs (fun vs => X (oneV vs))) : ∃ v, (results fn (mkA Df n f).tmps).run P (mkW E H' d') = .ok v (mkW E H' d') ∧ X v := by
  obtain ⟨g, hres, g1, g2⟩ := results_split fn (mkA Df n f).tmps
  obtain ⟨vs, hr', hk⟩ := vcRes_run (Df := Df) g g1 g2 h
  refine ⟨oneV vs, ?_, hk⟩
  have e1 := hr' (mkW E H' d') rfl
  rw [hres, Sem.run_bind, Array.mapM_eq_mapM_toList, Sem.run_map, hr]
  rw [e1]
  simp only [Result.andThen_ok]
  have e2 : ∀ vs : List Value, (if h : vs.toArray.size = 1 then vs.toArray[0] else .tuple vs.toArray) = oneV vs := by
    intro vs
    match vs with
    | [] => rfl
    | [v] => rfl
    | _ :: _ :: _ => simp [oneV]
  rw [← e2 vs]
  rfl

end Go.GV
