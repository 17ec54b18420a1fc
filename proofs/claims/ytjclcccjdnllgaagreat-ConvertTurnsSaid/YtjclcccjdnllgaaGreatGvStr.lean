/- A part of a proof: see the last text of this claim. -/
import Derived.Test.YtjclcccjdnllgaaGreatGvOpen
import Derived.Lib.AppendStr
import Derived.Lib.UnsafeStr
import Derived.Lib.MakeNoZero
import Derived.Lib.Builder
import Derived.Laws.Externs
import Derived.Laws.IdiomStrings
import Derived.Laws.BytesString
import Derived.Test.YtjclcccjdnllgaaGreatGvCore
import Derived.Defers
set_option linter.unusedVariables false
open Go Go.GV Go.Proofs
namespace Go.GV

def encByte : Enc UInt8 := ⟨fun b => [.int .u8 b.toNat], 1, fun _ => rfl, by decide, fun _ v h => by simp at h; subst h; rfl⟩
theorem flat_bytes (xs : List UInt8) : xs.flatMap encByte.cells = xs.map fun b => Value.int .u8 b.toNat := by
  induction xs with
  | nil => rfl
  | cons x l ih => rw [List.flatMap_cons, ih]; rfl
theorem strCells_bl (s : ByteArray) : Lib.strCells s = (bl s).flatMap encByte.cells := by rw [flat_bytes]; rfl
def strB (P : Program) (t : TypeId) : Bool := match P.underlying t with | some .string => true | _ => false
theorem strB_out {P : Program} {t : TypeId} (h : strB P t = true) : P.underlying t = some .string := by
  unfold strB at h
  split at h
  · assumption
  · cases h
def byteB (P : Program) (t : TypeId) : Bool := match P.info? t with
  | some i => (match i.zero with | some (.int .u8 z) => decide (z = 0) && Nat.beq i.size 1 && Nat.beq i.bytes 1 | _ => false)
  | none => false
theorem byteB_out {P : Program} {t : TypeId} (h : byteB P t = true) : ∃ i, P.info? t = some i ∧ i.zero = some (.int .u8 0) ∧ i.size = 1 ∧ i.bytes = 1 := by
  unfold byteB at h
  split at h
  · rename_i i hi
    split at h
    · rename_i z hz
      simp only [Bool.and_eq_true, decide_eq_true_eq] at h
      obtain ⟨⟨rfl, h1⟩, h2⟩ := h
      exact ⟨i, hi, hz, Nat.eq_of_beq_eq_true h1, Nat.eq_of_beq_eq_true h2⟩
    · cases h
  · cases h

theorem ap_str {P : Program} {ts tx ty t : TypeId} {base : Nat} {H : Heap} {a : Option Addr} {n c : Nat} {xs : List UInt8} {s : ByteArray} {K : Option Addr → Nat → Nat → Heap → Prop}
    (hts : sliceB P ts t = true) (htx : strB P tx = true) (ht : byteB P t = true) (ho : Own encByte t base H a n c xs) (hbase : base ≤ H.size) (hsz : n + s.size ≤ 140737488355328)
    (hk : ∀ a' n' c' H', Own encByte t base H' a' n' c' (xs ++ bl s) → Fr (blkL a) H H' → Grow H (blkL a) (blkL a') → K a' n' c' H') :
    SemWp P (Builtin.append_ ⟨[ts, tx]⟩ ty ⟨[.slice a n c, .string s]⟩) H fun v H' => ∃ a n c, v = .slice a n c ∧ K a n c H' := by
  intro Ev d
  obtain ⟨i, hi, hz, h1, h4⟩ := byteB_out ht
  have hu := sliceB_out hts
  have hx := strB_out htx
  have hown : (mkW Ev H d).ownsRow base t 1 (.slice a n c) n (xs.flatMap encByte.cells) := by
    obtain ⟨hl, ho⟩ := ho
    refine ⟨by rw [flatMap_len, hl]; rfl, ?_⟩
    rcases ho with ⟨rfl, rfl, rfl⟩ | ⟨b, cur, rfl, hb, hh, hc, hm, hs, ht⟩
    · exact .inl ⟨rfl, rfl⟩
    · exact .inr ⟨b, c, cur, rfl, hb, hh, hc, hm, hs, ht⟩
  have hmax : n + s.size ≤ maxLen := by simp only [maxLen]; omega
  have fin : ∀ v' w', w'.ownsRow base t 1 v' (n + s.size) (xs.flatMap encByte.cells ++ Lib.strCells s) → (mkW Ev H d).grownBy w' (Value.slice a n c).ownBlock → (∀ g cc, v' = .slice (some ⟨g, 0, none⟩) (n + s.size) cc → g ∈ blkL a ∨ H.size ≤ g) → d.1 ≤ w'.drawn →
      ∃ H' d', w' = mkW Ev H' d' ∧ ∃ a n c, v' = .slice a n c ∧ K a n c H' := by
    intro v' w' ho' hg hgw hdr
    refine ⟨w'.heap, ⟨w'.drawn, Nat.le_trans d.2 hdr⟩, ?_, ?_⟩
    · have e1 := hg.os; have e2 := hg.tape; have e3 := hg.output
      cases w'
      simp only [mkW] at e1 e2 e3 ⊢
      subst e1 e2 e3
      rfl
    · have hfr : Fr (blkL a) H w'.heap := ⟨hg.size, fun k hk hn => hg.block k hk (by
        cases a with
        | none => simp [Value.ownBlock]
        | some ad => simp only [Value.ownBlock, ne_eq, Option.some.injEq]; intro e; exact hn (by simp [blkL, e]))⟩
      rw [strCells_bl, ← List.flatMap_append] at ho'
      obtain ⟨hlen, ho'⟩ := ho'
      have hlen' : n + s.size = (xs ++ bl s).length := by rw [List.length_append, ← ho.1, bl_len]
      rcases ho' with ⟨rfl, h0⟩ | ⟨g, cap, cur, rfl, hb, hh, hc, hm, hcs, htk⟩
      · exact ⟨none, 0, 0, rfl, hk none 0 0 w'.heap ⟨by omega, .inl ⟨rfl, rfl, rfl⟩⟩ hfr (fun _ h => by cases h)⟩
      · exact ⟨_, _, _, rfl, hk _ _ _ w'.heap ⟨hlen', .inr ⟨g, cur, rfl, hb, hh, hc, hm, hcs, htk⟩⟩ hfr (fun k hk => by simp [blkL] at hk; subst hk; exact hgw _ _ rfl)⟩
  obtain ⟨v', w', hr, ho', hg, hnn⟩ := Lib.run_append_own_string (P := P) (mkW Ev H d) base ts tx ty t i hu hx hi hz h1 h4 _ n _ hown s hmax hsz hbase
  have hgw : (∀ g cc, v' = .slice (some ⟨g, 0, none⟩) (n + s.size) cc → g ∈ blkL a ∨ H.size ≤ g) ∧ d.1 ≤ w'.drawn := by
    obtain ⟨hlx, ⟨rfl, rfl, rfl⟩ | ⟨b, cur, rfl, hb, hh, hc, hm, hcs, htk⟩⟩ := id ho
    · by_cases hm0 : s.size = 0
      · have hr2 : (Builtin.append_ #[ts, tx] ty #[.slice none 0 0, .string s]).run P (mkW Ev H d) = .ok (.slice none 0 0) (mkW Ev H d) := by
          have hf := Lib.run_firstCells_string (P := P) (mkW Ev H d) 1 s
          rw [hm0] at hf
          simp [Builtin.append_, run_underlying' hu, run_underlying' hx, sizeOf_run hi, h1, Builtin.lenOf, hm0, hf]
        rw [hr] at hr2
        injection hr2 with e1 e2
        refine ⟨fun g cc hv => ?_, by rw [e2]; exact Nat.le_refl _⟩
        rw [hv] at e1
        cases e1
      · have hr2 := run_append_nil_string (P := P) (mkW Ev H d) ts tx ty t i (.int .u8 0) hu hx hi hz s (by omega) (by omega) (by rw [h4]; omega)
        rw [hr] at hr2
        injection hr2 with e1 e2
        refine ⟨fun g cc hv => ?_, by rw [e2]; exact Nat.le_succ _⟩
        rw [hv] at e1
        injection e1 with e1
        injection e1 with e1
        injection e1 with e1
        exact .inr (Nat.le_of_eq e1.symm)
    · by_cases hroom : n + s.size ≤ c
      · have hr2 := Lib.run_append_room_string (P := P) (mkW Ev H d) ts tx ty t i hu hx hi h1 b n c cur hh s hroom (by rw [hcs]; show n + s.size ≤ c * 1; omega)
        rw [hr] at hr2
        injection hr2 with e1 e2
        refine ⟨fun g cc hv => ?_, by rw [e2]; exact Nat.le_refl _⟩
        rw [hv] at e1
        injection e1 with e1
        injection e1 with e1
        injection e1 with e1
        exact .inl (by simp [blkL, e1])
      · have holds : ∀ j u, (xs.flatMap encByte.cells)[j]? = some u → (mkW Ev H d).cell? ((⟨b, 0, none⟩ : Addr).add j) = some u := hown.cells (g := b) rfl
        have hr2 := Lib.run_append_grow_string (P := P) (mkW Ev H d) ts tx ty t i (.int .u8 0) hu hx hi hz ⟨b, 0, none⟩ n c (xs.flatMap encByte.cells) (by rw [flatMap_len, hlx, h1]; rfl) holds s (by omega) (by omega) (by rw [h4]; exact growslice_fits (by omega) (by omega))
        rw [hr] at hr2
        injection hr2 with e1 e2
        refine ⟨fun g cc hv => ?_, by rw [e2]; exact Nat.le_succ _⟩
        rw [hv] at e1
        injection e1 with e1
        injection e1 with e1
        injection e1 with e1
        exact .inr (Nat.le_of_eq e1.symm)
  obtain ⟨H', d', hw, hK⟩ := fin v' w' ho' hg hgw.1 hgw.2
  subst hw
  exact ⟨v', H', d', hr, hK⟩

theorem push_fr (H : Heap) (o : Obj) : Fr [] H (H.push o) := ⟨by simp, fun k hk _ => by simp [Array.getElem?_push, Nat.ne_of_lt hk]⟩
theorem set_fr (H : Heap) (r : Nat) (o : Obj) : Fr [r] H (H.setIfInBounds r o) := ⟨by simp, fun k hk hn => by
  have : r ≠ k := fun e => hn (by simp [e])
  simp [this]⟩
theorem push_fold : ∀ (ns : List UInt8) (s : ByteArray), (ns.map fun b => (b.toNat : Int)).foldl (fun r n => r.push (UInt8.ofNat n.toNat)) s = s ++ ⟨ns.toArray⟩
  | [], s => by apply bl_inj; simp [bl]
  | b :: ns, s => by
    rw [List.map_cons, List.foldl_cons, push_fold ns]
    apply bl_inj
    simp [bl, ByteArray.push]
theorem cv_bs {P : Program} {src dst e : TypeId} {a : Option Addr} {n c : Nat} {xs : List UInt8} {H : Heap} {K : ByteArray → Heap → Prop} (hs : sliceB P src e = true) (hd : strB P dst = true) (he : P.underlying e = some (.int .u8))
    (hx : Sl encByte H a n c xs) (hk : K ⟨xs.toArray⟩ H) :
    SemWp P (convert src dst (.slice a n c)) H fun v H' => ∃ s, v = .string s ∧ K s H' := by
  intro E d
  cases a with
  | none =>
    have : xs = [] := by
      rcases hx.arr with h | ⟨b, off, e, _⟩
      · exact h
      · cases e
    subst this
    refine ⟨.string .empty, H, d, ?_, _, rfl, hk⟩
    simp [convert, run_underlying' (sliceB_out hs), run_underlying' (strB_out hd), run_underlying' he, Conv.bytesToString]
  | some ad =>
    have hl := hx.len
    have hcells : (loadCells ad n).run P (mkW E H d) = .ok ((xs.map fun b => (b.toNat : Int)).map (Value.int .u8)).toArray (mkW E H d) := by
      rw [List.map_map]
      have hall : ∀ (j : Nat) (u : Value), (xs.map fun b => Value.int .u8 (b.toNat : Int))[j]? = some u → (mkW E H d).cell? (ad.add j) = some u := ?_
      · have h0 := run_loadCells_list (P := P) (mkW E H d) ad _ hall
        rw [List.length_map, ← hl] at h0
        exact h0
      intro j u hu
      obtain ⟨x, hx1, rfl⟩ : ∃ x, xs[j]? = some x ∧ u = .int .u8 x.toNat := by
        rw [List.getElem?_map, Option.map_eq_some_iff] at hu
        obtain ⟨x, h1, h2⟩ := hu
        exact ⟨x, h1, h2.symm⟩
      obtain ⟨b, off, e1, hc⟩ := hx.arr.at hx1
      simp only [Option.some.injEq] at e1
      subst e1
      have := hc 0 _ rfl
      rw [show off + j * encByte.sz + 0 = off + j by show off + j * 1 + 0 = off + j; omega] at this
      rw [cell_heap, add_at]
      exact this
    have hb := run_bytesToString (P := P) (mkW E H d) ad n c _ hcells
    rw [push_fold] at hb
    have e0 : ByteArray.empty ++ ⟨xs.toArray⟩ = (⟨xs.toArray⟩ : ByteArray) := by apply bl_inj; simp [bl]
    rw [e0] at hb
    refine ⟨_, H, d, ?_, _, rfl, hk⟩
    simp [convert, run_underlying' (sliceB_out hs), run_underlying' (strB_out hd), run_underlying' he, hb]

def Bld (tB : TypeId) (H : Heap) (b : Nat) (S : List Nat) (xs : List UInt8) : Prop :=
  ∃ p o n c te, H[b]? = some (.cells ⟨[.pointer p, .slice o n c]⟩ te (0, 0)) ∧ ((p = none ∧ te = tB) ∨ p = some ⟨b, 0, none⟩) ∧ Own encByte 5 0 H o n c xs ∧ S = b :: blkL o ∧ b ∉ blkL o
theorem Bld.fr {tB : TypeId} {H H' : Heap} {b : Nat} {S T : List Nat} {xs : List UInt8} (h : Bld tB H b S xs) (hf : Fr T H H') (hd : ∀ k ∈ S, k ∉ T) : Bld tB H' b S xs := by
  obtain ⟨p, o, n, c, te, h1, h3, h4, rfl, h6⟩ := h
  exact ⟨p, o, n, c, te, hf.get h1 (hd _ (by simp)), h3, h4.fr hf (fun ad e => hd _ (by simp [e, blkL])), rfl, h6⟩
theorem Bld.keep {tB : TypeId} {H H' : Heap} {b : Nat} {S : List Nat} {xs : List UInt8} (h : Bld tB H b S xs) (hf : Fr [] H H') : Bld tB H' b S xs := h.fr hf (by simp)
theorem Bld.lt {tB : TypeId} {H : Heap} {b : Nat} {S : List Nat} {xs : List UInt8} (h : Bld tB H b S xs) : ∀ k ∈ S, k < H.size := by
  obtain ⟨p, o, n, c, te, h1, h3, h4, rfl, h6⟩ := h
  intro k hk
  rcases List.mem_cons.1 hk with rfl | hk
  · exact lt_of_get h1
  · exact (h4.ge k hk).2
theorem Bld.new {tB : TypeId} {H H' : Heap} {b : Nat} (h : New H b (.cells ⟨[.pointer none, .slice none 0 0]⟩ tB) H') : Bld tB H' b [b] [] :=
  ⟨none, none, 0, 0, tB, h.get, .inl ⟨rfl, rfl⟩, Own.nil _ _ _ _, rfl, by simp [blkL]⟩

theorem shape_of {w : World} {r : Nat} {cs : Array Value} {t : TypeId} {fz : Nat × Nat} (h : w.heap[r]? = some (.cells cs t fz)) : w.shape? r = some (t, cs.size) := by
  unfold World.shape?; rw [h]

structure BldT (P : Program) (tB tp tu tbs tstr tpb : TypeId) : Prop where
  ptr : P.underlying tp = some (.pointer tB)
  uns : P.underlying tu = some .unsafePointer
  sz : szOf P tB = 2
  inf : (P.info? tB).isSome = true
  lies : liesAt P P.depth tB (2 / P.cellsOf tB) 0 tB 1 = true
  sl : sliceB P tbs 5 = true
  str : strB P tstr = true
  byte : byteB P 5 = true
  pb : P.underlying tpb = some (.pointer 5)
  c5 : P.cellsOf 5 = 1
  p1 : szOf P tp = 1
  pi : (P.info? tp).isSome = true
  s1 : szOf P tbs = 1
  si : (P.info? tbs).isSome = true
  ap : aggB P tp = false
  ab : aggB P tbs = false

theorem to_unsafe {P : Program} {tB tp tu tbs tstr tpb : TypeId} (T : BldT P tB tp tu tbs tstr tpb) {H : Heap} {b : Nat} {cs : Array Value} {fz : Nat × Nat} {X : Value → Heap → Prop} (h1 : H[b]? = some (.cells cs tB fz)) (hcs : cs.size = 2)
    (hk : X (.pointer (some ⟨b, 0, none⟩)) H) : SemWp P (convert tp tu (.pointer (some ⟨b, 0, none⟩))) H X := by
  intro E d
  have hs := T.sz
  unfold szOf at hs
  split at hs
  · rename_i i hi
    exact ⟨_, H, d, Lib.run_to_unsafe (mkW E H d) ⟨b, 0, none⟩ T.ptr T.uns hi (by omega) (shape_of h1) (by rw [hcs]; exact Nat.zero_lt_succ 1), hk⟩
  · cases hs
theorem from_unsafe {P : Program} {tB tp tu tbs tstr tpb : TypeId} (T : BldT P tB tp tu tbs tstr tpb) {H : Heap} {b : Nat} {cs : Array Value} {fz : Nat × Nat} {K : Option Addr → Heap → Prop} (h1 : H[b]? = some (.cells cs tB fz)) (hcs : cs.size = 2)
    (hk : K (some ⟨b, 0, none⟩) H) : SemWp P (convert tu tp (.pointer (some ⟨b, 0, none⟩))) H fun v H' => ∃ a, v = .pointer a ∧ K a H' := by
  intro E d
  have hs := T.sz
  unfold szOf at hs
  split at hs
  · rename_i i hi
    exact ⟨_, H, d, Lib.run_from_unsafe (mkW E H d) ⟨b, 0, none⟩ T.uns T.ptr hi (shape_of h1) (by rw [hcs]; exact T.lies), _, rfl, hk⟩
  · cases hs
theorem neq_self {P : Program} {tB tp tu tbs tstr tpb : TypeId} (T : BldT P tB tp tu tbs tstr tpb) (ad : Addr) (x y : Nat) : RdA P (eqSem .neq tp (.tmp x) (.tmp y) (.pointer (some ad)) (.pointer (some ad))) (.bool false) := by
  intro w
  have hs := T.sz
  unfold szOf at hs
  split at hs
  · rename_i i hi
    have h2 := Lib.run_neq_ptr_same (P := P) w ad T.ptr hi
    have hg : eqGuard .neq tp (.tmp x) (.tmp y) (.pointer (some ad)) (.pointer (some ad)) = pure () := rfl
    unfold eqSem
    rw [hg]
    simpa using h2
  · cases hs
theorem ext_ok {P : Program} {k : FuncId} {fn : Func} {e : Array Value → Sem Value} {args : Array Value} {H : Heap} {v : Value} {K : Value → Heap → Prop} (hf : P.funcs[k]? = some fn) (hname : (fn.name == "runtime.NumGoroutine") = false)
    (hb : fn.body.isNone = true) (hn : Extern.findNext fn = none) (he : Extern.find fn = some e) (hr : ∀ w : World, (e args).run P w = .ok v w) (hk : K v H) : ExtH P k args H K := by
  intro E d
  refine ⟨v, H, d, ?_, hk⟩
  rw [run_callFunc_extern hf hname hb hn he, hr]
  rfl

theorem sl_data {P : Program} {tB tp tu tbs tstr tpb : TypeId} (T : BldT P tB tp tu tbs tstr tpb) {it sty : TypeId} {H : Heap} {o : Option Addr} {n c : Nat} {xs : List UInt8} {K L : Heap → Prop} {ts : Array TypeId} (ho : Own encByte 5 0 H o n c xs)
    (hn : n ≤ 140737488355328) (hL : ∀ H', Fr [] H H' → L H') (hk : ∀ H', Fr (blkL o) H H' → K H') :
    SemWp P (Builtin.unsafeSliceData_ ts tpb ⟨[.slice o n c]⟩) H fun v H' => ∃ a, v = .pointer a ∧ L H' ∧ SemWp P (Builtin.unsafeString_ ⟨[tpb, it]⟩ sty ⟨[.pointer a, .int .i64 n]⟩) H' fun v H' => ∃ s, v = .string s ∧ s = ⟨xs.toArray⟩ ∧ K H' := by
  intro E d
  obtain ⟨hl, ⟨rfl, rfl, rfl⟩ | ⟨g, cur, rfl, hb, hh, hc, hm, hcs, htk⟩⟩ := ho
  · refine ⟨_, H, d, Lib.run_unsafeSliceData_nil (mkW E H d) ts tpb 0 0, _, rfl, hL H (Fr.refl _ _), ?_⟩
    intro E d
    have : xs = [] := List.eq_nil_of_length_eq_zero hl.symm
    subst this
    exact ⟨_, H, d, Lib.run_unsafeString_none (mkW E H d) tpb it sty none, _, rfl, rfl, hk H (Fr.refl _ _)⟩
  · have hcell : ∀ j x, xs[j]? = some x → cellH H ⟨g, j, none⟩ = some (.int .u8 x.toNat) := by
      intro j x hx
      have h1 := flatMap_get encByte xs j x hx 0 _ rfl
      rw [← htk, List.getElem?_take] at h1
      split at h1
      · unfold cellH
        rw [hh]
        simp only [Option.isSome_none, Bool.false_eq_true, if_false]
        rw [← Array.getElem?_toList]
        rw [show j * encByte.sz + 0 = j by show j * 1 + 0 = j; omega] at h1
        exact h1
      · cases h1
    by_cases hc0 : c = 0
    · subst hc0
      have hn0 : n = 0 := by omega
      subst hn0
      have : xs = [] := List.eq_nil_of_length_eq_zero hl.symm
      subst this
      refine ⟨_, H.push (.view ⟨g, 0, none⟩ 5), d, Lib.run_unsafeSliceData_zero (mkW E H d) ts tpb 5 T.pb ⟨g, 0, none⟩ 0 _ (shape_of hh), _, rfl, hL _ (push_fr _ _), ?_⟩
      intro E d
      exact ⟨_, _, d, Lib.run_unsafeString_none (mkW E _ d) tpb it sty _, _, rfl, rfl, hk _ ((push_fr _ _).mono (by simp))⟩
    · refine ⟨_, H, d, Lib.run_unsafeSliceData_row (mkW E H d) ts tpb ⟨g, 0, none⟩ n c hc0, _, rfl, hL H (Fr.refl _ _), ?_⟩
      intro E d
      by_cases hn0 : xs = []
      · subst hn0
        have : n = 0 := hl
        subst this
        exact ⟨_, H, d, Lib.run_unsafeString_none (mkW E H d) tpb it sty _, _, rfl, rfl, hk H (Fr.refl _ _)⟩
      · have hr := Lib.run_unsafeString_row (P := P) (mkW E H d) tpb it sty 5 T.pb T.c5 g cur.size (shape_of hh) xs hn0 (by rw [hcs, ← hl]; show n ≤ c * 1; omega) (by rw [← hl]; omega) (fun j x hx => by rw [cell_heap, add_at, Nat.zero_add]; exact hcell j x hx)
        rw [← hl] at hr
        refine ⟨_, ((mkW E H d).freeze ⟨g, 0, none⟩ n).heap, d, hr.trans ?_, _, rfl, rfl, hk _ ?_⟩
        · unfold World.freeze
          split <;> rfl
        · unfold World.freeze
          split
          · exact Fr.refl _ _
          · exact ⟨by simp [mkW], fun k hk hne => by
              have : g ≠ k := fun e => hne (by simp [blkL, e])
              simp [mkW, Array.getElem?_modify, this]⟩
end Go.GV
set_option linter.unusedVariables false
open Go
namespace Go.GV

theorem init_mkA {args : List Value} {fn : Func} {n : Nat} (hn : fn.ntmps = n) (hle : Nat.ble args.length n = true) :
    { tmps := args.toArray ++ Array.replicate (fn.ntmps - args.toArray.size) undef, defers := [] } = mkA [] n (initF args) := by
  have hle' : args.length ≤ n := Nat.le_of_ble_eq_true hle
  unfold mkA
  congr 1
  apply Array.ext_getElem?
  intro i
  have hi : ∀ (l : List Value) (i : Nat), initF l i = l.getD i undef := by
    intro l
    induction l with
    | nil => intro i; rfl
    | cons v l ih => intro i; cases i with | zero => rfl | succ i => exact ih i
  simp only [Array.getElem?_append, Array.getElem?_ofFn, List.size_toArray, List.getElem?_toArray, hn, hi, Array.getElem?_replicate]
  by_cases h1 : i < args.length
  · have h2 : i < n := by omega
    simp [h1, h2, List.getD_eq_getElem?_getD]
  · by_cases h2 : i < n
    · have h3 : i - args.length < n - args.length := by omega
      simp [h1, h2, h3, List.getD_eq_getElem?_getD]
    · have h3 : ¬ i - args.length < n - args.length := by omega
      simp [h1, h2, h3]
theorem res_run {P : Program} {Df : List Deferred} {fn : Func} {n : Nat} {rs : List ResultVar} (hr : fn.results.toList = rs) {f : F} {H' : Heap} {E : Env} {d' : Dr E} {X : Value → Prop}
    (h : vcRes P n f H' rs (fun vs => X (oneV vs))) : ∃ v, (results fn (mkA Df n f).tmps).run P (mkW E H' d') = .ok v (mkW E H' d') ∧ X v := by
  obtain ⟨g, hres, g1, g2⟩ := results_split fn (mkA Df n f).tmps
  obtain ⟨vs, hr', hk⟩ := vcRes_run (Df := Df) g g1 g2 h
  refine ⟨oneV vs, ?_, hk⟩
  have e1 := hr' (mkW E H' d') rfl
  rw [hres, Sem.run_bind, Array.mapM_eq_mapM_toList, Sem.run_map, hr]
  rw [e1]
  simp only [Result.andThen_ok]
  have e2 : ∀ vs : List Value, (if h : vs.toArray.size = 1 then vs.toArray[0] else .tuple vs.toArray) = oneV vs := by
    intro vs
    match vs with
    | [] => rfl
    | [v] => rfl
    | _ :: _ :: _ => simp [oneV]
  rw [← e2 vs]
  rfl

end Go.GV
