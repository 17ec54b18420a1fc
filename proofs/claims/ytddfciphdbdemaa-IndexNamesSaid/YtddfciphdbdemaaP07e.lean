/- A part of a proof: see the last text of this claim. -/
import Derived.Test.YtddfciphdbdemaaP07d
import Derived.Test.YtddfciphdbdemaaL07d
set_option linter.unusedVariables false
set_option maxRecDepth 100000
open Go Go.GV
namespace Go.Proofs

abbrev Hd := Option Addr × Nat × Nat
def encH : Enc Hd := ⟨fun h => [.slice h.1 h.2.1 h.2.2], 1, fun _ => rfl, by decide, fun _ v h => by simp at h; subst h; rfl⟩
theorem elem23 : elemB Try.prog 23 1 24 = true := by kernel_rfl
theorem slice22 : sliceB Try.prog 22 23 = true := by kernel_rfl
theorem elem3 : elemB Try.prog 3 1 8 = true := by kernel_rfl
theorem slice40 : sliceB Try.prog 40 3 = true := by kernel_rfl
theorem ldH {H : Heap} {ad : Addr} {x : Hd} (h : CellsAt H ad (encH.cells x)) : Ld Try.prog 23 H ad (.slice x.1 x.2.1 x.2.2) := ld_one (by kernel_rfl) h
noncomputable def TS : KeyT Try.prog 9 ByteArray := keyStr Try.underlying9

/-- A map that a text leads to what f says. -/
def MapF (H : Heap) (r : Nat) (f : ByteArray → Option Value) : Prop := ∃ ck L, MapR TS H r ck L ∧ ∀ k, getL k L = f k
theorem MapF.fr {H H' : Heap} {r : Nat} {f : ByteArray → Option Value} {S : List Nat} (h : MapF H r f) (hf : Fr S H H') (hn : r ∉ S) : MapF H' r f := by
  obtain ⟨ck, L, h1, h2⟩ := h
  exact ⟨ck, L, MapR.fr TS h1 hf hn, h2⟩
theorem MapF.lt {H : Heap} {r : Nat} {f : ByteArray → Option Value} (h : MapF H r f) : r < H.size := by obtain ⟨ck, L, h1, h2⟩ := h; exact MapR.lt TS h1
theorem MapF.new {H H' : Heap} {r : Nat} (h : New H r (.map ⟨[]⟩ 0) H') : MapF H' r (fun _ => none) := ⟨0, [], MapR.new TS h, fun _ => rfl⟩
theorem MapF.look {H : Heap} {r : Nat} {f : ByteArray → Option Value} {mt e : TypeId} {z v : Value} (h : MapF H r f) (hm : Try.prog.underlying mt = some (.map 9 e)) (hz : zeroOf Try.prog e = some z) (k : ByteArray) (hv : (f k).getD z = v) :
    Rd Try.prog (Instr.lookup mt (.map (some r)) (.string k) false) H v := by
  obtain ⟨ck, L, h1, h2⟩ := h
  have := lookup_map (T := TS) hm hz h1 k
  rw [h2 k, hv] at this
  exact this
theorem MapF.lookOk {H : Heap} {r : Nat} {f : ByteArray → Option Value} {mt e : TypeId} {z v : Value} {b : Bool} (h : MapF H r f) (hm : Try.prog.underlying mt = some (.map 9 e)) (hz : zeroOf Try.prog e = some z) (k : ByteArray) (hv : (f k).getD z = v) (hb : (f k).isSome = b) :
    Rd Try.prog (Instr.lookup mt (.map (some r)) (.string k) true) H (.tuple ⟨[v, .bool b]⟩) := by
  obtain ⟨ck, L, h1, h2⟩ := h
  have := lookup_map_ok (T := TS) hm hz h1 k
  rw [h2 k, hv, hb] at this
  exact this
theorem MapF.put {H : Heap} {r : Nat} {f : ByteArray → Option Value} {mt e : TypeId} {v : Value} {K : Heap → Prop} (h : MapF H r f) (hm : Try.prog.underlying mt = some (.map 9 e)) (k : ByteArray)
    (hk : ∀ H', MapF H' r (fun s => if s = k then some v else f s) → Fr [r] H H' → K H') : SemU Try.prog (Instr.mapUpdate mt (.map (some r)) (.string k) v) H K := by
  obtain ⟨ck, L, h1, h2⟩ := h
  refine put_map (T := TS) hm h1 k fun H' h3 h4 => hk H' ⟨_, _, h3, fun s => ?_⟩ h4
  rw [getL_putL, h2]
theorem MapF.blk {H : Heap} {r : Nat} {f : ByteArray → Option Value} (h : MapF H r f) : ∃ es ck, H[r]? = some (.map es ck) := by
  obtain ⟨ck, L, h1, h2⟩ := h
  exact ⟨_, _, MapR.blk h1⟩
theorem own_blk {α : Type} {E : Enc α} {t : TypeId} {base : Nat} {H : Heap} {a : Option Addr} {n c : Nat} {xs : List α} (h : Own E t base H a n c xs) {k : Nat} (hk : k ∈ blkL a) : ∃ cur, H[k]? = some (.cells cur t (0, 0)) := by
  obtain ⟨_, ⟨rfl, _⟩ | ⟨b, cur, rfl, _, h1, _⟩⟩ := h
  · cases hk
  · simp [blkL] at hk; subst hk; exact ⟨cur, h1⟩
theorem own_ne_map {α : Type} {E : Enc α} {t : TypeId} {base : Nat} {H : Heap} {a : Option Addr} {n c : Nat} {xs : List α} {r : Nat} {f : ByteArray → Option Value} (h : Own E t base H a n c xs) (hm : MapF H r f) : r ∉ blkL a := fun hk => by
  obtain ⟨cur, h1⟩ := own_blk h hk
  obtain ⟨es, ck, h2⟩ := hm.blk
  rw [h1] at h2; cases h2
theorem own_ne_own {α β : Type} {E : Enc α} {E' : Enc β} {t t' : TypeId} {base base' : Nat} {H : Heap} {a a' : Option Addr} {n c n' c' : Nat} {xs : List α} {ys : List β} (ht : t ≠ t') (h : Own E t base H a n c xs) (h' : Own E' t' base' H a' n' c' ys) : ∀ k ∈ blkL a, k ∉ blkL a' := fun k hk hk' => by
  obtain ⟨cur, h1⟩ := own_blk h hk
  obtain ⟨cur', h2⟩ := own_blk h' hk'
  rw [h1] at h2
  injection h2 with h2
  injection h2 with _ h2 _
  exact ht h2
theorem own_ne_cells {α : Type} {E : Enc α} {t te : TypeId} {base : Nat} {H : Heap} {a : Option Addr} {n c : Nat} {xs : List α} {b : Nat} {cs : Array Value} {fz : Nat × Nat} (ht : t ≠ te) (h : Own E t base H a n c xs) (hb : H[b]? = some (.cells cs te fz)) : b ∉ blkL a := fun hk => by
  obtain ⟨cur, h1⟩ := own_blk h hk
  rw [h1] at hb
  injection hb with hb
  injection hb with _ hb _
  exact ht hb
theorem map_ne_cells {H : Heap} {r b : Nat} {f : ByteArray → Option Value} {cs : Array Value} {te : TypeId} {fz : Nat × Nat} (hm : MapF H r f) (hb : H[b]? = some (.cells cs te fz)) : b ≠ r := fun e => by
  subst e
  obtain ⟨es, ck, h2⟩ := hm.blk
  rw [hb] at h2; cases h2
theorem own_fr {α : Type} {E : Enc α} {t : TypeId} {base : Nat} {H H' : Heap} {a : Option Addr} {n c : Nat} {xs : List α} {S : List Nat} (h : Own E t base H a n c xs) (hf : Fr S H H') (hn : ∀ k ∈ blkL a, k ∉ S) : Own E t base H' a n c xs := h.fr hf fun ad e => hn _ (by simp [e, blkL])

/-- Lists of labels, each in memory of its own. -/
def LLO (H : Heap) (U : List Nat) (hs : List Hd) (L : List Lbls) : Prop := hs.length = L.length ∧ ∀ (i : Nat) (h : Hd) (l : Lbls), hs[i]? = some h → L[i]? = some l → Own encL 64 0 H h.1 h.2.1 h.2.2 l ∧ ∀ k ∈ blkL h.1, k ∈ U
theorem LLO.fr {H H' : Heap} {U S : List Nat} {hs : List Hd} {L : List Lbls} (h : LLO H U hs L) (hf : Fr S H H') (hS : ∀ (i : Nat) (h : Hd) (l : Lbls), hs[i]? = some h → L[i]? = some l → ∀ k ∈ blkL h.1, k ∉ S) : LLO H' U hs L :=
  ⟨h.1, fun i x l hx hl => ⟨own_fr (h.2 i x l hx hl).1 hf (hS i x l hx hl), (h.2 i x l hx hl).2⟩⟩
theorem LLO.mono {H : Heap} {U U' : List Nat} {hs : List Hd} {L : List Lbls} (h : LLO H U hs L) (hu : ∀ k ∈ U, k ∈ U') : LLO H U' hs L :=
  ⟨h.1, fun i x l hx hl => ⟨(h.2 i x l hx hl).1, fun k hk => hu k ((h.2 i x l hx hl).2 k hk)⟩⟩
theorem LLO.snoc {H : Heap} {U : List Nat} {hs : List Hd} {L : List Lbls} {h0 : Hd} {l0 : Lbls} (h : LLO H U hs L) (ho : Own encL 64 0 H h0.1 h0.2.1 h0.2.2 l0) (hu : ∀ k ∈ blkL h0.1, k ∈ U) : LLO H U (hs ++ [h0]) (L ++ [l0]) := by
  refine ⟨by simp [h.1], fun i x l hx hl => ?_⟩
  rcases Nat.lt_or_ge i hs.length with hi | hi
  · rw [List.getElem?_append_left hi] at hx
    rw [List.getElem?_append_left (by rw [← h.1]; exact hi)] at hl
    exact h.2 i x l hx hl
  · rw [List.getElem?_append_right hi] at hx
    rw [List.getElem?_append_right (by rw [← h.1]; exact hi)] at hl
    have hi0 : i - hs.length = 0 := by
      have := (List.getElem?_eq_some_iff.1 hx).1
      simpa using this
    rw [hi0] at hx
    rw [← h.1, hi0] at hl
    simp at hx hl
    subst hx hl
    exact ⟨ho, hu⟩

/-- Names, values, who has them. -/
structure HasH (H : Heap) (U : List Nat) (rh : Nat) (mF : ByteArray → Option Nat) (vF : ByteArray → ByteArray → Option Hd) (idF : ByteArray → ByteArray → List Int) : Prop where
  top : MapF H rh (fun nm => (mF nm).map fun r => .map (some r))
  inner : ∀ nm r, mF nm = some r → MapF H r (fun v => (vF nm v).map fun h => .slice h.1 h.2.1 h.2.2)
  out : ∀ nm v h, vF nm v = some h → mF nm ≠ none
  own : ∀ nm v h, vF nm v = some h → Own encInt 3 0 H h.1 h.2.1 h.2.2 (idF nm v) ∧ idF nm v ≠ []
  no : ∀ nm v, vF nm v = none → idF nm v = []
  inj : ∀ nm nm' r, mF nm = some r → mF nm' = some r → nm = nm'
  ne : ∀ nm r, mF nm = some r → r ≠ rh
  sep : ∀ nm v nm' v' h h' k, vF nm v = some h → vF nm' v' = some h' → k ∈ blkL h.1 → k ∈ blkL h'.1 → nm = nm' ∧ v = v'
  uT : rh ∈ U
  uM : ∀ nm r, mF nm = some r → r ∈ U
  uV : ∀ nm v h k, vF nm v = some h → k ∈ blkL h.1 → k ∈ U
theorem HasH.fr {H H' : Heap} {U S : List Nat} {rh : Nat} {mF : ByteArray → Option Nat} {vF : ByteArray → ByteArray → Option Hd} {idF : ByteArray → ByteArray → List Int} (h : HasH H U rh mF vF idF) (hf : Fr S H H') (hd : rh ∉ S) (hd2 : ∀ nm r, mF nm = some r → r ∉ S) (hd3 : ∀ nm v h k, vF nm v = some h → k ∈ blkL h.1 → k ∉ S) : HasH H' U rh mF vF idF :=
  { h with
    top := h.top.fr hf hd
    inner := fun nm r e => (h.inner nm r e).fr hf (hd2 nm r e)
    own := fun nm v x e => ⟨own_fr (h.own nm v x e).1 hf (fun k hk => hd3 nm v x k e hk), (h.own nm v x e).2⟩ }
theorem HasH.mono {H : Heap} {U U' : List Nat} {rh : Nat} {mF : ByteArray → Option Nat} {vF : ByteArray → ByteArray → Option Hd} {idF : ByteArray → ByteArray → List Int} (h : HasH H U rh mF vF idF) (hu : ∀ k ∈ U, k ∈ U') : HasH H U' rh mF vF idF :=
  { h with uT := hu _ h.uT, uM := fun nm r e => hu _ (h.uM nm r e), uV := fun nm v x k e hk => hu _ (h.uV nm v x k e hk) }
theorem HasH.ext {H : Heap} {U : List Nat} {rh : Nat} {mF : ByteArray → Option Nat} {vF : ByteArray → ByteArray → Option Hd} {idF idF' : ByteArray → ByteArray → List Int} (h : HasH H U rh mF vF idF) (he : ∀ nm v, idF nm v = idF' nm v) : HasH H U rh mF vF idF' := by
  have : idF = idF' := by funext nm v; exact he nm v
  rwa [← this]
/-- A name that is new. -/
theorem HasH.name {H H1 H2 : Heap} {U : List Nat} {rh : Nat} {mF : ByteArray → Option Nat} {vF : ByteArray → ByteArray → Option Hd} {idF : ByteArray → ByteArray → List Int} (h : HasH H U rh mF vF idF) (hin : In H U) {nm : ByteArray} (hno : mF nm = none) {b : Nat} (hn : New H b (.map ⟨[]⟩ 0) H1)
    (ht : MapF H2 rh (fun s => if s = nm then some (.map (some b)) else (mF s).map fun r => .map (some r))) (hf : Fr [rh] H1 H2) :
    HasH H2 (b :: U) rh (fun s => if s = nm then some b else mF s) vF idF := by
  have hbU : b ∉ U := fun hk => by have := hin b hk; have := hn.eq; omega
  have hbrh : b ≠ rh := fun e => hbU (e ▸ h.uT)
  have hvno : ∀ v, vF nm v = none := fun v => by
    cases hv : vF nm v with
    | none => rfl
    | some x => exact absurd hno (h.out nm v x hv)
  have h1 : HasH H1 U rh mF vF idF := h.fr hn.fr (by simp) (by simp) (by simp)
  refine ⟨?_, fun s r e => ?_, fun s v x e => ?_, fun s v x e => ?_, h.no, fun s s' r e e' => ?_, fun s r e => ?_, h.sep, by simp [h.uT], fun s r e => ?_, fun s v x k e hk => by simp [h.uV s v x k e hk]⟩
  · have e : (fun s => ((if s = nm then some b else mF s).map fun r => Value.map (some r))) = fun s => if s = nm then some (.map (some b)) else (mF s).map fun r => .map (some r) := by
      funext s; split <;> rfl
    rw [e]; exact ht
  · split at e
    · rename_i hs
      cases e
      subst hs
      have : MapF H2 b (fun _ => none) := (MapF.new hn).fr hf (by simp; exact hbrh)
      have e2 : (fun v => (vF s v).map fun h : Hd => Value.slice h.1 h.2.1 h.2.2) = fun _ => none := by funext v; rw [hvno v]; rfl
      rw [e2]; exact this
    · exact (h1.inner s r e).fr hf (by simp; exact h.ne s r e)
  · split
    · simp
    · exact h.out s v x e
  · exact ⟨own_fr (h1.own s v x e).1 hf (fun k hk => by
      have := own_ne_map (h1.own s v x e).1 h1.top
      simp; exact fun e => this (e ▸ hk)), (h.own s v x e).2⟩
  · split at e <;> split at e'
    · rename_i h2 h3; rw [h2, h3]
    · cases e; exact absurd (h.uM s' b e') hbU
    · cases e'; exact absurd (h.uM s b e) hbU
    · exact h.inj s s' r e e'
  · split at e
    · cases e; exact hbrh
    · exact h.ne s r e
  · split at e
    · cases e; simp
    · simp [h.uM s r e]
/-- One more has a label. -/
theorem HasH.add {H H1 H2 : Heap} {U : List Nat} {rh : Nat} {mF : ByteArray → Option Nat} {vF : ByteArray → ByteArray → Option Hd} {idF : ByteArray → ByteArray → List Int} (h : HasH H U rh mF vF idF) (hin : In H U) {nm v : ByteArray} {r : Nat} (hr : mF nm = some r) {x : Int} {old new : Hd}
    (ho : (vF nm v).getD (none, 0, 0) = old) (hnew : Own encInt 3 0 H1 new.1 new.2.1 new.2.2 (idF nm v ++ [x])) (hf1 : Fr (blkL old.1) H H1) (hg : Grow H (blkL old.1) (blkL new.1))
    (ht : MapF H2 r (fun s => if s = v then some (.slice new.1 new.2.1 new.2.2) else (vF nm s).map fun h => .slice h.1 h.2.1 h.2.2)) (hf : Fr [r] H1 H2) :
    HasH H2 (blkL new.1 ++ U) rh mF (fun s t => if s = nm ∧ t = v then some new else vF s t) (fun s t => if s = nm ∧ t = v then idF nm v ++ [x] else idF s t) := by
  have hold : ∀ k ∈ blkL old.1, vF nm v = some old := fun k hk => by
    cases hv : vF nm v with
    | none => rw [hv] at ho; simp at ho; subst ho; cases hk
    | some y => rw [hv] at ho; simp at ho; rw [ho]
  -- what is elsewhere stays
  have keepM : ∀ {r' : Nat} {f : ByteArray → Option Value}, MapF H r' f → MapF H1 r' f := fun {r' f} hm => hm.fr hf1 (fun hk => own_ne_map (h.own nm v old (hold _ hk)).1 hm hk)
  have keepV : ∀ s t y, vF s t = some y → ¬ (s = nm ∧ t = v) → Own encInt 3 0 H1 y.1 y.2.1 y.2.2 (idF s t) := fun s t y e hne => own_fr (h.own s t y e).1 hf1 fun k hk hk' => hne (h.sep s t nm v y old k e (hold k hk') hk hk')
  have newU : ∀ k ∈ blkL new.1, ∀ s t y, vF s t = some y → k ∈ blkL y.1 → s = nm ∧ t = v := fun k hk s t y e hy => by
    rcases hg k hk with h1 | h1
    · exact h.sep s t nm v y old k e (hold k h1) hy h1
    · have := hin k (h.uV s t y k e hy); omega
  have rin : MapF H1 r (fun v => (vF nm v).map fun h => .slice h.1 h.2.1 h.2.2) := keepM (h.inner nm r hr)
  refine ⟨?_, fun s r' e => ?_, fun s t y e => ?_, fun s t y e => ?_, fun s t e => ?_, h.inj, h.ne, fun s t s' t' y y' k e e' hk hk' => ?_, by simp [h.uT], fun s r' e => by simp [h.uM s r' e], fun s t y k e hk => ?_⟩
  · exact (keepM h.top).fr hf (by simp; exact fun e => h.ne nm r hr e.symm)
  · by_cases hs : s = nm
    · subst hs
      rw [hr] at e; cases e
      have e2 : (fun t => ((if s = s ∧ t = v then some new else vF s t).map fun h : Hd => Value.slice h.1 h.2.1 h.2.2)) = fun t => if t = v then some (.slice new.1 new.2.1 new.2.2) else (vF s t).map fun h => .slice h.1 h.2.1 h.2.2 := by
        funext t
        by_cases ht : t = v
        · simp [ht]
        · simp [ht]
      rw [e2]; exact ht
    · have e2 : (fun t => ((if s = nm ∧ t = v then some new else vF s t).map fun h : Hd => Value.slice h.1 h.2.1 h.2.2)) = fun t => (vF s t).map fun h => .slice h.1 h.2.1 h.2.2 := by
        funext t; simp [hs]
      rw [e2]
      exact (keepM (h.inner s r' e)).fr hf (by simp; intro e3; subst e3; exact hs (h.inj s nm r' e hr))
  · split at e
    · rename_i h1; rw [h1.1, hr]; simp
    · exact h.out s t y e
  · split at e
    · rename_i h1
      cases e
      rw [if_pos h1]
      exact ⟨own_fr hnew hf (fun k hk => by
        have := own_ne_map hnew rin
        simp; exact fun e => this (e ▸ hk)), by simp⟩
    · rename_i h1
      rw [if_neg h1]
      exact ⟨own_fr (keepV s t y e h1) hf (fun k hk => by
        have := own_ne_map (keepV s t y e h1) rin
        simp; exact fun e => this (e ▸ hk)), (h.own s t y e).2⟩
  · split at e
    · cases e
    · rename_i h1; rw [if_neg h1]; exact h.no s t e
  · split at e <;> split at e'
    · rename_i h1 h2; exact ⟨h1.1.trans h2.1.symm, h1.2.trans h2.2.symm⟩
    · rename_i h1 h2
      cases e
      exact absurd (newU k hk s' t' y' e' hk') h2
    · rename_i h1 h2
      cases e'
      exact absurd (newU k hk' s t y e hk) h1
    · exact h.sep s t s' t' y y' k e e' hk hk'
  · split at e
    · cases e; simp [hk]
    · simp [h.uV s t y k e hk]

def keyF (L : List Lbls) (s : ByteArray) : Option Value := match fidx L s with | some i => some (.int .i64 (i : Nat)) | none => none
/-- An index's parts. -/
structure IdxP (H : Heap) (xb : Nat) (U : List Nat) (L : List Lbls) (idF : ByteArray → ByteArray → List Int) (a : Option Addr) (n c : Nat) (hs : List Hd) (rk rh : Nat) (mF : ByteArray → Option Nat) (vF : ByteArray → ByteArray → Option Hd) : Prop where
  cell : H[xb]? = some (.cells ⟨[.slice a n c, .map (some rk), .map (some rh)]⟩ 72 (0, 0))
  all : Own encH 23 0 H a n c hs
  lls : LLO H U hs L
  keys : MapF H rk (keyF L)
  has : HasH H U rh mF vF idF
  kh : rk ≠ rh
  km : ∀ nm r, mF nm = some r → r ≠ rk
  uX : xb ∈ U
  uK : rk ∈ U
  uA : ∀ k ∈ blkL a, k ∈ U
  inn : In H U
theorem IdxP.fr {H H' : Heap} {xb : Nat} {U S : List Nat} {L : List Lbls} {idF : ByteArray → ByteArray → List Int} {a : Option Addr} {n c : Nat} {hs : List Hd} {rk rh : Nat} {mF : ByteArray → Option Nat} {vF : ByteArray → ByteArray → Option Hd}
    (h : IdxP H xb U L idF a n c hs rk rh mF vF) (hf : Fr S H H') (hd : ∀ k ∈ U, k ∉ S) : IdxP H' xb U L idF a n c hs rk rh mF vF :=
  { h with
    cell := hf.get h.cell (hd _ h.uX)
    all := own_fr h.all hf (fun k hk => hd k (h.uA k hk))
    lls := h.lls.fr hf (fun i x l hx hl k hk => hd k ((h.lls.2 i x l hx hl).2 k hk))
    keys := h.keys.fr hf (hd _ h.uK)
    has := h.has.fr hf (hd _ h.has.uT) (fun nm r e => hd _ (h.has.uM nm r e)) (fun nm v x k e hk => hd k (h.has.uV nm v x k e hk))
    inn := h.inn.le hf.size }
/-- Who has a name has a value. -/
def NmV (mF : ByteArray → Option Nat) (vF : ByteArray → ByteArray → Option Hd) : Prop := ∀ nm, mF nm ≠ none → ∃ v, vF nm v ≠ none
/-- An index in memory. -/
def IdxH (H : Heap) (xb : Nat) (U : List Nat) (L : List Lbls) : Prop := WfI L ∧ ∃ a n c hs rk rh mF vF, IdxP H xb U L (idsL L) a n c hs rk rh mF vF ∧ NmV mF vF
theorem IdxH.fr {H H' : Heap} {xb : Nat} {U S : List Nat} {L : List Lbls} (h : IdxH H xb U L) (hf : Fr S H H') (hd : ∀ k ∈ U, k ∉ S) : IdxH H' xb U L := by
  obtain ⟨hw, a, n, c, hs, rk, rh, mF, vF, h1, h2⟩ := h
  exact ⟨hw, a, n, c, hs, rk, rh, mF, vF, h1.fr hf hd, h2⟩
theorem IdxH.keep {H H' : Heap} {xb : Nat} {U : List Nat} {L : List Lbls} (h : IdxH H xb U L) (hf : Fr [] H H') : IdxH H' xb U L := h.fr hf (by simp)

/-- The reference's. -/
def RefH (H : Heap) (yb : Nat) (U : List Nat) (L : List Lbls) : Prop :=
  ∃ a n c hs, H[yb]? = some (.cells ⟨[.slice a n c]⟩ 68 (0, 0)) ∧ Own encH 23 0 H a n c hs ∧ LLO H U hs L ∧ yb ∈ U ∧ (∀ k ∈ blkL a, k ∈ U) ∧ In H U
theorem RefH.fr {H H' : Heap} {xb : Nat} {U S : List Nat} {L : List Lbls} (h : RefH H xb U L) (hf : Fr S H H') (hd : ∀ k ∈ U, k ∉ S) : RefH H' xb U L := by
  obtain ⟨a, n, c, hs, h1, h2, h3, h8, h10, h11⟩ := h
  exact ⟨a, n, c, hs, hf.get h1 (hd _ h8), own_fr h2 hf (fun k hk => hd k (h10 k hk)), h3.fr hf (fun i x l hx hl k hk => hd k ((h3.2 i x l hx hl).2 k hk)), h8, h10, h11.le hf.size⟩
theorem RefH.keep {H H' : Heap} {xb : Nat} {U : List Nat} {L : List Lbls} (h : RefH H xb U L) (hf : Fr [] H H') : RefH H' xb U L := h.fr hf (by simp)
end Go.Proofs
