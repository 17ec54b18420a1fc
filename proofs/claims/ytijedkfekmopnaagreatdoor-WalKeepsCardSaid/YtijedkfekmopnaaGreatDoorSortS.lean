/- A part of a proof: see the last text of this claim. -/
import Derived.Test.YtijedkfekmopnaaGreatDoorGvStr
import Derived.Sort.OwnSorted
import Derived.Shelf.SortM.Plain
import Derived.Shelf.SortM.SortNone
set_option linter.unusedVariables false
open Go Go.GV Go.Proofs Go.Shelf
namespace Go.GV

theorem flatMap_str (xs : List ByteArray) : xs.flatMap GV.encStr.cells = (xs.map bl).map Go.Proofs.encStr := by
  induction xs with
  | nil => rfl
  | cons x l ih =>
    rw [List.flatMap_cons, ih, List.map_cons, List.map_cons]
    have : Go.Proofs.encStr (bl x) = .string x := by
      show Value.string ⟨(bl x).toArray⟩ = _
      congr 1
    rw [this]; rfl
theorem map_bl_mk (ys : List (List UInt8)) : (ys.map fun l => (⟨l.toArray⟩ : ByteArray)).map bl = ys := by
  rw [List.map_map]
  conv => rhs; rw [← List.map_id ys]
  apply List.map_congr_left
  intro l _
  simp [bl]

theorem sortS_ok {P : Program} {ρ : Ren} (L : SlLaysM.n6 P ρ) {k : FuncId} (hkf : ρ.f 6 = k) {t : TypeId} {base : Nat} {H : Heap} {a : Option Addr} {n c : Nat} {xs : List ByteArray} {K : Heap → Prop} (ho : Own GV.encStr t base H a n c xs) (hn : n < 4611686018427387904)
    (hk : ∀ H' ys, Own GV.encStr t base H' a n c ys → ys.map bl = (xs.map bl).mergeSort (fun x y => decide (x ≤ y)) → Fr (blkL a) H H' → K H') :
    CallH P k ⟨[.slice a n c]⟩ H fun v H' => v = .tuple ⟨[]⟩ ∧ K H' := by
  subst hkf
  intro E d
  have hl := ho.1
  obtain ⟨_, ⟨rfl, h0, hc0⟩ | ⟨b, cur, rfl, hb, hh, hc, hm, hs, ht⟩⟩ := id ho
  · have := AnyM.slices_Sort_string_none L none c (mkW E H d)
    rw [h0]
    refine this.mono ?_
    rintro e w' ⟨rfl, rfl⟩
    have hx : xs = [] := List.eq_nil_of_length_eq_zero (by omega)
    subst hx
    exact ⟨_, H, d, rfl, rfl, rfl, hk H [] ho (by simp) (Fr.refl _ _)⟩
  · rw [flatMap_str] at ht
    have hb' : (mkW E H d).heap[b]? = some (.cells cur t (0, 0)) := hh
    have hsz : GV.encStr.sz = 1 := rfl
    rw [hsz, Nat.mul_one] at ht hs
    rw [hl, ← List.length_map (f := bl)] at ht
    have hH : Go.Sort.Holds Go.Proofs.encStr (mkW E H d) b 0 (xs.map bl).toArray := holds_of_block hb' ht
    have := AnyM.slices_Sort_string L b 0 c (xs.map bl) (mkW E H d) hH (lt_of_get hh) (by rw [List.length_map]; omega)
    rw [List.length_map, ← hl] at this
    refine this.mono ?_
    rintro e w' ⟨rfl, m, os, rfl⟩
    have hperm := List.mergeSort_perm (xs.map bl) (fun x y => decide (x ≤ y))
    have hlen : ((xs.map bl).mergeSort fun x y => decide (x ≤ y)).length = xs.length := by rw [hperm.length_eq, List.length_map]
    generalize hg : ((xs.map bl).mergeSort fun x y => decide (x ≤ y)) = ys at hk hlen
    refine ⟨_, (Go.Sort.grow (Go.Sort.putRow Go.Proofs.encStr (Go.Sort.ahead (mkW E H d) m) b 0 ys.toArray) os).heap, ⟨d.1 + m, Nat.le_trans d.2 (Nat.le_add_right _ _)⟩, rfl, rfl, rfl, hk _ (ys.map fun l => ⟨l.toArray⟩) ?_ (map_bl_mk ys) ?_⟩
    · refine ⟨by rw [List.length_map]; omega, .inr ⟨b, _, rfl, hb, heap_sorted _ hb', by omega, hm, by simp [Go.Sort.putCells, hs, hsz], ?_⟩⟩
      rw [flatMap_str, map_bl_mk, hsz, Nat.mul_one, hl, ← hlen]
      exact take_putCells cur ys (by omega)
    · have hgb := grownBy_sorted (w := mkW E H d) (g := b) (n := m) (os := os) ys.toArray
      exact ⟨hgb.size, fun k hk hn => hgb.block k hk (by simp [blkL] at hn; simpa using hn)⟩
end Go.GV
