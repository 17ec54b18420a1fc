/- A part of a proof: see the last text of this claim. -/
import Derived.Test.YtgjbljhocedpfaaGvMore
import Derived.Sort.OwnSortedInts
import Derived.Shelf.SortM.Plain
import Derived.Shelf.SortM.SortNone
set_option linter.unusedVariables false
open Go Go.GV Go.Proofs Go.Shelf
namespace Go.GV

theorem flatMap_int (xs : List Int) : xs.flatMap encInt.cells = xs.map (Value.int .i64) := by
  induction xs with
  | nil => rfl
  | cons x l ih => rw [List.flatMap_cons, ih]; rfl

/-- slices.Sort at integers, of a slice that one owns. -/
theorem sortI_ok {P : Program} {ρ : Ren} (L : SlLaysM.n5 P ρ) {k : FuncId} (hkf : ρ.f 5 = k) {t : TypeId} {base : Nat} {H : Heap} {a : Option Addr} {n c : Nat} {xs : List Int} {K : Heap → Prop} (ho : Own encInt t base H a n c xs) (hn : n < 4611686018427387904)
    (hk : ∀ H', Own encInt t base H' a n c (xs.mergeSort fun x y => decide (x ≤ y)) → Fr (blkL a) H H' → K H') :
    CallH P k ⟨[.slice a n c]⟩ H fun v H' => v = .tuple ⟨[]⟩ ∧ K H' := by
  subst hkf
  intro E d
  have hl := ho.1
  obtain ⟨_, ⟨rfl, h0, hc0⟩ | ⟨b, cur, rfl, hb, hh, hc, hm, hs, ht⟩⟩ := id ho
  · have := AnyM.slices_Sort_int_none L none c (mkW E H d)
    rw [h0]
    refine this.mono ?_
    rintro e w' ⟨rfl, rfl⟩
    have hx : xs = [] := List.eq_nil_of_length_eq_zero (by omega)
    subst hx
    exact ⟨_, H, d, rfl, rfl, rfl, hk H (by simpa using ho) (Fr.refl _ _)⟩
  · rw [flatMap_int] at ht
    have hb' : (mkW E H d).heap[b]? = some (.cells cur t (0, 0)) := hh
    have hsz : encInt.sz = 1 := rfl
    rw [hsz, Nat.mul_one] at ht hs
    rw [hl] at ht
    have hH : Go.Sort.Holds (Value.int .i64) (mkW E H d) b 0 xs.toArray := holds_of_blockI hb' ht
    have := AnyM.slices_Sort_int L b 0 c xs (mkW E H d) hH (lt_of_get hh) (by omega)
    rw [hl]
    refine this.mono ?_
    rintro e w' ⟨rfl, m, os, rfl⟩
    have hperm := List.mergeSort_perm xs (fun x y => decide (x ≤ y))
    have hlen : (xs.mergeSort fun x y => decide (x ≤ y)).length = xs.length := hperm.length_eq
    generalize hg : (xs.mergeSort fun x y => decide (x ≤ y)) = ys at hk hlen
    refine ⟨_, (Go.Sort.grow (Go.Sort.putRow (Value.int .i64) (Go.Sort.ahead (mkW E H d) m) b 0 ys.toArray) os).heap, ⟨d.1 + m, Nat.le_trans d.2 (Nat.le_add_right _ _)⟩, rfl, rfl, rfl, hk _ ?_ ?_⟩
    · refine ⟨by omega, .inr ⟨b, _, rfl, hb, heap_sortedI _ hb', by omega, hm, by simp [Go.Sort.putCells, hs, hsz], ?_⟩⟩
      rw [flatMap_int, hsz, Nat.mul_one, hl, ← hlen]
      exact take_putCellsI cur ys (by omega)
    · have hgb := grownBy_sortedI (w := mkW E H d) (g := b) (n := m) (os := os) ys.toArray
      exact ⟨hgb.size, fun k hk hn => hgb.block k hk (by simp [blkL] at hn; simpa using hn)⟩
end Go.GV
