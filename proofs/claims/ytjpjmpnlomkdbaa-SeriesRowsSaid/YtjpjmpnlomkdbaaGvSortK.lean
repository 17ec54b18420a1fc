/- A part of a proof: see the last text of this claim. -/
import Derived.Test.YtjpjmpnlomkdbaaGvMore
import Derived.Shelf.SlSortCmp.WholeK
import Derived.Shelf.SlSortCmp.NoneTotal
set_option linter.unusedVariables false
open Go Go.GV Go.Proofs Go.Shelf Go.Sort
namespace Go.GV

section
variable {α : Type} [Inhabited α]
theorem flatK_flat (E : Enc α) (d : Array α) : (flatK E.cells E.sz d).toList = d.toList.flatMap E.cells := by
  apply List.ext_getElem?
  intro t
  have hp := E.pos
  by_cases ht : t < d.size * E.sz
  · have h1 : t / E.sz < d.size := by
      rw [Nat.div_lt_iff_lt_mul hp]; exact ht
    have h2 : t % E.sz < E.sz := Nat.mod_lt _ hp
    have hx : d.toList[t / E.sz]? = some d[t / E.sz]! := by
      rw [Array.getElem?_toList, getElem!_pos d _ h1]; simp [h1]
    have hv : (E.cells d[t / E.sz]!)[t % E.sz]? = some (E.cells d[t / E.sz]!)[t % E.sz]! := by
      have : t % E.sz < (E.cells d[t / E.sz]!).length := by rw [E.len]; exact h2
      rw [getElem!_pos (E.cells d[t / E.sz]!) (t % E.sz) this]; simp [this]
    have h3 := flatMap_get E d.toList (t / E.sz) _ hx (t % E.sz) _ hv
    rw [Nat.mul_comm, Nat.div_add_mod] at h3
    rw [h3, ← get_flatK E.cells E.sz d t ht]
    have h4 : t < (flatK E.cells E.sz d).size := by rw [size_flatK]; exact ht
    rw [Array.getElem?_toList, getElem!_pos (flatK E.cells E.sz d) t h4]
    simp
  · rw [List.getElem?_eq_none (by rw [Array.length_toList, size_flatK]; omega), List.getElem?_eq_none (by rw [flatMap_len, Array.length_toList]; omega)]

/-- A world that has gone on with new blocks and draws. -/
theorem grown_of {E : Env} {H : Heap} {d : Dr E} (W : World) (hW : W.heap.size ≤ H.size) (hf : Fr [] W.heap H) (h1 : E.tape = W.tape) (h2 : E.os = W.os) (h3 : E.output = W.output) (h4 : W.drawn ≤ d.1) : ∃ q os', mkW E H d = grow (W.drewN q) os' := by
  refine ⟨d.1 - W.drawn, H.extract W.heap.size H.size, ?_⟩
  have hH : H = W.heap ++ H.extract W.heap.size H.size := by
    apply Array.ext_getElem?
    intro i
    by_cases hi : i < W.heap.size
    · rw [Array.getElem?_append_left hi]
      exact hf.block i hi (by simp)
    · rw [Array.getElem?_append_right (by omega), Array.getElem?_extract]
      by_cases h5 : i < H.size
      · rw [if_pos (by omega)]
        congr 1; omega
      · rw [if_neg (by omega), Array.getElem?_eq_none (by omega)]
  unfold mkW grow World.drewN
  have hd : W.drawn + (d.1 - W.drawn) = d.1 := by omega
  simp only [hd, ← hH, h1, h2, h3]

/-- slices.SortFunc, of a slice that one owns, by a comparison that lays blocks and no more. -/
theorem sortK_ok {P : Program} {ρ : Ren} (L : SlLaysF0.n6 P ρ) {kf g : FuncId} (hkf : ρ.f 6 = kf) {E : Enc α} {t : TypeId} (ht : ρ.t 24 = t) (aE : isAggT P t = true) (aU : ∃ d, P.underlying t = some d) (hsz : szOf P t = E.sz) (hinf : (P.info? t).isSome = true)
    (cf : α → α → Int) (hO : SWO (ltOf cf)) (eg : ∀ args w, (callFunc g args).run P w = .ok (.enter g args) w)
    (hc : ∀ (x y : α) (H : Heap) (K : Int → Heap → Prop), (∀ H', Fr [] H H' → K (cf x y) H') → CallH P g ⟨[.agg ⟨E.cells x⟩, .agg ⟨E.cells y⟩]⟩ H fun v H' => ∃ n, v = .int .i64 n ∧ K n H')
    {base : Nat} {H : Heap} {a : Option Addr} {n c : Nat} {xs : List α} {K : Heap → Prop} (ho : Own E t base H a n c xs) (hn : n < 4611686018427387904)
    (hk : ∀ H' ys, Own E t base H' a n c ys → ys.Perm xs → ys.Pairwise (fun x y => ¬ cf y x < 0) → Fr (blkL a) H H' → K H') :
    CallH P kf ⟨[.slice a n c, .func (.func g) #[] #[]]⟩ H fun v H' => v = .tuple ⟨[]⟩ ∧ K H' := by
  subst hkf
  intro Ev d
  have hl := ho.1
  obtain ⟨_, ⟨rfl, h0, hc0⟩ | ⟨b, cur, rfl, hb, hh, hcc, hm, hs, htk⟩⟩ := id ho
  · have := AnyF.slices_SortFunc_none L none c (.func (.func g) #[] #[]) (mkW Ev H d)
    rw [h0]
    refine this.mono ?_
    rintro e w' ⟨rfl, rfl⟩
    have hx : xs = [] := List.eq_nil_of_length_eq_zero (by omega)
    subst hx
    exact ⟨_, H, d, rfl, rfl, rfl, hk H [] (by simpa using ho) (List.Perm.refl _) List.Pairwise.nil (Fr.refl _ _)⟩
  · have hb' : (mkW Ev H d).heap[b]? = some (.cells cur t (0, 0)) := hh
    obtain ⟨du, hu⟩ := aU
    have hflat : (flatK E.cells E.sz xs.toArray).toList = xs.flatMap E.cells := by rw [flatK_flat]
    have hfs : (flatK E.cells E.sz xs.toArray).size = n * E.sz := by rw [size_flatK, hl]; simp
    have hncur : n * E.sz ≤ cur.size := by rw [hs]; exact Nat.mul_le_mul_right _ hcc
    have hH : HoldsK E.cells E.sz (mkW Ev H d) b 0 xs.toArray := by
      intro j hj
      rw [hfs] at hj
      refine ⟨?_, by simp [World.frozen?, hb']⟩
      have h1 : (cur.toList.take (n * E.sz))[j]? = (flatK E.cells E.sz xs.toArray).toList[j]? := by rw [htk, hflat]
      rw [List.getElem?_take_of_lt hj] at h1
      simp only [World.cell?, hb', Nat.zero_add]
      simp only [Option.isSome_none, Bool.false_eq_true, if_false]
      rw [← Array.getElem?_toList, h1, Array.getElem?_toList]
      have : j < (flatK E.cells E.sz xs.toArray).size := by rw [hfs]; exact hj
      rw [getElem!_pos (flatK E.cells E.sz xs.toArray) j this]
      simp
    have hcmp : CmpLays P g #[] E.cells E.sz cf b 0 xs.toArray.size (mkW Ev H d) := by
      intro m os dk hdk x y
      generalize hWg : sortWorldK E.cells E.sz (mkW Ev H d) b 0 m dk os = W
      have hcall := hc x y W.heap (fun r H' => r = cf x y ∧ Fr [] W.heap H') (fun H' hf => ⟨rfl, hf⟩) ⟨W.tape, W.os, W.output, W.drawn⟩ ⟨W.drawn, Nat.le_refl _⟩
      rw [← mkW_eta W] at hcall
      refine hcall.mono ?_
      rintro e w' ⟨v, H', d', rfl, rfl, r, rfl, rfl, hf⟩
      exact ⟨rfl, grown_of W hf.size hf rfl rfl rfl d'.2⟩
    have hrun := AnyQ.slices_SortFunc L E.sz (fun w => by rw [ht]; rw [run_isAgg hu]; rw [aE]) (fun w => by
      rw [ht]
      cases hi : P.info? t with
      | none => rw [hi] at hinf; cases hinf
      | some i => rw [sizeOf_run hi]; congr 1; simpa [szOf, hi] using hsz) E.cells E.len E.one cf hO g #[] b 0 c xs.toArray (mkW Ev H d) eg hcmp hH (lt_of_get hh) (by simpa using by omega)
    have hsize : xs.toArray.size = n := by simp [hl]
    rw [hsize] at hrun
    refine hrun.mono ?_
    rintro e w' ⟨rfl, d', m, os, hperm, hsorted, rfl⟩
    obtain ⟨hp1, _, hp3⟩ := hperm
    have hd's : d'.size = n := by rw [hp1]; simp [hl]
    have hpm : d'.toList.Perm xs := by
      have e1 : d'.extract 0 n = d' := by rw [← hd's]; simp
      have e2 : xs.toArray.extract 0 n = xs.toArray := by rw [← hsize]; simp
      rw [e1, e2] at hp3
      simpa using hp3
    have hflat' : (flatK E.cells E.sz d').toList = d'.toList.flatMap E.cells := flatK_flat E d'
    have hfs' : (flatK E.cells E.sz d').size = n * E.sz := by rw [size_flatK, hd's]
    have hblt : b < H.size := lt_of_get hh
    refine ⟨_, (sortWorldK E.cells E.sz (mkW Ev H d) b 0 m d' os).heap, ⟨d.1 + m, Nat.le_trans d.2 (Nat.le_add_right _ _)⟩, rfl, rfl, rfl, hk _ d'.toList ?_ hpm ?_ ?_⟩
    · refine ⟨by rw [Array.length_toList, hd's], .inr ⟨b, putCells id 0 (flatK E.cells E.sz d') cur, rfl, hb, ?_, hcc, hm, by simp [putCells, hs], ?_⟩⟩
      · show (grow (putRow id (Sort.ahead (mkW Ev H d) m) b 0 (flatK E.cells E.sz d')) os).heap[b]? = _
        have hh' : H[b]? = some (.cells cur t (0, 0)) := hh
        simp only [grow, putRow, mapBlock, Sort.ahead, mkW]
        rw [Array.getElem?_append_left (by simpa using hblt), Array.getElem?_modify]
        simp [hh', onCells]
      · rw [← hflat']
        apply List.ext_getElem?
        intro j
        by_cases hj : j < n * E.sz
        · rw [List.getElem?_take_of_lt hj, Array.getElem?_toList, Array.getElem?_toList]
          have h5 : j < (flatK E.cells E.sz d').size := by rw [hfs']; exact hj
          have h6 : j < cur.size := by omega
          simp only [putCells, Array.getElem?_mapIdx, Nat.zero_add, Nat.zero_le, true_and, Nat.sub_zero]
          rw [Array.getElem?_eq_getElem h6]
          simp only [Option.map_some, h5, if_true, id]
          rw [getElem!_pos (flatK E.cells E.sz d') j h5, Array.getElem?_eq_getElem h5]
        · rw [List.getElem?_take_eq_none (by omega), List.getElem?_eq_none (by rw [Array.length_toList, hfs']; omega)]
    · rw [List.pairwise_iff_getElem]
      intro i j h1 h2 hij
      have := hsorted i j (Nat.zero_le _) hij (by rw [← hd's]; simpa using h2)
      have e1 : d'[i]! = d'.toList[i] := by rw [getElem!_pos d' i (by simpa using h1)]; simp
      have e2 : d'[j]! = d'.toList[j] := by rw [getElem!_pos d' j (by simpa using h2)]; simp
      rw [e1, e2] at this
      simpa [ltOf] using this
    · refine ⟨?_, fun k hk hn => ?_⟩
      · show H.size ≤ (grow (putRow id (Sort.ahead (mkW Ev H d) m) b 0 (flatK E.cells E.sz d')) os).heap.size
        simp [grow, putRow, mapBlock, Sort.ahead, mkW]
      · show (grow (putRow id (Sort.ahead (mkW Ev H d) m) b 0 (flatK E.cells E.sz d')) os).heap[k]? = _
        have hkb : b ≠ k := by simp [blkL] at hn; exact fun e => hn e.symm
        simp only [grow, putRow, mapBlock, Sort.ahead, mkW]
        rw [Array.getElem?_append_left (by simpa using hk), Array.getElem?_modify]
        simp [hkb]
end
end Go.GV
