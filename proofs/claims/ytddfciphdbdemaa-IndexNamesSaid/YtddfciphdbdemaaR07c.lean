/- A part of a proof: see the last text of this claim. -/
import Derived.Test.YtddfciphdbdemaaR07b
set_option linter.unusedVariables false
set_option maxRecDepth 100000
open Go Go.GV
namespace Go.Proofs

theorem set_len {os N : List ByteArray} {p : ByteArray → Prop} (h : SetS os p) (hN : ∀ s, p s → s ∈ N) : os.length ≤ N.length := nodup_len h.1.nodup fun s hs => hN s ((h.2 s).1 hs)
theorem nameP_mem {L : List Lbls} {s : ByteArray} (h : nameP L s) : s ∈ L.flatMap fun l => l.map (·.1) := by
  obtain ⟨l, hl, v, hm⟩ := h
  exact List.mem_flatMap.2 ⟨l, hl, List.mem_map.2 ⟨_, hm, rfl⟩⟩
theorem nameP_take {L : List Lbls} {k : Nat} {l : Lbls} (h : L[k]? = some l) (s : ByteArray) : nameP (L.take (k + 1)) s ↔ nameP (L.take k) s ∨ ∃ v, (s, v) ∈ l := by
  unfold nameP
  rw [List.take_add_one, h]
  simp only [Option.toList_some, List.mem_append, List.mem_singleton]
  constructor
  · rintro ⟨m, h1 | rfl, h2⟩
    · exact .inl ⟨m, h1, h2⟩
    · exact .inr h2
  · rintro (⟨m, h1, h2⟩ | h2)
    · exact ⟨m, .inl h1, h2⟩
    · exact ⟨l, .inr rfl, h2⟩
theorem rNames_ok {H : Heap} {yb : Nat} {U : List Nat} {L : List Lbls} {K : Option Addr → Nat → Nat → Heap → Prop} (h : RefH H yb U L) (hw : WfI L)
    (hk : ∀ a' n' c' H' ks, Own GV.encStr 9 H.size H' a' n' c' ks → SetS ks (nameP L) → n' ≤ 1000000 → Fr [] H H' → K a' n' c' H') :
    CallH Try.prog fn_ref07_Index_Names ⟨[.pointer (some ⟨yb, 0, none⟩)]⟩ H fun v H' => ∃ a n c, v = .slice a n c ∧ K a n c H' := by
  apply vc_ref07_Index_Names
  obtain ⟨a0, n0, c0, hs, h1, h2, h3, _⟩ := h
  have e : n0 = L.length := by rw [h2.1, h3.1]
  have hb : Blk H ⟨yb, 0, none⟩ [.slice a0 n0 c0] := ⟨yb, _, rfl, h1⟩
  have hNl := names_len hw
  have hlen := hw.len
  intro b H1 hn1
  refine ⟨fun vs H' => match vs with
      | [.slice o p q, .int _ i] => ∃ (k : Nat) (os : List ByteArray), i = k ∧ k ≤ n0 ∧ Own GV.encStr 9 H.size H' o p q os ∧ SetS os (nameP (L.take k)) ∧ Fr [] H H'
      | _ => False,
    fun vs _ => match vs with | [_, .int _ i] => n0 - i.toNat | _ => 0, ⟨0, [], rfl, by omega, Own.made GV.encStr 9 hn1 (Nat.le_refl _), ⟨by unfold RiS; simp, by simp [nameP]⟩, hn1.fr⟩, ?_⟩
  rintro J o p q i H2 ⟨k, os, rfl, hkn, ho, hs2, hf⟩
  have hb2 := hb.keep hf
  refine ⟨_, _, _, hb2.ld0 (by kernel_rfl) rfl, ?_⟩
  refine brB_of (fun h0 => ?_) (fun h0 => ?_)
  · have h0' : k < n0 := by simpa using h0
    have hx1 : hs[k]? = some (hs[k]'(by have := h3.1; omega)) := by simp
    have hl1 : L[k]? = some (L[k]'(by omega)) := by simp
    generalize hs[k]'(by have := h3.1; omega) = hd at hx1
    generalize L[k]'(by omega) = l at hl1
    have hl := (h3.2 _ _ _ hx1 hl1).1
    have hC := hw.chk l (List.mem_of_getElem? hl1)
    have hl8 := hC.1
    have hll := hl.1
    refine ⟨fun vs H' => match vs with
        | [.slice o p q, .int _ i] => ∃ (j : Nat) (os : List ByteArray), i = j ∧ j ≤ l.length ∧ Own GV.encStr 9 H.size H' o p q os ∧ SetS os (fun s => nameP (L.take k) s ∨ ∃ v, (s, v) ∈ l.take j) ∧ Fr [] H H'
        | _ => False,
      fun vs _ => match vs with | [_, .int _ i] => l.length - i.toNat | _ => 0, ⟨0, os, rfl, by omega, ho, hs2.iff fun s => by simp, hf⟩, ?_⟩
    rintro J o p q i H3 ⟨j, os, rfl, hjn, ho, hs3, hf⟩
    have hb3 := hb.keep hf
    refine ⟨_, _, _, hb3.ld0 (by kernel_rfl) rfl, ?_⟩
    refine (h2.sl.keep hf).get rfl hx1 (decide_eq_true (by omega)) fun ad ea hc => ⟨_, _, _, ldH hc, ?_⟩
    refine brB_of (fun h5 => ?_) (fun h5 => ?_)
    · have h5' : j < l.length := by simp at h5; omega
      have hx2 : l[j]? = some (l[j]'h5') := by simp
      generalize l[j]'h5' = x at hx2
      refine ⟨_, _, _, hb3.ld0 (by kernel_rfl) rfl, ?_⟩
      refine (h2.sl.keep hf).get rfl hx1 (decide_eq_true (by omega)) fun ad ea hc => ⟨_, _, _, ldH hc, ?_⟩
      refine (hl.sl.keep hf).get rfl hx2 (decide_eq_true (by omega)) fun ad2 ea2 hc2 => ⟨_, ldN hc2, ?_⟩
      have hlo : os.length ≤ 1600 := by
        refine Nat.le_trans (set_len hs3 fun s hs => nameP_mem (L := L) ?_) hNl
        rcases hs with ⟨m, hm, hv⟩ | ⟨v, hv⟩
        · exact ⟨m, List.mem_of_mem_take hm, hv⟩
        · exact ⟨l, List.mem_of_getElem? hl1, v, List.mem_of_mem_take hv⟩
      refine put_ok ho hf.size (by have := ho.1; omega) hs3.1 fun a' n' c' H4 ys g1 g2 g3 => ?_
      rw [succ64 (by omega)]
      refine ⟨⟨j + 1, ys, rfl, by omega, g1, g2.iff fun s => ?_, hf.keep0 g3⟩, mu_lt h5'⟩
      rw [hs3.2 s, List.take_add_one, hx2]
      simp only [Option.toList_some, List.mem_append, List.mem_singleton]
      constructor
      · rintro ((h | ⟨v, h⟩) | h)
        · exact .inl h
        · exact .inr ⟨v, .inl h⟩
        · exact .inr ⟨x.2, .inr (by rw [h])⟩
      · rintro (h | ⟨v, h | h⟩)
        · exact .inl (.inl h)
        · exact .inl (.inr ⟨v, h⟩)
        · exact .inr (by rw [← h])
    · rw [succ64 (by omega)]
      refine ⟨⟨k + 1, os, rfl, by omega, ho, hs3.iff fun s => ?_, hf⟩, mu_lt h0'⟩
      have e5 : l.take j = l := List.take_of_length_le (by simp at h5; omega)
      rw [e5, nameP_take hl1]
  · rw [List.take_of_length_le (by simp at h0; omega)] at hs2
    have hlo := Nat.le_trans (set_len hs2 fun s hs => nameP_mem hs) hNl
    exact ⟨_, _, _, rfl, hk _ _ _ H2 os ho hs2 (by have := ho.1; omega) hf⟩
theorem getV_mem {l : Lbls} {nm : ByteArray} (h : getV l nm ≠ ⟨#[]⟩) : (nm, getV l nm) ∈ l := by
  by_cases hm : ∃ v, (nm, v) ∈ l
  · unfold getV at h ⊢
    cases hf : l.find? (fun x => decide (x.1 = nm)) with
    | none => rw [hf] at h; exact absurd rfl h
    | some x =>
      have h1 := List.mem_of_find?_eq_some hf
      have h2 : x.1 = nm := by simpa using List.find?_some hf
      show (nm, x.2) ∈ l
      rw [← h2]; exact h1
  · exact absurd (getV_miss fun v hv => hm ⟨v, hv⟩) h
theorem rValues_ok {H : Heap} {yb : Nat} {U : List Nat} {L : List Lbls} {nm : ByteArray} {K : Option Addr → Nat → Nat → Heap → Prop} (h : RefH H yb U L) (hw : WfI L)
    (hk : ∀ a' n' c' H' ks, Own GV.encStr 9 H.size H' a' n' c' ks → SetS ks (valP L nm) → n' ≤ 1000000 → Fr [] H H' → K a' n' c' H') :
    CallH Try.prog fn_ref07_Index_Values ⟨[.pointer (some ⟨yb, 0, none⟩), .string nm]⟩ H fun v H' => ∃ a n c, v = .slice a n c ∧ K a n c H' := by
  apply vc_ref07_Index_Values
  obtain ⟨a0, n0, c0, hs, h1, h2, h3, _⟩ := h
  have e : n0 = L.length := by rw [h2.1, h3.1]
  have hb : Blk H ⟨yb, 0, none⟩ [.slice a0 n0 c0] := ⟨yb, _, rfl, h1⟩
  have hlen := hw.len
  have hsub : ∀ k s, valP (L.take k) nm s → s ∈ L.map fun l => getV l nm := fun k s ⟨l, hl, hm⟩ => by
    have hl := List.mem_of_mem_take hl
    exact List.mem_map.2 ⟨l, hl, getV_hit (hw.chk l hl) hm⟩
  intro b H1 hn1
  refine ⟨fun vs H' => match vs with
      | [.slice o p q, .int _ i] => ∃ (k : Nat) (os : List ByteArray), i = k ∧ k ≤ n0 ∧ Own GV.encStr 9 H.size H' o p q os ∧ SetS os (valP (L.take k) nm) ∧ Fr [] H H'
      | _ => False,
    fun vs _ => match vs with | [_, .int _ i] => n0 - i.toNat | _ => 0, ⟨0, [], rfl, by omega, Own.made GV.encStr 9 hn1 (Nat.le_refl _), ⟨by unfold RiS; simp, by simp [valP]⟩, hn1.fr⟩, ?_⟩
  rintro J o p q i H2 ⟨k, os, rfl, hkn, ho, hs2, hf⟩
  have hb2 := hb.keep hf
  refine ⟨_, _, _, hb2.ld0 (by kernel_rfl) rfl, ?_⟩
  have hlo := set_len hs2 (hsub k)
  rw [List.length_map] at hlo
  refine brB_of (fun h0 => ?_) (fun h0 => ?_)
  · have h0' : k < n0 := by simpa using h0
    have hx1 : hs[k]? = some (hs[k]'(by have := h3.1; omega)) := by simp
    have hl1 : L[k]? = some (L[k]'(by omega)) := by simp
    generalize hs[k]'(by have := h3.1; omega) = hd at hx1
    generalize L[k]'(by omega) = l at hl1
    have hl := (h3.2 _ _ _ hx1 hl1).1
    have hC := hw.chk l (List.mem_of_getElem? hl1)
    have hl8 := hC.1
    have hll := hl.1
    have hstep : ∀ s, valP (L.take (k + 1)) nm s ↔ valP (L.take k) nm s ∨ (nm, s) ∈ l := fun s => by
      unfold valP
      rw [List.take_add_one, hl1]
      simp only [Option.toList_some, List.mem_append, List.mem_singleton]
      constructor
      · rintro ⟨m, h1 | rfl, h2⟩
        · exact .inl ⟨m, h1, h2⟩
        · exact .inr h2
      · rintro (⟨m, h1, h2⟩ | h2)
        · exact ⟨m, .inl h1, h2⟩
        · exact ⟨l, .inr rfl, h2⟩
    refine ⟨_, _, _, hb2.ld0 (by kernel_rfl) rfl, ?_⟩
    refine (h2.sl.keep hf).get rfl hx1 (decide_eq_true (by omega)) fun ad ea hc => ⟨_, _, _, ldH hc, ?_⟩
    refine rGet_ok (hl.sl.keep hf) (by omega) ?_
    rw [beqS]
    refine brB_of (fun h5 => ?_) (fun h5 => ?_)
    · have h5 : getV l nm ≠ ⟨#[]⟩ := by simpa using h5
      refine put_ok ho hf.size (by have := ho.1; omega) hs2.1 fun a' n' c' H4 ys g1 g2 g3 => ?_
      rw [succ64 (by omega)]
      refine ⟨⟨k + 1, ys, rfl, by omega, g1, g2.iff fun s => ?_, hf.keep0 g3⟩, mu_lt h0'⟩
      rw [hs2.2 s, hstep]
      constructor
      · rintro (h | rfl)
        · exact .inl h
        · exact .inr (getV_mem h5)
      · rintro (h | h)
        · exact .inl h
        · exact .inr (getV_hit hC h).symm
    · have h5 : getV l nm = ⟨#[]⟩ := by simpa using h5
      rw [succ64 (by omega)]
      refine ⟨⟨k + 1, os, rfl, by omega, ho, hs2.iff fun s => ?_, hf⟩, mu_lt h0'⟩
      rw [hstep]
      refine ⟨.inl, fun h => h.elim id fun h => ?_⟩
      have h6 := getV_hit hC h
      have h7 := (hC.2.1 _ h).2.2
      rw [h5] at h6
      subst h6
      simp [ByteArray.size] at h7
  · rw [List.take_of_length_le (by simp at h0; omega)] at hs2
    exact ⟨_, _, _, rfl, hk _ _ _ H2 os ho hs2 (by have := ho.1; omega) hf⟩

theorem sl_cell {α : Type} {E : Enc α} {H : Heap} {a : Option Addr} {n c : Nat} {xs : List α} (h : Sl E H a n c xs) {k : Nat} {x : α} (hx : xs[k]? = some x) {ad : Addr} (ha : a = some ad) : CellsAt H (ad.add ((k : Int).toNat * E.sz)) (E.cells x) := by
  obtain ⟨bb, off, e, hc⟩ := h.arr.at hx
  rw [ha] at e
  cases e
  intro j v hv
  rw [Int.toNat_natCast, add_at, add_at]
  exact hc j v hv
theorem NamesL_ok {aa : Option Addr} {an ac : Nat} {hs : List Hd} {L : List Lbls} {nm : ByteArray} {H : Heap} (ha : Sl encH H aa an ac hs) (hl : LLs H hs L) :
    CallH Try.prog fn_law07_IndexNames ⟨[.slice aa an ac, .string nm]⟩ H fun v H' => v = .bool true ∧ Fr [] H H' := by
  apply vc_law07_IndexNames
  refine ⟨fun _ H' => H' = H ∧ Light L, ?_, ?_⟩
  · exact heavy_ok ha hl ⟨rfl, Fr.refl _ _⟩ fun hL => brB_of (fun h => by cases h) (fun _ => brB_of (fun _ => ⟨rfl, Fr.refl _ _⟩) (fun _ => ⟨rfl, hL⟩))
  rintro J H1 ⟨rfl, hL⟩
  refine made_ok ha hl hL fun H2 xb yb U V hB => ?_
  refine brB_of (fun h => by cases h) (fun _ => ?_)
  have hW := hB.idx.1
  generalize madeL L = M at hB hW
  refine rNames_ok hB.ref hW fun a n c H3 ks hk1 hk2 hk3 hf3 => ?_
  have hB3 := hB.keep hf3
  -- values, here and there
  have vals : ∀ {nm : ByteArray} {H' : Heap} {X : Heap → Prop}, Both H1 H' xb yb U V M → (∀ H'', Both H1 H'' xb yb U V M → Fr [] H' H'' → X H'') → CallH Try.prog 34 ⟨[.pointer (some ⟨xb, 0, none⟩), .string nm]⟩ H' fun v H'_1 => ∃ a n c, v = .slice a n c ∧ CallH Try.prog 35 ⟨[.pointer (some ⟨yb, 0, none⟩), .string nm]⟩ H'_1 fun v H'_2 => ∃ a_4 n_2 c_1, v = .slice a_4 n_2 c_1 ∧ CallH Try.prog 33 ⟨[.slice a n c, .slice a_4 n_2 c_1]⟩ H'_2 fun v H'_3 => ∃ b, v = .bool b ∧ (b = true ∧ X H'_3) := fun {nm H' X} hB hX => by
    refine Values_ok hB.idx fun a1 n1 c1 H4 vs g1 g2 g3 hf4 => ?_
    have hB4 := hB.keep hf4
    refine rValues_ok hB4.ref hW fun a2 n2 c2 H5 ws g4 g5 g6 hf5 => ?_
    refine rSameS_ok (g1.keep hf5).sl g4.sl (by omega) ?_
    rw [decide_eq_true (g2.eq g5)]
    exact ⟨rfl, hX H5 (hB4.keep hf5) (hf4.keep0 hf5)⟩
  refine ⟨fun vs H' => match vs with
      | [.int _ i] => ∃ k : Nat, i = k ∧ k ≤ n ∧ Both H1 H' xb yb U V M ∧ Fr [] H3 H'
      | _ => False,
    fun vs _ => match vs with | [.int _ i] => n - i.toNat | _ => 0, ⟨0, rfl, by omega, hB3, Fr.refl _ _⟩, ?_⟩
  rintro J i H4 ⟨k, rfl, hkn, hB4, hf4⟩
  have hkl := hk1.1
  refine brB_of (fun h0 => ?_) (fun h0 => ?_)
  · have h0' : k < n := by simpa using h0
    have hx1 : ks[k]? = some (ks[k]'(by omega)) := by simp
    generalize ks[k]'(by omega) = x at hx1
    refine (hk1.sl.keep hf4).get rfl hx1 (decide_eq_true (by omega)) fun ad ea hc => ⟨_, ldS9 hc, ?_⟩
    refine (hk1.sl.keep hf4).get rfl hx1 (decide_eq_true (by omega)) fun ad2 ea2 hc2 => ⟨_, ldS9 hc2, ?_⟩
    refine Values_ok hB4.idx fun a1 n1 c1 H5 vs g1 g2 g3 hf5 => ?_
    have hB5 := hB4.keep hf5
    have hld : Ld Try.prog 9 H5 (ad2.add ((k : Int).toNat * 1)) (.string x) := ldS9 (by
      exact sl_cell (hk1.sl.keep (hf4.keep0 hf5)) hx1 ea2)
    refine ⟨hld, rValues_ok hB5.ref hW fun a2 n2 c2 H6 ws g4 g5 g6 hf6 => ?_⟩
    refine rSameS_ok (g1.keep hf6).sl g4.sl (by omega) ?_
    rw [decide_eq_true (g2.eq g5)]
    refine brB_of (fun h => by cases h) (fun _ => ?_)
    rw [succ64 (by omega)]
    exact ⟨⟨k + 1, rfl, by omega, hB5.keep hf6, (hf4.keep0 hf5).keep0 hf6⟩, mu_lt h0'⟩
  · refine odd_ok hB4.idx fun a9 n9 c9 H5 hf5 => ?_
    have hB5 := hB4.keep hf5
    refine Names_ok hB5.idx fun a1 n1 c1 H6 vs g1 g2 g3 hf6 => ?_
    have hB6 := hB5.keep hf6
    refine rSameS_ok g1.sl (((hk1.keep hf4).keep hf5).keep hf6).sl (by omega) ?_
    rw [decide_eq_true (g2.eq hk2)]
    refine brB_of (fun _ => ?_) (fun h => by cases h)
    refine Values_ok hB6.idx fun a1 n1 c1 H7 vs g1 g2 g3 hf7 => ?_
    have hB7 := hB6.keep hf7
    refine rValues_ok hB7.ref hW fun a2 n2 c2 H8 ws g4 g5 g6 hf8 => ?_
    refine rSameS_ok (g1.keep hf8).sl g4.sl (by omega) ?_
    rw [decide_eq_true (g2.eq g5)]
    exact brB_of (fun _ => ⟨rfl, (hB7.keep hf8).fr⟩) (fun h => by cases h)
end Go.Proofs
