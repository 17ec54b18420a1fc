/- A part of a proof: see the last text of this claim. -/
import Derived.Test.YtijedkfekmopnaaGreatDoorGvLib
import Derived.Laws.MakeOwn
import Derived.Laws.OwnMore
set_option linter.unusedVariables false
open Go Go.GV
namespace Go.GV

theorem Arr.cut {α : Type} {E : Enc α} {H : Heap} {a : Option Addr} {xs : List α} (h : Arr E H a xs) (k m : Nat) : Arr E H (a.map (·.add (k * E.sz))) ((xs.take m).drop k) := by
  rcases h with rfl | ⟨b, off, rfl, h⟩
  · exact .inl (by simp)
  · refine .inr ⟨b, off + k * E.sz, by simp [add_at], fun i x hx j v hv => ?_⟩
    rw [List.getElem?_drop, List.getElem?_take] at hx
    split at hx
    · have := h (k + i) x hx j v hv
      rw [Nat.add_mul] at this
      rw [show off + k * E.sz + i * E.sz + j = off + (k * E.sz + i * E.sz) + j by omega]
      exact this
    · cases hx
theorem Sl.cut {α : Type} {E : Enc α} {H : Heap} {a : Option Addr} {n c : Nat} {xs : List α} (h : Sl E H a n c xs) {k m : Nat} (hk : k ≤ m) (hm : m ≤ n) : Sl E H (slA c k E.sz a) (m - k) (c - k) ((xs.take m).drop k) := by
  have hl := h.len
  have hc := h.cap
  refine ⟨by simp; omega, by omega, ?_⟩
  rw [slA_eq]
  split
  · refine .inl (List.drop_eq_nil_of_le (by simp; omega))
  · exact h.arr.cut k m
theorem Sl.drop {α : Type} {E : Enc α} {H : Heap} {a : Option Addr} {n c : Nat} {xs : List α} (h : Sl E H a n c xs) {k : Nat} (hk : k ≤ n) : Sl E H (slA c k E.sz a) (n - k) (c - k) (xs.drop k) := by
  have := h.cut hk (Nat.le_refl n)
  rwa [List.take_of_length_le (by have := h.len; omega)] at this
theorem Sl.take {α : Type} {E : Enc α} {H : Heap} {a : Option Addr} {n c : Nat} {xs : List α} (h : Sl E H a n c xs) {m : Nat} (hm : m ≤ n) : Sl E H a m c (xs.take m) := by
  have := h.cut (Nat.zero_le m) hm
  simpa [slA] using this
theorem Sl.zero {α : Type} {E : Enc α} {H : Heap} {a : Option Addr} {c : Nat} : Sl E H a 0 c ([] : List α) := ⟨rfl, Nat.zero_le _, .inl rfl⟩
theorem Sl.head {α : Type} {E : Enc α} {H : Heap} {a : Option Addr} {n c : Nat} {x : α} {xs : List α} (h : Sl E H a n c (x :: xs)) {b : Bool} (hb : b = true) {X : Addr → Prop}
    (hk : ∀ ad, a = some ad → CellsAt H ad (E.cells x) → X ad) : exSome a fun ad => chk b (X ad) := by
  obtain ⟨bb, off, rfl, hc⟩ := h.arr.at (i := 0) rfl
  subst hb
  refine exSome_of rfl (chk_true rfl ?_)
  refine hk _ rfl fun j v hv => ?_
  rw [add_at]
  simpa using hc j v hv
theorem Own.take {α : Type} {E : Enc α} {t : TypeId} {base : Nat} {H : Heap} {a : Option Addr} {n c : Nat} {xs : List α} (h : Own E t base H a n c xs) {m : Nat} (hm : m ≤ n) : Own E t base H a m c (xs.take m) := by
  obtain ⟨hl, h⟩ := h
  refine ⟨by simp; omega, ?_⟩
  rcases h with ⟨rfl, rfl, rfl⟩ | ⟨b, cur, rfl, hb, hh, hc, hm', hs, ht⟩
  · exact .inl ⟨rfl, by omega, rfl⟩
  · refine .inr ⟨b, cur, rfl, hb, hh, by omega, hm', hs, ?_⟩
    have e : (m * E.sz) ≤ n * E.sz := Nat.mul_le_mul_right _ hm
    have : cur.toList.take (m * E.sz) = (xs.flatMap E.cells).take (m * E.sz) := by rw [← ht, List.take_take, Nat.min_eq_left e]
    rw [this]
    clear this ht
    induction xs generalizing m n with
    | nil => simp
    | cons x l ih =>
      cases m with
      | zero => simp
      | succ m =>
        simp only [List.flatMap_cons, List.take_succ_cons, Nat.add_mul, Nat.one_mul]
        rw [List.take_append, E.len, List.take_of_length_le (by rw [E.len]; omega)]
        congr 1
        rw [show m * E.sz + E.sz - E.sz = m * E.sz by omega]
        simp only [List.length_cons] at hl
        exact ih (n := n - 1) (m := m) (by omega) (by omega) (by omega) (Nat.mul_le_mul_right _ (by omega))
theorem Own.lt {α : Type} {E : Enc α} {t : TypeId} {base : Nat} {H : Heap} {a : Option Addr} {n c : Nat} {xs : List α} (h : Own E t base H a n c xs) : ∀ ad, a = some ad → base ≤ ad.block ∧ ad.block < H.size := fun ad e => h.ge ad.block (by simp [blkL, e])
theorem ap_own {α : Type} {E : Enc α} {P : Program} {ts ty t : TypeId} {bytes : Nat} {H0 H : Heap} {a : Option Addr} {n c : Nat} {xs ys : List α} {a2 : Option Addr} {m c2 : Nat} {K : Option Addr → Nat → Nat → Heap → Prop}
    (hts : sliceB P ts t = true) (ht : elemB P t E.sz bytes = true) (ho : Own E t H0.size H a n c xs) (hf : Fr [] H0 H) (hs : Sl E H a2 m c2 ys) (hsz : (n + m) * bytes ≤ 140737488355328)
    (hk : ∀ a' n' c' H', Own E t H0.size H' a' n' c' (xs ++ ys) → Fr [] H0 H' → Fr (blkL a) H H' → K a' n' c' H') :
    SemWp P (Builtin.append_ ⟨[ts, ts]⟩ ty ⟨[.slice a n c, .slice a2 m c2]⟩) H fun v H' => ∃ a n c, v = .slice a n c ∧ K a n c H' :=
  ap_raw hts ht ho hs hf.size hsz fun a' n' c' H' h1 h2 => hk a' n' c' H' h1 (hf.keep h2 fun k hk => (ho.ge k hk).1) h2
theorem ap_one {α : Type} {E : Enc α} {P : Program} {ts ty t t' : TypeId} {bytes : Nat} {H0 H : Heap} {a : Option Addr} {n c : Nat} {xs : List α} (x : α) {vs : List Value} {K : Nat → Option Addr → Nat → Nat → Heap → Prop}
    (hts : sliceB P ts t = true) (ht : elemB P t E.sz bytes = true) (ho : Own E t H0.size H a n c xs) (hf : Fr [] H0 H) (hv : vs = E.cells x) (hsz : (n + 1) * bytes ≤ 140737488355328)
    (hk : ∀ b a' n' c' H', Own E t H0.size H' a' n' c' (xs ++ [x]) → Fr [] H0 H' → Fr (blkL a) H H' → K b a' n' c' H') :
    ∀ b H1, New H b (.cells ⟨vs⟩ t') H1 → SemWp P (Builtin.append_ ⟨[ts, ts]⟩ ty ⟨[.slice a n c, .slice (some ⟨b, 0, none⟩) 1 1]⟩) H1 fun v H' => ∃ a n c, v = .slice a n c ∧ K b a n c H' := fun b H1 hn =>
  ap_own hts ht (ho.keep hn.fr) (hf.keep0 hn.fr) (sl_one E x hn hv) hsz fun a' n' c' H' h1 h2 h3 => hk b a' n' c' H' h1 h2 (hn.fr.trans' h3 (by simp) (fun k hk _ => hk))

theorem mk_own {α : Type} {E : Enc α} {P : Program} {ts t : TypeId} {bytes : Nat} {H : Heap} {c : Int} {kl kc : IntKind} {K : Option Addr → Nat → Nat → Heap → Prop}
    (hts : sliceB P ts t = true) (ht : elemB P t E.sz bytes = true) (h0 : 0 ≤ c) (hsz : c.toNat * bytes ≤ 140737488355328)
    (hk : ∀ b H', Own E t H.size H' (some ⟨b, 0, none⟩) 0 c.toNat ([] : List α) → Fr [] H H' → K (some ⟨b, 0, none⟩) 0 c.toNat H') :
    SemWp P (Instr.makeSlice ts (.int kl 0) (.int kc c)) H fun v H' => ∃ a n c, v = .slice a n c ∧ K a n c H' := by
  intro Ev d
  obtain ⟨i, z, hi, hz, h1, h2, h3, h4, h5⟩ := elemB_out ht
  have hu := sliceB_out hts
  obtain ⟨cn, rfl⟩ : ∃ cn : Nat, c = cn := ⟨c.toNat, by omega⟩
  simp only [Int.toNat_natCast] at hsz hk
  have hcb : cn ≤ cn * bytes := Nat.le_mul_of_pos_right _ h5
  have hr := run_make (P := P) (mkW Ev H d) ts t i z hu hi hz kl kc 0 cn (Int.le_refl _) (by omega) (by
    rw [h4, Int.mul_comm, ← Int.natCast_mul]; omega) (by omega)
  refine ⟨_, _, d, hr, _, _, _, rfl, hk H.size (H.push (.cells (madeCells z.cells (cn * i.size)) t)) ?_ ?_⟩
  · exact ⟨rfl, .inr ⟨H.size, madeCells z.cells (cn * i.size), rfl, Nat.le_refl _, by simp, Nat.zero_le _, by simp only [maxLen]; omega, by rw [size_madeCells, h1], by simp⟩⟩
  · exact ⟨by simp, fun k hk _ => by simp [Array.getElem?_push]; omega⟩

theorem addr_add0 (ad : Addr) : ad.add 0 = ad := by cases ad; rfl
theorem Blk.ldK {P : Program} {t : TypeId} {H : Heap} {b j : Nat} {vs : List Value} {v : Value} (ht : aggB P t = false) (h : Blk H ⟨b, 0, none⟩ vs) (hv : vs[j]? = some v) : Ld P t H ⟨b, j, none⟩ v := by
  obtain ⟨b', te, e, hb⟩ := h
  cases e
  exact ld1_blk ht hb hv
theorem Blk.ldAK {P : Program} {t : TypeId} {H : Heap} {b j : Nat} {vs us : List Value} (ht : isAggT P t = true) (hs : szOf P t = us.length) (h : Blk H ⟨b, 0, none⟩ vs) (hv : (vs.drop j).take us.length = us) : Ld P t H ⟨b, j, none⟩ (.agg ⟨us⟩) := by
  obtain ⟨b', te, e, hb⟩ := h
  cases e
  exact ldA_blk ht hs hb hv

theorem ent_born {κ : Type} {ck : Nat} {L : List (Ent κ)} (hw : WfL ck L) {x y : Ent κ} (hx : x ∈ L) (hy : y ∈ L) (e : x.2.2 = y.2.2) : x = y := by
  have hb := hw.born
  clear hw
  induction L with
  | nil => cases hx
  | cons z l ih =>
    simp only [List.map_cons, List.nodup_cons] at hb
    rcases List.mem_cons.1 hx with h1 | h1 <;> rcases List.mem_cons.1 hy with h2 | h2
    · rw [h1, h2]
    · exact absurd (by rw [← h1, e]; exact List.mem_map_of_mem (f := fun x : Ent κ => x.2.2) h2) hb.1
    · exact absurd (by rw [← h2, ← e]; exact List.mem_map_of_mem (f := fun x : Ent κ => x.2.2) h1) hb.1
    · exact ih h1 h2 hb.2
theorem ent_key {κ : Type} {ck : Nat} {L : List (Ent κ)} (hw : WfL ck L) {x y : Ent κ} (hx : x ∈ L) (hy : y ∈ L) (e : x.1 = y.1) : x = y := by
  have hb := hw.keys
  clear hw
  induction L with
  | nil => cases hx
  | cons z l ih =>
    simp only [List.map_cons, List.nodup_cons] at hb
    rcases List.mem_cons.1 hx with h1 | h1 <;> rcases List.mem_cons.1 hy with h2 | h2
    · rw [h1, h2]
    · exact absurd (by rw [← h1, e]; exact List.mem_map_of_mem (f := fun x : Ent κ => x.1) h2) hb.1
    · exact absurd (by rw [← h2, ← e]; exact List.mem_map_of_mem (f := fun x : Ent κ => x.1) h1) hb.1
    · exact ih h1 h2 hb.2

theorem made_one (u : Value) (n : Nat) : (madeCells #[u] n).toList = List.replicate n u := by
  apply List.ext_getElem?
  intro i
  by_cases h : i < n
  · simp [madeCells, h, Nat.mod_one]
  · simp [madeCells, h]
theorem flatMap_rep {α : Type} (E : Enc α) {z0 : α} {u : Value} (h : E.cells z0 = [u]) : ∀ n : Nat, (List.replicate n z0).flatMap E.cells = List.replicate n u
  | 0 => rfl
  | n + 1 => by rw [List.replicate_succ, List.flatMap_cons, flatMap_rep E h n, h]; rfl
theorem mk_full {α : Type} {E : Enc α} {P : Program} {ts t : TypeId} {bytes n : Nat} {u : Value} (z0 : α) {H : Heap} {ni : Int} {kl kc : IntKind} {K : Option Addr → Nat → Nat → Heap → Prop}
    (hts : sliceB P ts t = true) (ht : elemB P t E.sz bytes = true) (hz : zeroOf P t = some u) (hu : u.cells = #[u]) (hc : E.cells z0 = [u]) (hni : ni = n) (hsz : n * bytes ≤ 140737488355328)
    (hk : ∀ b H', H.size ≤ b → Own E t H.size H' (some ⟨b, 0, none⟩) n n (List.replicate n z0) → Fr [] H H' → K (some ⟨b, 0, none⟩) n n H') :
    SemWp P (Instr.makeSlice ts (.int kl ni) (.int kc ni)) H fun v H' => ∃ a n c, v = .slice a n c ∧ K a n c H' := by
  intro Ev d
  subst hni
  obtain ⟨i, z, hi, hz', h1, h2, h3, h4, h5⟩ := elemB_out ht
  have hzz : z = u := by
    unfold zeroOf at hz
    rw [hi] at hz
    simp only [hz'] at hz
    cases hz; rfl
  subst hzz
  have hus := sliceB_out hts
  have hcb : n ≤ n * bytes := Nat.le_mul_of_pos_right _ h5
  have hr := run_make (P := P) (mkW Ev H d) ts t i z hus hi hz' kl kc n n (by omega) (Int.le_refl _) (by
    rw [h4, Int.mul_comm, ← Int.natCast_mul]; omega) (by omega)
  have hs1 : E.sz = 1 := by have := E.len z0; rw [hc] at this; simpa using this.symm
  refine ⟨_, _, d, hr, _, _, _, rfl, hk H.size (H.push (.cells (madeCells z.cells (n * i.size)) t)) (Nat.le_refl _) ?_ ?_⟩
  · refine ⟨by simp, .inr ⟨H.size, madeCells z.cells (n * i.size), rfl, Nat.le_refl _, by simp, Nat.le_refl _, by simp only [maxLen]; omega, by rw [size_madeCells, h1], ?_⟩⟩
    rw [flatMap_rep E hc, h1, hs1, Nat.mul_one, hu, made_one]
    exact List.take_of_length_le (by simp)
  · exact ⟨by simp, fun k hk _ => by simp [Array.getElem?_push]; omega⟩
end Go.GV
