/- A part of a proof: see the last text of this claim. -/
import Derived.Test.YtijedkfekmopnaaP11N
set_option linter.unusedVariables false
set_option maxRecDepth 100000
open Go Go.GV
namespace Go.Proofs

/-! lists of records -/
def encR5 : Enc Rm := ⟨rC, 5, fun _ => rfl, by decide, fun m v h => by simp [rC] at h; rcases h with rfl | rfl | rfl | rfl | rfl <;> rfl⟩
def RcsH (H : Heap) (ms : List Rm) (rs : List Rc) : Prop := ms.length = rs.length ∧ ∀ (i : Nat) m r, ms[i]? = some m → rs[i]? = some r → RcH H m r
theorem RcsH.keep {H H' : Heap} {ms : List Rm} {rs : List Rc} (h : RcsH H ms rs) (hf : Fr [] H H') : RcsH H' ms rs := ⟨h.1, fun i m r hm hr => (h.2 i m r hm hr).keep hf⟩
theorem RcsH.at {H : Heap} {ms : List Rm} {rs : List Rc} (h : RcsH H ms rs) {i : Nat} {m : Rm} (hm : ms[i]? = some m) : ∃ r, rs[i]? = some r ∧ RcH H m r := by
  have hi := (List.getElem?_eq_some_iff.1 hm).1
  have hr : rs[i]? = some (rs[i]'(by have := h.1; omega)) := by simp
  exact ⟨_, hr, h.2 i m _ hm hr⟩
theorem RcsH.one {H : Heap} {m : Rm} {r : Rc} (h : RcH H m r) : RcsH H [m] [r] := ⟨rfl, fun i m' r' hm hr => by
  cases i with
  | zero => simp at hm hr; subst hm hr; exact h
  | succ i => simp at hm⟩
theorem RcsH.app {H : Heap} {ms ms' : List Rm} {rs rs' : List Rc} (h : RcsH H ms rs) (h' : RcsH H ms' rs') : RcsH H (ms ++ ms') (rs ++ rs') := ⟨by rw [List.length_append, List.length_append, h.1, h'.1], fun i m r hm hr => by
  rw [List.getElem?_append] at hm hr
  rw [← h.1] at hr
  split at hm
  · rename_i hi; rw [if_pos hi] at hr; exact h.2 i m r hm hr
  · rename_i hi; rw [if_neg hi] at hr; exact h'.2 _ m r hm hr⟩
theorem ldR26 {H : Heap} {ad : Addr} {m : Rm} (h : CellsAt H ad (encR5.cells m)) : Ld Try.prog 26 H ad (.agg ⟨rC m⟩) := ld_agg (by kernel_rfl) (by kernel_rfl) h
theorem ldR33 {H : Heap} {ad : Addr} {m : Rm} (h : CellsAt H ad (encR5.cells m)) : Ld Try.prog 33 H ad (.agg ⟨rC m⟩) := ld_agg (by kernel_rfl) (by kernel_rfl) h
theorem slice34 : sliceB Try.prog 34 33 = true := by kernel_rfl
theorem elem33 : elemB Try.prog 33 encR5.sz 88 = true := by kernel_rfl

theorem lSame_ok {H : Heap} {a b : Option Addr} {n c m d : Nat} {xs : List Lbl} {K : Bool → Heap → Prop} (hx : Sl encL H a n c xs) (hy : Sl encL H b m d xs) (hn : n ≤ 1000000000) (hk : K true H) :
    CallH Try.prog fn_ref04_Same ⟨[.slice a n c, .slice b m d]⟩ H fun v H' => ∃ w, v = .bool w ∧ K w H' := by
  apply vc_ref04_Same
  have h1 := hx.len
  have h2 := hy.len
  refine brB_of (fun h => by simp at h; omega) (fun _ => ?_)
  refine ⟨fun vs H' => match vs with | [.int _ i] => ∃ k : Nat, i = k ∧ k ≤ n ∧ H' = H | _ => False, fun vs _ => match vs with | [.int _ i] => n - i.toNat | _ => 0, ⟨0, rfl, by omega, rfl⟩, ?_⟩
  rintro J i H1 ⟨k, rfl, hkn, rfl⟩
  refine brB_of (fun h0 => ?_) (fun h0 => ⟨_, rfl, hk⟩)
  have h0' : k < n := by simpa using h0
  have hx1 : xs[k]? = some (xs[k]'(by omega)) := by simp
  generalize xs[k]'(by omega) = x at hx1
  refine hx.get rfl hx1 (decide_eq_true (by omega)) fun ad ea hc => ⟨_, _, ldL hc, ?_⟩
  refine hy.get rfl hx1 (decide_eq_true (by omega)) fun ad ea hc => ⟨_, _, ldL hc, ?_⟩
  refine brB_of (fun h => by simp [bytes_beq] at h) (fun _ => ?_)
  rw [succ64 (by omega)]
  exact ⟨⟨k + 1, rfl, by omega, rfl⟩, mu_lt h0'⟩
theorem rSame_ok {H : Heap} {a b : Option Addr} {n c m d : Nat} {ms ns : List Rm} {rs : List Rc} {K : Bool → Heap → Prop} (hx : Sl encR5 H a n c ms) (hy : Sl encR5 H b m d ns) (hr : RcsH H ms rs) (hr' : RcsH H ns rs) (hn : n ≤ 1000000000) (hs : ∀ m ∈ ms, Small m)
    (hk : ∀ H', Fr [] H H' → K true H') : CallH Try.prog fn_ref11_Same ⟨[.slice a n c, .slice b m d]⟩ H fun v H' => ∃ w, v = .bool w ∧ K w H' := by
  apply vc_ref11_Same
  have h1 := hx.len
  have h2 := hy.len
  have h3 := hr.1
  have h4 := hr'.1
  refine brB_of (fun h => by simp at h; omega) (fun _ => ?_)
  refine ⟨fun vs H' => match vs with | [.int _ i] => ∃ k : Nat, i = k ∧ k ≤ n ∧ Fr [] H H' | _ => False, fun vs _ => match vs with | [.int _ i] => n - i.toNat | _ => 0, ⟨0, rfl, by omega, Fr.refl _ _⟩, ?_⟩
  rintro J i H1 ⟨k, rfl, hkn, hf⟩
  refine brB_of (fun h0 => ?_) (fun h0 => ⟨_, rfl, hk H1 hf⟩)
  have h0' : k < n := by simpa using h0
  have hx1 : ms[k]? = some (ms[k]'(by omega)) := by simp
  generalize ms[k]'(by omega) = x at hx1
  have hy1 : ns[k]? = some (ns[k]'(by omega)) := by simp
  generalize ns[k]'(by omega) = y at hy1
  obtain ⟨r, er, hR⟩ := (hr.keep hf).at hx1
  have hR' := (hr'.keep hf).2 k y r hy1 er
  have hsm := hs x (List.mem_of_getElem? hx1)
  refine ⟨fun _ H' => Fr [] H H', ?_, fun J H2 hf2 => by rw [succ64 (by omega)]; exact ⟨⟨k + 1, rfl, by omega, hf2⟩, mu_lt h0'⟩⟩
  refine (hx.keep hf).get rfl hx1 (decide_eq_true (by omega)) fun ad ea hc => ⟨_, _, _, _, _, _, _, _, _, _, _, ldR33 hc, ?_⟩
  intro b1 H2 hn2
  refine st33 (m := x) (m' := m0 0) hn2.blk fun H3 hb3 hf3 => ?_
  have hf13 : Fr [] H1 H3 := hn2.fr.keep hf3 (fun k hk => by simp at hk; have := hn2.eq; omega)
  refine ((hy.keep hf).keep hf13).get rfl hy1 (decide_eq_true (by omega)) fun ad ea hc => ⟨_, _, _, _, _, _, _, _, _, _, _, ldR33 hc, ?_⟩
  intro b2 H4 hn4
  refine st33 (m := y) (m' := m0 0) hn4.blk fun H5 hc5 hf5 => ?_
  have hf35 : Fr [] H3 H5 := hn4.fr.keep hf5 (fun k hk => by simp at hk; have := hn4.eq; omega)
  have hb5 := hb3.keep hf35
  have hf15 := hf13.keep0 hf35
  have hR5 := hR.keep hf15
  have hR5' := hR'.keep hf15
  have hf05 := hf.keep0 hf15
  have l1 := hR5.l.len
  have l2 := hR5.rows.len
  have l3 := hR5.tombs.len
  have l1' := hR5'.l.len
  have l2' := hR5'.rows.len
  have l3' := hR5'.tombs.len
  refine ⟨fun _ H' => H' = H5, ?_, ?_⟩
  · refine ⟨_, hb5.r0, _, hc5.r0, ?_⟩
    rw [hR.k, hR'.k]
    refine brB_of (fun h => by simp at h) (fun _ => ⟨_, hb5.r4, _, hc5.r4, ?_⟩)
    rw [hR.at', hR'.at']
    refine brB_of (fun h => by simp at h) (fun _ => ⟨_, _, _, hb5.r1, _, _, _, hc5.r1, lSame_ok hR5.l hR5'.l hsm.1 ?_⟩)
    refine brB_of (fun h => by simp at h) (fun _ => ⟨_, _, _, hb5.r2, _, _, _, hc5.r2, ?_⟩)
    refine brB_of (fun h => by simp at h; omega) (fun _ => ⟨_, _, _, hb5.r3, _, _, _, hc5.r3, ?_⟩)
    exact brB_of (fun h => by simp at h; omega) (fun _ => rfl)
  rintro J H6 rfl
  refine ⟨fun vs H' => match vs with | [.int _ i] => ∃ k : Nat, i = k ∧ k ≤ x.2.2.1.2.1 ∧ H' = H6 | _ => False, fun vs _ => match vs with | [.int _ i] => x.2.2.1.2.1 - i.toNat | _ => 0, ⟨0, rfl, by omega, rfl⟩, ?_⟩
  rintro J i H7 ⟨j, rfl, hj, rfl⟩
  have s2 := hsm.2.1
  have s3 := hsm.2.2
  refine ⟨_, _, _, hb5.r2, brB_of (fun h => ?_) (fun h => ?_)⟩
  · have hj' : j < x.2.2.1.2.1 := by simpa using h
    have hv : r.rows[j]? = some (r.rows[j]'(by omega)) := by simp
    generalize r.rows[j]'(by omega) = v at hv
    refine ⟨_, _, _, hb5.r2, hR5.rows.get rfl hv (decide_eq_true (by omega)) fun ad ea hc => ⟨_, _, _, ld58 hc, _, _, _, hc5.r2, hR5'.rows.get rfl hv (decide_eq_true (by omega)) fun ad ea hc => ⟨_, _, _, ld58 hc, ?_⟩⟩⟩
    refine brB_of (fun h => by simp at h) (fun _ => ?_)
    rw [succ64 (by omega)]
    exact ⟨⟨j + 1, rfl, by omega, rfl⟩, mu_lt hj'⟩
  refine ⟨fun vs H' => match vs with | [.int _ i] => ∃ k : Nat, i = k ∧ k ≤ x.2.2.2.1.2.1 ∧ H' = H7 | _ => False, fun vs _ => match vs with | [.int _ i] => x.2.2.2.1.2.1 - i.toNat | _ => 0, ⟨0, rfl, by omega, rfl⟩, ?_⟩
  rintro J i H8 ⟨j, rfl, hj, rfl⟩
  refine ⟨_, _, _, hb5.r3, brB_of (fun h => ?_) (fun h => hf05)⟩
  have hj' : j < x.2.2.2.1.2.1 := by simpa using h
  have hv : r.tombs[j]? = some (r.tombs[j]'(by omega)) := by simp
  generalize r.tombs[j]'(by omega) = v at hv
  refine ⟨_, _, _, hb5.r3, hR5.tombs.get rfl hv (decide_eq_true (by omega)) fun ad ea hc => ⟨_, _, _, ld62 hc, _, _, _, hc5.r3, hR5'.tombs.get rfl hv (decide_eq_true (by omega)) fun ad ea hc => ⟨_, _, _, ld62 hc, ?_⟩⟩⟩
  refine brB_of (fun h => by simp at h) (fun _ => ?_)
  rw [succ64 (by omega)]
  exact ⟨⟨j + 1, rfl, by omega, rfl⟩, mu_lt hj'⟩
theorem theirs_ok {H : Heap} {a : Option Addr} {n c : Nat} {ms : List Rm} {K : Option Addr → Nat → Nat → Heap → Prop} (hx : Sl encR5 H a n c ms) (hn : n ≤ 1000000000)
    (hk : ∀ o l d H', Own encR5 33 H.size H' o l d ms → Fr [] H H' → K o l d H') : CallH Try.prog fn_law11_theirs ⟨[.slice a n c]⟩ H fun v H' => ∃ o l d, v = .slice o l d ∧ K o l d H' := by
  apply vc_law11_theirs
  intro b H1 hn1
  have hl := hx.len
  refine ⟨fun vs H' => match vs with | [.slice o l d, .int _ i] => ∃ k : Nat, i = k ∧ k ≤ n ∧ Own encR5 33 H.size H' o l d (ms.take k) ∧ Fr [] H H' | _ => False,
    fun vs _ => match vs with | [_, .int _ i] => n - i.toNat | _ => 0, ⟨0, rfl, by omega, Own.made _ _ hn1 (Nat.le_refl _), hn1.fr⟩, ?_⟩
  rintro J o l d i H2 ⟨k, rfl, hkn, ho, hf⟩
  refine brB_of (fun h0 => ?_) (fun h0 => ?_)
  · have h0' : k < n := by simpa using h0
    have hx1 : ms[k]? = some (ms[k]'(by omega)) := by simp
    generalize ms[k]'(by omega) = x at hx1
    refine (hx.keep hf).get rfl hx1 (decide_eq_true (by omega)) fun ad ea hc => ⟨_, _, _, _, _, _, _, _, _, _, _, ldR26 hc, ?_⟩
    intro b1 H3 hn3
    refine st26 (m := x) (m' := m0 0) hn3.blk fun H4 hb4 hf4 => ?_
    have hf24 : Fr [] H2 H4 := hn3.fr.keep hf4 (fun k hk => by simp at hk; have := hn3.eq; omega)
    refine ⟨_, hb4.r0, _, _, _, hb4.r1, _, _, _, hb4.r2, _, _, _, hb4.r3, _, hb4.r4, ?_⟩
    have hol := ho.1
    rw [List.length_take] at hol
    refine ap_one (E := encR5) x slice34 elem33 (ho.keep hf24) (hf.keep0 hf24) rfl (by omega) fun _ o' n' c' H5 ho5 hf5 _ => ?_
    rw [succ64 (by omega)]
    exact ⟨⟨k + 1, rfl, by omega, by rw [List.take_add_one, hx1]; exact ho5, hf5⟩, mu_lt h0'⟩
  · rw [List.take_of_length_le (by simp at h0; omega)] at ho
    exact ⟨_, _, _, rfl, hk o l d H2 ho hf⟩

/-- The bound of the document, of a list of records. -/
def Light (m : Rm) : Prop := m.2.1.2.1 ≤ 2048 ∧ m.2.2.1.2.1 ≤ 2048 ∧ m.2.2.2.1.2.1 ≤ 2048
theorem ldR2 {H : Heap} {ad : Addr} {m : Rm} (h : CellsAt H ad (encR5.cells m)) : Ld Try.prog 23 H (ad.add 2) (.slice m.2.2.1.1 m.2.2.1.2.1 m.2.2.1.2.2) := ld_part (by kernel_rfl) h (j := 2) rfl
theorem ldR3 {H : Heap} {ad : Addr} {m : Rm} (h : CellsAt H ad (encR5.cells m)) : Ld Try.prog 24 H (ad.add 3) (.slice m.2.2.2.1.1 m.2.2.2.1.2.1 m.2.2.2.1.2.2) := ld_part (by kernel_rfl) h (j := 3) rfl
theorem ldR1 {H : Heap} {ad : Addr} {m : Rm} (h : CellsAt H ad (encR5.cells m)) : Ld Try.prog 22 H (ad.add 1) (.slice m.2.1.1 m.2.1.2.1 m.2.1.2.2) := ld_part (by kernel_rfl) h (j := 1) rfl
def minI (x : Int) : Int := if 1048576 < x then 1048576 else x
theorem minI_le (n : Nat) : 0 ≤ minI n ∧ minI n ≤ 1048576 ∧ (minI n ≤ 2048 → n ≤ 2048) := by unfold minI; split <;> omega
theorem heavy_ok {H : Heap} {a : Option Addr} {n c : Nat} {ms : List Rm} {K : Bool → Heap → Prop} (hx : Sl encR5 H a n c ms) (hls : ∀ m ∈ ms, ∃ l, Sl encL H m.2.1.1 m.2.1.2.1 m.2.1.2.2 l) (hcl : n ≤ 1000000000000)
    (hyes : K true H) (hno : (∀ m ∈ ms, Light m) → n ≤ 2048 → K false H) : CallH Try.prog fn_law11_heavy ⟨[.slice a n c]⟩ H fun v H' => ∃ w, v = .bool w ∧ K w H' := by
  apply vc_law11_heavy
  have hl := hx.len
  have hmn := minI_le n
  have end' : ∀ {N : Int}, (N ≤ 2048 → (∀ m ∈ ms, Light m) ∧ n ≤ 2048) → ∃ w, Value.bool (decide (N > 2048)) = .bool w ∧ K w H := fun {N} h => ⟨_, rfl, by
    by_cases hN : N > 2048
    · rw [decide_eq_true hN]; exact hyes
    · rw [decide_eq_false hN]
      obtain ⟨h1, h2⟩ := h (by omega)
      exact hno h1 h2⟩
  refine ⟨fun vs H' => match vs with | [.int _ N, .int _ i] => ∃ k : Nat, i = k ∧ k ≤ n ∧ 0 ≤ N ∧ N ≤ 5244928 ∧ (N ≤ 2048 → n ≤ 2048 ∧ ∀ m ∈ ms.take k, Light m) ∧ H' = H | _ => False,
    fun vs _ => match vs with | [_, .int _ i] => n - i.toNat | _ => 0, ⟨0, rfl, by omega, ?_, ?_, fun h => ⟨hmn.2.2 h, by simp⟩, rfl⟩, ?_⟩
  · exact hmn.1
  · show minI n ≤ _; omega
  rintro J N i H1 ⟨k, rfl, hkn, hN0, hN1, hN2, rfl⟩
  refine ⟨fun _ H' => H' = H1 ∧ k < n ∧ N ≤ 2048, ?_, ?_⟩
  · refine brB_of (fun h0 => brB_of (fun h1 => ⟨rfl, by simpa using h0, by simpa using h1⟩) (fun h1 => end' fun h2 => ?_)) (fun h0 => end' fun h2 => ?_)
    · simp at h1; omega
    · obtain ⟨h3, h4⟩ := hN2 h2
      rw [List.take_of_length_le (by simp at h0; omega)] at h4
      exact ⟨h4, h3⟩
  rintro J H2 ⟨rfl, hlt, hN⟩
  obtain ⟨hn20, hl20⟩ := hN2 hN
  have hx1 : ms[k]? = some (ms[k]'(by omega)) := by simp
  generalize ms[k]'(by omega) = x at hx1
  obtain ⟨L, hL⟩ := hls x (List.mem_of_getElem? hx1)
  have hLl := hL.len
  refine hx.get rfl hx1 (decide_eq_true (by omega)) fun ad ea hc => ⟨_, _, _, ldR2 hc, ?_⟩
  refine hx.get rfl hx1 (decide_eq_true (by omega)) fun ad ea hc => ⟨_, _, _, ldR3 hc, ?_⟩
  refine hx.get rfl hx1 (decide_eq_true (by omega)) fun ad ea hc => ⟨_, _, _, ldR1 hc, ?_⟩
  have m1 := minI_le x.2.2.1.2.1
  have m2 := minI_le x.2.2.2.1.2.1
  have m3 := minI_le x.2.1.2.1
  have ew : IntKind.i64.wrap (N + IntKind.i64.wrap (IntKind.i64.wrap (minI x.2.2.1.2.1 + minI x.2.2.2.1.2.1) + minI x.2.1.2.1)) = N + minI x.2.2.1.2.1 + minI x.2.2.2.1.2.1 + minI x.2.1.2.1 := by
    rw [wrap64_of (n := minI x.2.2.1.2.1 + minI x.2.2.2.1.2.1) (by omega) (by omega), wrap64_of (n := minI x.2.2.1.2.1 + minI x.2.2.2.1.2.1 + minI x.2.1.2.1) (by omega) (by omega), wrap64_of (by omega) (by omega)]; omega
  have nextI : ∀ {N' : Int}, 0 ≤ N' → N' ≤ 5244928 → (N' ≤ 2048 → Light x) → (N ≤ N') → ∃ k' : Nat, IntKind.i64.wrap ((k : Int) + 1) = k' ∧ k' ≤ n ∧ 0 ≤ N' ∧ N' ≤ 5244928 ∧ (N' ≤ 2048 → n ≤ 2048 ∧ ∀ m ∈ ms.take k', Light m) ∧ H2 = H2 := fun h0 h1 h2 h3 =>
    ⟨k + 1, by rw [succ64 (by omega)], by omega, h0, h1, fun h => ⟨hn20, fun m hm => by
      rw [List.take_add_one, hx1] at hm
      rcases List.mem_append.1 hm with hm | hm
      · exact hl20 m hm
      · simp at hm; subst hm; exact h2 h⟩, rfl⟩
  refine ⟨fun vs H' => match vs with | [.int _ M, .int _ i] => ∃ j : Nat, i = j ∧ N + minI x.2.2.1.2.1 + minI x.2.2.2.1.2.1 + minI x.2.1.2.1 ≤ M ∧ M ≤ 5244928 ∧ H' = H2 | _ => False,
    fun vs _ => match vs with | [_, .int _ i] => x.2.1.2.1 - i.toNat | _ => 0, ⟨0, rfl, ?_, ?_, rfl⟩, ?_⟩
  · show _ ≤ IntKind.i64.wrap (N + IntKind.i64.wrap (IntKind.i64.wrap (minI x.2.2.1.2.1 + minI x.2.2.2.1.2.1) + minI x.2.1.2.1))
    rw [ew]; omega
  · show IntKind.i64.wrap (N + IntKind.i64.wrap (IntKind.i64.wrap (minI x.2.2.1.2.1 + minI x.2.2.2.1.2.1) + minI x.2.1.2.1)) ≤ _
    rw [ew]; omega
  rintro J M i H3 ⟨j, rfl, hM0, hM1, rfl⟩
  have hLt : M ≤ 2048 → Light x := fun h => ⟨m3.2.2 (by omega), m1.2.2 (by omega), m2.2.2 (by omega)⟩
  have mu1 : (fun vs (_ : Heap) => match vs with | [_, .int _ i] => n - i.toNat | _ => 0 : List Value → Heap → Nat) [.int .i64 M, .int .i64 (IntKind.i64.wrap ((k : Int) + 1))] H3 < n - ((k : Int)).toNat := by
    rw [succ64 (by omega)]; exact mu_lt hlt
  refine ⟨fun _ H' => H' = H3 ∧ j < x.2.1.2.1 ∧ M ≤ 2048, ?_, ?_⟩
  · refine hx.get rfl hx1 (decide_eq_true (by omega)) fun ad ea hc => ⟨_, _, _, ldR1 hc, brB_of (fun h0 => brB_of (fun h1 => ⟨rfl, by simpa using h0, by simpa using h1⟩) (fun h1 => ⟨nextI (by omega) hM1 hLt (by omega), mu1⟩)) (fun h0 => ⟨nextI (by omega) hM1 hLt (by omega), mu1⟩)⟩
  rintro J H4 ⟨rfl, hj, hM2⟩
  have hLx := hLt hM2
  have hv : L[j]? = some (L[j]'(by omega)) := by simp
  generalize L[j]'(by omega) = v at hv
  refine hx.get rfl hx1 (decide_eq_true (by omega)) fun ad ea hc => ⟨_, _, _, ldR1 hc, hL.get rfl hv (decide_eq_true (by omega)) fun ad ea hc => ⟨_, ldN hc, ?_⟩⟩
  refine hx.get rfl hx1 (decide_eq_true (by omega)) fun ad ea hc => ⟨_, _, _, ldR1 hc, hL.get rfl hv (decide_eq_true (by omega)) fun ad ea hc => ⟨_, ldV hc, ?_⟩⟩
  have m4 := minI_le v.1.size
  have m5 := minI_le v.2.size
  have ew2 : IntKind.i64.wrap (M + IntKind.i64.wrap (minI v.1.size + minI v.2.size)) = M + minI v.1.size + minI v.2.size := by
    rw [wrap64_of (n := minI v.1.size + minI v.2.size) (by omega) (by omega), wrap64_of (by omega) (by omega)]; omega
  have hl1 := hLx.1
  refine ⟨⟨j + 1, by rw [succ64 (by omega)], ?_, ?_, rfl⟩, by rw [succ64 (by omega)]; exact mu_lt hj⟩
  · show _ ≤ IntKind.i64.wrap (M + IntKind.i64.wrap (minI v.1.size + minI v.2.size))
    rw [ew2]; omega
  · show IntKind.i64.wrap (M + IntKind.i64.wrap (minI v.1.size + minI v.2.size)) ≤ _
    rw [ew2]; omega
end Go.Proofs
