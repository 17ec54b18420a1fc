/- A part of a proof: see the last text of this claim. -/
import Derived.Test.YtddfciphdbdemaaP07k
set_option linter.unusedVariables false
set_option maxRecDepth 100000
open Go Go.GV
namespace Go.Proofs

theorem flatMap_repL {α : Type} (E : Enc α) (z0 : α) : ∀ n : Nat, (List.replicate n z0).flatMap E.cells = repL (E.cells z0) n
  | 0 => rfl
  | n + 1 => by rw [List.replicate_succ, List.flatMap_cons, flatMap_repL E z0 n]; rfl
theorem made_repL (zs : List Value) (hz : 0 < zs.length) (n : Nat) : (madeCells ⟨zs⟩ (n * zs.length)).toList = repL zs n := by
  apply List.ext_getElem?
  intro i
  rw [repL_getElem zs hz]
  by_cases h : i < n * zs.length
  · rw [if_pos h]
    have hm : i % zs.length < zs.length := Nat.mod_lt _ hz
    simp [madeCells, h, hm]
  · rw [if_neg h]
    simp [madeCells, h]
/-- A slice of so many zeros. -/
theorem mk_fullA {α : Type} {E : Enc α} {P : Program} {ts t : TypeId} {bytes n : Nat} {u : Value} (z0 : α) {H : Heap} {ni : Int} {kl kc : IntKind} {K : Option Addr → Nat → Nat → Heap → Prop}
    (hts : sliceB P ts t = true) (ht : elemB P t E.sz bytes = true) (hz : zeroOf P t = some u) (hu : u.cells = ⟨E.cells z0⟩) (hni : ni = n) (hsz : n * bytes ≤ 140737488355328)
    (hk : ∀ b H', H.size ≤ b → Own E t H.size H' (some ⟨b, 0, none⟩) n n (List.replicate n z0) → Fr [] H H' → K (some ⟨b, 0, none⟩) n n H') :
    SemWp P (Instr.makeSlice ts (.int kl ni) (.int kc ni)) H fun v H' => ∃ a n c, v = .slice a n c ∧ K a n c H' := by
  intro Ev d
  subst hni
  obtain ⟨i, z, hi, hz', h1, h2, h3, h4, h5⟩ := elemB_out ht
  have hzz : z = u := by
    unfold zeroOf at hz
    rw [hi] at hz
    simp only [hz'] at hz
    cases hz; rfl
  subst hzz
  have hus := sliceB_out hts
  have hcb : n ≤ n * bytes := Nat.le_mul_of_pos_right _ h5
  have hr := run_make (P := P) (mkW Ev H d) ts t i z hus hi hz' kl kc n n (by omega) (Int.le_refl _) (by
    rw [h4, Int.mul_comm, ← Int.natCast_mul]; omega) (by omega)
  refine ⟨_, _, d, hr, _, _, _, rfl, hk H.size (H.push (.cells (madeCells z.cells (n * i.size)) t)) (Nat.le_refl _) ?_ ?_⟩
  · refine ⟨by simp, .inr ⟨H.size, madeCells z.cells (n * i.size), rfl, Nat.le_refl _, by simp, Nat.le_refl _, by simp only [maxLen]; omega, by rw [size_madeCells, h1], ?_⟩⟩
    rw [flatMap_repL, hu, h1, ← E.len z0, made_repL _ (by rw [E.len]; exact E.pos)]
    refine List.take_of_length_le ?_
    have : ∀ (l : List Value) (k : Nat), (repL l k).length = k * l.length := fun l k => by
      induction k with
      | zero => simp [repL]
      | succ k ih => rw [repL, List.length_append, ih, Nat.succ_mul]; omega
    rw [this]
    exact Nat.le_refl _
  · exact ⟨by simp, fun k hk _ => by simp [Array.getElem?_push]; omega⟩

def RiseV (S : List ByteArray) : Prop := (∀ v ∈ S, ValP v) ∧ RiseS S
open Classical in
theorem rising_ok {a : Option Addr} {n c : Nat} {S : List ByteArray} {H : Heap} {K : Bool → Heap → Prop} (hx : Sl encStr H a n c S) (hn : n ≤ 1000000000) (hk : ∀ H', Fr [] H H' → K (decide (RiseV S)) H') :
    CallH Try.prog fn_match_rising ⟨[.slice a n c]⟩ H fun v H' => ∃ b, v = .bool b ∧ K b H' := by
  apply vc_match_rising
  have hlx := hx.len
  have no : ∀ H', Fr [] H H' → ¬ RiseV S → ∃ b, Value.bool false = .bool b ∧ K b H' := fun H' hf h => ⟨_, rfl, by have := hk H' hf; rwa [decide_eq_false h] at this⟩
  refine ⟨fun vs H' => match vs with | [.int _ i] => ∃ k : Nat, i = k ∧ k ≤ n ∧ (∀ v ∈ S.take k, ValP v) ∧ (∀ i x y, i + 1 < k → S[i]? = some x → S[i + 1]? = some y → ltS x y = true) ∧ Fr [] H H' | _ => False,
    fun vs _ => match vs with | [.int _ i] => n - i.toNat | _ => 0, ⟨0, rfl, by omega, by simp, fun _ _ _ h => by omega, Fr.refl _ _⟩, ?_⟩
  rintro J i H1 ⟨k, rfl, hle, hall, hr, hf⟩
  refine brB_of (fun h0 => ?_) (fun h0 => ⟨_, rfl, ?_⟩)
  · have h0' : k < n := by simpa using h0
    have hx1 : S[k]? = some (S[k]'(by omega)) := by simp
    generalize S[k]'(by omega) = x at hx1
    refine (hx.keep hf).get rfl hx1 (decide_eq_true (by omega)) fun ad ea hc => ⟨_, ldS9 hc, Value_ok fun H2 hf2 => ?_⟩
    have hf2' := hf.keep0 hf2
    refine brB_of (fun h => no H2 hf2' fun h' => ?_) (fun h => ?_)
    · have := h'.1 x (List.mem_of_getElem? hx1); simp [this] at h
    have hV : ValP x := by simpa using h
    have mem : ∀ v ∈ S.take (k + 1), ValP v := fun v hv => by
      rw [List.take_add_one, hx1] at hv
      rcases List.mem_append.1 hv with h | h
      · exact hall v h
      · simp at h; subst h; exact hV
    rw [succ64 (by omega)]
    refine brB_of (fun h1 => ?_) (fun h1 => ⟨⟨k + 1, rfl, by omega, mem, fun i u w hi => by simp at h1; omega, hf2'⟩, mu_lt h0'⟩)
    have hk0 : 0 < k := by simpa using h1
    have hy1 : S[k - 1]? = some (S[k - 1]'(by omega)) := by simp
    generalize S[k - 1]'(by omega) = y at hy1
    rw [pred64 (by omega) hk0]
    refine (hx.keep hf2').get rfl hy1 (decide_eq_true (by omega)) fun bd eb hd => ⟨_, ldS9 hd, ?_⟩
    rw [leS_iff]
    refine brB_of (fun h => no H2 hf2' fun h' => ?_) (fun h => ⟨⟨k + 1, rfl, by omega, mem, fun i u w hi hu hw => ?_, hf2'⟩, mu_lt h0'⟩)
    · have := h'.2 (k - 1) y x hy1 (by rw [show k - 1 + 1 = k by omega]; exact hx1)
      rw [this] at h; cases h
    · rcases Nat.lt_or_ge (i + 1) k with h2 | h2
      · exact hr i u w h2 hu hw
      · have : i + 1 = k := by omega
        subst this
        rw [hx1] at hw; cases hw
        rw [show i + 1 - 1 = i by omega, hu] at hy1; cases hy1
        simpa using h
  · have hkn : k = n := by simp at h0; omega
    subst hkn
    rw [hlx, List.take_length] at hall
    have hR : RiseV S := ⟨hall, fun i x y hx hy => hr i x y (by have := (List.getElem?_eq_some_iff.1 hy).1; omega) hx hy⟩
    have := hk H1 hf
    rwa [decide_eq_true hR] at this

open Classical in
theorem MCheck_ok {x : Mat} {m : Mch} {H : Heap} {K : Int → Heap → Prop} (hm : MatH H x m) (hk : ∀ H', Fr [] H H' → K (chkM m) H') :
    CallH Try.prog fn_match_Check ⟨[vM x]⟩ H fun v H' => ∃ e, v = .int .i64 e ∧ K e H' := by
  apply vc_match_Check
  intro b H1 hn1
  have hb : MatB H1 b x := hn1.blk
  have hls := hm.set.len
  refine ⟨_, hb.l1, Name_ok fun H2 hf2 => ?_⟩
  have hb2 := hb.keep hf2
  have hf2' := hn1.fr.keep0 hf2
  refine ⟨fun vs H' => ∃ r, vs = [.bool r] ∧ Fr [] H H' ∧ (r = true ↔ ChkM m), ?_, ?_⟩
  · have e3 : (x.1 == 3) = decide (x.1 = 3) := rfl
    have falseM : ∀ H', Fr [] H H' → ¬ ChkM m → ∃ r, [Value.bool false] = [.bool r] ∧ Fr [] H H' ∧ (r = true ↔ ChkM m) := fun H' hf h => ⟨false, rfl, hf, by simp [h]⟩
    have nameN : ∀ {N : Prop} [Decidable N], decide N = false → (ChkM m → N) → ¬ ChkM m := fun h h' hc => of_decide_eq_false h (h' hc)
    have hname : ChkM m → NameP x.2.1 := fun h => by rw [← hm.name]; exact h.1
    refine ⟨_, hb2.l0, ?_⟩
    refine ⟨fun vs H' => ∃ r, vs = [.bool r] ∧ H' = H2 ∧ (r = true ↔ NameP x.2.1) ∧ 0 ≤ x.1 ∧ x.1 < 3, ?_, ?_⟩
    · have mid : 0 ≤ x.1 → x.1 < 3 → ∃ r, [Value.bool (decide (NameP x.2.1))] = [.bool r] ∧ H2 = H2 ∧ (r = true ↔ NameP x.2.1) ∧ 0 ≤ x.1 ∧ x.1 < 3 := fun h1 h2 => ⟨_, rfl, rfl, by simp, h1, h2⟩
      have out : x.1 ≠ 3 → ¬ (0 ≤ x.1 ∧ x.1 < 3) → ¬ ChkM m := fun h1 h2 h => by
        have := h.2
        rw [hm.kind] at this
        omega
      refine brB_of (fun h3 => ?_) (fun h3 => ?_)
      · have h3 : x.1 = 3 := by simpa using h3
        have k3 : ChkM m ↔ NameP x.2.1 ∧ (x.2.2.1 = ⟨#[]⟩ ∧ 1 ≤ m.2.2.2.length ∧ m.2.2.2.length ≤ 8 ∧ RiseV m.2.2.2) := by
          unfold ChkM RiseV
          rw [hm.name, hm.kind, hm.val, h3]
          constructor
          · rintro ⟨h1, h | ⟨_, h⟩⟩
            · omega
            · exact ⟨h1, h⟩
          · rintro ⟨h1, h⟩
            exact ⟨h1, .inr ⟨rfl, h⟩⟩
        refine brB_of (fun h => ⟨_, hb2.l2, ?_⟩) (fun h => falseM H2 hf2' (nameN h hname))
        have hN := of_decide_eq_true h
        rw [beqS]
        refine brB_of (fun h => ⟨_, _, _, hb2.l3, brB_of (fun h4 => ⟨_, _, _, hb2.l3, brB_of (fun h5 => ⟨_, _, _, hb2.l3, ?_⟩) (fun h5 => falseM H2 hf2' fun hc => ?_)⟩) (fun h4 => falseM H2 hf2' fun hc => ?_)⟩) (fun h => falseM H2 hf2' fun hc => ?_)
        · refine rising_ok (hm.set.keep hf2') hm.len fun H3 hf3 => ⟨_, rfl, hf2'.keep0 hf3, ?_⟩
          rw [decide_eq_true_eq, k3]
          refine ⟨fun hr => ⟨hN, of_decide_eq_true h, ?_, ?_, hr⟩, fun hc => hc.2.2.2.2⟩
          · simp at h4; omega
          · simp at h5; omega
        · have := (k3.1 hc).2.2.2.1; simp at h5; omega
        · have := (k3.1 hc).2.2.1; simp at h4; omega
        · exact of_decide_eq_false h (k3.1 hc).2.1
      · have n3 : x.1 ≠ 3 := by simpa using h3
        refine brB_of (fun h0 => ?_) (fun h0 => ?_)
        · have h0 : x.1 = 0 := by simpa using h0
          refine brB_of (fun _ => mid (by omega) (by omega)) (fun h => by rw [h0] at h; simp at h)
        · have h0 : x.1 ≠ 0 := by simpa using h0
          refine brB_of (fun h1 => mid (by simp at h1; omega) (by simp at h1; omega)) (fun h1 => brB_of (fun h2 => mid (by simp at h2; omega) (by simp at h2; omega)) (fun h2 => falseM H2 hf2' (out n3 ?_)))
          have h1 : x.1 ≠ 1 := by simpa using h1
          have h2 : x.1 ≠ 2 := by simpa using h2
          omega
    · rintro J r H3 ⟨r', hr', rfl, hr, g0, g3⟩
      simp only [List.cons.injEq, Value.bool.injEq, and_true] at hr'
      subst hr'
      have k0 : ChkM m ↔ NameP x.2.1 ∧ m.2.2.2 = [] ∧ ValP x.2.2.1 := by
        unfold ChkM
        rw [hm.name, hm.kind, hm.val]
        constructor
        · rintro ⟨h1, ⟨_, _, h⟩ | ⟨h, _⟩⟩
          · exact ⟨h1, h⟩
          · omega
        · rintro ⟨h1, h⟩
          exact ⟨h1, .inl ⟨g0, g3, h⟩⟩
      refine brB_of (fun h => ⟨_, _, _, hb2.l3, brB_of (fun h4 => ⟨_, hb2.l2, Value_ok fun H4 hf4 => ⟨_, rfl, hf2'.keep0 hf4, ?_⟩⟩) (fun h4 => falseM H3 hf2' fun hc => ?_)⟩) (fun h => falseM H3 hf2' fun hc => ?_)
      · rw [decide_eq_true_eq, k0]
        have hnil : m.2.2.2 = [] := List.eq_nil_of_length_eq_zero (by
          have h4 : (x.2.2.2.2.1 : Int) = 0 := by simpa using h4
          omega)
        exact ⟨fun hv => ⟨hr.1 h, hnil, hv⟩, fun hc => hc.2.2⟩
      · have := (k0.1 hc).2.1
        rw [this] at hls
        rw [hls] at h4; simp at h4
      · have := hr.2 (k0.1 hc).1
        rw [this] at h; cases h
  · rintro J r H3 ⟨r', hr', hf3, hr⟩
    simp only [List.cons.injEq, Value.bool.injEq, and_true] at hr'
    subst hr'
    have hK := hk H3 hf3
    refine brB_of (fun h => ⟨_, rfl, ?_⟩) (fun h => ⟨_, rfl, ?_⟩)
    · rwa [chkM_no fun hc => by rw [hr.2 hc] at h; cases h] at hK
    · rwa [chkM_yes (hr.1 (by simpa using h))] at hK

theorem rMCheck_ok {x : Mat} {m : Mch} {H : Heap} {K : Int → Heap → Prop} (hm : MatH H x m) (hk : ∀ H', Fr [] H H' → K (chkM m) H') :
    CallH Try.prog fn_ref05_Check ⟨[vM x]⟩ H fun v H' => ∃ e, v = .int .i64 e ∧ K e H' := by
  apply vc_ref05_Check
  intro b H1 hn1
  have hb : MatB H1 b x := hn1.blk
  have hx := hm.set.keep hn1.fr
  have hls := hm.set.len
  have hln := hm.len
  have no : ¬ ChkM m → ∃ e, Value.int .i64 50 = .int .i64 e ∧ K e H1 := fun h => ⟨_, rfl, by have := hk H1 hn1.fr; rwa [chkM_no h] at this⟩
  have yes : ChkM m → ∃ e, Value.int .i64 0 = .int .i64 e ∧ K e H1 := fun h => ⟨_, rfl, by have := hk H1 hn1.fr; rwa [chkM_yes h] at this⟩
  refine ⟨_, hb.l1, rName_ok (brB_of (fun h => no fun hc => ?_) (fun h => ?_))⟩
  · have := hc.1; rw [hm.name] at this; simp [this] at h
  have hN : NameP m.2.1 := by rw [hm.name]; simpa using h
  refine ⟨fun _ H' => H' = H1 ∧ ¬ (0 ≤ m.1 ∧ m.1 < 3 ∧ m.2.2.2 = [] ∧ ValP m.2.2.1), ?_, ?_⟩
  · refine ⟨_, hb.l0, brB_of (fun h1 => ⟨_, hb.l0, brB_of (fun h2 => ⟨_, hb.l2, rValue_ok (brB_of (fun h3 => ⟨_, _, _, hb.l3, brB_of (fun h4 => yes ⟨hN, .inl ⟨?_, ?_, ?_, ?_⟩⟩) (fun h4 => ⟨rfl, fun hh => ?_⟩)⟩) (fun h3 => ⟨rfl, fun hh => ?_⟩))⟩) (fun h2 => ⟨rfl, fun hh => ?_⟩)⟩) (fun h1 => ⟨rfl, fun hh => ?_⟩)⟩
    · rw [hm.kind]; simpa using h1
    · rw [hm.kind]; simpa using h2
    · exact List.eq_nil_of_length_eq_zero (by
        have h4 : (x.2.2.2.2.1 : Int) = 0 := by simpa using h4
        omega)
    · rw [hm.val]; exact of_decide_eq_true h3
    · have := hh.2.2.1
      rw [this] at hls
      rw [hls] at h4; simp at h4
    · have := hh.2.2.2; rw [hm.val] at this; exact of_decide_eq_false h3 this
    · have := hh.2.1; rw [hm.kind] at this; simp at h2; omega
    · have := hh.1; rw [hm.kind] at this; simp at h1; omega
  rintro J H2 ⟨rfl, hn0⟩
  have c3 : ChkM m ↔ (m.1 = 3 ∧ m.2.2.1 = ⟨#[]⟩ ∧ 1 ≤ m.2.2.2.length ∧ m.2.2.2.length ≤ 8 ∧ (∀ v ∈ m.2.2.2, ValP v) ∧ RiseS m.2.2.2) := ⟨fun h => h.2.resolve_left hn0, fun h => ⟨hN, .inr h⟩⟩
  refine ⟨fun _ H' => H' = H2 ∧ m.1 = 3 ∧ m.2.2.1 = ⟨#[]⟩ ∧ 1 ≤ m.2.2.2.length ∧ m.2.2.2.length ≤ 8, ?_, ?_⟩
  · refine ⟨_, hb.l0, brB_of (fun h1 => no fun hc => ?_) (fun h1 => ⟨_, hb.l2, ?_⟩)⟩
    · have := (c3.1 hc).1; rw [hm.kind] at this; simp [this] at h1
    rw [beqS]
    refine brB_of (fun h2 => no fun hc => ?_) (fun h2 => ⟨_, _, _, hb.l3, brB_of (fun h3 => no fun hc => ?_) (fun h3 => ⟨_, _, _, hb.l3, brB_of (fun h4 => no fun hc => ?_) (fun h4 => ⟨rfl, ?_, ?_, ?_, ?_⟩)⟩)⟩)
    · have := (c3.1 hc).2.1; rw [hm.val] at this; simp [this] at h2
    · have := (c3.1 hc).2.2.1; simp at h3; omega
    · have := (c3.1 hc).2.2.2.1; simp at h4; omega
    · rw [hm.kind]; simpa using h1
    · rw [hm.val]; simpa using h2
    · simp at h3; omega
    · simp at h4; omega
  rintro J H3 ⟨rfl, g1, g2, g3, g4⟩
  refine ⟨fun vs H' => match vs with | [.int _ i] => ∃ k : Nat, i = k ∧ k ≤ x.2.2.2.2.1 ∧ (∀ v ∈ m.2.2.2.take k, ValP v) ∧ (∀ i x y, i + 1 < k → m.2.2.2[i]? = some x → m.2.2.2[i + 1]? = some y → ltS x y = true) ∧ H' = H3 | _ => False,
    fun vs _ => match vs with | [.int _ i] => x.2.2.2.2.1 - i.toNat | _ => 0, ⟨0, rfl, by omega, by simp, fun _ _ _ h => by omega, rfl⟩, ?_⟩
  rintro J i H4 ⟨k, rfl, hle, hall, hr, rfl⟩
  refine ⟨_, _, _, hb.l3, brB_of (fun h0 => ?_) (fun h0 => yes (c3.2 ⟨g1, g2, g3, g4, ?_, ?_⟩))⟩
  · have h0' : k < x.2.2.2.2.1 := by simpa using h0
    have hx1 : m.2.2.2[k]? = some (m.2.2.2[k]'(by omega)) := by simp
    generalize m.2.2.2[k]'(by omega) = y at hx1
    refine ⟨fun _ H' => H' = H4 ∧ ValP y ∧ (0 < k → ∀ z, m.2.2.2[k - 1]? = some z → ltS z y = true), ?_, ?_⟩
    · refine ⟨_, _, _, hb.l3, hx.get rfl hx1 (decide_eq_true (by omega)) fun ad ea hc => ⟨_, ldS9 hc, rValue_ok (brB_of (fun h => no fun hc => ?_) (fun h => ?_))⟩⟩
      · have := (c3.1 hc).2.2.2.2.1 y (List.mem_of_getElem? hx1); simp [this] at h
      have hV : ValP y := by simpa using h
      refine brB_of (fun h1 => ⟨_, _, _, hb.l3, hx.get rfl hx1 (decide_eq_true (by omega)) fun ad ea hc => ⟨_, ldS9 hc, _, _, _, hb.l3, ?_⟩⟩) (fun h1 => ⟨rfl, hV, fun h => by simp at h1; omega⟩)
      have hk0 : 0 < k := by simpa using h1
      have hy1 : m.2.2.2[k - 1]? = some (m.2.2.2[k - 1]'(by omega)) := by simp
      generalize m.2.2.2[k - 1]'(by omega) = z at hy1
      rw [pred64 (by omega) hk0]
      refine hx.get rfl hy1 (decide_eq_true (by omega)) fun bd eb hd => ⟨_, ldS9 hd, ?_⟩
      rw [leS_iff]
      refine brB_of (fun h => no fun hc => ?_) (fun h => ⟨rfl, hV, fun _ w hw => ?_⟩)
      · have := (c3.1 hc).2.2.2.2.2 (k - 1) z y hy1 (by rw [show k - 1 + 1 = k by omega]; exact hx1)
        rw [this] at h; cases h
      · rw [hy1] at hw; cases hw; simpa using h
    · rintro J H5 ⟨rfl, hV, hlt⟩
      rw [succ64 (by omega)]
      refine ⟨⟨k + 1, rfl, by omega, fun v hv => ?_, fun i u w hi hu hw => ?_, rfl⟩, mu_lt h0'⟩
      · rw [List.take_add_one, hx1] at hv
        rcases List.mem_append.1 hv with h | h
        · exact hall v h
        · simp at h; subst h; exact hV
      · rcases Nat.lt_or_ge (i + 1) k with h2 | h2
        · exact hr i u w h2 hu hw
        · have : i + 1 = k := by omega
          subst this
          rw [hx1] at hw; cases hw
          exact hlt (by omega) u (by rw [show i + 1 - 1 = i by omega]; exact hu)
  · have hkn : k = m.2.2.2.length := by simp at h0; omega
    rwa [hkn, List.take_length] at hall
  · exact fun i u w hu hw => hr i u w (by have := (List.getElem?_eq_some_iff.1 hw).1; simp at h0; omega) hu hw
end Go.Proofs
