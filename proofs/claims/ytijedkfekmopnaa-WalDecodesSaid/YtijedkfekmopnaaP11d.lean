/- Turned by a program of mine (port.py) out of the same text of another seat: numbers of types and functions. -/
import Derived.Test.YtijedkfekmopnaaP11c
set_option linter.unusedVariables false
set_option maxRecDepth 100000
open Go Go.GV
namespace Go.Proofs

def encL : Enc Lbl := ⟨fun x => [.string x.1, .string x.2], 2, fun _ => rfl, by decide, fun _ v h => by simp at h; rcases h with rfl | rfl <;> rfl⟩
theorem elem64 : elemB Try.prog 44 2 32 = true := by kernel_rfl
theorem slice23 : sliceB Try.prog 22 44 = true := by kernel_rfl
abbrev vL (x : Lbl) : Value := .agg ⟨[.string x.1, .string x.2]⟩
theorem ldL {H : Heap} {ad : Addr} {x : Lbl} (h : CellsAt H ad (encL.cells x)) : Ld Try.prog 44 H ad (vL x) := ld_many (by kernel_rfl) (by kernel_rfl) h
theorem ldN {H : Heap} {ad : Addr} {x : Lbl} (h : CellsAt H ad (encL.cells x)) : Ld Try.prog 9 H ad (.string x.1) := ld_cell (by kernel_rfl) (by have := h 0 _ rfl; simpa [Addr.add] using this)
theorem ldV {H : Heap} {ad : Addr} {x : Lbl} (h : CellsAt H ad (encL.cells x)) : Ld Try.prog 9 H (ad.add 1) (.string x.2) := ld_part (by kernel_rfl) h (j := 1) rfl

/-- A label in a variable of its own. -/
theorem var_lbl {H : Heap} {x : Lbl} {zs : List Value} {K : Nat → Heap → Prop} (hz : zs.length = 2)
    (k : ∀ b H', H.size ≤ b → Blk H' ⟨b, 0, none⟩ [.string x.1, .string x.2] → Fr [] H H' → K b H') :
    ∀ b H', New H b (.cells ⟨zs⟩ 44) H' → ∃ H'_1, St Try.prog 44 H' ⟨b, 0, none⟩ (vL x) H'_1 ∧ K b H'_1 :=
  var_blk (by kernel_rfl) (by kernel_rfl) (fun v h => by simp [Value.cells] at h; rcases h with rfl | rfl <;> rfl) hz k
theorem _root_.Go.GV.Blk.s0 {H : Heap} {b : Nat} {x y : ByteArray} (h : Blk H ⟨b, 0, none⟩ [.string x, .string y]) : Ld Try.prog 9 H ⟨b, 0, none⟩ (.string x) := h.ld0 (by kernel_rfl) rfl
theorem _root_.Go.GV.Blk.s1 {H : Heap} {b : Nat} {x y : ByteArray} (h : Blk H ⟨b, 0, none⟩ [.string x, .string y]) : Ld Try.prog 9 H ⟨b, 1, none⟩ (.string y) := h.ldK (j := 1) (by kernel_rfl) rfl
theorem _root_.Go.GV.Blk.sA {H : Heap} {b : Nat} {x y : ByteArray} (h : Blk H ⟨b, 0, none⟩ [.string x, .string y]) : Ld Try.prog 44 H ⟨b, 0, none⟩ (.agg ⟨[.string x, .string y]⟩) := h.ldA0 (by kernel_rfl) (by kernel_rfl) rfl

theorem empty_iff (s : ByteArray) : (s = ⟨#[]⟩) ↔ s.size = 0 := ⟨fun h => by subst h; rfl, fun e => by apply bl_inj; show bl s = []; exact List.eq_nil_of_length_eq_zero (by rw [bl_len]; exact e)⟩
theorem leS_iff (s t : ByteArray) : (Op.bytesLess s.toList t.toList || s.toList == t.toList) = !ltS t s := by
  rw [ltS_of, beqS]
  cases h : ltS t s with
  | true =>
    rw [ltS_asymm h]
    have : ¬ s = t := fun e => by subst e; rw [ltS_irrefl] at h; cases h
    simp [this]
  | false =>
    cases h2 : ltS s t with
    | true => rfl
    | false => simp [ltS_tri h2 h]

noncomputable def chkI (l : List Lbl) : Int := open Classical in if ChkP l then 0 else 40
theorem chkI_no {l : List Lbl} (h : ¬ ChkP l) : chkI l = 40 := if_neg h
theorem chkI_yes {l : List Lbl} (h : ChkP l) : chkI l = 0 := if_pos h
theorem rise_of {l : List Lbl} {k : Nat} (hk : k = l.length) (h : ∀ i x y, i + 1 < k → l[i]? = some x → l[i + 1]? = some y → ltS x.1 y.1 = true) : RiseL l := fun i x y hx hy => h i x y (by
  have := (List.getElem?_eq_some_iff.1 hy).1; omega) hx hy

theorem Check_ok {a : Option Addr} {n c : Nat} {xs : List Lbl} {H : Heap} {K : Int → Heap → Prop} (hx : Sl encL H a n c xs) (hn : n ≤ 1000000000) (hk : ∀ H', Fr [] H H' → K (chkI xs) H') :
    CallH Try.prog fn_label_Check ⟨[.slice a n c]⟩ H fun v H' => ∃ e, v = .int .i64 e ∧ K e H' := by
  apply vc_label_Check
  have hlx := hx.len
  have no : ∀ H', Fr [] H H' → ¬ ChkP xs → ∃ e, Value.int .i64 40 = .int .i64 e ∧ K e H' := fun H' hf h => ⟨_, rfl, by have := hk H' hf; rwa [chkI_no h] at this⟩
  refine ⟨fun vs H' => match vs with
      | [.string last, .int _ i] => ∃ k : Nat, i = k ∧ k ≤ n ∧ (∀ x ∈ xs.take k, LblP x) ∧ (∀ i x y, i + 1 < k → xs[i]? = some x → xs[i + 1]? = some y → ltS x.1 y.1 = true) ∧ ((k = 0 ∧ last = ⟨#[]⟩) ∨ ∃ x, 0 < k ∧ xs[k - 1]? = some x ∧ last = x.1) ∧ Fr [] H H'
      | _ => False,
    fun vs _ => match vs with | [_, .int _ i] => n - i.toNat | _ => 0, ⟨0, rfl, by omega, by simp, fun _ _ _ h => by omega, .inl ⟨rfl, rfl⟩, Fr.refl _ _⟩, ?_⟩
  rintro J last i H1 ⟨k, rfl, hle, hall, hr, hlast, hf⟩
  refine brB_of (fun h0 => ?_) (fun h0 => ?_)
  · have h0' : k < n := by simpa using h0
    have hx1 : xs[k]? = some (xs[k]'(by omega)) := by simp
    generalize xs[k]'(by omega) = x at hx1
    have hin : x ∈ xs := List.mem_of_getElem? hx1
    refine (hx.keep hf).get rfl hx1 (decide_eq_true (by omega)) fun ad ea hc => ⟨_, _, ldL hc, ?_⟩
    refine var_lbl rfl fun b H2 hb hv hf2 => ?_
    have hf2' := hf.keep0 hf2
    refine ⟨fun _ H' => Fr [] H H' ∧ Blk H' ⟨b, 0, none⟩ [.string x.1, .string x.2] ∧ LblP x ∧ ltS last x.1 = true, ?_, ?_⟩
    · refine ⟨_, hv.s0, Name_ok fun H3 hf3 => ?_⟩
      have hf3' := hf2'.keep0 hf3
      refine brB_of (fun h => no H3 hf3' fun h' => ?_) (fun h => ⟨_, (hv.keep hf3).s0, ?_⟩)
      · have := (h'.2.1 x hin).1; simp [this] at h
      have hN : NameP x.1 := by simpa using h
      rw [leS_iff]
      refine brB_of (fun h => no H3 hf3' fun h' => ?_) (fun h => ⟨_, (hv.keep hf3).s1, ?_⟩)
      · rcases hlast with ⟨_, rfl⟩ | ⟨y, h1, h2, rfl⟩
        · have h3 : ltS ByteArray.empty x.1 = decide (x.1.size ≠ 0) := ltS_empty
          have h4 : x.1.size ≠ 0 := by have := hN.1; omega
          rw [decide_eq_true h4] at h3
          have h5 : (⟨#[]⟩ : ByteArray) = ByteArray.empty := rfl
          rw [h5, h3] at h; cases h
        · have := h'.2.2 (k - 1) y x h2 (by rw [show k - 1 + 1 = k by omega]; exact hx1)
          rw [this] at h; cases h
      have hlt : ltS last x.1 = true := by simpa using h
      rw [beqS]
      refine brB_of (fun h => no H3 hf3' fun h' => ?_) (fun h => ⟨_, (hv.keep hf3).s1, Value_ok fun H4 hf4 => ?_⟩)
      · have := (h'.2.1 x hin).2.2; have h := of_decide_eq_true h; rw [empty_iff] at h; omega
      have hne : 1 ≤ x.2.size := by have h := of_decide_eq_false h; rw [empty_iff] at h; omega
      refine brB_of (fun h => no H4 (hf3'.keep0 hf4) fun h' => ?_) (fun h => ⟨hf3'.keep0 hf4, (hv.keep hf3).keep hf4, ⟨hN, by simpa using h, hne⟩, hlt⟩)
      have := (h'.2.1 x hin).2.1; simp [this] at h
    · rintro J H3 ⟨hf3, hv3, hL, hlt⟩
      rw [succ64 (by omega)]
      refine ⟨_, hv3.s0, ⟨k + 1, rfl, by omega, ?_, ?_, .inr ⟨x, by omega, by rw [show k + 1 - 1 = k by omega]; exact hx1, rfl⟩, hf3⟩, mu_lt h0'⟩
      · intro y hy
        rw [List.take_add_one, hx1] at hy
        rcases List.mem_append.1 hy with h | h
        · exact hall y h
        · simp at h; subst h; exact hL
      · intro i u w hi hu hw
        rcases Nat.lt_or_ge (i + 1) k with h | h
        · exact hr i u w h hu hw
        · have : i + 1 = k := by omega
          subst this
          rw [hx1] at hw; cases hw
          rcases hlast with ⟨h1, _⟩ | ⟨y, h1, h2, rfl⟩
          · omega
          · rw [show i + 1 - 1 = i by omega, hu] at h2; cases h2; exact hlt
  · have hkn : k = n := by simp at h0; omega
    subst hkn
    rw [hlx, List.take_length] at hall
    refine brB_of (fun h => no H1 hf fun h' => ?_) (fun h => ⟨_, rfl, ?_⟩)
    · have := h'.1; simp at h; omega
    · have hC : ChkP xs := ⟨by simp at h; omega, hall, rise_of hlx hr⟩
      have := hk H1 hf
      rwa [chkI_yes hC] at this

theorem rCheck_ok {a : Option Addr} {n c : Nat} {xs : List Lbl} {H : Heap} {K : Int → Heap → Prop} (hx : Sl encL H a n c xs) (hk : K (chkI xs) H) :
    CallH Try.prog fn_ref04_Check ⟨[.slice a n c]⟩ H fun v H' => ∃ e, v = .int .i64 e ∧ K e H' := by
  apply vc_ref04_Check
  have hlx := hx.len
  have no : ¬ ChkP xs → ∃ e, Value.int .i64 40 = .int .i64 e ∧ K e H := fun h => ⟨_, rfl, by rwa [chkI_no h] at hk⟩
  refine brB_of (fun h => no fun h' => by have := h'.1; simp at h; omega) (fun h => ?_)
  have hn8 : n ≤ 8 := by simp at h; omega
  refine ⟨fun vs H' => match vs with
      | [.int _ i] => ∃ k : Nat, i = k ∧ k ≤ n ∧ (∀ x ∈ xs.take k, LblP x) ∧ (∀ i x y, i + 1 < k → xs[i]? = some x → xs[i + 1]? = some y → ltS x.1 y.1 = true) ∧ H' = H
      | _ => False,
    fun vs _ => match vs with | [.int _ i] => n - i.toNat | _ => 0, ⟨0, rfl, by omega, by simp, fun _ _ _ h => by omega, rfl⟩, ?_⟩
  rintro J i H1 ⟨k, rfl, hle, hall, hr, rfl⟩
  refine brB_of (fun h0 => ?_) (fun h0 => ⟨_, rfl, ?_⟩)
  · have h0' : k < n := by simpa using h0
    have hx1 : xs[k]? = some (xs[k]'(by omega)) := by simp
    generalize xs[k]'(by omega) = x at hx1
    have hin : x ∈ xs := List.mem_of_getElem? hx1
    refine ⟨fun _ H' => H' = H1 ∧ LblP x ∧ (0 < k → ∀ y, xs[k - 1]? = some y → ltS y.1 x.1 = true), ?_, ?_⟩
    · refine hx.get rfl hx1 (decide_eq_true (by omega)) fun ad ea hc => ⟨_, ldN hc, rName_ok ?_⟩
      refine brB_of (fun h => no fun h' => ?_) (fun h => ?_)
      · have := (h'.2.1 x hin).1; simp [this] at h
      have hN : NameP x.1 := by simpa using h
      refine hx.get rfl hx1 (decide_eq_true (by omega)) fun ad ea hc => ⟨_, ldV hc, rValue_ok ?_⟩
      refine brB_of (fun h => no fun h' => ?_) (fun h => ?_)
      · have := (h'.2.1 x hin).2.1; simp [this] at h
      have hV : ValP x.2 := by simpa using h
      refine hx.get rfl hx1 (decide_eq_true (by omega)) fun ad ea hc => ⟨_, ldV hc, ?_⟩
      rw [beqS]
      refine brB_of (fun h => no fun h' => ?_) (fun h => ?_)
      · have := (h'.2.1 x hin).2.2; have h := of_decide_eq_true h; rw [empty_iff] at h; omega
      have hL : LblP x := ⟨hN, hV, by have h := of_decide_eq_false h; rw [empty_iff] at h; omega⟩
      refine brB_of (fun h => ?_) (fun h => ⟨rfl, hL, fun h' => by simp at h; omega⟩)
      have hk0 : 0 < k := by simpa using h
      have hy1 : xs[k - 1]? = some (xs[k - 1]'(by omega)) := by simp
      generalize xs[k - 1]'(by omega) = y at hy1
      rw [pred64 (by omega) hk0]
      refine hx.get rfl hx1 (decide_eq_true (by omega)) fun ad ea hc => ⟨_, ldN hc, ?_⟩
      refine hx.get rfl hy1 (decide_eq_true (by omega)) fun bd eb hd => ⟨_, ldN hd, ?_⟩
      rw [leS_iff]
      refine brB_of (fun h => no fun h' => ?_) (fun h => ⟨rfl, hL, fun _ z hz => ?_⟩)
      · have := h'.2.2 (k - 1) y x hy1 (by rw [show k - 1 + 1 = k by omega]; exact hx1)
        rw [this] at h; cases h
      · rw [hy1] at hz; cases hz; simpa using h
    · rintro J H3 ⟨rfl, hL, hlt⟩
      rw [succ64 (by omega)]
      refine ⟨⟨k + 1, rfl, by omega, ?_, ?_, rfl⟩, mu_lt h0'⟩
      · intro y hy
        rw [List.take_add_one, hx1] at hy
        rcases List.mem_append.1 hy with h | h
        · exact hall y h
        · simp at h; subst h; exact hL
      · intro i u w hi hu hw
        rcases Nat.lt_or_ge (i + 1) k with h | h
        · exact hr i u w h hu hw
        · have : i + 1 = k := by omega
          subst this
          rw [hx1] at hw; cases hw
          exact hlt (by omega) u hu
  · have hkn : k = n := by simp at h0; omega
    subst hkn
    rw [hlx, List.take_length] at hall
    have hC : ChkP xs := ⟨by omega, hall, rise_of hlx hr⟩
    rwa [chkI_yes hC] at hk

theorem keyL_len {l : List Lbl} (h : ∀ x ∈ l, LblP x) : (keyL l).length ≤ 50 * l.length := by
  induction l with
  | nil => simp [keyL]
  | cons x l ih =>
    have hx := h x (by simp)
    have := ih fun y hy => h y (by simp [hy])
    unfold LblP NameP ValP at hx
    simp only [keyL, List.flatMap_cons, List.length_append, List.length_cons, textL, bl_len] at this ⊢
    rw [uintL_small (by omega), uintL_small (by omega)]
    simp only [List.length_cons, List.length_nil]
    omega
end Go.Proofs
