/- Turned by a program of mine (port.py) out of the same text of another seat: numbers of types and functions. -/
import Derived.Test.YtijedkfekmopnaaP11x
set_option linter.unusedVariables false
set_option maxRecDepth 100000
open Go Go.GV
namespace Go.Proofs

theorem lblL_61 (y : Lbl) (r : List UInt8) : lblL y ++ r = bl y.1 ++ 61 :: (quoteL (bl y.2) ++ r) := by unfold lblL; simp
theorem rParse_ok {s : ByteArray} {H : Heap} {K : Option Addr → Nat → Nat → Int → Heap → Prop} (hs : s.size ≤ 1000000000)
    (hno : (∀ l, ChkP l → bl s ≠ printL l) → ∀ H', Fr [] H H' → K none 0 0 11 H')
    (hyes : ∀ l a n c H', ChkP l → bl s = printL l → Own encL 44 H.size H' a n c l → Fr [] H H' → K a n c 0 H') :
    CallH Try.prog fn_ref04_Parse ⟨[.string s]⟩ H fun v H' => ∃ a n c e, v = .tuple ⟨[.slice a n c, .int .i64 e]⟩ ∧ K a n c e H' := by
  apply vc_ref04_Parse
  intro b H1 hn1
  have hbl := bl_len s
  have ho1 : Own encL 44 H.size H1 (some ⟨b, 0, none⟩) 0 0 [] := Own.made encL 44 hn1 (Nat.le_refl _)
  refine brB_of (fun h => ⟨_, _, _, _, rfl, hyes [] _ _ _ H1 ⟨by simp, by simp, fun i x y h => by simp at h⟩ ?_ ho1 hn1.fr⟩) (fun h => ?_)
  · rw [beqS] at h
    rw [of_decide_eq_true h]; rfl
  have hne : s ≠ ⟨#[123, 125]⟩ := by rw [beqS] at h; exact of_decide_eq_false h
  refine ⟨fun vs H' => match vs with
      | [.slice a n c, .int _ i] => ∃ (xs : Lbls) (p : Nat), i = p ∧ p ≤ s.size + 1 ∧ xs.length ≤ p ∧ 1 ≤ p ∧ Own encL 44 H.size H' a n c xs ∧ Fr [] H H' ∧ (∀ l, ChkP l → bl s = printL l → (l = xs ∧ p = s.size) ∨ ∃ y m, l = xs ++ y :: m ∧ (bl s).drop p = lblL y ++ restL m)
      | _ => False,
    fun vs _ => match vs with | [_, .int _ i] => s.size + 1 - i.toNat | _ => 0, ⟨[], 1, rfl, by omega, by simp, by omega, ho1, hn1.fr, fun l hl e => ?_⟩, ?_⟩
  · cases l with
    | nil => exact absurd (bl_inj e) hne
    | cons y m => exact .inr ⟨y, m, rfl, by rw [e]; rfl⟩
  rintro J a n c i H2 ⟨xs, p, rfl, hps, hxp, hp1, ho, hf, hcm⟩
  refine brB_of (fun h0 => ?_) (fun h0 => ?_)
  · have h0' : p < s.size := by simpa using h0
    have hcm' : ∀ l, ChkP l → bl s = printL l → ∃ y m, l = xs ++ y :: m ∧ (bl s).drop p = bl y.1 ++ 61 :: (quoteL (bl y.2) ++ restL m) ∧ ∀ b ∈ bl y.1, b ≠ 61 := fun l hl e => by
      rcases hcm l hl e with ⟨_, h⟩ | ⟨y, m, h1, h2⟩
      · omega
      · exact ⟨y, m, h1, by rw [h2, lblL_61], name_noeq (hl.2.1 y (by rw [h1]; simp)).1⟩
    refine ⟨fun vs H' => match vs with
        | [.int _ i] => ∃ k : Nat, i = k ∧ p ≤ k ∧ k ≤ s.size ∧ (∀ b ∈ ((bl s).drop p).take (k - p), b ≠ 61) ∧ H' = H2
        | _ => False,
      fun vs _ => match vs with | [.int _ i] => s.size - i.toNat | _ => 0, ⟨p, rfl, by omega, by omega, by simp, rfl⟩, ?_⟩
    rintro J i H3 ⟨k, rfl, hpk, hks, hu61, rfl⟩
    refine brB_of (fun h1 => ?_) (fun h1 => ?_)
    · have h1' : k < s.size := by simpa using h1
      obtain ⟨ch, h2, h3⟩ := atB_get h1'
      rw [bl_get] at h2
      have h2' : ((bl s).drop p)[k - p]? = some ch := by rw [List.getElem?_drop, show p + (k - p) = k by omega]; exact h2
      refine chk_true (decide_eq_true (by omega)) ?_
      rw [Int.toNat_natCast, ← h3, succ64 (by omega)]
      refine brB_of (fun h4 => ⟨⟨k + 1, rfl, by omega, by omega, ?_, rfl⟩, mu_lt h1'⟩) (fun h4 => ?_)
      · rw [show k + 1 - p = (k - p) + 1 by omega, List.take_add_one, h2']
        intro b hb
        rcases List.mem_append.1 hb with h | h
        · exact hu61 b h
        · simp at h; subst h
          exact fun e => by subst e; simp at h4
      have h4 : ch = 61 := UInt8.toNat.inj (by simp at h4; show ch.toNat = 61; omega)
      subst h4
      have hdr : (bl s).drop p = ((bl s).drop p).take (k - p) ++ 61 :: (bl s).drop (k + 1) := by
        have e1 : ((bl s).drop p).drop (k - p) = 61 :: (bl s).drop (k + 1) := by
          rw [List.drop_drop, show p + (k - p) = k by omega]
          obtain ⟨h4, h5⟩ := List.getElem?_eq_some_iff.1 h2
          rw [← h5, List.getElem_cons_drop]
        rw [← e1, List.take_append_drop]
      refine brB_of (fun h5 => by simp at h5; omega) (fun _ => chk_true (decide_eq_true (by omega)) ?_)
      have htl : bl (s.extract (((k + 1 : Nat) : Int)).toNat ((s.size : Nat) : Int).toNat) = (bl s).drop (k + 1) := by
        simp only [Int.toNat_natCast]
        exact tail_ext (by omega)
      have hsz : (s.extract (((k + 1 : Nat) : Int)).toNat ((s.size : Nat) : Int).toNat).size = s.size - (k + 1) := by
        rw [← bl_len, htl, List.length_drop, hbl]
      refine rQuoted_ok (by omega) fun v m hm hq => ?_
      rw [hsz] at hm
      rw [htl] at hq
      -- what is read, if it is labels
      have hcm2 : ∀ l, ChkP l → bl s = printL l → ∃ y r, l = xs ++ y :: r ∧ ((bl s).drop p).take (k - p) = bl y.1 ∧ bl v = bl y.2 ∧ m = (quoteL (bl y.2)).length ∧ (bl s).drop (k + 1) = quoteL (bl y.2) ++ restL r := fun l hl e => by
        obtain ⟨y, r, h5, h6, h7⟩ := hcm' l hl e
        obtain ⟨h8, h9⟩ := cut_first hu61 h7 (hdr.symm.trans h6)
        obtain ⟨h10, h11⟩ := hq _ _ h9
        exact ⟨y, r, h5, h8, h10, h11, h9⟩
      refine brB_of (fun h5 => ⟨_, _, _, _, rfl, hno (fun l hl e => ?_) H3 hf⟩) (fun h5 => ?_)
      · obtain ⟨y, r, _, _, _, h6, _⟩ := hcm2 l hl e
        have := eq_of_beq h5
        simp [quoteL] at h6
        omega
      refine chk_true (decide_eq_true (by omega)) ?_
      have hxs : xs.length ≤ 1000000000 := by omega
      refine ap_one (E := encL) ((s.extract ((p : Nat) : Int).toNat ((k : Nat) : Int).toNat, v) : Lbl) slice23 elem64 ho hf rfl (by have := ho.1; omega) fun _ a' n' c' H4 ho4 hf4 _ => ?_
      have ew : IntKind.i64.wrap (IntKind.i64.wrap (((k + 1 : Nat) : Int) + ((m : Nat) : Int)) + 1) = ((k + 1 + m + 1 : Nat) : Int) := by
        rw [wrap64_of (n := ((k + 1 : Nat) : Int) + ((m : Nat) : Int)) (by omega) (by omega), wrap64_of (by omega) (by omega)]; omega
      rw [ew]
      refine ⟨⟨_, k + 1 + m + 1, rfl, by omega, by simp; omega, by omega, ho4, hf4, fun l hl e => ?_⟩, ?_⟩
      · obtain ⟨y, r, h6, h7, h8, h9, h10⟩ := hcm2 l hl e
        have hy : ((s.extract ((p : Nat) : Int).toNat ((k : Nat) : Int).toNat, v) : Lbl) = y := by
          refine Prod.ext (bl_inj ?_) (bl_inj h8)
          show bl (s.extract ((p : Nat) : Int).toNat ((k : Nat) : Int).toNat) = _
          rw [bl_ext, ← h7, List.take_drop]
          simp only [Int.toNat_natCast]
          rw [show p + (k - p) = k by omega]
        rw [hy]
        have hl2 := congrArg List.length h10
        rw [List.length_drop, hbl, List.length_append, ← h9] at hl2
        have hd2 : (bl s).drop (k + 1 + m + 1) = (restL r).drop 1 := by
          rw [show k + 1 + m + 1 = (k + 1) + (m + 1) by omega, ← List.drop_drop, h10, ← List.drop_drop, h9, List.drop_left]
        cases r with
        | nil => exact .inl ⟨by rw [h6], by simp [restL] at hl2; omega⟩
        | cons z r => exact .inr ⟨z, r, by rw [h6]; simp, by rw [hd2]; rfl⟩
      · show s.size + 1 - (((k + 1 + m + 1 : Nat) : Int)).toNat < s.size + 1 - ((p : Nat) : Int).toNat
        omega
    · have hk : k = s.size := by simp at h1; omega
      subst hk
      refine brB_of (fun _ => ⟨_, _, _, _, rfl, hno (fun l hl e => ?_) H3 hf⟩) (fun h => by simp at h)
      obtain ⟨y, m, _, h2, _⟩ := hcm' l hl e
      have : (61 : UInt8) ∈ ((bl s).drop p).take (s.size - p) := by
        rw [List.take_of_length_le (by rw [List.length_drop, hbl]; omega), h2]; simp
      exact hu61 _ this rfl
  · have hcm' : ∀ l, ChkP l → bl s = printL l → l = xs := fun l hl e => by
      rcases hcm l hl e with ⟨h, _⟩ | ⟨y, m, _, h2⟩
      · exact h
      · rw [List.drop_of_length_le (by simp at h0; omega), lblL_61] at h2
        simp at h2
    refine rPrint_ok ho.sl (fun hC => ?_) fun hC => ?_
    · exact brB_of (fun _ => ⟨_, _, _, _, rfl, hno (fun l hl e => hC (hcm' l hl e ▸ hl)) H2 hf⟩) (fun h => by simp at h)
    · refine brB_of (fun h => by simp at h) (fun _ => brB_of (fun h => ⟨_, _, _, _, rfl, hno (fun l hl e => ?_) H2 hf⟩) (fun h => ⟨_, _, _, _, rfl, hyes xs _ _ _ H2 hC ?_ ho hf⟩))
      · have := hcm' l hl e
        subst this
        have : (⟨(printL l).toArray⟩ : ByteArray) = s := by apply bl_inj; rw [bl_mk, e]
        rw [this] at h
        simp at h
      · rw [beqS] at h
        have h : (⟨(printL xs).toArray⟩ : ByteArray) = s := by simpa using h
        rw [← h, bl_mk]
end Go.Proofs
