/- Turned by a program of mine (port.py) out of the same text of another seat: numbers of types and functions. -/
import Derived.Test.YtijedkfekmopnaaP11u
set_option linter.unusedVariables false
set_option maxRecDepth 100000
open Go Go.GV
namespace Go.Proofs

/-! quoted texts, read -/
theorem quoteB_pre {a b : UInt8} {r s : List UInt8} (h : quoteB a ++ r = quoteB b ++ s) : a = b ∧ r = s := by
  have := body_inj (u := [a]) (v := [b]) (r := []) (s := [])
  rcases quoteB_cases a with ⟨e, h1, h2, h3⟩ | ⟨h1, e⟩ | ⟨h1, e⟩ | ⟨h1, e⟩ <;> rcases quoteB_cases b with ⟨e', h1', h2', h3'⟩ | ⟨h1', e'⟩ | ⟨h1', e'⟩ | ⟨h1', e'⟩ <;> rw [e, e'] at h <;>
    simp only [List.cons_append, List.nil_append, List.cons.injEq] at h
  · exact h
  · exact absurd h.1 h2
  · exact absurd h.1 h2
  · exact absurd h.1 h2
  · exact absurd h.1.symm h2'
  · exact ⟨by rw [h1, h1'], h.2.2⟩
  · have := h.2.1; simp at this
  · have := h.2.1; simp at this
  · exact absurd h.1.symm h2'
  · have := h.2.1; simp at this
  · exact ⟨by rw [h1, h1'], h.2.2⟩
  · have := h.2.1; simp at this
  · exact absurd h.1.symm h2'
  · have := h.2.1; simp at this
  · have := h.2.1; simp at this
  · exact ⟨by rw [h1, h1'], h.2.2⟩
/-- How what is left of a quoted text begins. -/
theorem body_head {v r w : List UInt8} (h : w = bodyL v ++ 34 :: r) : (v = [] ∧ w = 34 :: r) ∨ ∃ b v', v = b :: v' ∧ ((w = b :: (bodyL v' ++ 34 :: r) ∧ b ≠ 34 ∧ b ≠ 92 ∧ b ≠ 10) ∨ ∃ c, w = 92 :: c :: (bodyL v' ++ 34 :: r) ∧ ((c = 110 ∧ b = 10) ∨ (c = b ∧ (b = 34 ∨ b = 92)))) := by
  cases v with
  | nil => exact .inl ⟨rfl, h⟩
  | cons b v =>
    refine .inr ⟨b, v, rfl, ?_⟩
    rw [bodyL_cons, List.append_assoc] at h
    rcases quoteB_cases b with ⟨e, h1, h2, h3⟩ | ⟨h1, e⟩ | ⟨h1, e⟩ | ⟨h1, e⟩ <;> rw [e] at h
    · exact .inl ⟨h, h1, h2, h3⟩
    · exact .inr ⟨34, h, .inr ⟨h1.symm, .inl h1⟩⟩
    · exact .inr ⟨92, h, .inr ⟨h1.symm, .inr h1⟩⟩
    · exact .inr ⟨110, h, .inl ⟨rfl, h1⟩⟩
theorem body_pre : ∀ {u v r w : List UInt8}, bodyL u ++ w = bodyL v ++ 34 :: r → ∃ v', v = u ++ v' ∧ w = bodyL v' ++ 34 :: r
  | [], v, r, w, h => ⟨v, rfl, by simpa [bodyL] using h⟩
  | a :: u, v, r, w, h => by
    rw [bodyL_cons, List.append_assoc] at h
    cases v with
    | nil =>
      rcases quoteB_cases a with ⟨e, h1, h2, h3⟩ | ⟨h1, e⟩ | ⟨h1, e⟩ | ⟨h1, e⟩ <;> (rw [e] at h; simp [bodyL] at h)
      exact absurd h.1 h1
    | cons b v =>
      rw [bodyL_cons, List.append_assoc] at h
      obtain ⟨e1, e2⟩ := quoteB_pre h
      subst e1
      obtain ⟨v', h1, h2⟩ := body_pre e2
      exact ⟨v', by rw [h1]; rfl, h2⟩

theorem value_ok {pb : Nat} {t : ByteArray} {H : Heap} {K : ByteArray → Bool → Heap → Prop} (hp : Blk H ⟨pb, 0, none⟩ [.string t]) (ht : t.size ≤ 1000000000)
    (hyes : ∀ v t' H', bl t = quoteL (bl v) ++ bl t' → Blk H' ⟨pb, 0, none⟩ [.string t'] → Fr [pb] H H' → K v true H')
    (hno : (∀ v r, bl t ≠ quoteL v ++ r) → ∀ H', Fr [pb] H H' → K ⟨#[]⟩ false H') :
    CallH Try.prog fn_label_parser_value ⟨[.pointer (some ⟨pb, 0, none⟩)]⟩ H fun v H' => ∃ s b, v = .tuple ⟨[.string s, .bool b]⟩ ∧ K s b H' := by
  apply vc_label_parser_value
  refine take_ok hp (fun u H1 hu hp1 hf1 => ?_) fun h => ?_
  rotate_left
  · refine brB_of (fun _ => ⟨_, _, rfl, hno (fun v r e => h (bodyL v ++ 34 :: r) ?_) H (Fr.refl _ _)⟩) (fun h => by cases h)
    rw [e]; unfold quoteL; simp [bl]
  refine brB_of (fun h => by cases h) (fun _ => ?_)
  have hu : bl t = 34 :: bl u := hu
  have hpl := hp1.lt
  have hul : u.size + 1 = t.size := by rw [← bl_len, ← bl_len, hu]; rfl
  -- no text is quoted there
  have none_of : (∀ v r, bl u ≠ bodyL v ++ 34 :: r) → ∀ v r, bl t ≠ quoteL v ++ r := fun h v r e => h v r (by
    rw [hu] at e
    unfold quoteL at e
    simpa using e)
  intro b H2 hn2
  have hbH := hn2.eq
  have hp2 := hp1.keep hn2.fr
  refine ⟨_, hp2.ld0 (by kernel_rfl) rfl, ?_⟩
  refine cv_sb bT.str bT.sl (by kernel_rfl) fun b3 c3 H3 hb3 hx3 hf3 => ?_
  have hbB := (Bld.new hn2 (tB := 81)).keep hf3
  have hb3S : b3 ≠ b := fun e => by have := hn2.size; omega
  have hpb : pb < H1.size := hpl
  refine ⟨fun vs H' => match vs with
      | [.bool bk, .int _ i] => ∃ (k : Nat) (S : List Nat) (xs : List UInt8), i = k ∧ k ≤ u.size ∧ xs.length ≤ k ∧ BldH H' b S xs ∧ (∀ j ∈ S, H1.size ≤ j) ∧ b3 ∉ S ∧ Sl encByte H' (some ⟨b3, 0, none⟩) u.size c3 (bl u) ∧ (bl u).take k = bodyL xs ++ (if bk then [92] else []) ∧ Fr [] H1 H'
      | _ => False,
    fun vs _ => match vs with | [_, .int _ i] => u.size - i.toNat | _ => 0, ⟨0, [b], [], rfl, by omega, by simp, hbB, fun j hj => by simp at hj; omega, by simpa using hb3S, hx3, by simp [bodyL], hn2.fr.keep0 hf3⟩, ?_⟩
  rintro J bk i H4 ⟨k, S, xs, rfl, hle, hxl, hb4, hS4, hbS4, hx4, htk, hf4⟩
  have hw : bl u = bodyL xs ++ ((if bk then [92] else []) ++ (bl u).drop k) := by
    rw [← List.append_assoc, ← htk, List.take_append_drop]
  have hul2 := bl_len u
  refine brB_of (fun h0 => ?_) (fun h0 => ⟨_, _, rfl, hno (none_of fun v r e => ?_) H4 (hf1.trans' hf4 (fun k hk _ => hk) (by simp))⟩)
  rotate_left
  · rw [List.drop_of_length_le (by simp at h0; omega)] at hw
    obtain ⟨v', _, h2⟩ := body_pre (hw.symm.trans e)
    rcases body_head h2 with ⟨_, h3⟩ | ⟨b, v'', _, ⟨h3, _, h4, _⟩ | ⟨c, h3, _⟩⟩ <;> cases bk <;> simp at h3
    all_goals (first | exact h4 h3.1.symm | skip)
  have h0' : k < u.size := by simpa using h0
  have hx1 : (bl u)[k]? = some ((bl u)[k]'(by omega)) := by simp
  generalize (bl u)[k]'(by omega) = x at hx1
  have hne : bl u ≠ [] := fun e => by rw [e] at hx1; cases hx1
  have hdr : (bl u).drop k = x :: (bl u).drop (k + 1) := by
    obtain ⟨h4, h5⟩ := List.getElem?_eq_some_iff.1 hx1
    rw [← h5, List.getElem_cons_drop]
  have htk1 : (bl u).take (k + 1) = (bl u).take k ++ [x] := by rw [List.take_add_one, hx1]; rfl
  rw [hdr] at hw
  -- the next state
  refine ⟨fun vs H' => match vs with
      | [.bool bk'] => ∃ (S : List Nat) (xs : List UInt8), xs.length ≤ k + 1 ∧ BldH H' b S xs ∧ (∀ j ∈ S, H1.size ≤ j) ∧ b3 ∉ S ∧ Sl encByte H' (some ⟨b3, 0, none⟩) u.size c3 (bl u) ∧ (bl u).take (k + 1) = bodyL xs ++ (if bk' then [92] else []) ∧ Fr [] H1 H'
      | _ => False, ?_, ?_⟩
  rotate_left
  · rintro J bk' H5 ⟨S, xs, h1, h2, h3, h4, h5, h6, h7⟩
    rw [succ64 (by omega)]
    exact ⟨⟨k + 1, S, xs, rfl, by omega, h1, h2, h3, h4, h5, h6, h7⟩, mu_lt h0'⟩
  refine hx4.get rfl hx1 (decide_eq_true (by omega)) fun ad ea hc => ⟨_, ldB hc, ?_⟩
  have q10 := u8_eq x 10 (by omega)
  have q34 := u8_eq x 34 (by omega)
  have q92 := u8_eq x 92 (by omega)
  have q110 := u8_eq x 110 (by omega)
  simp only [Int.cast_ofNat_Int] at q10 q34 q92 q110
  have wr : ∀ (y : UInt8) (n : Int), n = y.toNat → (bl u).take (k + 1) = bodyL (xs ++ [y]) → CallH Try.prog 69 ⟨[.pointer (some ⟨b, 0, none⟩), .int .u8 n]⟩ H4 fun v H' => ∃ v_1, v = v_1 ∧
      ∃ (S : List Nat) (xs : List UInt8), xs.length ≤ k + 1 ∧ BldH H' b S xs ∧ (∀ j ∈ S, H1.size ≤ j) ∧ b3 ∉ S ∧ Sl encByte H' (some ⟨b3, 0, none⟩) u.size c3 (bl u) ∧ (bl u).take (k + 1) = bodyL xs ++ (if false then [92] else []) ∧ Fr [] H1 H' := fun y n hn hy => by
    refine WriteByte_ok (x := y) hb4 hn (by omega) fun H5 S5 hb5 hf5 hg5 => ?_
    refine ⟨S5, _, by simp; omega, hb5, fun j hj => ?_, fun hk => ?_, hx4.fr hf5 (fun ad e => by cases e; exact hbS4), by simpa using hy, hf4.keep hf5 hS4⟩
    · rcases hg5 j hj with h | h
      · exact hS4 j h
      · have := hf4.size; omega
    · rcases hg5 b3 hk with h | h
      · exact hbS4 h
      · have := sl_blk_lt hx4 hne; omega
  have bad : (∀ v' r, ((if bk then [92] else []) ++ x :: (bl u).drop (k + 1) : List UInt8) ≠ bodyL v' ++ 34 :: r) → ∃ s b, (Value.tuple ⟨[.string ⟨#[]⟩, .bool false]⟩ = .tuple ⟨[.string s, .bool b]⟩) ∧ K s b H4 := fun h => ⟨_, _, rfl, hno (none_of fun v r e => by
    obtain ⟨v', _, h2⟩ := body_pre (hw.symm.trans e)
    exact h v' r h2) H4 (hf1.trans' hf4 (fun k hk _ => hk) (by simp))⟩
  rw [q10, q34, q92, q110]
  refine ⟨fun vs H' => vs = [.bool (bk && decide (x = 110))] ∧ H' = H4, ?_, ?_⟩
  · refine brB_of (fun h => ?_) (fun h => ?_)
    · subst h; exact ⟨by simp, rfl⟩
    · subst h; exact ⟨by simp, rfl⟩
  rintro J b2 H5 ⟨e, rfl⟩
  simp only [List.cons.injEq, Value.bool.injEq, and_true] at e
  subst e
  refine brB_of (fun h1 => ?_) (fun h1 => ?_)
  · simp at h1
    obtain ⟨rfl, rfl⟩ := h1
    refine wr 10 10 rfl ?_
    rw [htk1, htk, bodyL_app]
    simp [bodyL, quoteB]
  refine brB_of (fun h2 => ?_) (fun h2 => ?_)
  · subst h2
    have hx110 : x ≠ 110 := by simpa using h1
    have n92 : ((x.toNat : Int) != 92) = false → x = 92 := fun h => UInt8.toNat.inj (by simp at h; show x.toNat = 92; omega)
    have n34 : ((x.toNat : Int) != 34) = false → x = 34 := fun h => UInt8.toNat.inj (by simp at h; show x.toNat = 34; omega)
    have esc : x = 34 ∨ x = 92 → (bl u).take (k + 1) = bodyL (xs ++ [x]) := fun h => by
      rw [htk1, htk, bodyL_app]
      rcases h with rfl | rfl <;> simp [bodyL, quoteB]
    refine brB_of (fun h3 => brB_of (fun h4 => bad fun v' r e => ?_) (fun h4 => wr x _ rfl (esc (.inr (n92 h4))))) (fun h3 => wr x _ rfl (esc (.inl (n34 h3))))
    have h3 : x ≠ 34 := fun e => by subst e; simp at h3
    have h4 : x ≠ 92 := fun e => by subst e; simp at h4
    rcases body_head e with ⟨_, h5⟩ | ⟨c, v'', _, ⟨h5, _, h6, _⟩ | ⟨c', h5, h6⟩⟩
    · simp at h5
    · simp at h5; exact h6 h5.1.symm
    · simp at h5
      rcases h6 with ⟨h6, _⟩ | ⟨h6, h7⟩
      · exact hx110 (h5.1.trans h6)
      · rcases h7 with h7 | h7
        · exact h3 (h5.1.trans (h6.trans h7))
        · exact h4 (h5.1.trans (h6.trans h7))
  · subst h2
    refine brB_of (fun h3 => ?_) (fun h3 => brB_of (fun h4 => ?_) (fun h4 => brB_of (fun h5 => bad fun v' r e => ?_) (fun h5 => wr x _ rfl ?_)))
    · have h3 : x = 92 := of_decide_eq_true h3
      subst h3
      exact ⟨S, xs, by omega, hb4, hS4, hbS4, hx4, by rw [htk1, htk]; simp, hf4⟩
    · have h4 : x = 34 := of_decide_eq_true h4
      subst h4
      have hp4 := hp1.keep hf4
      refine ⟨_, hp4.ld0 (by kernel_rfl) rfl, ?_⟩
      rw [succ64 (by omega)]
      refine chk_true (decide_eq_true (by omega)) ?_
      refine hp4.st0 (v := .string _) (by kernel_rfl) (by kernel_rfl) (fun x hx => by simp [Value.cells] at hx; subst hx; rfl) (by simp [Value.cells]) fun H6 hp6 hf6 => ?_
      have hbS : pb ∉ S := fun h => by have := hS4 pb h; omega
      refine BString_ok (hb4.fr hf6 (fun j hj => by simp; exact fun e => hbS (e ▸ hj))) (by omega) fun H7 hf7 => ⟨_, _, rfl, hyes _ _ H7 ?_ (hp6.fr hf7 hbS) ?_⟩
      · rw [hu, bl_mk xs, Int.toNat_natCast, Int.toNat_natCast, tail_ext (by omega)]
        conv => lhs; rw [hw]
        unfold quoteL
        simp
      · exact ((hf1.trans' hf4 (T := [pb]) (fun k hk _ => hk) (by simp)).trans' hf6 (fun k hk _ => hk) (fun k hk _ => hk)).trans' hf7 (fun k hk _ => hk) (fun k hk hlt => absurd (hS4 k hk) (by have := hf1.size; omega))
    · have h3 : x ≠ 92 := of_decide_eq_false h3
      have h4 : x ≠ 34 := of_decide_eq_false h4
      have h5 : x = 10 := of_decide_eq_true h5
      rcases body_head e with ⟨_, h6⟩ | ⟨c, v'', _, ⟨h6, _, _, h7⟩ | ⟨c', h6, _⟩⟩
      · simp at h6; exact h4 h6.1
      · simp at h6; exact h7 (h6.1.symm.trans h5)
      · simp at h6; exact h3 h6.1
    · have h3 : x ≠ 92 := of_decide_eq_false h3
      have h4 : x ≠ 34 := of_decide_eq_false h4
      have h5 : x ≠ 10 := of_decide_eq_false h5
      rw [htk1, htk, bodyL_app]
      simp [bodyL, quoteB, h3, h4, h5]
end Go.Proofs
