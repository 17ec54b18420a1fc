/- Turned by a program of mine (port.py) out of the same text of another seat: numbers of types and functions. -/
import Derived.Test.YtijedkfekmopnaaP11w
set_option linter.unusedVariables false
set_option maxRecDepth 100000
open Go Go.GV
namespace Go.Proofs

theorem ext_at {s : ByteArray} {k : Nat} (h : k < s.size) {c : UInt8} (hc : s[k]? = some c) : s.extract k (k + 1) = ⟨#[c]⟩ := by
  apply bl_inj
  rw [bl_ext]
  rw [bl_get] at hc
  rw [List.take_add_one, hc, List.drop_append, List.drop_of_length_le (by rw [List.length_take]; omega), List.length_take, bl_len, Nat.min_eq_left (by omega)]
  simp [bl]
theorem rQuoted_ok {t : ByteArray} {H : Heap} {K : ByteArray → Int → Heap → Prop} (ht : t.size ≤ 1000000000)
    (hk : ∀ (v : ByteArray) (n : Nat), n ≤ t.size → (∀ v' r, bl t = quoteL v' ++ r → bl v = v' ∧ n = (quoteL v').length) → K v n H) :
    CallH Try.prog fn_ref04_Quoted ⟨[.string t]⟩ H fun v H' => ∃ s n, v = .tuple ⟨[.string s, .int .i64 n]⟩ ∧ K s n H' := by
  apply vc_ref04_Quoted
  have hbl := bl_len t
  have bad : (∀ v' r, bl t ≠ quoteL v' ++ r) → ∃ s n, Value.tuple ⟨[.string ⟨#[]⟩, .int .i64 0]⟩ = .tuple ⟨[.string s, .int .i64 n]⟩ ∧ K s n H := fun h => ⟨_, _, rfl, hk ⟨#[]⟩ 0 (by omega) fun v' r e => absurd e (h v' r)⟩
  refine ⟨fun vs H' => H' = H ∧ ∃ c, (bl t)[0]? = some c ∧ c = 34, ?_, ?_⟩
  · refine brB_of (fun h => bad fun v' r e => ?_) (fun h => ?_)
    · have : t.size = 0 := by have := eq_of_beq h; omega
      rw [← hbl, e] at this
      simp [quoteL] at this
    · have h0 : 0 < t.size := by have := ne_of_beq_false h; omega
      obtain ⟨c, h1, h2⟩ := atB_get h0
      rw [bl_get] at h1
      refine chk_true (decide_eq_true (by omega)) ?_
      rw [show Int.toNat 0 = 0 from rfl, ← h2]
      refine brB_of (fun h => bad fun v' r e => ?_) (fun h => ⟨rfl, c, h1, ?_⟩)
      · rw [e] at h1
        simp [quoteL] at h1
        subst h1; simp at h
      · exact UInt8.toNat.inj (by simp at h; show c.toNat = 34; omega)
  rintro J H1 ⟨rfl, c0, hc0, rfl⟩
  refine ⟨fun vs H' => match vs with
      | [.string a, .int _ i] => ∃ k : Nat, i = k ∧ 1 ≤ k ∧ k ≤ t.size + 1 ∧ a.size ≤ k ∧ k ≤ t.size ∧ (∀ v' r, bl t = quoteL v' ++ r → ∃ v2, v' = bl a ++ v2 ∧ (bl t).drop k = bodyL v2 ++ 34 :: r) ∧ H' = H1
      | _ => False,
    fun vs _ => match vs with | [_, .int _ i] => t.size + 2 - i.toNat | _ => 0, ⟨1, rfl, by omega, by omega, by simp [ByteArray.size], ?_, fun v' r e => ⟨v', rfl, by rw [e]; simp [quoteL]⟩, rfl⟩, ?_⟩
  · have := (List.getElem?_eq_some_iff.1 hc0).1; omega
  rintro J a i H2 ⟨k, rfl, hk1, _, hak, hle, hinv, rfl⟩
  have bad2 : (∀ v' r v2, bl t = quoteL v' ++ r → (bl t).drop k ≠ bodyL v2 ++ 34 :: r) → ∃ s n, Value.tuple ⟨[.string ⟨#[]⟩, .int .i64 0]⟩ = .tuple ⟨[.string s, .int .i64 n]⟩ ∧ K s n H2 := fun h => bad fun v' r e => by
    obtain ⟨v2, _, h2⟩ := hinv v' r e
    exact h v' r v2 e h2
  refine brB_of (fun h0 => ?_) (fun h0 => bad2 fun v' r v2 e e2 => ?_)
  rotate_left
  · rw [List.drop_of_length_le (by simp at h0; omega)] at e2
    simp at e2
  have h0' : k < t.size := by simpa using h0
  obtain ⟨c, h1, h2⟩ := atB_get h0'
  have hext := ext_at h0' h1
  rw [bl_get] at h1
  have hdr : (bl t).drop k = c :: (bl t).drop (k + 1) := by
    obtain ⟨h4, h5⟩ := List.getElem?_eq_some_iff.1 h1
    rw [← h5, List.getElem_cons_drop]
  refine chk_true (decide_eq_true (by omega)) ?_
  rw [Int.toNat_natCast, ← h2, succ64 (by omega)]
  refine brB_of (fun h3 => ?_) (fun h3 => brB_of (fun h4 => ?_) (fun h4 => ?_))
  · have h3 : c = 34 := UInt8.toNat.inj (by simp at h3; show c.toNat = 34; omega)
    subst h3
    refine ⟨_, _, rfl, hk a (k + 1) (by omega) fun v' r e => ?_⟩
    obtain ⟨v2, h5, h6⟩ := hinv v' r e
    rw [hdr] at h6
    rcases body_head h6 with ⟨rfl, h7⟩ | ⟨b, v3, _, ⟨h7, h8, _⟩ | ⟨c', h7, _⟩⟩
    · refine ⟨by rw [h5]; simp, ?_⟩
      have hl := congrArg List.length e
      have hl2 := congrArg List.length hdr
      rw [h7] at hl2
      rw [List.length_append] at hl
      rw [List.length_drop, List.length_cons] at hl2
      omega
    · simp at h7; exact absurd h7.1.symm h8
    · simp at h7
  · have h4 : c = 92 := UInt8.toNat.inj (by simp at h4; show c.toNat = 92; omega)
    subst h4
    -- how it goes on
    have hesc : ∀ v' r, bl t = quoteL v' ++ r → ∃ b v3 d, v' = bl a ++ b :: v3 ∧ (bl t).drop (k + 1) = d :: (bodyL v3 ++ 34 :: r) ∧ ((d = 110 ∧ b = 10) ∨ (d = b ∧ (b = 34 ∨ b = 92))) := fun v' r e => by
      obtain ⟨v2, h5, h6⟩ := hinv v' r e
      rw [hdr] at h6
      rcases body_head h6 with ⟨rfl, h7⟩ | ⟨b, v3, rfl, ⟨h7, _, h8, _⟩ | ⟨d, h7, h8⟩⟩
      · simp at h7
      · simp at h7; exact absurd h7.1.symm h8
      · exact ⟨b, v3, d, h5, (List.cons.inj h7).2, h8⟩
    refine brB_of (fun h5 => bad fun v' r e => ?_) (fun h5 => ?_)
    · obtain ⟨b, v3, d, _, h6, _⟩ := hesc v' r e
      rw [List.drop_of_length_le (by simp at h5; omega)] at h6
      simp at h6
    have h5' : k + 1 < t.size := by simp at h5; omega
    obtain ⟨d, h6, h7⟩ := atB_get h5'
    have hext2 := ext_at h5' h6
    rw [bl_get] at h6
    have hdr2 : (bl t).drop (k + 1) = d :: (bl t).drop (k + 1 + 1) := by
      obtain ⟨h4, h5⟩ := List.getElem?_eq_some_iff.1 h6
      rw [← h5, List.getElem_cons_drop]
    refine chk_true (decide_eq_true (by omega)) ?_
    rw [Int.toNat_natCast, ← h7, succ64 (by omega)]
    have one1 : (⟨#[10]⟩ : ByteArray).size = 1 := rfl
    have one2 : (⟨#[d]⟩ : ByteArray).size = 1 := rfl
    refine brB_of (fun h8 => chk_true (decide_eq_true (by omega)) ⟨⟨k + 1 + 1, rfl, by omega, by omega, by rw [size_app]; omega, by omega, fun v' r e => ?_, rfl⟩, ?_⟩) (fun h8 => chk_true (decide_eq_true (by omega)) (chk_true (decide_eq_true ?_) ⟨⟨k + 1 + 1, rfl, by omega, by omega, ?_, by omega, fun v' r e => ?_, rfl⟩, ?_⟩))
    · have h8 : d = 110 := UInt8.toNat.inj (by simp at h8; show d.toNat = 110; omega)
      subst h8
      obtain ⟨b, v3, d, h9, h10, h11⟩ := hesc v' r e
      rw [hdr2] at h10
      obtain ⟨rfl, h12⟩ := List.cons.inj h10
      refine ⟨v3, ?_, h12⟩
      rcases h11 with ⟨_, rfl⟩ | ⟨h, h'⟩
      · rw [h9, bl_app]; simp [bl]
      · subst h; rcases h' with h | h <;> simp at h
    · show t.size + 2 - (((k + 1 + 1 : Nat) : Int)).toNat < t.size + 2 - ((k : Nat) : Int).toNat
      omega
    · (try simp only [Int.toNat_natCast])
      rw [hext2]; omega
    · (try simp only [Int.toNat_natCast])
      rw [hext2, size_app]; omega
    · (try simp only [Int.toNat_natCast])
      rw [hext2]
      obtain ⟨b, v3, d', h9, h10, h11⟩ := hesc v' r e
      rw [hdr2] at h10
      obtain ⟨rfl, h12⟩ := List.cons.inj h10
      refine ⟨v3, ?_, h12⟩
      rcases h11 with ⟨h, _⟩ | ⟨h, h'⟩
      · subst h; simp at h8
      · subst h; rw [h9, bl_app]; simp [bl]
    · show t.size + 2 - (((k + 1 + 1 : Nat) : Int)).toNat < t.size + 2 - ((k : Nat) : Int).toNat
      omega
  · have one2 : (⟨#[c]⟩ : ByteArray).size = 1 := rfl
    refine chk_true (decide_eq_true (by omega)) (chk_true (decide_eq_true ?_) ⟨⟨k + 1, rfl, by omega, by omega, ?_, by omega, fun v' r e => ?_, rfl⟩, ?_⟩)
    · (try simp only [Int.toNat_natCast])
      rw [hext]; omega
    · (try simp only [Int.toNat_natCast])
      rw [hext, size_app]; omega
    · (try simp only [Int.toNat_natCast])
      rw [hext]
      obtain ⟨v2, h5, h6⟩ := hinv v' r e
      rw [hdr] at h6
      rcases body_head h6 with ⟨rfl, h7⟩ | ⟨b, v3, rfl, ⟨h7, h8, _⟩ | ⟨c', h7, _⟩⟩
      · simp at h7; have := h7.1; subst this; simp at h3
      · obtain ⟨rfl, h9⟩ := List.cons.inj h7
        exact ⟨v3, by rw [h5, bl_app]; simp [bl], h9⟩
      · have := (List.cons.inj h7).1
        subst this; simp at h4
    · show t.size + 2 - (((k + 1 : Nat) : Int)).toNat < t.size + 2 - ((k : Nat) : Int).toNat
      omega
end Go.Proofs
