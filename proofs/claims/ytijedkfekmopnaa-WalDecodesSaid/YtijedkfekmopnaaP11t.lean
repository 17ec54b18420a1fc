/- Turned by a program of mine (port.py) out of the same text of another seat: numbers of types and functions. -/
import Derived.Test.YtijedkfekmopnaaP11s
set_option linter.unusedVariables false
set_option maxRecDepth 100000
open Go Go.GV
namespace Go.Proofs

/-- Too short for a text. -/
def ShortT (r : List UInt8) : Prop := ShortU r ∨ ∃ n, n < 18446744073709551616 ∧ ∃ t, r = uintL n ++ t ∧ t.length < n
/-- What a text that is read comes to. -/
def GT (r : List UInt8) (a : Nat) (t : ByteArray) (next e : Int) : Prop :=
  (r = textL t ++ r.drop (textL t).length ∧ (textL t).length ≤ r.length ∧ next = ((a + (textL t).length : Nat) : Int) ∧ e = 0) ∨ (t = ⟨#[]⟩ ∧ next = 0 ∧ e = 10 ∧ ShortT r) ∨ (t = ⟨#[]⟩ ∧ next = 0 ∧ e = 11 ∧ ¬ ShortU r ∧ NoU r)
theorem GT.bad {r : List UInt8} {a : Nat} {v next e : Int} (h : GU r a v next e) (he : e ≠ 0) : GT r a ⟨#[]⟩ 0 e := by
  rcases h with ⟨n, _, _, _, _, _, h⟩ | ⟨_, _, h, h1⟩ | ⟨_, _, h, h1⟩
  · exact absurd h he
  · exact .inr (.inl ⟨rfl, rfl, h, .inl h1⟩)
  · exact .inr (.inr ⟨rfl, rfl, h, h1⟩)
theorem ShortT.no {r x : List UInt8} (h : ShortT r) (t : ByteArray) (ht : t.size < 18446744073709551616) : r ≠ textL t ++ x := by
  intro e
  unfold textL at e
  rw [List.append_assoc] at e
  rcases h with h | ⟨n, hn, t', h1, h2⟩
  · exact h.no _ ht _ e
  · obtain ⟨e1, e2⟩ := uint_eq (h1.symm.trans e)
    rw [e2, List.length_append, bl_len] at h2
    omega
theorem text_eq {s t : ByteArray} {x y : List UInt8} (h : textL s ++ x = textL t ++ y) : s = t ∧ x = y := by
  unfold textL at h
  rw [List.append_assoc, List.append_assoc] at h
  obtain ⟨e1, e2⟩ := uint_eq h
  have := List.append_inj e2 (by rw [bl_len, bl_len, e1])
  exact ⟨bl_inj this.1, this.2⟩
theorem size64 {t : ByteArray} {r : List UInt8} (h : (textL t).length ≤ r.length) : t.size ≤ r.length := by
  unfold textL at h
  rw [List.length_append, bl_len] at h; omega
/-- A text that stands there is read. -/
theorem GT.of {r x : List UInt8} {a : Nat} {t t' : ByteArray} {next e : Int} (h : GT r a t next e) (ht : t'.size < 18446744073709551616) (hr : r = textL t' ++ x) : t = t' ∧ next = ((a + (textL t').length : Nat) : Int) ∧ e = 0 := by
  rcases h with ⟨h1, h2, h3, h4⟩ | ⟨_, _, _, h⟩ | ⟨_, _, _, _, h⟩
  · obtain ⟨rfl, _⟩ := text_eq (h1.symm.trans hr)
    exact ⟨rfl, h3, h4⟩
  · exact absurd hr (h.no t' ht)
  · unfold textL at hr
    rw [List.append_assoc] at hr
    exact absurd hr (h _ ht _)
theorem GT.same {r : List UInt8} {a : Nat} {t t' : ByteArray} {next e next' e' : Int} (hr : r.length < 18446744073709551616) (h : GT r a t next e) (h' : GT r a t' next' e') : t = t' ∧ next = next' ∧ e = e' := by
  rcases h with ⟨h1, h2, h3, h4⟩ | ⟨rfl, rfl, rfl, h1⟩ | ⟨rfl, rfl, rfl, h1, h2⟩
  · have := size64 h2
    obtain ⟨rfl, rfl, rfl⟩ := h'.of (by omega) h1
    exact ⟨rfl, h3, h4⟩
  · rcases h' with ⟨h1', h2', h3, h4⟩ | ⟨rfl, rfl, rfl, h1'⟩ | ⟨rfl, rfl, rfl, h1', h2'⟩
    · have := size64 h2'
      exact absurd h1' (h1.no _ (by omega))
    · exact ⟨rfl, rfl, rfl⟩
    · rcases h1 with h | ⟨n, hn, t, h, _⟩
      · exact absurd h h1'
      · exact absurd h (h2' n hn t)
  · rcases h' with ⟨h1', h2', h3, h4⟩ | ⟨rfl, rfl, rfl, h1'⟩ | ⟨rfl, rfl, rfl, h1', h2'⟩
    · have := size64 h2'
      unfold textL at h1'
      rw [List.append_assoc] at h1'
      exact absurd h1' (h2 _ (by omega) _)
    · rcases h1' with h | ⟨n, hn, t, h, _⟩
      · exact absurd h h1
      · exact absurd h (h2 n hn t)
    · exact ⟨rfl, rfl, rfl⟩


theorem GetText_ok {s : ByteArray} {at' : Int} {H : Heap} {K : ByteArray → Int → Int → Heap → Prop} (hs : s.size ≤ 100000000000) (hbad : ¬ (0 ≤ at' ∧ at' ≤ s.size) → K ⟨#[]⟩ 0 1 H)
    (hk : ∀ a : Nat, at' = a → a ≤ s.size → ∀ t n e H', GT ((bl s).drop a) a t n e → Fr [] H H' → K t n e H') :
    CallH Try.prog fn_zig_GetText ⟨[.string s, .int .i64 at']⟩ H fun v H' => ∃ t m e, v = .tuple ⟨[.string t, .int .i64 m, .int .i64 e]⟩ ∧ K t m e H' := by
  apply vc_zig_GetText
  refine GetUint_ok hs (fun h => brB_of (fun _ => ⟨_, _, _, rfl, hbad h⟩) (fun h => by simp at h)) fun a ea ha v n e hg => ?_
  subst ea
  have hk := fun t n e h => hk a rfl ha t n e H h (Fr.refl _ _)
  have hrl : ((bl s).drop a).length = s.size - a := by rw [List.length_drop, bl_len]
  generalize hr : (bl s).drop a = r at hk hrl hg
  refine brB_of (fun h1 => ⟨_, _, _, rfl, hk _ _ _ (GT.bad hg (by simpa using h1))⟩) (fun h1 => ?_)
  have e0 : e = 0 := by simpa using h1
  obtain ⟨n', rfl, h2, h3, h4, rfl, _⟩ : ∃ n' : Nat, v = n' ∧ n' < 18446744073709551616 ∧ r = uintL n' ++ r.drop (uintL n').length ∧ (uintL n').length ≤ r.length ∧ n = ((a + (uintL n').length : Nat) : Int) ∧ e = 0 := by
    rcases hg with h | ⟨_, _, h, _⟩ | ⟨_, _, h, _⟩
    · exact h
    · omega
    · omega
  generalize hm : (uintL n').length = m at *
  have ew : IntKind.u64.wrap (IntKind.i64.wrap ((s.size : Int) - ((a + m : Nat) : Int))) = ((s.size - (a + m) : Nat) : Int) := by
    rw [wrap64_of (by omega) (by omega), wrapU64 (by omega) (by omega)]; omega
  rw [ew]
  refine brB_of (fun h5 => ⟨_, _, _, rfl, hk _ _ _ (.inr (.inl ⟨rfl, rfl, rfl, .inr ⟨n', h2, _, h3, ?_⟩⟩))⟩) (fun h5 => ?_)
  · rw [List.length_drop]; simp at h5; omega
  have h5' : n' ≤ s.size - (a + m) := by simp at h5; omega
  have ew2 : IntKind.i64.wrap (((a + m : Nat) : Int) + IntKind.i64.wrap (n' : Int)) = ((a + m + n' : Nat) : Int) := by
    rw [wrap64_of (n := (n' : Int)) (by omega) (by omega), wrap64_of (by omega) (by omega)]; omega
  rw [ew2]
  refine chk_true (decide_eq_true (by omega)) ⟨_, _, _, rfl, hk _ _ _ (.inl ?_)⟩
  have eb : bl (s.extract (((a + m : Nat) : Int)).toNat ((a + m + n' : Nat) : Int).toNat) = (r.drop m).take n' := by
    rw [bl_ext, Int.toNat_natCast, Int.toNat_natCast, ← hr, List.drop_drop, List.drop_take, show a + m + n' - (a + m) = n' by omega]
  have el : (s.extract (((a + m : Nat) : Int)).toNat ((a + m + n' : Nat) : Int).toNat).size = n' := by
    rw [← bl_len, eb, List.length_take, List.length_drop]; omega
  have et : textL (s.extract (((a + m : Nat) : Int)).toNat ((a + m + n' : Nat) : Int).toNat) = uintL n' ++ (r.drop m).take n' := by
    unfold textL; rw [el, eb]
  have etl : (textL (s.extract (((a + m : Nat) : Int)).toNat ((a + m + n' : Nat) : Int).toNat)).length = m + n' := by
    rw [et, List.length_append, List.length_take, List.length_drop, hm]; omega
  refine ⟨?_, ?_, ?_, rfl⟩
  · rw [etl, et, List.append_assoc, ← List.drop_drop, List.take_append_drop]
    exact h3
  · omega
  · rw [etl]; omega


theorem rGetText_ok {s : ByteArray} {at' : Int} {H : Heap} {K : ByteArray → Int → Int → Heap → Prop} (hs : s.size ≤ 100000000000) (hbad : ¬ (0 ≤ at' ∧ at' ≤ s.size) → K ⟨#[]⟩ 0 1 H)
    (hk : ∀ a : Nat, at' = a → a ≤ s.size → ∀ t n e H', GT ((bl s).drop a) a t n e → Fr [] H H' → K t n e H') :
    CallH Try.prog fn_ref01_GetText ⟨[.string s, .int .i64 at']⟩ H fun v H' => ∃ t m e, v = .tuple ⟨[.string t, .int .i64 m, .int .i64 e]⟩ ∧ K t m e H' := by
  apply vc_ref01_GetText
  refine rGetUint_ok hs (fun h => brB_of (fun _ => ⟨_, _, _, rfl, hbad h⟩) (fun h => by simp at h)) fun a ea ha v n e H1 hg hf => ?_
  subst ea
  have hk := fun t n e h => hk a rfl ha t n e H1 h hf
  have hrl : ((bl s).drop a).length = s.size - a := by rw [List.length_drop, bl_len]
  generalize hr : (bl s).drop a = r at hk hrl hg
  refine brB_of (fun h1 => ⟨_, _, _, rfl, hk _ _ _ (GT.bad hg (by simpa using h1))⟩) (fun h1 => ?_)
  have e0 : e = 0 := by simpa using h1
  obtain ⟨n', rfl, h2, h3, h4, rfl, _⟩ : ∃ n' : Nat, v = n' ∧ n' < 18446744073709551616 ∧ r = uintL n' ++ r.drop (uintL n').length ∧ (uintL n').length ≤ r.length ∧ n = ((a + (uintL n').length : Nat) : Int) ∧ e = 0 := by
    rcases hg with h | ⟨_, _, h, _⟩ | ⟨_, _, h, _⟩
    · exact h
    · omega
    · omega
  generalize hm : (uintL n').length = m at *
  have ew : IntKind.u64.wrap (IntKind.i64.wrap ((s.size : Int) - ((a + m : Nat) : Int))) = ((s.size - (a + m) : Nat) : Int) := by
    rw [wrap64_of (by omega) (by omega), wrapU64 (by omega) (by omega)]; omega
  rw [ew]
  refine brB_of (fun h5 => ⟨_, _, _, rfl, hk _ _ _ (.inr (.inl ⟨rfl, rfl, rfl, .inr ⟨n', h2, _, h3, ?_⟩⟩))⟩) (fun h5 => ?_)
  · rw [List.length_drop]; simp at h5; omega
  have h5' : n' ≤ s.size - (a + m) := by simp at h5; omega
  have ew2 : IntKind.i64.wrap (((a + m : Nat) : Int) + IntKind.i64.wrap (n' : Int)) = ((a + m + n' : Nat) : Int) := by
    rw [wrap64_of (n := (n' : Int)) (by omega) (by omega), wrap64_of (by omega) (by omega)]; omega
  rw [ew2]
  refine chk_true (decide_eq_true (by omega)) ⟨_, _, _, rfl, hk _ _ _ (.inl ?_)⟩
  have eb : bl (s.extract (((a + m : Nat) : Int)).toNat ((a + m + n' : Nat) : Int).toNat) = (r.drop m).take n' := by
    rw [bl_ext, Int.toNat_natCast, Int.toNat_natCast, ← hr, List.drop_drop, List.drop_take, show a + m + n' - (a + m) = n' by omega]
  have el : (s.extract (((a + m : Nat) : Int)).toNat ((a + m + n' : Nat) : Int).toNat).size = n' := by
    rw [← bl_len, eb, List.length_take, List.length_drop]; omega
  have et : textL (s.extract (((a + m : Nat) : Int)).toNat ((a + m + n' : Nat) : Int).toNat) = uintL n' ++ (r.drop m).take n' := by
    unfold textL; rw [el, eb]
  have etl : (textL (s.extract (((a + m : Nat) : Int)).toNat ((a + m + n' : Nat) : Int).toNat)).length = m + n' := by
    rw [et, List.length_append, List.length_take, List.length_drop, hm]; omega
  refine ⟨?_, ?_, ?_, rfl⟩
  · rw [etl, et, List.append_assoc, ← List.drop_drop, List.take_append_drop]
    exact h3
  · omega
  · rw [etl]; omega

end Go.Proofs
