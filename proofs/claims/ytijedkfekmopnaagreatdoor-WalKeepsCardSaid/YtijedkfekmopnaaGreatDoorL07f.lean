/- A part of a proof: see the last text of this claim. -/
import Derived.Test.YtijedkfekmopnaaGreatDoorL07c
set_option linter.unusedVariables false
set_option maxRecDepth 100000
open Go Go.GV
namespace Go.Proofs

def valL : List UInt8 → Nat
  | [] => 0
  | c :: r => c.toNat % 128 + 128 * valL r
theorem valL_app : ∀ (a b : List UInt8), valL (a ++ b) = valL a + 128 ^ a.length * valL b
  | [], b => by simp [valL]
  | c :: a, b => by
    simp only [List.cons_append, valL, valL_app a b, List.length_cons, Nat.pow_succ]
    rw [Nat.mul_add, Nat.add_assoc]
    congr 2
    rw [← Nat.mul_assoc, Nat.mul_comm 128]
theorem valL_lt : ∀ a : List UInt8, valL a < 128 ^ a.length
  | [] => by simp [valL]
  | c :: a => by
    have := valL_lt a
    simp only [valL, List.length_cons, Nat.pow_succ]
    omega
def HighL (l : List UInt8) : Prop := ∀ d ∈ l, 128 ≤ d.toNat
theorem uintL_form : ∀ (k n : Nat), n < 128 ^ (k + 1) → ∃ ds c, uintL n = ds ++ [c] ∧ HighL ds ∧ c.toNat < 128 ∧ (ds ≠ [] → c.toNat ≠ 0) ∧ valL (ds ++ [c]) = n
  | k, n, h => by
    by_cases h1 : n < 128
    · refine ⟨[], UInt8.ofNat n, by rw [uintL_small h1]; rfl, fun d hd => (by cases hd), ?_, fun h => absurd rfl h, ?_⟩
      · rw [UInt8.toNat_ofNat']; omega
      · simp only [List.nil_append, valL]; rw [UInt8.toNat_ofNat']; omega
    · cases k with
      | zero => simp at h; omega
      | succ k =>
        obtain ⟨ds, c, e, h2, h3, h4, h5⟩ := uintL_form k (n / 128) (by rw [Nat.div_lt_iff_lt_mul (by omega)]; rw [Nat.pow_succ] at h; exact h)
        refine ⟨UInt8.ofNat (n % 128 + 128) :: ds, c, by rw [uintL_big h1, e]; rfl, fun d hd => ?_, h3, fun _ => ?_, ?_⟩
        · rcases List.mem_cons.1 hd with h | h
          · subst h; rw [UInt8.toNat_ofNat']; omega
          · exact h2 d h
        · by_cases hds : ds = []
          · subst hds
            simp only [List.nil_append, valL] at h5
            omega
          · exact h4 hds
        · simp only [List.cons_append, valL, h5]
          rw [UInt8.toNat_ofNat']; omega
theorem pow_big (n : Nat) : ∃ k, n < 128 ^ (k + 1) := ⟨n, by
  have : n < 128 ^ n := Nat.lt_pow_self (by omega)
  rw [Nat.pow_succ]; omega⟩
theorem uintL_val : ∀ (ds : List UInt8) (c : UInt8), HighL ds → c.toNat < 128 → (ds ≠ [] → c.toNat ≠ 0) → uintL (valL (ds ++ [c])) = ds ++ [c]
  | [], c, _, h, _ => by
    simp only [List.nil_append, valL]
    rw [uintL_small (by omega)]
    congr 1
    apply UInt8.toNat.inj
    rw [UInt8.toNat_ofNat']; omega
  | d :: ds, c, hh, h, hz => by
    have h0 : c.toNat ≠ 0 := hz (by simp)
    have ih := uintL_val ds c (fun x hx => hh x (by simp [hx])) h (fun _ => h0)
    have hp : 1 ≤ valL (ds ++ [c]) := by
      rw [valL_app]
      have : 1 ≤ 128 ^ ds.length := Nat.pow_pos (by omega)
      have h5 : 1 ≤ valL [c] := by simp only [valL]; omega
      have := Nat.mul_le_mul this h5
      omega
    have hd := hh d (by simp)
    have hd2 := d.toNat_lt
    simp only [List.cons_append, valL]
    rw [uintL_big (by omega)]
    have e1 : (d.toNat % 128 + 128 * valL (ds ++ [c])) / 128 = valL (ds ++ [c]) := by omega
    rw [e1, ih]
    congr 1
    apply UInt8.toNat.inj
    rw [UInt8.toNat_ofNat']; omega
theorem low_split : ∀ {ds ds' : List UInt8} {c c' : UInt8} {t t' : List UInt8}, HighL ds → HighL ds' → c.toNat < 128 → c'.toNat < 128 → ds ++ c :: t = ds' ++ c' :: t' → ds = ds' ∧ c = c' ∧ t = t'
  | [], [], c, c', t, t', _, _, _, _, e => by simp at e; exact ⟨rfl, e⟩
  | [], d :: ds', c, c', t, t', _, h, h1, _, e => by
    simp at e
    have := h d (by simp)
    rw [e.1] at h1; omega
  | d :: ds, [], c, c', t, t', h, _, _, h1, e => by
    simp at e
    have := h d (by simp)
    rw [← e.1] at h1; omega
  | d :: ds, d' :: ds', c, c', t, t', h, h', h1, h2, e => by
    simp only [List.cons_append, List.cons.injEq] at e
    obtain ⟨e1, e2, e3⟩ := low_split (fun x hx => h x (by simp [hx])) (fun x hx => h' x (by simp [hx])) h1 h2 e.2
    exact ⟨by rw [e.1, e1], e2, e3⟩
theorem low_pre {ds t t' : List UInt8} {c : UInt8} {n : Nat} (hd : HighL ds) (hc : c.toNat < 128) (e : ds ++ c :: t = uintL n ++ t') : uintL n = ds ++ [c] ∧ t = t' ∧ n = valL (ds ++ [c]) ∧ (ds ≠ [] → c.toNat ≠ 0) := by
  obtain ⟨k, hk⟩ := pow_big n
  obtain ⟨ds', c', e1, h2, h3, h4, h5⟩ := uintL_form k n hk
  rw [e1, List.append_assoc, List.singleton_append] at e
  obtain ⟨rfl, rfl, rfl⟩ := low_split hd h2 hc h3 e
  exact ⟨e1, rfl, h5.symm, h4⟩
theorem high_pre {r t : List UInt8} {n : Nat} (hn : n < 18446744073709551616) (hr : ∀ d ∈ r.take 10, 128 ≤ d.toNat) (e : r = uintL n ++ t) : False := by
  obtain ⟨ds, c, e1, h2, h3, h4, h5⟩ := uintL_form 9 n (by omega)
  have hl := uintL_len 9 n (by omega)
  have : c ∈ r.take 10 := by
    rw [e, List.take_append, List.take_of_length_le (by omega), e1]; simp
  have := hr c this
  omega
theorem uint_eq {n m : Nat} {x y : List UInt8} (e : uintL n ++ x = uintL m ++ y) : n = m ∧ x = y := by
  obtain ⟨k, hk⟩ := pow_big n
  obtain ⟨ds, c, e1, h2, h3, h4, h5⟩ := uintL_form k n hk
  rw [e1, List.append_assoc, List.singleton_append] at e
  obtain ⟨h6, h7, h8, _⟩ := low_pre h2 h3 e
  exact ⟨by rw [← h5, h8], h7⟩

def ShortU (r : List UInt8) : Prop := r.length < 10 ∧ HighL r
def NoU (r : List UInt8) : Prop := ∀ n, n < 18446744073709551616 → ∀ t, r ≠ uintL n ++ t
theorem ShortU.no {r : List UInt8} (h : ShortU r) : NoU r := fun n hn t e => high_pre hn (fun d hd => h.2 d (List.mem_of_mem_take hd)) e
def GU (r : List UInt8) (a : Nat) (v next e : Int) : Prop :=
  (∃ n : Nat, v = n ∧ n < 18446744073709551616 ∧ r = uintL n ++ r.drop (uintL n).length ∧ (uintL n).length ≤ r.length ∧ next = ((a + (uintL n).length : Nat) : Int) ∧ e = 0) ∨ (v = 0 ∧ next = 0 ∧ e = 10 ∧ ShortU r) ∨ (v = 0 ∧ next = 0 ∧ e = 11 ∧ ¬ ShortU r ∧ NoU r)
theorem GU.same {r : List UInt8} {a : Nat} {v next e v' next' e' : Int} (h : GU r a v next e) (h' : GU r a v' next' e') : v = v' ∧ next = next' ∧ e = e' := by
  rcases h with ⟨n, rfl, h1, h2, _, rfl, rfl⟩ | ⟨rfl, rfl, rfl, h1⟩ | ⟨rfl, rfl, rfl, h1, h2⟩ <;> rcases h' with ⟨n', rfl, h1', h2', _, rfl, rfl⟩ | ⟨rfl, rfl, rfl, h1'⟩ | ⟨rfl, rfl, rfl, h1', h2'⟩
  · obtain ⟨rfl, _⟩ := uint_eq (h2.symm.trans h2')
    exact ⟨rfl, rfl, rfl⟩
  · exact absurd h2 (h1'.no n h1 _)
  · exact absurd h2 (h2' n h1 _)
  · exact absurd h2' (h1.no n' h1' _)
  · exact ⟨rfl, rfl, rfl⟩
  · exact absurd h1 h1'
  · exact absurd h2' (h2 n' h1' _)
  · exact absurd h1' h1
  · exact ⟨rfl, rfl, rfl⟩
theorem GU.of {r t : List UInt8} {a n : Nat} {v next e : Int} (h : GU r a v next e) (hn : n < 18446744073709551616) (hr : r = uintL n ++ t) : v = n ∧ next = ((a + (uintL n).length : Nat) : Int) ∧ e = 0 := by
  refine h.same (.inl ⟨n, rfl, hn, ?_, ?_, rfl, rfl⟩)
  · rw [hr]; simp
  · rw [hr]; simp
end Go.Proofs
