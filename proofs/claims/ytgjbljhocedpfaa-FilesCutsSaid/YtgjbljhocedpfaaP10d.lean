/- Turned by a program of mine (port.py) out of the same text of another seat: numbers of types and functions. -/
import Derived.Test.YtgjbljhocedpfaaP10
import Derived.Test.YtgjbljhocedpfaaL07c
import Derived.Test.YtgjbljhocedpfaaL07d
import Derived.Test.YtgjbljhocedpfaaL07f
/- Turned by a program of mine (port.py) out of texts of law 11: zig. -/
set_option linter.unusedVariables false
set_option maxRecDepth 100000
open Go Go.GV
namespace Go.Proofs

structure BT : Prop where
  sl : sliceB Try.prog 91 5 = true
  str : strB Try.prog 9 = true
theorem bT : BT := ⟨by kernel_rfl, by kernel_rfl⟩

theorem wrapU8 {n : Int} (h : 0 ≤ n) : IntKind.u8.wrap n = n % 256 := by
  unfold IntKind.wrap
  simp [IntKind.bits, IntKind.signed]
theorem wrapU64 {n : Int} (h : 0 ≤ n) (h2 : n < 18446744073709551616) : IntKind.u64.wrap n = n := by
  unfold IntKind.wrap
  simp [IntKind.bits, IntKind.signed]
  omega
theorem or128 : ∀ m : Nat, m < 256 → (BitVec.ofNat 8 m ||| BitVec.ofNat 8 128).toNat = m % 128 + 128 := by decide +kernel
theorem byteN (n : Nat) (h : n < 256) : (n : Int) = ((UInt8.ofNat n).toNat : Int) := by
  rw [UInt8.toNat_ofNat']
  omega

theorem Uint_ok {n : Nat} {H : Heap} {K : ByteArray → Heap → Prop} (hn : n < 18446744073709551616) (hk : ∀ H', Fr [] H H' → K ⟨(uintL n).toArray⟩ H') :
    CallH Try.prog fn_zig_Uint ⟨[.int .u64 n]⟩ H fun v H' => ∃ s, v = .string s ∧ K s H' := by
  apply vc_zig_Uint
  have e5 : elemB Try.prog 5 1 1 = true := by kernel_rfl
  refine mk_own (E := encByte) bT.sl e5 (by omega) (by decide) fun b0 H1 ho1 hf1 => ?_
  refine ⟨fun vs H' => match vs with
      | [.int _ m, .slice o p q] => ∃ (k : Nat) (xs : List UInt8) (j : Nat), m = k ∧ Own encByte 5 H.size H' o p q xs ∧ xs.length = j ∧ k < 128 ^ (10 - j) ∧ j < 10 ∧ xs ++ uintL k = uintL n ∧ Fr [] H H'
      | _ => False,
    fun vs _ => match vs with | [.int _ m, _] => m.toNat | _ => 0, ⟨n, [], 0, rfl, ho1, rfl, by omega, by omega, rfl, hf1⟩, ?_⟩
  rintro J m o p q H2 ⟨k, xs, j, rfl, ho, hj, hk2, hj9, he, hf⟩
  have hp := ho.1
  refine brB_of (fun h0 => ?_) (fun h0 => ?_)
  · have h0' : ¬ k < 128 := by simp at h0; omega
    have hb : IntKind.u8.wrap ((BitVec.toNat (BitVec.ofInt 8 (IntKind.u8.wrap (k : Int)) ||| BitVec.ofInt 8 128) : Nat) : Int) = ((UInt8.ofNat (k % 128 + 128)).toNat : Int) := by
      rw [wrapU8 (n := (k : Int)) (by omega)]
      have e1 : BitVec.ofInt 8 ((k : Int) % 256) = BitVec.ofNat 8 (k % 256) := by
        rw [show (k : Int) % 256 = ((k % 256 : Nat) : Int) by omega]; rfl
      have e2 : BitVec.ofInt 8 128 = BitVec.ofNat 8 128 := rfl
      rw [e1, e2, or128 _ (Nat.mod_lt _ (by omega)), wrapU8 (by omega), UInt8.toNat_ofNat']
      omega
    rw [hb]
    have hj8 : j < 9 := by
      rcases Nat.lt_or_ge j 9 with h | h
      · exact h
      · have : j = 9 := by omega
        subst this
        simp at hk2
        omega
    refine ap_one (E := encByte) (bytes := 1) (UInt8.ofNat (k % 128 + 128)) bT.sl e5 ho hf rfl (by omega) fun _ o2 p2 q2 H4 hw2 hf2 _ => ?_
    have hdiv : Int.fdiv (k : Int) (2 ^ 7) = ((k / 128 : Nat) : Int) := by
      rw [Int.fdiv_eq_ediv_of_nonneg _ (by decide)]
      omega
    rw [hdiv]
    refine ⟨⟨k / 128, _, j + 1, rfl, hw2, by simp [hj], ?_, by omega, ?_, hf2⟩, ?_⟩
    · rw [Nat.div_lt_iff_lt_mul (by omega), ← Nat.pow_succ]
      rw [show (10 - (j + 1)).succ = 10 - j by omega]
      exact hk2
    · rw [uintL_big h0'] at he
      rw [← he]; simp
    · show ((k / 128 : Nat) : Int).toNat < ((k : Nat) : Int).toNat
      omega
  · have h0' : k < 128 := by simp at h0; omega
    have hb : IntKind.u8.wrap (k : Int) = ((UInt8.ofNat k).toNat : Int) := by
      rw [wrapU8 (by omega), UInt8.toNat_ofNat']
      omega
    rw [hb]
    refine ap_one (E := encByte) (bytes := 1) (UInt8.ofNat k) bT.sl e5 ho hf rfl (by omega) fun _ o2 p2 q2 H4 hw2 hf2 _ => ?_
    rw [uintL_small h0'] at he
    rw [he] at hw2
    exact cv_bs (e := 5) bT.sl bT.str (by kernel_rfl) hw2.sl ⟨_, rfl, hk H4 hf2⟩

theorem uintL_len10 {n : Nat} (hn : n < 18446744073709551616) : (uintL n).length ≤ 10 := uintL_len 9 n (by omega)
theorem Text_ok {s : ByteArray} {H : Heap} {K : ByteArray → Heap → Prop} (hs : s.size ≤ 140737488355328) (hk : ∀ H', Fr [] H H' → K ⟨(textL s).toArray⟩ H') :
    CallH Try.prog fn_zig_Text ⟨[.string s]⟩ H fun v H' => ∃ s, v = .string s ∧ K s H' := by
  apply vc_zig_Text
  rw [wrapU64 (by omega) (by omega)]
  refine Uint_ok (n := s.size) (by omega) fun H' hf => ?_
  have := uintL_len10 (n := s.size) (by omega)
  refine chk_true (decide_eq_true (by show (uintL s.size).length + s.size ≤ _; omega)) ⟨_, rfl, ?_⟩
  have e : (⟨(uintL s.size).toArray⟩ ++ s : ByteArray) = ⟨(textL s).toArray⟩ := by apply bl_inj; simp [bl, textL]
  rw [e]
  exact hk H' hf

theorem and127 : ∀ m : Nat, m < 256 → (BitVec.ofNat 8 m &&& BitVec.ofNat 8 127).toNat = m % 128 := by decide +kernel
theorem bvN {m : Nat} (h : m < 18446744073709551616) : (BitVec.ofInt 64 (m : Int)).toNat = m := by
  rw [BitVec.toNat_ofInt]; omega
theorem pow7 (k : Nat) : 2 ^ (7 * k) = 128 ^ k := by rw [Nat.pow_mul]
theorem shl_fit {k c : Nat} (hk : k ≤ 9) (hc : c < 256) (h9 : k = 9 → c ≤ 1) : 128 ^ k * (c % 128) < 9223372036854775808 + 1 := by
  by_cases h : k = 9
  · subst h
    have := h9 rfl
    omega
  · have h1 : 128 ^ k ≤ 128 ^ 8 := Nat.pow_le_pow_right (by omega) (by omega)
    have h2 : 128 ^ k * (c % 128) ≤ 128 ^ 8 * 127 := Nat.mul_le_mul h1 (by omega)
    omega
theorem or_shift {n k c : Nat} (hk : k ≤ 9) (hc : c < 256) (h9 : k = 9 → c ≤ 1) (hn : n < 128 ^ k) :
    IntKind.u64.wrap ((BitVec.toNat (BitVec.ofInt 64 (n : Int) ||| BitVec.ofInt 64 (IntKind.u64.wrap (IntKind.u64.wrap (IntKind.u8.wrap ((BitVec.toNat (BitVec.ofInt 8 (c : Int) &&& BitVec.ofInt 8 127) : Nat) : Int)) * 2 ^ min (Int.toNat (IntKind.u64.wrap (IntKind.i64.wrap (7 * (k : Int))))) 64))) : Nat) : Int) = ((n + 128 ^ k * (c % 128) : Nat) : Int) := by
  have e1 : (BitVec.ofInt 8 (c : Int) &&& BitVec.ofInt 8 127).toNat = c % 128 := and127 c hc
  have e2 : Int.toNat (IntKind.u64.wrap (IntKind.i64.wrap (7 * (k : Int)))) = 7 * k := by
    rw [wrap64_of (by omega) (by omega), wrapU64 (by omega) (by omega)]; omega
  have hf := shl_fit hk hc h9
  have h128 : 128 ^ k ≤ 128 ^ 9 := Nat.pow_le_pow_right (by omega) hk
  rw [e1, e2, wrapU8 (by omega), show ((c % 128 : Nat) : Int) % 256 = ((c % 128 : Nat) : Int) by omega, wrapU64 (n := ((c % 128 : Nat) : Int)) (by omega) (by omega), Nat.min_eq_left (by omega)]
  have e3 : ((c % 128 : Nat) : Int) * 2 ^ (7 * k) = ((128 ^ k * (c % 128) : Nat) : Int) := by
    rw [← pow7]
    push_cast
    rw [Int.mul_comm]
  rw [e3, wrapU64 (n := ((128 ^ k * (c % 128) : Nat) : Int)) (by omega) (by omega), BitVec.toNat_or, bvN (by omega), bvN (by omega)]
  have e4 : n ||| 128 ^ k * (c % 128) = n + 128 ^ k * (c % 128) := by
    rw [Nat.or_comm, Nat.add_comm, ← pow7]
    rw [← pow7] at hn
    exact (Nat.two_pow_add_eq_or_of_lt hn _).symm
  rw [e4, wrapU64 (by omega) (by omega)]

theorem noU_nine {ds t : List UInt8} {c : UInt8} (hd : HighL ds) (hl : ds.length = 9) (hc : 1 < c.toNat) : ¬ ShortU (ds ++ c :: t) ∧ NoU (ds ++ c :: t) := by
  refine ⟨fun h => by have := h.1; simp at this; omega, fun n hn t' e => ?_⟩
  by_cases h : c.toNat < 128
  · obtain ⟨_, _, h3, _⟩ := low_pre hd h e
    rw [valL_app, hl] at h3
    simp only [valL] at h3
    omega
  · refine high_pre hn (fun d hd' => ?_) e
    rw [show ds ++ c :: t = (ds ++ [c]) ++ t by simp, List.take_append, List.take_of_length_le (by simp; omega)] at hd'
    rw [show 10 - (ds ++ [c]).length = 0 by simp; omega] at hd'
    simp at hd'
    rcases hd' with h | h
    · exact hd d h
    · subst h; omega
theorem noU_zero {ds t : List UInt8} {c : UInt8} (hd : HighL ds) (hl : ds ≠ []) (hc : c.toNat = 0) : ¬ ShortU (ds ++ c :: t) ∧ NoU (ds ++ c :: t) := by
  refine ⟨fun h => ?_, fun n hn t' e => ?_⟩
  · have := h.2 c (by simp); omega
  · obtain ⟨_, _, _, h4⟩ := low_pre hd (by omega) e
    exact h4 hl hc
theorem gu_ok {ds t : List UInt8} {c : UInt8} {a : Nat} (hd : HighL ds) (hc : c.toNat < 128) (hz : ds ≠ [] → c.toNat ≠ 0) (hv : valL (ds ++ [c]) < 18446744073709551616) : GU (ds ++ c :: t) a (valL (ds ++ [c]) : Nat) ((a + ds.length + 1 : Nat) : Int) 0 := by
  have e := uintL_val ds c hd hc hz
  refine .inl ⟨valL (ds ++ [c]), rfl, hv, ?_, ?_, ?_, rfl⟩
  · rw [e]; simp
  · rw [e]; simp
  · rw [e]; simp; omega
theorem drop_at {s : ByteArray} {a k : Nat} (h : a + k < s.size) : ∃ c : UInt8, (bl s).drop a = ((bl s).drop a).take k ++ c :: ((bl s).drop a).drop (k + 1) ∧ c.toNat = atB s (a + k) ∧ ((bl s).drop a)[k]? = some c := by
  obtain ⟨c, h1, h2⟩ := atB_get h
  rw [bl_get] at h1
  have h3 : ((bl s).drop a)[k]? = some c := by rw [List.getElem?_drop]; exact h1
  refine ⟨c, ?_, h2, h3⟩
  obtain ⟨hk, e⟩ := List.getElem?_eq_some_iff.1 h3
  rw [← e, List.getElem_cons_drop, List.take_append_drop]

theorem GetUint_ok {s : ByteArray} {at' : Int} {H : Heap} {K : Int → Int → Int → Heap → Prop} (hs : s.size ≤ 100000000000) (hbad : ¬ (0 ≤ at' ∧ at' ≤ s.size) → K 0 0 1 H)
    (hk : ∀ a : Nat, at' = a → a ≤ s.size → ∀ v n e, GU ((bl s).drop a) a v n e → K v n e H) :
    CallH Try.prog fn_zig_GetUint ⟨[.string s, .int .i64 at']⟩ H fun v H' => ∃ n m e, v = .tuple ⟨[.int .u64 n, .int .i64 m, .int .i64 e]⟩ ∧ K n m e H' := by
  apply vc_zig_GetUint
  refine ⟨fun vs H' => vs = [.int .u64 0] ∧ H' = H ∧ 0 ≤ at' ∧ at' ≤ s.size, ?_, ?_⟩
  · refine brB_of (fun h => ⟨_, _, _, rfl, hbad ?_⟩) (fun h => brB_of (fun h2 => ⟨_, _, _, rfl, hbad ?_⟩) (fun h2 => ⟨rfl, rfl, ?_, ?_⟩))
    · simp at h; omega
    · simp at h2; omega
    · simp at h; omega
    · simp at h2; omega
  rintro J m0 H1 ⟨e0, rfl, h0, h01⟩
  simp only [List.cons.injEq, Value.int.injEq, true_and, and_true] at e0
  subst e0
  obtain ⟨a, rfl⟩ : ∃ a : Nat, at' = a := ⟨at'.toNat, by omega⟩
  have hk := hk a rfl (by omega)
  have hrl : ((bl s).drop a).length = s.size - a := by rw [List.length_drop, bl_len]
  generalize hr : (bl s).drop a = r at hk hrl
  refine ⟨fun vs H' => match vs with
      | [.int _ m, .int _ i] => ∃ k : Nat, i = k ∧ k ≤ 9 ∧ k ≤ r.length ∧ m = ((valL (r.take k) : Nat) : Int) ∧ HighL (r.take k) ∧ H' = H1
      | _ => False,
    fun vs _ => match vs with | [_, .int _ i] => 10 - i.toNat | _ => 0, ⟨0, rfl, by omega, by omega, by simp [valL], fun d hd => by simp at hd, rfl⟩, ?_⟩
  rintro J m i H2 ⟨k, rfl, hk9, hkl, rfl, hh, rfl⟩
  have ew : IntKind.i64.wrap ((a : Int) + k) = ((a + k : Nat) : Int) := by rw [wrap64_of (by omega) (by omega)]; omega
  rw [ew]
  refine brB_of (fun _ => ?_) (fun h => by simp at h; omega)
  refine brB_of (fun h1 => ⟨_, _, _, rfl, hk _ _ _ (.inr (.inl ⟨rfl, rfl, rfl, ?_, ?_⟩))⟩) (fun h1 => ?_)
  · have : a + k = s.size := by simp at h1; omega
    omega
  · have : a + k = s.size := by simp at h1; omega
    rwa [List.take_of_length_le (by omega)] at hh
  have hlt : a + k < s.size := by simp at h1; omega
  obtain ⟨c, hc1, hc2, hc3⟩ := drop_at hlt
  rw [hr] at hc1 hc3
  refine chk_true (decide_eq_true (by omega)) ?_
  rw [Int.toNat_natCast, ← hc2]
  have htl : (r.take k).length = k := by rw [List.length_take]; omega
  have hne : 0 < k → r.take k ≠ [] := fun h e => by rw [e] at htl; simp at htl; omega
  have hcl := c.toNat_lt
  refine ⟨fun vs H' => vs = [.int .u64 ((valL (r.take k) : Nat) : Int)] ∧ H' = H2 ∧ (k = 9 → c.toNat ≤ 1) ∧ (0 < k → c.toNat ≠ 0), ?_, ?_⟩
  · have zero : ¬ (k = 9 ∧ 1 < c.toNat) → brB (((c.toNat : Int)) == 0) (brB (decide ((k : Int) > 0)) (∃ n m e, Value.tuple ⟨[.int .u64 0, .int .i64 0, .int .i64 11]⟩ = .tuple ⟨[.int .u64 n, .int .i64 m, .int .i64 e]⟩ ∧ K n m e H2)
        ([Value.int .u64 ((valL (r.take k) : Nat) : Int)] = [.int .u64 ((valL (r.take k) : Nat) : Int)] ∧ H2 = H2 ∧ (k = 9 → c.toNat ≤ 1) ∧ (0 < k → c.toNat ≠ 0)))
        ([Value.int .u64 ((valL (r.take k) : Nat) : Int)] = [.int .u64 ((valL (r.take k) : Nat) : Int)] ∧ H2 = H2 ∧ (k = 9 → c.toNat ≤ 1) ∧ (0 < k → c.toNat ≠ 0)) := fun hno => by
      refine brB_of (fun h2 => brB_of (fun h3 => ⟨_, _, _, rfl, hk _ _ _ ?_⟩) (fun h3 => ⟨rfl, rfl, fun _ => by simp at h2; omega, fun h => by simp at h3; omega⟩)) (fun h2 => ⟨rfl, rfl, fun _ => by omega, fun _ => by simp at h2; omega⟩)
      rw [hc1]
      have := noU_zero (t := r.drop (k + 1)) hh (hne (by simp at h3; omega)) (c := c) (by simp at h2; omega)
      exact .inr (.inr ⟨rfl, rfl, rfl, this⟩)
    refine brB_of (fun h2 => brB_of (fun h3 => ⟨_, _, _, rfl, hk _ _ _ ?_⟩) (fun h3 => zero (by simp at h3; omega))) (fun h2 => zero (by simp at h2; omega))
    rw [hc1]
    have := noU_nine (t := r.drop (k + 1)) hh (by simp at h2; omega) (c := c) (by simp at h3; omega)
    exact .inr (.inr ⟨rfl, rfl, rfl, this⟩)
  rintro J m H3 ⟨e3, rfl, h9, hz⟩
  simp only [List.cons.injEq, Value.int.injEq, true_and, and_true] at e3
  subst e3
  have hvl := valL_lt (r.take k)
  rw [htl] at hvl
  rw [or_shift hk9 hcl h9 hvl]
  have hfit := shl_fit hk9 hcl h9
  have h128 : 128 ^ k ≤ 128 ^ 9 := Nat.pow_le_pow_right (by omega) hk9
  have e4 : valL (r.take k) + 128 ^ k * (c.toNat % 128) = valL (r.take k ++ [c]) := by
    rw [valL_app, htl]
    simp [valL]
  rw [e4]
  refine chk_true (decide_eq_true ?_) ?_
  · rw [wrap64_of (n := 7 * (k : Int)) (by omega) (by omega), wrapU64 (by omega) (by omega)]; omega
  refine brB_of (fun h5 => ?_) (fun h5 => ?_)
  · have hc5 : c.toNat < 128 := by simp at h5; omega
    have := gu_ok (t := r.drop (k + 1)) (a := a) hh hc5 (fun h => hz (by cases k with | zero => simp at h | succ k => omega)) (by rw [← e4]; omega)
    rw [← hc1, htl] at this
    rw [succ64 (by omega)]
    exact ⟨_, _, _, rfl, hk _ _ _ this⟩
  · have hc5 : 128 ≤ c.toNat := by simp at h5; omega
    rw [succ64 (by omega)]
    have e5 : r.take (k + 1) = r.take k ++ [c] := by rw [List.take_add_one, hc3]; rfl
    refine ⟨⟨k + 1, rfl, by omega, by omega, by rw [e5], ?_, rfl⟩, mu_lt (by omega)⟩
    rw [e5]
    intro d hd
    rcases List.mem_append.1 hd with h | h
    · exact hh d h
    · simp at h; subst h; exact hc5
def ShortT (r : List UInt8) : Prop := ShortU r ∨ ∃ n, n < 18446744073709551616 ∧ ∃ t, r = uintL n ++ t ∧ t.length < n
/-- What a text that is read comes to. -/
def GT (r : List UInt8) (a : Nat) (t : ByteArray) (next e : Int) : Prop :=
  (r = textL t ++ r.drop (textL t).length ∧ (textL t).length ≤ r.length ∧ next = ((a + (textL t).length : Nat) : Int) ∧ e = 0) ∨ (t = ⟨#[]⟩ ∧ next = 0 ∧ e = 10 ∧ ShortT r) ∨ (t = ⟨#[]⟩ ∧ next = 0 ∧ e = 11 ∧ ¬ ShortU r ∧ NoU r)
theorem GT.bad {r : List UInt8} {a : Nat} {v next e : Int} (h : GU r a v next e) (he : e ≠ 0) : GT r a ⟨#[]⟩ 0 e := by
  rcases h with ⟨n, _, _, _, _, _, h⟩ | ⟨_, _, h, h1⟩ | ⟨_, _, h, h1⟩
  · exact absurd h he
  · exact .inr (.inl ⟨rfl, rfl, h, .inl h1⟩)
  · exact .inr (.inr ⟨rfl, rfl, h, h1⟩)
theorem ShortT.no {r x : List UInt8} (h : ShortT r) (t : ByteArray) (ht : t.size < 18446744073709551616) : r ≠ textL t ++ x := by
  intro e
  unfold textL at e
  rw [List.append_assoc] at e
  rcases h with h | ⟨n, hn, t', h1, h2⟩
  · exact h.no _ ht _ e
  · obtain ⟨e1, e2⟩ := uint_eq (h1.symm.trans e)
    rw [e2, List.length_append, bl_len] at h2
    omega
theorem text_eq {s t : ByteArray} {x y : List UInt8} (h : textL s ++ x = textL t ++ y) : s = t ∧ x = y := by
  unfold textL at h
  rw [List.append_assoc, List.append_assoc] at h
  obtain ⟨e1, e2⟩ := uint_eq h
  have := List.append_inj e2 (by rw [bl_len, bl_len, e1])
  exact ⟨bl_inj this.1, this.2⟩
theorem size64 {t : ByteArray} {r : List UInt8} (h : (textL t).length ≤ r.length) : t.size ≤ r.length := by
  unfold textL at h
  rw [List.length_append, bl_len] at h; omega
/-- A text that stands there is read. -/
theorem GT.of {r x : List UInt8} {a : Nat} {t t' : ByteArray} {next e : Int} (h : GT r a t next e) (ht : t'.size < 18446744073709551616) (hr : r = textL t' ++ x) : t = t' ∧ next = ((a + (textL t').length : Nat) : Int) ∧ e = 0 := by
  rcases h with ⟨h1, h2, h3, h4⟩ | ⟨_, _, _, h⟩ | ⟨_, _, _, _, h⟩
  · obtain ⟨rfl, _⟩ := text_eq (h1.symm.trans hr)
    exact ⟨rfl, h3, h4⟩
  · exact absurd hr (h.no t' ht)
  · unfold textL at hr
    rw [List.append_assoc] at hr
    exact absurd hr (h _ ht _)
theorem GT.same {r : List UInt8} {a : Nat} {t t' : ByteArray} {next e next' e' : Int} (hr : r.length < 18446744073709551616) (h : GT r a t next e) (h' : GT r a t' next' e') : t = t' ∧ next = next' ∧ e = e' := by
  rcases h with ⟨h1, h2, h3, h4⟩ | ⟨rfl, rfl, rfl, h1⟩ | ⟨rfl, rfl, rfl, h1, h2⟩
  · have := size64 h2
    obtain ⟨rfl, rfl, rfl⟩ := h'.of (by omega) h1
    exact ⟨rfl, h3, h4⟩
  · rcases h' with ⟨h1', h2', h3, h4⟩ | ⟨rfl, rfl, rfl, h1'⟩ | ⟨rfl, rfl, rfl, h1', h2'⟩
    · have := size64 h2'
      exact absurd h1' (h1.no _ (by omega))
    · exact ⟨rfl, rfl, rfl⟩
    · rcases h1 with h | ⟨n, hn, t, h, _⟩
      · exact absurd h h1'
      · exact absurd h (h2' n hn t)
  · rcases h' with ⟨h1', h2', h3, h4⟩ | ⟨rfl, rfl, rfl, h1'⟩ | ⟨rfl, rfl, rfl, h1', h2'⟩
    · have := size64 h2'
      unfold textL at h1'
      rw [List.append_assoc] at h1'
      exact absurd h1' (h2 _ (by omega) _)
    · rcases h1' with h | ⟨n, hn, t, h, _⟩
      · exact absurd h h1
      · exact absurd h (h2 n hn t)
    · exact ⟨rfl, rfl, rfl⟩


theorem GetText_ok {s : ByteArray} {at' : Int} {H : Heap} {K : ByteArray → Int → Int → Heap → Prop} (hs : s.size ≤ 100000000000) (hbad : ¬ (0 ≤ at' ∧ at' ≤ s.size) → K ⟨#[]⟩ 0 1 H)
    (hk : ∀ a : Nat, at' = a → a ≤ s.size → ∀ t n e H', GT ((bl s).drop a) a t n e → Fr [] H H' → K t n e H') :
    CallH Try.prog fn_zig_GetText ⟨[.string s, .int .i64 at']⟩ H fun v H' => ∃ t m e, v = .tuple ⟨[.string t, .int .i64 m, .int .i64 e]⟩ ∧ K t m e H' := by
  apply vc_zig_GetText
  refine GetUint_ok hs (fun h => brB_of (fun _ => ⟨_, _, _, rfl, hbad h⟩) (fun h => by simp at h)) fun a ea ha v n e hg => ?_
  subst ea
  have hk := fun t n e h => hk a rfl ha t n e H h (Fr.refl _ _)
  have hrl : ((bl s).drop a).length = s.size - a := by rw [List.length_drop, bl_len]
  generalize hr : (bl s).drop a = r at hk hrl hg
  refine brB_of (fun h1 => ⟨_, _, _, rfl, hk _ _ _ (GT.bad hg (by simpa using h1))⟩) (fun h1 => ?_)
  have e0 : e = 0 := by simpa using h1
  obtain ⟨n', rfl, h2, h3, h4, rfl, _⟩ : ∃ n' : Nat, v = n' ∧ n' < 18446744073709551616 ∧ r = uintL n' ++ r.drop (uintL n').length ∧ (uintL n').length ≤ r.length ∧ n = ((a + (uintL n').length : Nat) : Int) ∧ e = 0 := by
    rcases hg with h | ⟨_, _, h, _⟩ | ⟨_, _, h, _⟩
    · exact h
    · omega
    · omega
  generalize hm : (uintL n').length = m at *
  have ew : IntKind.u64.wrap (IntKind.i64.wrap ((s.size : Int) - ((a + m : Nat) : Int))) = ((s.size - (a + m) : Nat) : Int) := by
    rw [wrap64_of (by omega) (by omega), wrapU64 (by omega) (by omega)]; omega
  rw [ew]
  refine brB_of (fun h5 => ⟨_, _, _, rfl, hk _ _ _ (.inr (.inl ⟨rfl, rfl, rfl, .inr ⟨n', h2, _, h3, ?_⟩⟩))⟩) (fun h5 => ?_)
  · rw [List.length_drop]; simp at h5; omega
  have h5' : n' ≤ s.size - (a + m) := by simp at h5; omega
  have ew2 : IntKind.i64.wrap (((a + m : Nat) : Int) + IntKind.i64.wrap (n' : Int)) = ((a + m + n' : Nat) : Int) := by
    rw [wrap64_of (n := (n' : Int)) (by omega) (by omega), wrap64_of (by omega) (by omega)]; omega
  rw [ew2]
  refine chk_true (decide_eq_true (by omega)) ⟨_, _, _, rfl, hk _ _ _ (.inl ?_)⟩
  have eb : bl (s.extract (((a + m : Nat) : Int)).toNat ((a + m + n' : Nat) : Int).toNat) = (r.drop m).take n' := by
    rw [bl_ext, Int.toNat_natCast, Int.toNat_natCast, ← hr, List.drop_drop, List.drop_take, show a + m + n' - (a + m) = n' by omega]
  have el : (s.extract (((a + m : Nat) : Int)).toNat ((a + m + n' : Nat) : Int).toNat).size = n' := by
    rw [← bl_len, eb, List.length_take, List.length_drop]; omega
  have et : textL (s.extract (((a + m : Nat) : Int)).toNat ((a + m + n' : Nat) : Int).toNat) = uintL n' ++ (r.drop m).take n' := by
    unfold textL; rw [el, eb]
  have etl : (textL (s.extract (((a + m : Nat) : Int)).toNat ((a + m + n' : Nat) : Int).toNat)).length = m + n' := by
    rw [et, List.length_append, List.length_take, List.length_drop, hm]; omega
  refine ⟨?_, ?_, ?_, rfl⟩
  · rw [etl, et, List.append_assoc, ← List.drop_drop, List.take_append_drop]
    exact h3
  · omega
  · rw [etl]; omega


end Go.Proofs
