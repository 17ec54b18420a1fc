/- A part of a proof: see the last text of this claim. -/
import Derived.Test.YtjclcccjdnllgaaGreatGvOpen
import Derived.Test.YtjclcccjdnllgaaGreatC02n
import Derived.Test.YtjclcccjdnllgaaGreatC11a
import Derived.Test.YtjclcccjdnllgaaGreatGvLib
set_option linter.unusedVariables false
set_option maxRecDepth 100000
open Go Go.GV
namespace Go.Proofs

def lowB (n : Nat) : Nat → List Bool
  | 0 => []
  | b + 1 => (n / 2 ^ b % 2 == 1) :: lowB n b
def valB (l : List Bool) : Nat := l.foldl (fun a x => 2 * a + x.toNat) 0
theorem lowB_len (n : Nat) : ∀ b, (lowB n b).length = b
  | 0 => rfl
  | b + 1 => by rw [lowB, List.length_cons, lowB_len n b]
theorem valB_acc : ∀ (l : List Bool) (a : Nat), l.foldl (fun a x => 2 * a + x.toNat) a = a * 2 ^ l.length + valB l
  | [], a => by simp [valB]
  | x :: l, a => by
    unfold valB
    rw [List.foldl_cons, List.foldl_cons, valB_acc l, valB_acc l (2 * 0 + x.toNat), List.length_cons, Nat.pow_succ]
    have : (2 * a + x.toNat) * 2 ^ l.length = a * (2 ^ l.length * 2) + x.toNat * 2 ^ l.length := by
      rw [Nat.add_mul, Nat.mul_comm 2 a, Nat.mul_assoc, Nat.mul_comm 2 (2 ^ l.length)]
    rw [this]
    have : (2 * 0 + x.toNat) * 2 ^ l.length = x.toNat * 2 ^ l.length := by rw [Nat.mul_zero, Nat.zero_add]
    omega
theorem valB_app (a b : List Bool) : valB (a ++ b) = valB a * 2 ^ b.length + valB b := by
  conv => lhs; unfold valB
  rw [List.foldl_append, valB_acc]; rfl
theorem valB_cons (x : Bool) (l : List Bool) : valB (x :: l) = x.toNat * 2 ^ l.length + valB l := by
  rw [show x :: l = [x] ++ l from rfl, valB_app]
  simp [valB]
theorem valB_lt : ∀ l : List Bool, valB l < 2 ^ l.length
  | [] => by simp [valB]
  | x :: l => by
    have := valB_lt l
    rw [valB_cons, List.length_cons, Nat.pow_succ]
    cases x <;> simp <;> omega
theorem bit_div (n b : Nat) : n % 2 ^ (b + 1) = n / 2 ^ b % 2 * 2 ^ b + n % 2 ^ b := by
  rw [Nat.pow_succ, Nat.mod_mul, Nat.mul_comm (n / 2 ^ b % 2)]
  omega
theorem valB_low (n : Nat) : ∀ b, valB (lowB n b) = n % 2 ^ b
  | 0 => by simp [lowB, valB, Nat.mod_one]
  | b + 1 => by
    rw [lowB, valB_cons, lowB_len, valB_low n b, bit_div n b]
    have : n / 2 ^ b % 2 = 0 ∨ n / 2 ^ b % 2 = 1 := by omega
    rcases this with e | e <;> rw [e] <;> rfl
theorem valB_inj : ∀ {a b : List Bool}, a.length = b.length → valB a = valB b → a = b
  | [], [], _, _ => rfl
  | [], _ :: _, h, _ => by simp at h
  | _ :: _, [], h, _ => by simp at h
  | x :: a, y :: b, h, e => by
    have hl : a.length = b.length := by simpa using h
    have h1 := valB_lt a
    have h2 := valB_lt b
    rw [valB_cons, valB_cons, hl] at e
    rw [hl] at h1
    cases x <;> cases y <;> simp at e <;> first | (exact congrArg _ (valB_inj hl e)) | omega
theorem low_mod (n b : Nat) : lowB (n % 2 ^ b) b = lowB n b := by
  refine valB_inj (by rw [lowB_len, lowB_len]) ?_
  rw [valB_low, valB_low, Nat.mod_mod]
theorem low_app (n : Nat) (a b : Nat) : lowB n (a + b) = lowB (n / 2 ^ b) a ++ lowB n b := by
  refine valB_inj (by rw [List.length_append, lowB_len, lowB_len, lowB_len]) ?_
  rw [valB_app, valB_low, valB_low, valB_low, lowB_len, Nat.add_comm a b, Nat.pow_add, Nat.mod_mul, Nat.mul_comm (n / 2 ^ b % 2 ^ a)]
  omega
theorem low_ones (q : Nat) : lowB (2 ^ q - 1) q = List.replicate q true := by
  induction q with
  | zero => rfl
  | succ q ih =>
    rw [lowB, List.replicate_succ]
    have h2 : 0 < 2 ^ q := Nat.pow_pos (by decide)
    have e1 : (2 ^ (q + 1) - 1) / 2 ^ q = 1 := by
      rw [Nat.pow_succ]
      refine Nat.div_eq_of_lt_le ?_ ?_ <;> omega
    rw [e1, ← low_mod, show (2 ^ (q + 1) - 1) % 2 ^ q = 2 ^ q - 1 from by
      rw [Nat.pow_succ, show 2 ^ q * 2 - 1 = 2 ^ q - 1 + 2 ^ q from by omega, Nat.add_mod_right]
      exact Nat.mod_eq_of_lt (by omega), ih]
    rfl
def codeB (n k : Nat) : List Bool := if 24 ≤ n / 2 ^ k then List.replicate 24 true ++ lowB n 64 else List.replicate (n / 2 ^ k) true ++ false :: lowB n k
theorem codeB_len (n k : Nat) : (codeB n k).length = if 24 ≤ n / 2 ^ k then 88 else n / 2 ^ k + 1 + k := by
  unfold codeB
  split
  · rw [List.length_append, List.length_replicate, lowB_len]
  · rw [List.length_append, List.length_replicate, List.length_cons, lowB_len]; omega
def byteB (l : List Bool) : UInt8 := UInt8.ofNat (valB l * 2 ^ (8 - l.length))
def packB : Nat → List Bool → List UInt8
  | 0, _ => []
  | f + 1, l => if l = [] then [] else byteB (l.take 8) :: packB f (l.drop 8)
def pack (l : List Bool) : List UInt8 := packB l.length l
theorem packB_fuel : ∀ (f g : Nat) (l : List Bool), l.length ≤ f → l.length ≤ g → packB f l = packB g l
  | 0, g, l, h, _ => by
    have : l = [] := List.eq_nil_of_length_eq_zero (by omega)
    subst this
    cases g <;> simp [packB]
  | f + 1, 0, l, _, h => by
    have : l = [] := List.eq_nil_of_length_eq_zero (by omega)
    subst this
    simp [packB]
  | f + 1, g + 1, l, h, h' => by
    unfold packB
    split
    · rfl
    · rename_i hn
      have : 0 < l.length := List.length_pos_iff.2 hn
      rw [packB_fuel f g (l.drop 8) (by rw [List.length_drop]; omega) (by rw [List.length_drop]; omega)]
theorem pack_nil : pack [] = [] := rfl
theorem pack_app (a b : List Bool) (h : a.length = 8) : pack (a ++ b) = byteB a :: pack b := by
  have hl : (a ++ b).length = b.length + 7 + 1 := by rw [List.length_append]; omega
  unfold pack
  rw [hl]
  show (if a ++ b = [] then [] else _) = _
  rw [if_neg (by intro e; rw [e] at hl; simp at hl), List.take_left' h, List.drop_left' h]
  rw [packB_fuel (b.length + 7) b.length b (by omega) (Nat.le_refl _)]
theorem pack_small {l : List Bool} (h0 : l ≠ []) (h : l.length ≤ 8) : pack l = [byteB l] := by
  have hp : 0 < l.length := List.length_pos_iff.2 h0
  unfold pack
  obtain ⟨m, hm⟩ : ∃ m, l.length = m + 1 := ⟨l.length - 1, by omega⟩
  rw [hm]
  show (if l = [] then [] else _) = _
  rw [if_neg h0, List.take_of_length_le h, List.drop_of_length_le h]
  cases m <;> simp [packB]
theorem pack_full : ∀ (x : List Bool) (y : List Bool), x.length % 8 = 0 → pack (x ++ y) = pack x ++ pack y := by
  intro x
  generalize hn : x.length / 8 = n
  induction n generalizing x with
  | zero =>
    intro y h
    have : x = [] := List.eq_nil_of_length_eq_zero (by omega)
    subst this
    simp [pack_nil]
  | succ n ih =>
    intro y h
    have hx : x = x.take 8 ++ x.drop 8 := (List.take_append_drop 8 x).symm
    have ht : (x.take 8).length = 8 := by rw [List.length_take]; omega
    have hd : (x.drop 8).length = x.length - 8 := List.length_drop
    rw [hx, List.append_assoc, pack_app _ _ ht, pack_app _ _ ht, ih (x.drop 8) (by omega) y (by omega)]
    rfl
def bitsL (l : List UInt8) : List Bool := l.flatMap fun x => lowB x.toNat 8
theorem bitsL_len (l : List UInt8) : (bitsL l).length = 8 * l.length := by
  induction l with
  | nil => rfl
  | cons x l ih => unfold bitsL at ih ⊢; rw [List.flatMap_cons, List.length_append, ih, lowB_len, List.length_cons]; omega
theorem byteB_bits (l : List Bool) (h : l.length ≤ 8) : lowB (byteB l).toNat 8 = l ++ List.replicate (8 - l.length) false := by
  have hv := valB_lt l
  have hp : 2 ^ l.length * 2 ^ (8 - l.length) = 256 := by rw [← Nat.pow_add, show l.length + (8 - l.length) = 8 from by omega]
  have hlt : valB l * 2 ^ (8 - l.length) < 256 := by
    rw [← hp]; exact Nat.mul_lt_mul_of_pos_right hv (Nat.pow_pos (by decide))
  have ez : ∀ m, valB (List.replicate m false) = 0 := fun m => by
    induction m with
    | zero => rfl
    | succ m ih => rw [List.replicate_succ, valB_cons, ih]; simp
  refine valB_inj (by rw [lowB_len, List.length_append, List.length_replicate]; omega) ?_
  rw [valB_low, valB_app, List.length_replicate, ez]
  unfold byteB
  rw [UInt8.toNat_ofNat']
  omega
theorem bits_pack : ∀ (n : Nat) (l : List Bool), l.length ≤ n → ∃ m, m < 8 ∧ bitsL (pack l) = l ++ List.replicate m false := by
  intro n
  induction n using Nat.strongRecOn with
  | _ n ih =>
    intro l hl
    by_cases h0 : l = []
    · subst h0; exact ⟨0, by decide, rfl⟩
    · by_cases h8 : l.length ≤ 8
      · rw [pack_small h0 h8]
        have hp : 0 < l.length := List.length_pos_iff.2 h0
        refine ⟨8 - l.length, by omega, ?_⟩
        unfold bitsL
        rw [List.flatMap_cons, List.flatMap_nil, List.append_nil, byteB_bits l h8]
      · have ht : (l.take 8).length = 8 := by rw [List.length_take]; omega
        obtain ⟨m, hm, e⟩ := ih (l.drop 8).length (by rw [List.length_drop]; omega) (l.drop 8) (Nat.le_refl _)
        refine ⟨m, hm, ?_⟩
        have hx : l = l.take 8 ++ l.drop 8 := (List.take_append_drop 8 l).symm
        conv => lhs; rw [hx, pack_app _ _ ht]
        unfold bitsL at e ⊢
        rw [List.flatMap_cons, e, byteB_bits _ (by omega), ht]
        simp only [Nat.sub_self, List.replicate_zero, List.append_nil]
        rw [← List.append_assoc, List.take_append_drop]

theorem nat_wrapU {n : Nat} (h : n < 18446744073709551616) : IntKind.u64.wrap (n : Int) = (n : Int) := wrapU64 (by omega) (by omega)
theorem sh_nat {t : Nat} (ht : t ≤ 64) : min (Int.toNat (IntKind.u64.wrap (t : Int))) 64 = t := by
  rw [nat_wrapU (by omega)]; omega
theorem pow_cast (t : Nat) : ((2 : Int) ^ t) = ((2 ^ t : Nat) : Int) := by simp
theorem pow64 : (2 : Nat) ^ 64 = 18446744073709551616 := by decide
theorem shlU {n t : Nat} (ht : t ≤ 64) (h : n * 2 ^ t < 18446744073709551616) : IntKind.u64.wrap ((n : Int) * 2 ^ min (Int.toNat (IntKind.u64.wrap (t : Int))) 64) = ((n * 2 ^ t : Nat) : Int) := by
  rw [sh_nat ht, pow_cast, ← Int.natCast_mul, nat_wrapU h]
theorem fdivU (n : Nat) {t : Nat} (ht : t ≤ 64) : Int.fdiv (n : Int) (2 ^ min (Int.toNat (IntKind.u64.wrap (t : Int))) 64) = ((n / 2 ^ t : Nat) : Int) := by
  rw [sh_nat ht, pow_cast, Int.fdiv_eq_ediv_of_nonneg _ (Int.natCast_nonneg _)]
  exact (Int.natCast_ediv n (2 ^ t)).symm
theorem maskU {t : Nat} (ht : t ≤ 64) : IntKind.u64.wrap (IntKind.u64.wrap (1 * 2 ^ min (Int.toNat (IntKind.u64.wrap (t : Int))) 64) - 1) = ((2 ^ t - 1 : Nat) : Int) := by
  rw [sh_nat ht, pow_cast, Int.one_mul]
  have h0 : 0 < 2 ^ t := Nat.pow_pos (by decide)
  by_cases h : t = 64
  · subst h; decide
  · have h1 : 2 ^ t < 2 ^ 64 := Nat.pow_lt_pow_right (by decide) (by omega)
    rw [pow64] at h1
    rw [nat_wrapU h1, wrapU64 (by omega) (by omega)]
    omega
theorem andU {n t : Nat} (hn : n < 18446744073709551616) (ht : t ≤ 64) : (BitVec.ofInt 64 (n : Int) &&& BitVec.ofInt 64 ((2 ^ t - 1 : Nat) : Int)).toNat = n % 2 ^ t := by
  have h1 : 2 ^ t ≤ 2 ^ 64 := Nat.pow_le_pow_right (by decide) ht
  rw [pow64] at h1
  have h0 : 0 < 2 ^ t := Nat.pow_pos (by decide)
  rw [BitVec.toNat_and, bvN hn, bvN (by omega), Nat.and_two_pow_sub_one_eq_mod]
theorem orU {a b t : Nat} (ha : a * 2 ^ t + b < 18446744073709551616) (hb : b < 2 ^ t) : (BitVec.ofInt 64 ((a * 2 ^ t : Nat) : Int) ||| BitVec.ofInt 64 (b : Int)).toNat = a * 2 ^ t + b := by
  rw [BitVec.toNat_or, bvN (by omega), bvN (by omega), Nat.mul_comm a, ← Nat.two_pow_add_eq_or_of_lt hb]

theorem bitLenQ {x k : Nat} (hk : k < 64) (h1 : 2 ^ k ≤ x) (h2 : x < 2 ^ (k + 1)) : Lib.bitLen x = k + 1 := by
  have h3 : x < 2 ^ 64 := Nat.lt_of_lt_of_le h2 (Nat.pow_le_pow_right (by decide) (by omega))
  rw [Lib.bitLen_shift k x h1 h3]
  have e : x / 2 ^ k = 1 := by
    refine Nat.div_eq_of_lt_le (by omega) ?_
    rw [Nat.pow_succ] at h2; omega
  rw [e]; rfl
def leadB (l : List Bool) : Nat := (l.takeWhile id).length
theorem leadB_le (l : List Bool) : leadB l ≤ l.length := by
  unfold leadB
  induction l with
  | nil => simp
  | cons x l ih => cases x <;> simp <;> omega
theorem lead_split : ∀ (l : List Bool), l = List.replicate (leadB l) true ∨ ∃ r, l = List.replicate (leadB l) true ++ false :: r
  | [] => .inl rfl
  | false :: l => .inr ⟨l, rfl⟩
  | true :: l => by
    have e : leadB (true :: l) = leadB l + 1 := by unfold leadB; simp
    rw [e, List.replicate_succ]
    rcases lead_split l with h | ⟨r, h⟩
    · left
      conv => lhs; rw [h]
    · right
      refine ⟨r, ?_⟩
      conv => lhs; rw [h]
      rfl
theorem lead_rep (q : Nat) (r : List Bool) : leadB (List.replicate q true ++ false :: r) = q := by
  unfold leadB
  induction q with
  | zero => rfl
  | succ q ih => rw [List.replicate_succ, List.cons_append, List.takeWhile_cons]; simp
theorem lead_all (q : Nat) : leadB (List.replicate q true) = q := by
  unfold leadB
  induction q with
  | zero => rfl
  | succ q ih => rw [List.replicate_succ, List.takeWhile_cons]; simp
theorem val_ones (q : Nat) : valB (List.replicate q true) = 2 ^ q - 1 := by
  rw [← low_ones, valB_low]
  exact Nat.mod_eq_of_lt (by have : 0 < 2 ^ q := Nat.pow_pos (by decide); omega)
theorem lz_lead {l : List Bool} (h0 : 0 < l.length) (hl : l.length ≤ 24) : valB l * 2 ^ (64 - l.length) < 18446744073709551616 ∧ Lib.bitLen (18446744073709551615 - valB l * 2 ^ (64 - l.length)) = 64 - leadB l := by
  have hv := valB_lt l
  have hp : 2 ^ l.length * 2 ^ (64 - l.length) = 18446744073709551616 := by rw [← pow64, ← Nat.pow_add, show l.length + (64 - l.length) = 64 from by omega]
  have hlt : valB l * 2 ^ (64 - l.length) < 18446744073709551616 := by
    rw [← hp]; exact Nat.mul_lt_mul_of_pos_right hv (Nat.pow_pos (by decide))
  refine ⟨hlt, ?_⟩
  have hle := leadB_le l
  generalize hq : leadB l = q at *
  have hs := lead_split l
  rw [hq] at hs
  have hp1 : 2 ^ q * 2 ^ (64 - q) = 18446744073709551616 := by rw [← pow64, ← Nat.pow_add, show q + (64 - q) = 64 from by omega]
  have hpos : 0 < 2 ^ (64 - q) := Nat.pow_pos (by decide)
  have hq1 : 0 < 2 ^ q := Nat.pow_pos (by decide)
  have e63 : 2 ^ (64 - q) = 2 * 2 ^ (63 - q) := by rw [show 64 - q = (63 - q) + 1 from by omega, Nat.pow_succ, Nat.mul_comm]
  have main : (2 ^ q - 1) * 2 ^ (64 - q) = 18446744073709551616 - 2 ^ (64 - q) := by rw [Nat.sub_mul, Nat.one_mul, hp1]
  have big : 2 ^ (64 - q) ≤ 18446744073709551616 := by rw [← hp1]; exact Nat.le_mul_of_pos_left _ hq1
  rcases hs with h | ⟨r, h⟩
  · have hlq : l.length = q := by rw [h, List.length_replicate]
    rw [hlq, h, val_ones, main, show 18446744073709551615 - (18446744073709551616 - 2 ^ (64 - q)) = 2 ^ (64 - q) - 1 from by omega]
    rw [bitLenQ (k := 63 - q) (by omega) (by omega) (by rw [show 63 - q + 1 = 64 - q from by omega]; omega)]
    omega
  · have hlq : l.length = q + 1 + r.length := by rw [h, List.length_append, List.length_replicate, List.length_cons]; omega
    have hr := valB_lt r
    have hval : valB l = (2 ^ q - 1) * 2 ^ (r.length + 1) + valB r := by
      conv => lhs; rw [h]
      rw [valB_app, val_ones, valB_cons, List.length_cons]; simp
    have e2 : 2 ^ (r.length + 1) * 2 ^ (64 - l.length) = 2 ^ (64 - q) := by rw [← Nat.pow_add, show r.length + 1 + (64 - l.length) = 64 - q from by omega]
    have e3 : 2 ^ r.length * 2 ^ (64 - l.length) = 2 ^ (63 - q) := by rw [← Nat.pow_add, show r.length + (64 - l.length) = 63 - q from by omega]
    have e4 : valB r * 2 ^ (64 - l.length) < 2 ^ (63 - q) := by
      rw [← e3]; exact Nat.mul_lt_mul_of_pos_right hr (Nat.pow_pos (by decide))
    rw [hval, Nat.add_mul, Nat.mul_assoc, e2, main]
    generalize valB r * 2 ^ (64 - l.length) = t at *
    rw [bitLenQ (k := 63 - q) (by omega) (by omega) (by rw [show 63 - q + 1 = 64 - q from by omega]; omega)]
    omega
theorem Len64_ok {x : Nat} {H : Heap} {K : Int → Heap → Prop} (hx : x < 18446744073709551616) (hk : K (Lib.bitLen x) H) : CallH Tryz.prog 140 ⟨[.int .u64 (x : Int)]⟩ H fun v H' => ∃ n, v = .int .i64 n ∧ K n H' := fun E d =>
  (Tryz.bits_Len64 (x : Int) _ (by omega) (by omega)).mono fun e w' ⟨he, hw⟩ => ⟨_, H, d, he, hw, _, rfl, hk⟩
theorem Lead64_ok {x : Nat} {H : Heap} {K : Int → Heap → Prop} (hx : x < 18446744073709551616) (hk : K (64 - (Lib.bitLen x : Int)) H) : CallH Tryz.prog fn_math_bits_LeadingZeros64 ⟨[.int .u64 (x : Int)]⟩ H fun v H' => ∃ n, v = .int .i64 n ∧ K n H' := by
  apply vc_math_bits_LeadingZeros64
  refine Len64_ok hx ⟨_, rfl, ?_⟩
  have := Lib.bitLen_le x 64 (Nat.le_refl _) (by rw [pow64]; exact hx)
  rw [wrap64_of (by omega) (by omega)]
  exact hk

theorem bitsL_drop (l : List UInt8) (i : Nat) : (bitsL l).drop (8 * i) = bitsL (l.drop i) := by
  induction i generalizing l with
  | zero => rfl
  | succ i ih =>
    cases l with
    | nil => simp [bitsL]
    | cons x l =>
      have e : bitsL (x :: l) = lowB x.toNat 8 ++ bitsL l := rfl
      rw [e, show 8 * (i + 1) = 8 + 8 * i from by omega, ← List.drop_drop, List.drop_left' (lowB_len _ _), ih]
      rfl
theorem low_part (x : Nat) {o t : Nat} (h : o + t ≤ 8) : ((lowB x 8).drop o).take t = lowB (x / 2 ^ (8 - o - t)) t := by
  have e : lowB x 8 = lowB (x / 2 ^ (8 - o)) o ++ (lowB (x / 2 ^ (8 - o - t)) t ++ lowB x (8 - o - t)) := by
    rw [← low_app, show t + (8 - o - t) = 8 - o from by omega, ← low_app, show o + (8 - o) = 8 from by omega]
  rw [e, List.drop_left' (lowB_len _ _), List.take_left' (lowB_len _ _)]
theorem bits_part {s : ByteArray} {a t : Nat} (ha : a + t ≤ 8 * s.size) (h : a % 8 + t ≤ 8) (h0 : 0 < t) : ((bitsL (bl s)).drop a).take t = lowB (atB s (a / 8) / 2 ^ (8 - a % 8 - t)) t := by
  have hlt : a / 8 < (bl s).length := by rw [bl_len]; omega
  have e1 : a = 8 * (a / 8) + a % 8 := by omega
  have e2 : (bl s).drop (a / 8) = (bl s)[a / 8] :: (bl s).drop (a / 8 + 1) := List.drop_eq_getElem_cons hlt
  have e3 : ((bl s)[a / 8]).toNat = atB s (a / 8) := (atB_of (by rw [bl_get]; simp)).symm
  conv => lhs; rw [e1, ← List.drop_drop, bitsL_drop, e2]
  have e4 : bitsL ((bl s)[a / 8] :: (bl s).drop (a / 8 + 1)) = lowB (atB s (a / 8)) 8 ++ bitsL ((bl s).drop (a / 8 + 1)) := by rw [← e3]; rfl
  rw [e4, List.drop_append_of_le_length (by rw [lowB_len]; omega), List.take_append_of_le_length (by rw [List.length_drop, lowB_len]; omega), low_part _ h]
theorem bits_len (s : ByteArray) : (bitsL (bl s)).length = 8 * s.size := by rw [bitsL_len, bl_len]

theorem ldRs {H : Heap} {r : Nat} {s : ByteArray} {a : Int} (h : Blk H ⟨r, 0, none⟩ [.string s, .int .i64 a]) : Ld Tryz.prog 9 H ⟨r, 0, none⟩ (.string s) := h.ld0 (by kernel_rfl) rfl
theorem peek_ok {H : Heap} {r : Nat} {s : ByteArray} {x : Int} {at' many : Int} {a m : Nat} {K : Int → Heap → Prop} (hb : Blk H ⟨r, 0, none⟩ [.string s, .int .i64 x]) (ea : at' = a) (em : many = m) (ha : a + m ≤ 8 * s.size) (hm : m ≤ 64) (hs : s.size ≤ 1000000000000)
    (hk : K (valB (((bitsL (bl s)).drop a).take m) : Nat) H) : CallH Tryz.prog fn_rice_Reader_peek ⟨[.pointer (some ⟨r, 0, none⟩), .int .i64 at', .int .i64 many]⟩ H fun v H' => ∃ n, v = .int .u64 n ∧ K n H' := by
  subst ea; subst em
  apply vc_rice_Reader_peek
  have hbl := bits_len s
  refine ⟨fun vs H' => match vs with | [.int _ i, .int _ j, .int _ n] => ∃ t u : Nat, t + u = m ∧ i = (a + t : Nat) ∧ j = u ∧ n = (valB (((bitsL (bl s)).drop a).take t) : Nat) ∧ H' = H | _ => False,
    fun vs _ => match vs with | [_, .int _ j, _] => j.toNat | _ => 0, ⟨0, m, by omega, by simp, rfl, by simp [valB], rfl⟩, ?_⟩
  rintro J i j n H1 ⟨t, u, htu, rfl, rfl, rfl, rfl⟩
  refine brB_of (fun h0 => ?_) (fun h0 => ?_)
  · have hu : 0 < u := by simpa using h0
    refine ⟨s, ldRs hb, ?_⟩
    have e8 : IntKind.i64.wrap (8 - Int.tmod ((a + t : Nat) : Int) 8) = ((8 - (a + t) % 8 : Nat) : Int) := by
      rw [show Int.tmod ((a + t : Nat) : Int) 8 = (((a + t) % 8 : Nat) : Int) from (Int.ofNat_tmod (a + t) 8).symm, wrap64_of (by omega) (by omega)]
      omega
    have ed : IntKind.i64.wrap (Int.tdiv ((a + t : Nat) : Int) 8) = (((a + t) / 8 : Nat) : Int) := by
      rw [show Int.tdiv ((a + t : Nat) : Int) 8 = (((a + t) / 8 : Nat) : Int) from (Int.ofNat_tdiv (a + t) 8).symm, wrap64_of (by omega) (by omega)]
    rw [e8, ed]
    obtain ⟨w, hw, hw1, hw2, hw3⟩ : ∃ w : Nat, (if (u : Int) < ((8 - (a + t) % 8 : Nat) : Int) then (u : Int) else ((8 - (a + t) % 8 : Nat) : Int)) = (w : Int) ∧ 0 < w ∧ w ≤ u ∧ (a + t) % 8 + w ≤ 8 := ⟨min u (8 - (a + t) % 8), by split <;> omega, by omega, by omega, by omega⟩
    rw [hw]
    have ew : IntKind.i64.wrap (((8 - (a + t) % 8 : Nat) : Int) - (w : Int)) = ((8 - (a + t) % 8 - w : Nat) : Int) := by
      rw [wrap64_of (by omega) (by omega)]; omega
    rw [ew, Int.toNat_natCast]
    have hx := atB_lt s ((a + t) / 8)
    have hv := valB_lt (((bitsL (bl s)).drop a).take t)
    have hvl : (((bitsL (bl s)).drop a).take t).length = t := by rw [List.length_take, List.length_drop]; omega
    rw [hvl] at hv
    have hpw : 2 ^ t * 2 ^ w ≤ 18446744073709551616 := by rw [← Nat.pow_add, ← pow64]; exact Nat.pow_le_pow_right (by decide) (by omega)
    have hvw : valB (((bitsL (bl s)).drop a).take t) * 2 ^ w + 2 ^ w ≤ 18446744073709551616 := by
      refine Nat.le_trans ?_ hpw
      rw [← Nat.succ_mul]
      exact Nat.mul_le_mul_right _ hv
    have hpos : 0 < 2 ^ w := Nat.pow_pos (by decide)
    rw [nat_wrapU (n := atB s ((a + t) / 8)) (by omega), fdivU _ (by omega), maskU (by omega), shlU (by omega) (by omega)]
    rw [andU (Nat.lt_of_le_of_lt (Nat.div_le_self _ _) (by omega)) (by omega), nat_wrapU (Nat.lt_of_le_of_lt (Nat.mod_le _ _) (Nat.lt_of_le_of_lt (Nat.div_le_self _ _) (by omega)))]
    have hb2 : atB s ((a + t) / 8) / 2 ^ (8 - (a + t) % 8 - w) % 2 ^ w < 2 ^ w := Nat.mod_lt _ hpos
    rw [orU (by omega) hb2, nat_wrapU (by omega)]
    refine chk_true (decide_eq_true (by omega)) (chk_true (decide_eq_true (by first | omega | (rw [nat_wrapU (by omega)]; omega))) (chk_true (decide_eq_true (by first | omega | (rw [nat_wrapU (by omega)]; omega))) (chk_true (decide_eq_true (by first | omega | (rw [nat_wrapU (by omega)]; omega))) ⟨⟨t + w, u - w, by omega, ?_, ?_, ?_, rfl⟩, ?_⟩)))
    · rw [wrap64_of (by omega) (by omega)]; omega
    · rw [wrap64_of (by omega) (by omega)]; omega
    · have e1 : ((bitsL (bl s)).drop a).take (t + w) = ((bitsL (bl s)).drop a).take t ++ ((bitsL (bl s)).drop (a + t)).take w := by
        rw [List.take_add, List.drop_drop]
      rw [e1, valB_app, bits_part (by omega) hw3 hw1, valB_low, lowB_len]
      exact nat_wrapU (by omega)
    · show (IntKind.i64.wrap ((u : Int) - (w : Int))).toNat < ((u : Nat) : Int).toNat
      rw [wrap64_of (by omega) (by omega)]; omega
  · have hu : u = 0 := by simp at h0; omega
    have ht : t = m := by omega
    subst ht
    exact ⟨_, rfl, hk⟩

theorem Blk.set {P : Program} {t : TypeId} {H : Heap} {a : Addr} {vs : List Value} {j : Nat} {v : Value} {X : Heap → Prop} (h : Blk H a vs) (hs : szOf P t = 1) (hi : (P.info? t).isSome = true) (hv : v.cells = #[v]) (h1 : v.oneCell' = true) (hj : j < vs.length)
    (k : ∀ H', Blk H' a (vs.set j v) → Fr [a.block] H H' → X H') : ∃ H', St P t H (a.add j) v H' ∧ X H' := by
  have hc : v.cells.toList = [v] := by rw [hv]
  refine h.st (by rw [hs, hv]; rfl) hi (by rw [hc]; simpa using h1) (by rw [hv]; simp; omega) fun H' hb hf => k H' ?_ hf
  rw [hc] at hb
  have e : vs.take j ++ [v] ++ vs.drop (j + [v].length) = vs.set j v := by
    rw [List.set_eq_take_append_cons_drop, if_pos hj]; simp
  rwa [e] at hb
def riceP (r : List Bool) (k : Nat) : Option (Nat × Nat) :=
  if leadB (r.take 24) = 24 then (if r.length < 88 ∨ valB ((r.drop 24).take 64) / 2 ^ k < 24 then none else some (valB ((r.drop 24).take 64), 88))
  else if r.length < leadB (r.take 24) + 1 + k then none else some (leadB (r.take 24) * 2 ^ k + valB ((r.drop (leadB (r.take 24) + 1)).take k), leadB (r.take 24) + 1 + k)
theorem rice_code {n k : Nat} (hn : n < 18446744073709551616) (rest : List Bool) : riceP (codeB n k ++ rest) k = some (n, (codeB n k).length) := by
  have hp : 0 < 2 ^ k := Nat.pow_pos (by decide)
  by_cases h : 24 ≤ n / 2 ^ k
  · have ec : codeB n k = List.replicate 24 true ++ lowB n 64 := if_pos h
    have e1 : (codeB n k ++ rest).take 24 = List.replicate 24 true := by
      rw [ec, List.append_assoc, List.take_left' (List.length_replicate)]
    have e2 : ((codeB n k ++ rest).drop 24).take 64 = lowB n 64 := by
      rw [ec, List.append_assoc, List.drop_left' (List.length_replicate), List.take_left' (lowB_len _ _)]
    have e3 : valB (lowB n 64) = n := by rw [valB_low, pow64]; exact Nat.mod_eq_of_lt hn
    have e4 : (codeB n k).length = 88 := by rw [codeB_len, if_pos h]
    unfold riceP
    rw [e1, lead_all, if_pos rfl, e2, e3, if_neg, e4]
    rw [List.length_append, e4]
    omega
  · have ec : codeB n k = List.replicate (n / 2 ^ k) true ++ false :: lowB n k := if_neg h
    have hq : n / 2 ^ k < 24 := by omega
    have e1 : leadB ((codeB n k ++ rest).take 24) = n / 2 ^ k := by
      rw [ec, List.append_assoc, List.cons_append]
      obtain ⟨m, hm⟩ : ∃ m, 24 = n / 2 ^ k + (m + 1) := ⟨23 - n / 2 ^ k, by omega⟩
      have : (List.replicate (n / 2 ^ k) true ++ false :: (lowB n k ++ rest)).take 24 = List.replicate (n / 2 ^ k) true ++ false :: (lowB n k ++ rest).take m := by
        conv => lhs; rw [hm]
        have hl : (List.replicate (n / 2 ^ k) true).length = n / 2 ^ k := List.length_replicate
        conv => lhs; rw [← hl]
        rw [hl, List.take_append, hl]
        simp [List.take_of_length_le]
      rw [this, lead_rep]
    have e2 : ((codeB n k ++ rest).drop (n / 2 ^ k + 1)).take k = lowB n k := by
      have : codeB n k ++ rest = (List.replicate (n / 2 ^ k) true ++ [false]) ++ (lowB n k ++ rest) := by rw [ec]; simp
      rw [this, List.drop_left' (by simp), List.take_left' (lowB_len _ _)]
    have e4 : (codeB n k).length = n / 2 ^ k + 1 + k := by rw [codeB_len, if_neg h]
    unfold riceP
    rw [e1, if_neg (by omega), e2, valB_low, if_neg (by rw [List.length_append, e4]; omega), e4]
    congr 2
    rw [Nat.mul_comm]; exact Nat.div_add_mod n (2 ^ k)
theorem Rice_ok {H : Heap} {r : Nat} {s : ByteArray} {x kk : Int} {a k : Nat} {K : Int → Int → Heap → Prop} (hb : Blk H ⟨r, 0, none⟩ [.string s, .int .i64 x]) (ex : x = a) (ek : kk = k) (ha : a ≤ 8 * s.size) (hs : s.size ≤ 1000000000000)
    (hno : k > 40 ∨ riceP ((bitsL (bl s)).drop a) k = none → ∀ e, e ≠ 0 → K 0 e H)
    (hyes : k ≤ 40 → ∀ n m H', riceP ((bitsL (bl s)).drop a) k = some (n, m) → n < 18446744073709551616 → a + m ≤ 8 * s.size → Blk H' ⟨r, 0, none⟩ [.string s, .int .i64 ((a + m : Nat) : Int)] → Fr [r] H H' → K n 0 H') :
    CallH Tryz.prog fn_rice_Reader_Rice ⟨[.pointer (some ⟨r, 0, none⟩), .int .i64 kk]⟩ H fun v H' => ∃ n e, v = .tuple ⟨[.int .u64 n, .int .i64 e]⟩ ∧ K n e H' := by
  subst ek; subst ex
  apply vc_rice_Reader_Rice
  refine ⟨fun _ H' => H' = H ∧ k ≤ 40, brB_of (fun h => by simp at h; omega) fun _ => brB_of (fun h => ⟨_, _, rfl, hno (.inl (by simp at h; omega)) 1 (by decide)⟩) fun h => ⟨rfl, by simp at h; omega⟩, ?_⟩
  rintro J H1 ⟨rfl, hk40⟩
  have hbl := bits_len s
  have ld1 : Ld Tryz.prog 3 H1 (Addr.add ⟨r, 0, none⟩ 1) (.int .i64 (a : Int)) := hb.ld (j := 1) (by kernel_rfl) rfl
  apply vc_rice_Reader_Left
  refine ⟨s, ldRs hb, _, ld1, _, rfl, _, ld1, ?_⟩
  have el : IntKind.i64.wrap (IntKind.i64.wrap (8 * (s.size : Int)) - (a : Int)) = ((8 * s.size - a : Nat) : Int) := by
    rw [wrap64_of (n := 8 * (s.size : Int)) (by omega) (by omega), wrap64_of (by omega) (by omega)]; omega
  rw [el]
  obtain ⟨h, hh, hh1, hh2⟩ : ∃ h : Nat, (if (((8 * s.size - a : Nat) : Int)) < 24 then ((8 * s.size - a : Nat) : Int) else 24) = (h : Int) ∧ h ≤ 24 ∧ h = min (8 * s.size - a) 24 := ⟨min (8 * s.size - a) 24, by split <;> omega, by omega, rfl⟩
  rw [hh]
  generalize hR : (bitsL (bl s)).drop a = R at *
  have hRl : R.length = 8 * s.size - a := by rw [← hR, List.length_drop, hbl]
  have hRh : (R.take 24).length = h := by rw [List.length_take]; omega
  have htk : R.take h = R.take 24 := by
    by_cases hc : 24 ≤ R.length
    · rw [show h = 24 by omega]
    · rw [List.take_of_length_le (by omega), List.take_of_length_le (by omega)]
  have hqh := leadB_le (R.take 24)
  rw [hRh] at hqh
  refine peek_ok hb rfl rfl (by omega) (by omega) hs ?_
  rw [hR, htk]
  have e64 : IntKind.i64.wrap (64 - (h : Int)) = ((64 - h : Nat) : Int) := by rw [wrap64_of (by omega) (by omega)]; omega
  rw [e64]
  refine chk_true (decide_eq_true (by rw [nat_wrapU (by omega)]; omega)) ?_
  have emax : (if IntKind.signed .u64 = true then (-1 : Int) else IntKind.max .u64) = 18446744073709551615 := by decide
  rw [emax]
  have hval : valB (R.take 24) * 2 ^ (64 - h) < 18446744073709551616 := by
    have h1 := valB_lt (R.take 24)
    rw [hRh] at h1
    have h2 : 2 ^ h * 2 ^ (64 - h) = 18446744073709551616 := by rw [← Nat.pow_add, ← pow64]; congr 1; omega
    rw [← h2]
    exact Nat.mul_lt_mul_of_pos_right h1 (Nat.pow_pos (by decide))
  rw [shlU (by omega) hval, BitVec.xor_comm, xor_ones hval, nat_wrapU (by omega)]
  refine Lead64_ok (by omega) ?_
  generalize hq : leadB (R.take 24) = q at *
  refine ⟨fun vs H' => vs = [.int .i64 (q : Int)] ∧ H' = H1, brB_of (fun h0 => ⟨?_, rfl⟩) (fun h0 => ⟨?_, rfl⟩), ?_⟩
  · have : h = 0 := by simpa using h0
    rw [show q = 0 by omega]; rfl
  · have h1 : 0 < h := by
      have : ¬ (h : Int) = 0 := by simpa using h0
      omega
    have := (lz_lead (l := R.take 24) (by omega) (by omega)).2
    rw [hRh, hq] at this
    rw [this, show (64 - ((64 - q : Nat) : Int)) = (q : Int) by omega]
  rintro J n4 H2 ⟨e4, rfl⟩
  simp only [List.cons.injEq, Value.int.injEq, true_and, and_true] at e4
  subst e4
  have emin : (if (h : Int) < (q : Int) then (h : Int) else (q : Int)) = (q : Int) := by split <;> omega
  rw [emin]
  refine ⟨_, ld1, ?_⟩
  refine ⟨fun vs H' => H' = H2 ∧ ((q = 24 ∧ vs = [.int .i64 (q : Int), .int .i64 ((a + 24 : Nat) : Int), .int .i64 ((64 : Nat) : Int)]) ∨ (q < 24 ∧ vs = [.int .i64 (q : Int), .int .i64 ((a + q + 1 : Nat) : Int), .int .i64 (k : Int)])), brB_of (fun h0 => ⟨_, ld1, rfl, .inl ⟨by have h9 : (q : Int) = 24 := (by simpa using h0); omega, ?_⟩⟩) (fun h0 => ⟨rfl, .inr ⟨by have h9 : ¬ (q : Int) = 24 := (by simpa using h0); omega, ?_⟩⟩), ?_⟩
  · rw [wrap64_of (by omega) (by omega)]; rfl
  · rw [wrap64_of (n := (a : Int) + q) (by omega) (by omega), wrap64_of (by omega) (by omega)]; rfl
  rintro J n n6 n7 H3 ⟨rfl, hc⟩
  have hkeep := ld1
  rcases hc with ⟨hq24, hv⟩ | ⟨hq24, hv⟩
  · simp only [List.cons.injEq, Value.int.injEq, true_and, and_true] at hv
    obtain ⟨rfl, rfl, rfl⟩ := hv
    refine ⟨s, ldRs hb, brB_of (fun h0 => ⟨_, _, rfl, hno (.inr ?_) 10 (by decide)⟩) (fun h0 => ?_)⟩
    · rw [wrap64_of (n := 8 * (s.size : Int)) (by omega) (by omega), wrap64_of (by omega) (by omega)] at h0
      have : R.length < 88 := by simp at h0; omega
      unfold riceP
      rw [hq, if_pos hq24, if_pos (.inl this)]
    · rw [wrap64_of (n := 8 * (s.size : Int)) (by omega) (by omega), wrap64_of (by omega) (by omega)] at h0
      have h88 : 88 ≤ R.length := by simp at h0; omega
      refine peek_ok hb rfl rfl (by omega) (by omega) hs ?_
      rw [← List.drop_drop, hR]
      have hvl := valB_lt ((R.drop 24).take 64)
      have : ((R.drop 24).take 64).length = 64 := by rw [List.length_take, List.length_drop]; omega
      rw [this, pow64] at hvl
      refine ⟨fun vs H' => vs = [.int .u64 (valB ((R.drop 24).take 64) : Nat)] ∧ H' = H3 ∧ ¬ valB ((R.drop 24).take 64) / 2 ^ k < 24, ?_, ?_⟩
      · refine ⟨fun vs H' => vs = [.bool (decide (valB ((R.drop 24).take 64) / 2 ^ k < 24))] ∧ H' = H3, brB_of (fun _ => chk_true (decide_eq_true (by rw [nat_wrapU (by omega)]; omega)) ⟨?_, rfl⟩) (fun h0 => by simp [hq24] at h0), ?_⟩
        · rw [fdivU _ (by omega)]
          have e7 : decide (((valB ((R.drop 24).take 64) / 2 ^ k : Nat) : Int) < 24) = decide (valB ((R.drop 24).take 64) / 2 ^ k < 24) := decide_eq_decide.2 (by generalize valB ((R.drop 24).take 64) / 2 ^ k = z; omega)
          rw [e7]
        · rintro J b H4 ⟨e, rfl⟩
          simp only [List.cons.injEq, Value.bool.injEq, and_true] at e
          subst e
          refine brB_of (fun h0 => ⟨_, _, rfl, hno (.inr ?_) 11 (by decide)⟩) (fun h0 => brB_of (fun h1 => by simp at h1; omega) fun _ => ⟨rfl, rfl, by simpa using h0⟩)
          unfold riceP
          rw [hq, if_pos hq24, if_pos (.inr (by simpa using h0))]
      · rintro J n H4 ⟨e, rfl, hng⟩
        simp only [List.cons.injEq, Value.int.injEq, true_and, and_true] at e
        subst e
        refine Blk.set hb (j := 1) (by kernel_rfl) (by kernel_rfl) rfl rfl (by simp) fun H5 hb5 hf5 => ⟨_, _, rfl, hyes hk40 _ 88 H5 ?_ hvl (by omega) ?_ hf5⟩
        · unfold riceP
          rw [hq, if_pos hq24, if_neg (by omega)]
        · rw [wrap64_of (by omega) (by omega)] at hb5
          have e5 : ((a + 24 : Nat) : Int) + ((64 : Nat) : Int) = ((a + 88 : Nat) : Int) := by omega
          rw [e5] at hb5
          exact hb5
  · simp only [List.cons.injEq, Value.int.injEq, true_and, and_true] at hv
    obtain ⟨rfl, rfl, rfl⟩ := hv
    refine ⟨s, ldRs hb, brB_of (fun h0 => ⟨_, _, rfl, hno (.inr ?_) 10 (by decide)⟩) (fun h0 => ?_)⟩
    · rw [wrap64_of (n := 8 * (s.size : Int)) (by omega) (by omega), wrap64_of (by omega) (by omega)] at h0
      have : R.length < q + 1 + k := by simp at h0; omega
      unfold riceP
      rw [hq, if_neg (by omega), if_pos this]
    · rw [wrap64_of (n := 8 * (s.size : Int)) (by omega) (by omega), wrap64_of (by omega) (by omega)] at h0
      have hle : q + 1 + k ≤ R.length := by simp at h0; omega
      refine peek_ok hb rfl rfl (by omega) (by omega) hs ?_
      rw [Nat.add_assoc a q 1, ← List.drop_drop, hR]
      have hvl := valB_lt ((R.drop (q + 1)).take k)
      have : ((R.drop (q + 1)).take k).length = k := by rw [List.length_take, List.length_drop]; omega
      rw [this] at hvl
      have hk2 : 2 ^ k ≤ 2 ^ 40 := Nat.pow_le_pow_right (by decide) hk40
      have e40 : (2 : Nat) ^ 40 = 1099511627776 := by decide
      have hqk : q * 2 ^ k ≤ 24 * 1099511627776 := by rw [← e40]; exact Nat.mul_le_mul (by omega) hk2
      refine ⟨fun vs H' => vs = [.int .u64 (q * 2 ^ k + valB ((R.drop (q + 1)).take k) : Nat)] ∧ H' = H3, ?_, ?_⟩
      · refine ⟨fun vs H' => vs = [.bool false] ∧ H' = H3, brB_of (fun h0 => by have : (q : Int) = 24 := by simpa using h0
                                                                                omega) (fun h0 => ⟨rfl, rfl⟩), ?_⟩
        rintro J b H4 ⟨e, rfl⟩
        simp only [List.cons.injEq, Value.bool.injEq, and_true] at e
        subst e
        refine brB_of (fun h0 => by cases h0) (fun _ => brB_of (fun _ => chk_true (decide_eq_true (by rw [nat_wrapU (by omega)]; omega)) ⟨?_, rfl⟩) (fun h0 => by simp at h0; omega))
        rw [nat_wrapU (n := q) (by omega), shlU (by omega) (by omega), BitVec.or_comm, orU (by omega) hvl, nat_wrapU (by omega)]
      · rintro J n H4 ⟨e, rfl⟩
        simp only [List.cons.injEq, Value.int.injEq, true_and, and_true] at e
        subst e
        refine Blk.set hb (j := 1) (by kernel_rfl) (by kernel_rfl) rfl rfl (by simp) fun H5 hb5 hf5 => ⟨_, _, rfl, hyes hk40 _ (q + 1 + k) H5 ?_ (by omega) (by omega) ?_ hf5⟩
        · unfold riceP
          rw [hq, if_neg (by omega), if_neg (by omega)]
        · rw [wrap64_of (by omega) (by omega)] at hb5
          have e5 : ((a + (q + 1) : Nat) : Int) + (k : Int) = ((a + (q + 1 + k) : Nat) : Int) := by omega
          rw [e5] at hb5
          exact hb5

def bufB (l : List Bool) (i n : Nat) : List UInt8 := (List.range n).map fun j => byteB (((l.take i).drop (8 * j)).take 8)
theorem bufB_len (l : List Bool) (i n : Nat) : (bufB l i n).length = n := by simp [bufB]
theorem bufB_get (l : List Bool) (i n j : Nat) : (bufB l i n)[j]? = if j < n then some (byteB (((l.take i).drop (8 * j)).take 8)) else none := by
  unfold bufB
  rw [List.getElem?_map]
  by_cases h : j < n
  · rw [if_pos h, List.getElem?_range h]; rfl
  · rw [if_neg h, List.getElem?_eq_none (by rw [List.length_range]; omega)]; rfl
theorem byteB_nil : byteB [] = 0 := rfl
theorem byteB_toNat {l : List Bool} (h : l.length ≤ 8) : (byteB l).toNat = valB l * 2 ^ (8 - l.length) := by
  have hv := valB_lt l
  have hp : 2 ^ l.length * 2 ^ (8 - l.length) = 256 := by rw [← Nat.pow_add, show l.length + (8 - l.length) = 8 from by omega]
  have hlt : valB l * 2 ^ (8 - l.length) < 256 := by
    rw [← hp]; exact Nat.mul_lt_mul_of_pos_right hv (Nat.pow_pos (by decide))
  unfold byteB
  rw [UInt8.toNat_ofNat']
  omega
theorem byteB_snoc {l : List Bool} (h : l.length < 8) (b : Bool) : (byteB (l ++ [b])).toNat = (byteB l).toNat + b.toNat * 2 ^ (7 - l.length) := by
  rw [byteB_toNat (by rw [List.length_append]; simp; omega), byteB_toNat (by omega), valB_app, List.length_append]
  have e1 : 2 ^ (8 - l.length) = 2 * 2 ^ (7 - l.length) := by rw [show 8 - l.length = (7 - l.length) + 1 by omega, Nat.pow_succ]; omega
  have e2 : valB [b] = b.toNat := by cases b <;> rfl
  simp only [List.length_cons, List.length_nil, Nat.zero_add, Nat.pow_one]
  rw [e2, show 8 - (l.length + 1) = 7 - l.length by omega, e1, Nat.add_mul, Nat.mul_assoc]
theorem bufB_zero (l : List Bool) (n : Nat) : bufB l 0 n = List.replicate n 0 := by
  refine List.ext_getElem? fun j => ?_
  rw [bufB_get, List.getElem?_replicate]
  simp [byteB_nil]
theorem part_len {l : List Bool} {i : Nat} (hi : i ≤ l.length) : (((l.take i).drop (8 * (i / 8))).take 8).length = i % 8 := by
  rw [List.length_take, List.length_drop, List.length_take]; omega
theorem bufB_at {l : List Bool} {i n : Nat} (hi : i < l.length) (hn : l.length ≤ 8 * n) : ∃ x : UInt8, (bufB l i n)[i / 8]? = some x ∧ x.toNat + 2 ^ (7 - i % 8) < 256 := by
  have hp := part_len (l := l) (i := i) (by omega)
  refine ⟨byteB (((l.take i).drop (8 * (i / 8))).take 8), by rw [bufB_get, if_pos (by omega)], ?_⟩
  have := byteB_snoc (l := ((l.take i).drop (8 * (i / 8))).take 8) (by omega) true
  rw [hp] at this
  have hb := UInt8.toNat_lt (byteB (((l.take i).drop (8 * (i / 8))).take 8 ++ [true]))
  rw [this] at hb
  simp at hb
  omega
theorem bufB_step {l : List Bool} {i n : Nat} {b : Bool} {x : UInt8} (hb : l[i]? = some b) (hn : l.length ≤ 8 * n) (hx : (bufB l i n)[i / 8]? = some x) :
    bufB l (i + 1) n = (bufB l i n).set (i / 8) (UInt8.ofNat (x.toNat + b.toNat * 2 ^ (7 - i % 8))) := by
  have hi : i < l.length := (List.getElem?_eq_some_iff.1 hb).1
  have hp := part_len (l := l) (i := i) (by omega)
  refine List.ext_getElem? fun j => ?_
  rw [List.getElem?_set, bufB_len, bufB_get, bufB_get]
  by_cases hj : i / 8 = j
  · subst hj
    rw [if_pos (by omega), if_pos rfl, if_pos (by omega)]
    congr 1
    have e : ((l.take (i + 1)).drop (8 * (i / 8))).take 8 = ((l.take i).drop (8 * (i / 8))).take 8 ++ [b] := by
      rw [show l.take (i + 1) = l.take i ++ [b] by rw [List.take_add_one, hb]; rfl]
      rw [List.drop_append_of_le_length (by rw [List.length_take]; omega)]
      rw [List.length_take, List.length_drop, List.length_take] at hp
      rw [List.take_of_length_le (l := (l.take i).drop (8 * (i / 8)) ++ [b]) (by rw [List.length_append, List.length_drop, List.length_take]; simp; omega), List.take_of_length_le (l := (l.take i).drop (8 * (i / 8))) (by rw [List.length_drop, List.length_take]; omega)]
    rw [e]
    rw [bufB_get, if_pos (by omega)] at hx
    have hx := Option.some.inj hx
    apply UInt8.toNat_inj.1
    rw [byteB_snoc (by omega) b, hp, hx, UInt8.toNat_ofNat']
    have hb2 := UInt8.toNat_lt (byteB (((l.take i).drop (8 * (i / 8))).take 8 ++ [b]))
    rw [byteB_snoc (by omega) b, hp, hx] at hb2
    omega
  · rw [if_neg hj]
    by_cases hjn : j < n
    · rw [if_pos hjn, if_pos hjn]
      congr 2
      by_cases hlt : j < i / 8
      · refine List.ext_getElem? fun k => ?_
        rw [List.getElem?_take, List.getElem?_take]
        by_cases hk : k < 8
        · rw [if_pos hk, if_pos hk, List.getElem?_drop, List.getElem?_drop, List.getElem?_take, List.getElem?_take, if_pos (by omega), if_pos (by omega)]
        · rw [if_neg hk, if_neg hk]
      · rw [List.drop_of_length_le (by rw [List.length_take]; omega), List.drop_of_length_le (by rw [List.length_take]; omega)]
    · rw [if_neg hjn, if_neg hjn]
theorem bufB_next {l : List Bool} {i n : Nat} (hb : l[i]? = some false) (hn : l.length ≤ 8 * n) : bufB l (i + 1) n = bufB l i n := by
  obtain ⟨x, hx, _⟩ := bufB_at (List.getElem?_eq_some_iff.1 hb).1 hn
  rw [bufB_step hb hn hx]
  have : UInt8.ofNat (x.toNat + false.toNat * 2 ^ (7 - i % 8)) = x := by
    apply UInt8.toNat_inj.1
    rw [UInt8.toNat_ofNat']
    have := UInt8.toNat_lt x
    simp
  rw [this]
  refine List.ext_getElem? fun j => ?_
  rw [List.getElem?_set]
  split
  · rename_i h
    subst h
    split
    · exact hx.symm
    · rename_i h
      exact (List.getElem?_eq_none (by omega)).symm
  · rfl
theorem bufB_pack : ∀ (n : Nat) (l : List Bool), n = (l.length + 7) / 8 → bufB l l.length n = pack l := by
  intro n
  induction n with
  | zero =>
    intro l h
    have : l = [] := List.eq_nil_of_length_eq_zero (by omega)
    subst this
    rfl
  | succ n ih =>
    intro l h
    have hx : l = l.take 8 ++ l.drop 8 := (List.take_append_drop 8 l).symm
    by_cases h8 : l.length ≤ 8
    · have hne : l ≠ [] := by intro e; rw [e] at h; simp at h
      have : n = 0 := by omega
      subst this
      rw [pack_small hne h8]
      unfold bufB
      simp [List.take_of_length_le h8]
    · have ht : (l.take 8).length = 8 := by rw [List.length_take]; omega
      have e := ih (l.drop 8) (by rw [List.length_drop]; omega)
      conv => rhs; rw [hx, pack_app _ _ ht, ← e]
      unfold bufB
      rw [List.range_succ_eq_map, List.map_cons, List.map_map, List.take_of_length_le (Nat.le_refl _), List.take_of_length_le (Nat.le_refl _)]
      simp only [Nat.mul_zero, List.drop_zero]
      congr 1
      refine List.map_congr_left fun j _ => ?_
      simp only [Function.comp]
      rw [List.drop_drop, show 8 * j.succ = 8 + 8 * j by omega]

def costN (l : List Nat) (k : Nat) : Nat := (l.map fun x => (codeB x k).length).sum
theorem costN_take {l : List Nat} {i x k : Nat} (h : l[i]? = some x) : costN (l.take (i + 1)) k = costN (l.take i) k + (codeB x k).length := by
  unfold costN
  rw [List.take_add_one, h]
  simp
theorem costN_le (l : List Nat) {k : Nat} (hk : k ≤ 40) : costN l k ≤ 88 * l.length := by
  unfold costN
  induction l with
  | nil => simp
  | cons x l ih =>
    rw [List.map_cons, List.sum_cons, List.length_cons]
    have : (codeB x k).length ≤ 88 := by rw [codeB_len]; split <;> omega
    omega
def bestTo (l : List Nat) : Nat → Nat
  | 0 => 0
  | m + 1 => if costN l (m + 1) < costN l (bestTo l m) then m + 1 else bestTo l m
theorem bestTo_le (l : List Nat) : ∀ m, bestTo l m ≤ m
  | 0 => Nat.le_refl _
  | m + 1 => by
    have := bestTo_le l m
    unfold bestTo
    split <;> omega
def bestN (l : List Nat) : Nat := bestTo l 40
theorem bestN_le (l : List Nat) : bestN l ≤ 40 := bestTo_le l 40
end Go.Proofs
set_option linter.unusedVariables false
namespace Go.Proofs

abbrev Smp := Int × Int
def mrg : List Smp → List Smp → List Smp
  | [], b => b
  | x :: a, [] => x :: a
  | x :: a, y :: b => if x.1 < y.1 then x :: mrg a (y :: b) else if x.1 = y.1 then y :: mrg a b else y :: mrg (x :: a) b
termination_by a b => a.length + b.length

theorem mrg_nil (b : List Smp) : mrg [] b = b := by unfold mrg; rfl
theorem mrg_nil' : ∀ a : List Smp, mrg a [] = a
  | [] => mrg_nil _
  | x :: a => by unfold mrg; rfl
theorem mrg_cons (x y : Smp) (a b : List Smp) : mrg (x :: a) (y :: b) = if x.1 < y.1 then x :: mrg a (y :: b) else if x.1 = y.1 then y :: mrg a b else y :: mrg (x :: a) b := by
  rw [mrg]

def Ris (l : List Smp) : Prop := l.Pairwise fun x y => x.1 < y.1
instance (l : List Smp) : Decidable (Ris l) := by unfold Ris; infer_instance
theorem Ris.nil : Ris [] := List.Pairwise.nil
theorem ris_cons {x : Smp} {l : List Smp} : Ris (x :: l) ↔ (∀ y ∈ l, x.1 < y.1) ∧ Ris l := List.pairwise_cons
theorem ris_of_next : ∀ {l : List Smp}, (∀ (i : Nat) x y, l[i]? = some x → l[i + 1]? = some y → x.1 < y.1) → Ris l
  | [], _ => Ris.nil
  | [x], _ => by simp [Ris]
  | x :: y :: l, h => by
    have ih : Ris (y :: l) := ris_of_next fun i a b ha hb => h (i + 1) a b ha hb
    have hxy : x.1 < y.1 := h 0 x y rfl rfl
    refine ris_cons.2 ⟨fun z hz => ?_, ih⟩
    rcases List.mem_cons.1 hz with rfl | hz
    · exact hxy
    · exact Int.lt_trans hxy ((ris_cons.1 ih).1 z hz)
theorem ris_next {l : List Smp} (h : Ris l) {i : Nat} {x y : Smp} (hx : l[i]? = some x) (hy : l[i + 1]? = some y) : x.1 < y.1 := by
  obtain ⟨h1, rfl⟩ := List.getElem?_eq_some_iff.1 hx
  obtain ⟨h2, rfl⟩ := List.getElem?_eq_some_iff.1 hy
  exact List.pairwise_iff_getElem.1 h i (i + 1) h1 h2 (Nat.lt_succ_self _)
theorem mem_mrg {z : Smp} : ∀ a b : List Smp, z ∈ mrg a b → z ∈ a ∨ z ∈ b
  | [], b, h => by rw [mrg_nil] at h; exact .inr h
  | x :: a, [], h => by rw [mrg_nil'] at h; exact .inl h
  | x :: a, y :: b, h => by
    rw [mrg_cons] at h
    split at h
    · rcases List.mem_cons.1 h with rfl | h
      · exact .inl (by simp)
      · rcases mem_mrg a (y :: b) h with h | h
        · exact .inl (by simp [h])
        · exact .inr h
    · split at h
      · rcases List.mem_cons.1 h with rfl | h
        · exact .inr (by simp)
        · rcases mem_mrg a b h with h | h
          · exact .inl (by simp [h])
          · exact .inr (by simp [h])
      · rcases List.mem_cons.1 h with rfl | h
        · exact .inr (by simp)
        · rcases mem_mrg (x :: a) b h with h | h
          · exact .inl h
          · exact .inr (by simp [h])
termination_by a b => a.length + b.length
theorem ris_mrg : ∀ a b : List Smp, Ris a → Ris b → Ris (mrg a b)
  | [], b, _, hb => by rw [mrg_nil]; exact hb
  | x :: a, [], ha, _ => by rw [mrg_nil']; exact ha
  | x :: a, y :: b, ha, hb => by
    have ha' := ris_cons.1 ha
    have hb' := ris_cons.1 hb
    rw [mrg_cons]
    split
    · rename_i h
      refine ris_cons.2 ⟨fun z hz => ?_, ris_mrg a (y :: b) ha'.2 hb⟩
      rcases mem_mrg _ _ hz with hz | hz
      · exact ha'.1 z hz
      · rcases List.mem_cons.1 hz with rfl | hz
        · exact h
        · exact Int.lt_trans h (hb'.1 z hz)
    · split
      · rename_i h1 h
        refine ris_cons.2 ⟨fun z hz => ?_, ris_mrg a b ha'.2 hb'.2⟩
        rcases mem_mrg _ _ hz with hz | hz
        · have := ha'.1 z hz; omega
        · exact hb'.1 z hz
      · rename_i h1 h2
        refine ris_cons.2 ⟨fun z hz => ?_, ris_mrg (x :: a) b ha hb'.2⟩
        rcases mem_mrg _ _ hz with hz | hz
        · rcases List.mem_cons.1 hz with rfl | hz
          · omega
          · have := ha'.1 z hz; omega
        · exact hb'.1 z hz
termination_by a b => a.length + b.length
theorem len_mrg : ∀ a b : List Smp, (mrg a b).length ≤ a.length + b.length
  | [], b => by rw [mrg_nil]; simp
  | x :: a, [] => by rw [mrg_nil']; simp
  | x :: a, y :: b => by
    rw [mrg_cons]
    split
    · have := len_mrg a (y :: b); simp at this ⊢; omega
    · split
      · have := len_mrg a b; simp at this ⊢; omega
      · have := len_mrg (x :: a) b; simp at this ⊢; omega
termination_by a b => a.length + b.length
theorem mrg_one {x : Smp} {b : List Smp} (hx : ∀ y ∈ b, x.1 < y.1) : ∀ l : List Smp, mrg (mrg l [x]) b = mrg l (x :: b)
  | [] => by
    rw [mrg_nil, mrg_nil]
    cases b with
    | nil => exact mrg_nil' _
    | cons y b => rw [mrg_cons, if_pos (hx y (by simp)), mrg_nil]
  | z :: l => by
    rw [mrg_cons, mrg_cons z x l b]
    split
    · rename_i h
      rw [← mrg_one hx l]
      cases b with
      | nil => rw [mrg_nil', mrg_nil']
      | cons y b => rw [mrg_cons, if_pos (by have := hx y (by simp); omega)]
    · split
      · rw [mrg_nil']
        cases b with
        | nil => rw [mrg_nil', mrg_nil']
        | cons y b => rw [mrg_cons, if_pos (hx y (by simp))]
      · rw [mrg_nil']
        cases b with
        | nil => rw [mrg_nil', mrg_nil']
        | cons y b => rw [mrg_cons, if_pos (hx y (by simp))]
def setS (l : List Smp) (x : Smp) : List Smp := match l with
  | [] => [x]
  | y :: l => if x.1 ≤ y.1 then x :: (y :: l).filter (fun z => decide (z.1 ≠ x.1)) else y :: setS l x
theorem filter_all {l : List Smp} {p : Smp → Bool} (h : ∀ y ∈ l, p y = true) : l.filter p = l := List.filter_eq_self.2 h
theorem setS_eq {x : Smp} : ∀ {l : List Smp}, Ris l → setS l x = mrg l [x]
  | [], _ => by rw [mrg_nil]; rfl
  | y :: l, h => by
    have h' := ris_cons.1 h
    rw [setS, mrg_cons]
    by_cases h1 : y.1 < x.1
    · rw [if_neg (by omega), if_pos h1, setS_eq h'.2]
    · rw [if_pos (by omega), if_neg h1, mrg_nil', mrg_nil', List.filter_cons]
      have hf : l.filter (fun z => decide (z.1 ≠ x.1)) = l := filter_all fun z hz => by have := h'.1 z hz; simp; omega
      rw [hf]
      by_cases h2 : y.1 = x.1
      · rw [if_neg (by simpa using h2), if_pos h2]
      · rw [if_pos (by simpa using h2), if_neg h2]

end Go.Proofs
namespace Go.Proofs
theorem fold_set : ∀ (b a : List Smp), Ris a → Ris b → b.foldl setS a = mrg a b
  | [], a, _, _ => by rw [mrg_nil']; rfl
  | x :: b, a, ha, hb => by
    have h' := ris_cons.1 hb
    rw [List.foldl_cons, setS_eq ha, fold_set b _ (ris_mrg _ _ ha (by simp [Ris])) h'.2, mrg_one h'.1]
theorem setS_ge {x y : Smp} (h : x.1 ≤ y.1) (l : List Smp) : setS (y :: l) x = x :: (y :: l).filter (fun z => decide (z.1 ≠ x.1)) := by rw [setS, if_pos h]
theorem setS_lt {x y : Smp} (h : y.1 < x.1) (l : List Smp) : setS (y :: l) x = y :: setS l x := by rw [setS, if_neg (by omega)]

def tAt (l : List Smp) (i : Nat) : Int := (l[i]?.getD (0, 0)).1
def vAt (l : List Smp) (i : Nat) : Int := (l[i]?.getD (0, 0)).2
def dAt (l : List Smp) (i : Nat) : Int := tAt l (i + 1) - tAt l i
def aAt (l : List Smp) (i : Nat) : Int := if i = 0 then 0 else dAt l (i - 1)
def tN (l : List Smp) (i : Nat) : Nat := foldN (dAt l i - aAt l i)
def vN (l : List Smp) (i : Nat) : Nat := foldN (IntKind.i64.wrap (vAt l (i + 1) - vAt l i))
def tsL (l : List Smp) : List Nat := (List.range (l.length - 1)).map (tN l)
def vsL (l : List Smp) : List Nat := (List.range (l.length - 1)).map (vN l)
def bitsTo (l : List Smp) (a b m : Nat) : List Bool := (List.range m).flatMap fun i => codeB (tN l i) a ++ codeB (vN l i) b
def headL : List Smp → List UInt8
  | [] => []
  | x :: _ => uintL x.1.toNat ++ intL x.2
def tailL (l : List Smp) : List UInt8 := if l.length < 2 then [] else UInt8.ofNat (bestN (tsL l)) :: UInt8.ofNat (bestN (vsL l)) :: pack (bitsTo l (bestN (tsL l)) (bestN (vsL l)) (l.length - 1))
def encD (l : List Smp) : List UInt8 := uintL l.length ++ (headL l ++ tailL l)
structure SmpP (l : List Smp) : Prop where
  len : l.length ≤ 5000
  ris : Ris l
  lo : ∀ x ∈ l, 0 ≤ x.1 ∧ x.1 < 1099511627776
  v : ∀ x ∈ l, I64 x.2
theorem tAt_of {l : List Smp} {i : Nat} {x : Smp} (h : l[i]? = some x) : tAt l i = x.1 := by unfold tAt; rw [h]; rfl
theorem vAt_of {l : List Smp} {i : Nat} {x : Smp} (h : l[i]? = some x) : vAt l i = x.2 := by unfold vAt; rw [h]; rfl
theorem smp_at {l : List Smp} {i : Nat} (h : i < l.length) : l[i]? = some (tAt l i, vAt l i) := by
  have := List.getElem?_eq_getElem h
  rw [this, tAt_of this, vAt_of this]
theorem SmpP.at {l : List Smp} (h : SmpP l) {i : Nat} (hi : i < l.length) : (0 ≤ tAt l i ∧ tAt l i < 1099511627776) ∧ I64 (vAt l i) := by
  have := smp_at hi
  have hm := List.mem_of_getElem? this
  exact ⟨h.lo _ hm, h.v _ hm⟩
theorem SmpP.dist {l : List Smp} (h : SmpP l) {i : Nat} (hi : i + 1 < l.length) : 1 ≤ dAt l i ∧ dAt l i < 1099511627776 := by
  have h1 := smp_at (l := l) (i := i) (by omega)
  have h2 := smp_at hi
  have hlt := (List.pairwise_iff_getElem.1 h.ris) i (i + 1) (by omega) hi (by omega)
  rw [List.getElem?_eq_getElem (by omega)] at h1 h2
  rw [Option.some.inj h1, Option.some.inj h2] at hlt
  have := (h.at (i := i) (by omega)).1
  have := (h.at hi).1
  unfold dAt
  simp only at hlt
  omega
theorem SmpP.ahead {l : List Smp} (h : SmpP l) {i : Nat} (hi : i < l.length) : 0 ≤ aAt l i ∧ aAt l i < 1099511627776 := by
  unfold aAt
  split
  · omega
  · have := h.dist (i := i - 1) (by omega)
    omega
theorem SmpP.more {l : List Smp} (h : SmpP l) {i : Nat} (hi : i + 1 < l.length) : -1099511627776 < dAt l i - aAt l i ∧ dAt l i - aAt l i < 1099511627776 := by
  have := h.dist hi
  have := h.ahead (i := i) (by omega)
  omega
theorem SmpP.tN {l : List Smp} (h : SmpP l) {i : Nat} (hi : i + 1 < l.length) : tN l i < 18446744073709551616 := by
  have := h.more hi
  exact foldN_lt ⟨by omega, by omega⟩
theorem wrap_def (v : Int) : IntKind.i64.wrap v = if 9223372036854775808 ≤ v % 18446744073709551616 then v % 18446744073709551616 - 18446744073709551616 else v % 18446744073709551616 := by
  unfold IntKind.wrap
  simp [IntKind.signed, IntKind.bits]
theorem wrap_I64 (v : Int) : I64 (IntKind.i64.wrap v) := by
  rw [wrap_def]
  constructor <;> split <;> omega
theorem vN_lt (l : List Smp) (i : Nat) : vN l i < 18446744073709551616 := foldN_lt (wrap_I64 _)
theorem bitsTo_succ (l : List Smp) (a b m : Nat) : bitsTo l a b (m + 1) = bitsTo l a b m ++ (codeB (tN l m) a ++ codeB (vN l m) b) := by
  unfold bitsTo
  rw [List.range_succ, List.flatMap_append]; simp
theorem codeB_le {n k : Nat} (hk : k ≤ 40) : (codeB n k).length ≤ 88 := by rw [codeB_len]; split <;> omega
theorem bitsTo_len (l : List Smp) {a b : Nat} (ha : a ≤ 40) (hb : b ≤ 40) (m : Nat) : (bitsTo l a b m).length ≤ 176 * m := by
  induction m with
  | zero => simp [bitsTo]
  | succ m ih =>
    rw [bitsTo_succ, List.length_append, List.length_append]
    have := codeB_le (n := tN l m) ha
    have := codeB_le (n := vN l m) hb
    omega
theorem bitsTo_split (l : List Smp) (a b : Nat) {i m : Nat} (hi : i < m) : ∃ r, bitsTo l a b m = bitsTo l a b i ++ (codeB (tN l i) a ++ (codeB (vN l i) b ++ r)) := by
  induction m with
  | zero => omega
  | succ m ih =>
    by_cases h : i = m
    · subst h
      exact ⟨[], by rw [bitsTo_succ]; simp⟩
    · obtain ⟨r, e⟩ := ih (by omega)
      exact ⟨r ++ (codeB (tN l m) a ++ codeB (vN l m) b), by rw [bitsTo_succ, e]; simp⟩
theorem tsL_len (l : List Smp) : (tsL l).length = l.length - 1 := by simp [tsL]
theorem vsL_len (l : List Smp) : (vsL l).length = l.length - 1 := by simp [vsL]
theorem tsL_get {l : List Smp} {i : Nat} (h : i + 1 < l.length) : (tsL l)[i]? = some (tN l i) := by
  unfold tsL; rw [List.getElem?_map, List.getElem?_range (by omega)]; rfl
theorem vsL_get {l : List Smp} {i : Nat} (h : i + 1 < l.length) : (vsL l)[i]? = some (vN l i) := by
  unfold vsL; rw [List.getElem?_map, List.getElem?_range (by omega)]; rfl
theorem ofNat_le40 {n m : Nat} (hn : n ≤ 40) (hm : m ≤ 40) (h : UInt8.ofNat n = UInt8.ofNat m) : n = m := by
  have := congrArg UInt8.toNat h
  rw [UInt8.toNat_ofNat', UInt8.toNat_ofNat'] at this
  omega
theorem wrap_step {v w : Int} (hw : I64 w) : IntKind.i64.wrap (v + IntKind.i64.wrap (w - v)) = w := by
  obtain ⟨h1, h2⟩ := hw
  rw [wrap_def (v + _), wrap_def (w - v)]
  split <;> split <;> omega
theorem next_smp {l : List Smp} (h : SmpP l) {i : Nat} (hi : i + 1 < l.length) : l[i + 1]? = some (tAt l i + (aAt l i + unfoldN (tN l i)), IntKind.i64.wrap (vAt l i + unfoldN (vN l i))) := by
  rw [smp_at hi]
  unfold tN vN
  rw [unfold_fold, unfold_fold, wrap_step (h.at hi).2]
  congr 2
  unfold dAt; omega
theorem encD_inj {l m : List Smp} (hl : SmpP l) (hm : SmpP m) {x y : List UInt8} (h : encD l = encD m) : l = m := by
  unfold encD at h
  obtain ⟨hlen, h⟩ := uint_eq h
  by_cases h0 : l.length = 0
  · have e1 : l = [] := List.eq_nil_of_length_eq_zero h0
    have e2 : m = [] := List.eq_nil_of_length_eq_zero (by omega)
    rw [e1, e2]
  · obtain ⟨p, l', rfl⟩ : ∃ p l', l = p :: l' := by
      cases l with
      | nil => simp at h0
      | cons p l' => exact ⟨p, l', rfl⟩
    obtain ⟨q, m', rfl⟩ : ∃ p l', m = p :: l' := by
      cases m with
      | nil => simp at hlen
      | cons p l' => exact ⟨p, l', rfl⟩
    have hp := hl.at (i := 0) (by simp)
    have hq := hm.at (i := 0) (by simp)
    simp only [headL, List.append_assoc] at h
    obtain ⟨e1, h⟩ := uint_eq h
    unfold intL at h
    obtain ⟨e2, h⟩ := uint_eq h
    have hpq : p = q := by
      have a1 : p.1 = q.1 := by
        have := hp.1.1; have := hq.1.1
        simp only [tAt, List.getElem?_cons_zero, Option.getD_some] at *
        omega
      have a2 : p.2 = q.2 := by rw [← unfold_fold p.2, e2, unfold_fold]
      exact Prod.ext a1 a2
    subst hpq
    unfold tailL at h
    by_cases h2 : (p :: l').length < 2
    · have n1 : l' = [] := List.eq_nil_of_length_eq_zero (by simp at h2; omega)
      have n2 : m' = [] := List.eq_nil_of_length_eq_zero (by rw [hlen] at h2; simp at h2; omega)
      rw [n1, n2]
    · rw [if_neg h2, if_neg (by rw [← hlen]; exact h2)] at h
      simp only [List.cons.injEq] at h
      obtain ⟨ea, eb, h⟩ := h
      have ea := ofNat_le40 (bestN_le _) (bestN_le _) ea
      have eb := ofNat_le40 (bestN_le _) (bestN_le _) eb
      rw [← ea, ← eb, ← hlen] at h
      have ha := bestN_le (tsL (p :: l'))
      have hb := bestN_le (vsL (p :: l'))
      generalize bestN (tsL (p :: l')) = a at *
      generalize bestN (vsL (p :: l')) = b at *
      generalize hL : (p :: l') = L at *
      generalize hM : (p :: m') = M at *
      obtain ⟨z1, _, p1⟩ := bits_pack _ (bitsTo L a b (L.length - 1)) (Nat.le_refl _)
      obtain ⟨z2, _, p2⟩ := bits_pack _ (bitsTo M a b (L.length - 1)) (Nat.le_refl _)
      rw [h, p2] at p1
      have key : ∀ i, i < L.length → (∀ j, j ≤ i → L[j]? = M[j]?) ∧ bitsTo L a b i = bitsTo M a b i := by
        intro i
        induction i with
        | zero =>
          intro hi
          refine ⟨fun j hj => ?_, rfl⟩
          have : j = 0 := by omega
          subst this
          rw [← hL, ← hM]; rfl
        | succ i ih =>
          intro hi
          obtain ⟨hj, hb⟩ := ih (by omega)
          obtain ⟨r1, s1⟩ := bitsTo_split L a b (i := i) (m := L.length - 1) (by omega)
          obtain ⟨r2, s2⟩ := bitsTo_split M a b (i := i) (m := L.length - 1) (by omega)
          rw [s1, s2, hb] at p1
          simp only [List.append_assoc, List.append_cancel_left_eq] at p1
          have t1 := hl.tN (i := i) (by omega)
          have t2 := hm.tN (i := i) (by omega)
          have c1 := rice_code (k := a) t1 (codeB (vN L i) b ++ (r1 ++ List.replicate z1 false))
          have c2 := rice_code (k := a) t2 (codeB (vN M i) b ++ (r2 ++ List.replicate z2 false))
          rw [← p1, c2] at c1
          have et : tN M i = tN L i := (Prod.mk.inj (Option.some.inj c1)).1
          rw [et] at p1
          simp only [List.append_cancel_left_eq] at p1
          have c1 := rice_code (k := b) (vN_lt L i) (r1 ++ List.replicate z1 false)
          have c2 := rice_code (k := b) (vN_lt M i) (r2 ++ List.replicate z2 false)
          rw [← p1, c2] at c1
          have ev : vN M i = vN L i := (Prod.mk.inj (Option.some.inj c1)).1
          refine ⟨fun j hj' => ?_, by rw [bitsTo_succ, bitsTo_succ, hb, et, ev]⟩
          by_cases hji : j ≤ i
          · exact hj j hji
          · have : j = i + 1 := by omega
            subst this
            rw [next_smp hl hi, next_smp hm (by omega), et, ev]
            have at1 : ∀ k, k ≤ i → tAt L k = tAt M k := fun k hk => by unfold tAt; rw [hj k hk]
            have av : vAt L i = vAt M i := by unfold vAt; rw [hj i (Nat.le_refl _)]
            have aa : aAt L i = aAt M i := by
              unfold aAt
              split
              · rfl
              · unfold dAt
                rw [at1 (i - 1) (by omega), at1 (i - 1 + 1) (by omega)]
            rw [at1 i (Nat.le_refl _), av, aa]
      refine List.ext_getElem? fun j => ?_
      by_cases hj : j < L.length
      · exact (key j hj).1 j (Nat.le_refl _)
      · rw [List.getElem?_eq_none (by omega), List.getElem?_eq_none (by omega)]
def okTo (l : List Smp) (j : Nat) : Prop := ∀ i, i < j → (0 ≤ tAt l i ∧ tAt l i < 1099511627776) ∧ (0 < i → tAt l (i - 1) < tAt l i)
theorem okTo_zero (l : List Smp) : okTo l 0 := fun i h => by omega
theorem okTo_succ {l : List Smp} {j : Nat} (h : okTo l j) (h1 : 0 ≤ tAt l j ∧ tAt l j < 1099511627776) (h2 : 0 < j → tAt l (j - 1) < tAt l j) : okTo l (j + 1) := by
  intro i hi
  by_cases e : i = j
  · subst e; exact ⟨h1, h2⟩
  · exact h i (by omega)
theorem smpP_of {l : List Smp} (hl : l.length ≤ 5000) (h : okTo l l.length) (hv : ∀ x ∈ l, I64 x.2) : SmpP l := by
  refine ⟨hl, ris_of_next fun i x y hx hy => ?_, fun x hx => ?_, hv⟩
  · have hi : i + 1 < l.length := (List.getElem?_eq_some_iff.1 hy).1
    have := (h (i + 1) hi).2 (by omega)
    rw [show i + 1 - 1 = i by omega, tAt_of hx, tAt_of hy] at this
    exact this
  · obtain ⟨i, hi⟩ := List.mem_iff_getElem?.1 hx
    have := (h i (List.getElem?_eq_some_iff.1 hi).1).1
    rw [tAt_of hi] at this
    exact this
theorem SmpP.okTo {l : List Smp} (h : SmpP l) : ∀ i, i < l.length → (0 ≤ tAt l i ∧ tAt l i < 1099511627776) ∧ (0 < i → tAt l (i - 1) < tAt l i) := fun i hi =>
  ⟨(h.at hi).1, fun h0 => by
    have := h.dist (i := i - 1) (by omega)
    unfold dAt at this
    rw [show i - 1 + 1 = i by omega] at this
    omega⟩

theorem getElem_ex {α : Type} {l : List α} {i : Nat} (h : i < l.length) : ∃ x, l[i]? = some x := ⟨l[i], by simp⟩
theorem Read02_ok {s : ByteArray} {H : Heap} {K : Option Addr → Heap → Prop} (hk : ∀ b H', H.size ≤ b → Blk H' ⟨b, 0, none⟩ [.string s, .int .i64 ((0 : Nat) : Int)] → Fr [] H H' → K (some ⟨b, 0, none⟩) H') :
    CallH Tryz.prog fn_rice_Read ⟨[.string s]⟩ H fun v H' => ∃ a, v = .pointer a ∧ K a H' := by
  apply vc_rice_Read
  intro b H1 hn
  exact ⟨_, rfl, hk b H1 (by have := hn.eq; omega) hn.blk hn.fr⟩
theorem rRead02_ok {s : ByteArray} {H : Heap} {K : Option Addr → Heap → Prop} (hk : ∀ b H', H.size ≤ b → Blk H' ⟨b, 0, none⟩ [.string s, .int .i64 ((0 : Nat) : Int)] → Fr [] H H' → K (some ⟨b, 0, none⟩) H') :
    CallH Tryz.prog fn_ref02_Read ⟨[.string s]⟩ H fun v H' => ∃ a, v = .pointer a ∧ K a H' := by
  apply vc_ref02_Read
  intro b H1 hn
  exact ⟨_, rfl, hk b H1 (by have := hn.eq; omega) hn.blk hn.fr⟩
theorem End_ok {H : Heap} {r : Nat} {s : ByteArray} {a : Nat} {K : Int → Heap → Prop} (hb : Blk H ⟨r, 0, none⟩ [.string s, .int .i64 (a : Int)]) (ha : a ≤ 8 * s.size) (hs : s.size ≤ 1000000000000)
    (hno : ¬ (((bitsL (bl s)).drop a).length < 8 ∧ valB ((bitsL (bl s)).drop a) = 0) → K 11 H) (hyes : ((bitsL (bl s)).drop a).length < 8 → valB ((bitsL (bl s)).drop a) = 0 → K 0 H) :
    CallH Tryz.prog fn_rice_Reader_End ⟨[.pointer (some ⟨r, 0, none⟩)]⟩ H fun v H' => ∃ e, v = .int .i64 e ∧ K e H' := by
  apply vc_rice_Reader_End
  have ld1 : Ld Tryz.prog 3 H (Addr.add ⟨r, 0, none⟩ 1) (.int .i64 (a : Int)) := hb.ld (j := 1) (by kernel_rfl) rfl
  have hbl := bits_len s
  generalize hR : (bitsL (bl s)).drop a = R at *
  have hRl : R.length = 8 * s.size - a := by rw [← hR, List.length_drop, hbl]
  apply vc_rice_Reader_Left
  refine ⟨s, ldRs hb, _, ld1, _, rfl, ?_⟩
  have el : IntKind.i64.wrap (IntKind.i64.wrap (8 * (s.size : Int)) - (a : Int)) = ((8 * s.size - a : Nat) : Int) := by
    rw [wrap64_of (n := 8 * (s.size : Int)) (by omega) (by omega), wrap64_of (by omega) (by omega)]; omega
  rw [el]
  refine brB_of (fun h0 => ⟨_, rfl, hno fun h => by simp at h0; omega⟩) (fun h0 => ?_)
  have hlt : R.length < 8 := by simp at h0; omega
  refine ⟨_, ld1, peek_ok hb rfl rfl (by omega) (by omega) hs ?_⟩
  rw [hR, List.take_of_length_le (by omega)]
  refine brB_of (fun h1 => ⟨_, rfl, hno fun h => by rw [h.2] at h1; simp at h1⟩) (fun h1 => ⟨_, rfl, hyes hlt ?_⟩)
  have : ((valB R : Nat) : Int) = 0 := by simpa using h1
  omega

theorem bit_at {s : ByteArray} {p : Nat} (hp : p < 8 * s.size) : (bitsL (bl s))[p]? = some (atB s (p / 8) / 2 ^ (7 - p % 8) % 2 == 1) := by
  have := bits_part (s := s) (a := p) (t := 1) (by omega) (by omega) (by omega)
  have h2 := congrArg (·[0]?) this
  simp only [List.getElem?_take, List.getElem?_drop, Nat.add_zero] at h2
  rw [if_pos (by decide)] at h2
  rw [h2, show 8 - p % 8 - 1 = 7 - p % 8 by omega]
  simp [lowB]
theorem rBit_ok {H : Heap} {r : Nat} {s : ByteArray} {x : Int} {at' : Int} {p : Nat} {b : Bool} {K : Int → Heap → Prop} (hb : Blk H ⟨r, 0, none⟩ [.string s, .int .i64 x]) (ep : at' = p) (hp : (bitsL (bl s))[p]? = some b) (hs : s.size ≤ 1000000000000)
    (hk : K (b.toNat : Nat) H) : CallH Tryz.prog fn_ref02_Reader_bit ⟨[.pointer (some ⟨r, 0, none⟩), .int .i64 at']⟩ H fun v H' => ∃ n, v = .int .u64 n ∧ K n H' := by
  subst ep
  apply vc_ref02_Reader_bit
  have hlt : p < 8 * s.size := by
    have := (List.getElem?_eq_some_iff.1 hp).1
    rwa [bits_len] at this
  rw [bit_at hlt] at hp
  cases hp
  have ed : IntKind.i64.wrap (Int.tdiv (p : Int) 8) = ((p / 8 : Nat) : Int) := by
    rw [show Int.tdiv (p : Int) 8 = ((p / 8 : Nat) : Int) from (Int.ofNat_tdiv p 8).symm, wrap64_of (by omega) (by omega)]
  have em : IntKind.i64.wrap (7 - Int.tmod (p : Int) 8) = ((7 - p % 8 : Nat) : Int) := by
    rw [show Int.tmod (p : Int) 8 = ((p % 8 : Nat) : Int) from (Int.ofNat_tmod p 8).symm, wrap64_of (by omega) (by omega)]
    omega
  rw [ed, em, nat_wrapU (n := 7 - p % 8) (by omega), Int.toNat_natCast]
  refine ⟨s, ldRs hb, chk_true (decide_eq_true (by omega)) (chk_true (decide_eq_true (by omega)) ⟨_, rfl, ?_⟩)⟩
  have hx := atB_lt s (p / 8)
  have e1 : Int.fdiv ((atB s (p / 8) : Nat) : Int) (2 ^ min (Int.toNat ((7 - p % 8 : Nat) : Int)) 8) = ((atB s (p / 8) / 2 ^ (7 - p % 8) : Nat) : Int) := by
    rw [show min (Int.toNat ((7 - p % 8 : Nat) : Int)) 8 = 7 - p % 8 by omega, pow_cast, Int.fdiv_eq_ediv_of_nonneg _ (Int.natCast_nonneg _)]
    exact (Int.natCast_ediv _ _).symm
  rw [e1, nat_wrapU (Nat.lt_of_le_of_lt (Nat.div_le_self _ _) (by omega))]
  generalize atB s (p / 8) / 2 ^ (7 - p % 8) = z at *
  have e2 : Int.tmod (z : Int) 2 = ((z % 2 : Nat) : Int) := (Int.ofNat_tmod z 2).symm
  rw [e2]
  have : (z % 2 == 1).toNat = z % 2 := by
    have : z % 2 = 0 ∨ z % 2 = 1 := by omega
    rcases this with e | e <;> rw [e] <;> rfl
  rw [this] at hk
  exact hk
theorem rLeft_eq {s : ByteArray} {a : Nat} (ha : a ≤ 8 * s.size + 1) (hs : s.size ≤ 1000000000000) : IntKind.i64.wrap (IntKind.i64.wrap (8 * (s.size : Int)) - (a : Int)) = 8 * (s.size : Int) - a := by
  rw [wrap64_of (n := 8 * (s.size : Int)) (by omega) (by omega), wrap64_of (by omega) (by omega)]
theorem rGet_ok {H : Heap} {r : Nat} {s : ByteArray} {mm : Int} {a m : Nat} {K : Int → Int → Heap → Prop} (hb : Blk H ⟨r, 0, none⟩ [.string s, .int .i64 (a : Int)]) (em : mm = m) (hm : m ≤ 64) (ha : a ≤ 8 * s.size) (hs : s.size ≤ 1000000000000)
    (hno : ((bitsL (bl s)).drop a).length < m → K 0 10 H) (hyes : m ≤ ((bitsL (bl s)).drop a).length → ∀ H', Blk H' ⟨r, 0, none⟩ [.string s, .int .i64 ((a + m : Nat) : Int)] → Fr [r] H H' → K (valB (((bitsL (bl s)).drop a).take m) : Nat) 0 H') :
    CallH Tryz.prog fn_ref02_Reader_Get ⟨[.pointer (some ⟨r, 0, none⟩), .int .i64 mm]⟩ H fun v H' => ∃ n e, v = .tuple ⟨[.int .u64 n, .int .i64 e]⟩ ∧ K n e H' := by
  subst em
  apply vc_ref02_Reader_Get
  have ld1 : Ld Tryz.prog 3 H (Addr.add ⟨r, 0, none⟩ 1) (.int .i64 (a : Int)) := hb.ld (j := 1) (by kernel_rfl) rfl
  have hbl := bits_len s
  have hRl : ((bitsL (bl s)).drop a).length = 8 * s.size - a := by rw [List.length_drop, hbl]
  refine ⟨fun _ H' => H' = H, brB_of (fun h => by simp at h; omega) fun _ => brB_of (fun h => by simp at h; omega) fun _ => rfl, ?_⟩
  rintro J H1 rfl
  apply vc_ref02_Reader_Left
  refine ⟨s, ldRs hb, _, ld1, _, rfl, ?_⟩
  rw [rLeft_eq (by omega) hs]
  refine brB_of (fun h0 => ⟨_, _, rfl, hno (by simp at h0; omega)⟩) (fun h0 => ?_)
  have hle : m ≤ 8 * s.size - a := by simp at h0; omega
  refine ⟨fun vs H' => match vs with | [.int _ n, .int _ i] => ∃ j : Nat, i = j ∧ j ≤ m ∧ n = (valB (((bitsL (bl s)).drop a).take j) : Nat) ∧ H' = H1 | _ => False, fun vs _ => match vs with | [_, .int _ i] => m - i.toNat | _ => 0, ⟨0, rfl, by omega, by simp [valB], rfl⟩, ?_⟩
  rintro J n i H2 ⟨j, rfl, hj, rfl, rfl⟩
  have hv := valB_lt (((bitsL (bl s)).drop a).take j)
  have hvl : (((bitsL (bl s)).drop a).take j).length = j := by rw [List.length_take]; omega
  rw [hvl] at hv
  refine brB_of (fun h1 => ⟨_, ld1, ?_⟩) (fun h1 => ⟨_, ld1, ?_⟩)
  · have hlt : j < m := by simpa using h1
    obtain ⟨b, hbt⟩ := getElem_ex (l := bitsL (bl s)) (i := a + j) (by omega)
    refine rBit_ok hb (by rw [wrap64_of (by omega) (by omega)]; rfl) hbt hs ⟨⟨j + 1, succ64 (by omega), by omega, ?_, rfl⟩, ?_⟩
    · have e1 : ((bitsL (bl s)).drop a).take (j + 1) = ((bitsL (bl s)).drop a).take j ++ [b] := by
        rw [List.take_add_one, List.getElem?_drop, hbt]; rfl
      have e2 : valB (((bitsL (bl s)).drop a).take j ++ [b]) = valB (((bitsL (bl s)).drop a).take j) * 2 + b.toNat := by
        rw [valB_app]; simp [valB]
      have h64 : 2 ^ j * 2 ≤ 18446744073709551616 := by rw [← Nat.pow_succ, ← pow64]; exact Nat.pow_le_pow_right (by decide) (by omega)
      have hb1 : b.toNat ≤ 1 := by cases b <;> decide
      rw [e1, e2, show (2 * ((valB (((bitsL (bl s)).drop a).take j) : Nat) : Int)) = ((2 * valB (((bitsL (bl s)).drop a).take j) : Nat) : Int) from by omega]
      generalize valB (((bitsL (bl s)).drop a).take j) = z at *
      rw [nat_wrapU (by omega), ← Int.natCast_add, nat_wrapU (by omega)]
      omega
    · show m - (IntKind.i64.wrap ((j : Int) + 1)).toNat < m - ((j : Nat) : Int).toNat
      rw [succ64 (by omega)]
      exact mu_lt hlt
  · have hjm : j = m := by simp at h1; omega
    subst hjm
    refine Blk.set hb (j := 1) (by kernel_rfl) (by kernel_rfl) rfl rfl (by simp) fun H5 hb5 hf5 => ⟨_, _, rfl, hyes (by omega) H5 ?_ hf5⟩
    rw [wrap64_of (by omega) (by omega)] at hb5
    exact hb5

theorem lead_of {R : List Bool} {q : Nat} (hq : q ≤ 24) (h1 : R.take q = List.replicate q true) (h2 : q = 24 ∨ R.length = q ∨ R[q]? = some false) : leadB (R.take 24) = q := by
  by_cases h : q = 24
  · subst h
    rw [h1, lead_all]
  · rcases h2 with h2 | h2 | h2
    · exact absurd h2 h
    · have : R.take 24 = R.take q := by rw [List.take_of_length_le (by omega), List.take_of_length_le (by omega)]
      rw [this, h1, lead_all]
    · obtain ⟨m, hm⟩ : ∃ m, 24 = q + (m + 1) := ⟨23 - q, by omega⟩
      have hlt : q < R.length := (List.getElem?_eq_some_iff.1 h2).1
      have e : R.take 24 = List.replicate q true ++ false :: (R.drop (q + 1)).take m := by
        rw [hm, List.take_add, h1, List.drop_eq_getElem_cons hlt, List.take_succ_cons]
        have : R[q] = false := by
          have := List.getElem?_eq_getElem hlt
          rw [h2] at this
          exact (Option.some.inj this).symm
        rw [this]
      rw [e, lead_rep]
theorem rRice_ok {H : Heap} {r : Nat} {s : ByteArray} {kk : Int} {a k : Nat} {K : Int → Int → Heap → Prop} (hb : Blk H ⟨r, 0, none⟩ [.string s, .int .i64 (a : Int)]) (ek : kk = k) (ha : a ≤ 8 * s.size) (hs : s.size ≤ 1000000000000)
    (hno : k > 40 ∨ riceP ((bitsL (bl s)).drop a) k = none → ∀ e H', e ≠ 0 → Blk H' ⟨r, 0, none⟩ [.string s, .int .i64 (a : Int)] → Fr [r] H H' → K 0 e H')
    (hyes : k ≤ 40 → ∀ n m H', riceP ((bitsL (bl s)).drop a) k = some (n, m) → n < 18446744073709551616 → a + m ≤ 8 * s.size → Blk H' ⟨r, 0, none⟩ [.string s, .int .i64 ((a + m : Nat) : Int)] → Fr [r] H H' → K n 0 H') :
    CallH Tryz.prog fn_ref02_Reader_Rice ⟨[.pointer (some ⟨r, 0, none⟩), .int .i64 kk]⟩ H fun v H' => ∃ n e, v = .tuple ⟨[.int .u64 n, .int .i64 e]⟩ ∧ K n e H' := by
  subst ek
  apply vc_ref02_Reader_Rice
  have frr : Fr [r] H H := Fr.refl _ _
  refine ⟨fun _ H' => H' = H ∧ k ≤ 40, brB_of (fun h => by simp at h; omega) fun _ => brB_of (fun h => ⟨_, _, rfl, hno (.inl (by simp at h; omega)) 1 H (by decide) hb frr⟩) fun h => ⟨rfl, by simp at h; omega⟩, ?_⟩
  rintro J H1 ⟨rfl, hk40⟩
  have hbl := bits_len s
  have ldx : ∀ {H' : Heap} {x : Int}, Blk H' ⟨r, 0, none⟩ [.string s, .int .i64 x] → Ld Tryz.prog 3 H' (Addr.add ⟨r, 0, none⟩ 1) (.int .i64 x) := fun h => h.ld (j := 1) (by kernel_rfl) rfl
  have stx : ∀ {H' : Heap} {x y : Int} {X : Heap → Prop}, Blk H' ⟨r, 0, none⟩ [.string s, .int .i64 x] → (∀ H2, Blk H2 ⟨r, 0, none⟩ [.string s, .int .i64 y] → Fr [r] H' H2 → X H2) → ∃ H2, St Tryz.prog 3 H' (Addr.add ⟨r, 0, none⟩ 1) (.int .i64 y) H2 ∧ X H2 := fun h hk => Blk.set h (j := 1) (by kernel_rfl) (by kernel_rfl) rfl rfl (by simp) fun H2 hb2 hf2 => hk H2 hb2 hf2
  have frt : ∀ {A B C : Heap}, Fr [r] A B → Fr [r] B C → Fr [r] A C := fun h1 h2 => h1.trans' h2 (fun k hk _ => hk) fun k hk _ => hk
  refine ⟨_, ldx hb, ?_⟩
  generalize hR : (bitsL (bl s)).drop a = R at *
  have hRl : R.length = 8 * s.size - a := by rw [← hR, List.length_drop, hbl]
  have exitA : ∀ (q : Nat) (H' : Heap), q ≤ 24 → Blk H' ⟨r, 0, none⟩ [.string s, .int .i64 ((a + q : Nat) : Int)] → Fr [r] H1 H' → q ≤ R.length → R.take q = List.replicate q true → (q = 24 ∨ R.length = q ∨ R[q]? = some false) →
      brB (decide ((q : Int) < 24)) (∃ n_5, lD 3 H' (Addr.add ⟨r, 0, none⟩ 1) (.int .i64 n_5) ∧ ∃ H'_1, sT 3 H' (Addr.add ⟨r, 0, none⟩ 1) (.int .i64 (IntKind.wrap .i64 (n_5 + 1))) H'_1 ∧ cI 160 [.pointer (some ⟨r, 0, none⟩)] H'_1 fun n_6 H' => brB (decide (n_6 ≥ 0)) (cH 162 ⟨[.pointer (some ⟨r, 0, none⟩), .int .i64 k]⟩ H' fun v H' => ∃ n_7 n_8, v = .tuple ⟨[.int .u64 n_7, .int .i64 n_8]⟩ ∧ brB (n_8 != 0) (∃ H'_2, sT 3 H' (Addr.add ⟨r, 0, none⟩ 1) (.int .i64 (a : Int)) H'_2 ∧ (∃ n e, Value.tuple ⟨[.int .u64 0, .int .i64 n_8]⟩ = .tuple ⟨[.int .u64 n, .int .i64 e]⟩ ∧ K n e H'_2)) (chk (decide (0 ≤ IntKind.wrap .u64 (k : Int))) (∃ n e, Value.tuple ⟨[.int .u64 (IntKind.wrap .u64 (IntKind.wrap .u64 ((q : Int) * 2 ^ min (Int.toNat (IntKind.wrap .u64 (k : Int))) 64) + n_7)), .int .i64 0]⟩ = .tuple ⟨[.int .u64 n, .int .i64 e]⟩ ∧ K n e H'))) (∃ H'_2, sT 3 H' (Addr.add ⟨r, 0, none⟩ 1) (.int .i64 (a : Int)) H'_2 ∧ (∃ n e, Value.tuple ⟨[.int .u64 0, .int .i64 10]⟩ = .tuple ⟨[.int .u64 n, .int .i64 e]⟩ ∧ K n e H'_2)))
        (cH 162 ⟨[.pointer (some ⟨r, 0, none⟩), .int .i64 64]⟩ H' fun v H' => ∃ n_5 n_6, v = .tuple ⟨[.int .u64 n_5, .int .i64 n_6]⟩ ∧ ∃ (M : IV), brB (n_6 == 0) (chk (decide (0 ≤ IntKind.wrap .u64 (k : Int))) (brB (decide (Int.fdiv n_5 (2 ^ min (Int.toNat (IntKind.wrap .u64 (k : Int))) (IntKind.bits .u64)) < 24)) (M [.int .i64 11] H') (M [.int .i64 n_6] H'))) (M [.int .i64 n_6] H') ∧ ∀ (J : F) (n_7 : Int) (H' : Heap), M [.int .i64 n_7] H' → brB (n_7 != 0) (∃ H'_1, sT 3 H' (Addr.add ⟨r, 0, none⟩ 1) (.int .i64 (a : Int)) H'_1 ∧ (∃ n e, Value.tuple ⟨[.int .u64 0, .int .i64 n_7]⟩ = .tuple ⟨[.int .u64 n, .int .i64 e]⟩ ∧ K n e H'_1)) (∃ n e, Value.tuple ⟨[.int .u64 n_5, .int .i64 0]⟩ = .tuple ⟨[.int .u64 n, .int .i64 e]⟩ ∧ K n e H')) := by
    intro q H2 hq hb2 hf2 hqR h1 h2
    have hlead := lead_of hq h1 h2
    refine brB_of (fun h0 => ?_) (fun h0 => ?_)
    · have hq24 : q < 24 := by simp at h0; omega
      refine ⟨_, ldx hb2, ?_⟩
      rw [wrap64_of (by omega) (by omega), show ((a + q : Nat) : Int) + 1 = ((a + (q + 1) : Nat) : Int) by omega]
      refine stx hb2 fun H3 hb3 hf3 => ?_
      have f3 := frt hf2 hf3
      apply vc_ref02_Reader_Left
      refine ⟨s, ldRs hb3, _, ldx hb3, _, rfl, ?_⟩
      rw [rLeft_eq (by omega) hs]
      refine brB_of (fun h3 => ?_) (fun h3 => stx hb3 fun H4 hb4 hf4 => ⟨_, _, rfl, hno (.inr ?_) 10 H4 (by decide) hb4 (frt f3 hf4)⟩)
      · have hle : a + (q + 1) ≤ 8 * s.size := by simp at h3; omega
        refine rGet_ok (m := k) hb3 rfl (by omega) hle hs (fun h4 => ?_) fun h4 H4 hb4 hf4 => ?_
        · rw [← List.drop_drop, hR] at h4
          rw [List.length_drop] at h4
          refine brB_of (fun _ => stx hb3 fun H4 hb4 hf4 => ⟨_, _, rfl, hno (.inr ?_) 10 H4 (by decide) hb4 (frt f3 hf4)⟩) (fun h => by simp at h)
          unfold riceP
          rw [hlead, if_neg (by omega), if_pos (by omega)]
        · rw [← List.drop_drop, hR] at h4 ⊢
          have hvl := valB_lt ((R.drop (q + 1)).take k)
          rw [List.length_drop] at h4
          have : ((R.drop (q + 1)).take k).length = k := by rw [List.length_take, List.length_drop]; omega
          rw [this] at hvl
          have hk2 : 2 ^ k ≤ 2 ^ 40 := Nat.pow_le_pow_right (by decide) hk40
          have e40 : (2 : Nat) ^ 40 = 1099511627776 := by decide
          have hqk : q * 2 ^ k ≤ 24 * 1099511627776 := by rw [← e40]; exact Nat.mul_le_mul (by omega) hk2
          refine brB_of (fun h => by simp at h) (fun _ => chk_true (decide_eq_true (by rw [nat_wrapU (by omega)]; omega)) ⟨_, _, rfl, ?_⟩)
          have hy := hyes hk40 (q * 2 ^ k + valB ((R.drop (q + 1)).take k)) (q + 1 + k) H4 (by
            unfold riceP
            rw [hlead, if_neg (by omega), if_neg (by omega)]) (by omega) (by omega) (by
            have e : a + (q + 1) + k = a + (q + 1 + k) := by omega
            rw [e] at hb4; exact hb4) (frt f3 hf4)
          rw [shlU (by omega) (by omega), ← Int.natCast_add, nat_wrapU (by omega)]
          exact hy
      · have : R.length < q + 1 + k := by simp at h3; omega
        unfold riceP
        rw [hlead, if_neg (by omega), if_pos this]
    · have hq24 : q = 24 := by simp at h0; omega
      subst hq24
      refine rGet_ok (m := 64) hb2 rfl (by omega) (by omega) hs (fun h4 => ?_) fun h4 H4 hb4 hf4 => ?_
      · rw [← List.drop_drop, hR, List.length_drop] at h4
        refine ⟨fun vs H' => vs = [.int .i64 10] ∧ H' = H2, brB_of (fun h => by simp at h) (fun _ => ⟨rfl, rfl⟩), ?_⟩
        rintro J n7 H5 ⟨e, rfl⟩
        simp only [List.cons.injEq, Value.int.injEq, true_and, and_true] at e
        subst e
        refine brB_of (fun _ => stx hb2 fun H6 hb6 hf6 => ⟨_, _, rfl, hno (.inr ?_) 10 H6 (by decide) hb6 (frt hf2 hf6)⟩) (fun h => by simp at h)
        unfold riceP
        rw [hlead, if_pos rfl, if_pos (.inl (by omega))]
      · rw [← List.drop_drop, hR] at h4 ⊢
        rw [List.length_drop] at h4
        have hvl := valB_lt ((R.drop 24).take 64)
        have : ((R.drop 24).take 64).length = 64 := by rw [List.length_take, List.length_drop]; omega
        rw [this, pow64] at hvl
        have eb : IntKind.bits .u64 = 64 := rfl
        rw [eb, fdivU _ (by omega)]
        have e7 : decide (((valB ((R.drop 24).take 64) / 2 ^ k : Nat) : Int) < 24) = decide (valB ((R.drop 24).take 64) / 2 ^ k < 24) := decide_eq_decide.2 (by generalize valB ((R.drop 24).take 64) / 2 ^ k = z; omega)
        rw [e7]
        refine ⟨fun vs H' => H' = H4 ∧ ((vs = [.int .i64 11] ∧ valB ((R.drop 24).take 64) / 2 ^ k < 24) ∨ (vs = [.int .i64 0] ∧ ¬ valB ((R.drop 24).take 64) / 2 ^ k < 24)), brB_of (fun _ => chk_true (decide_eq_true (by rw [nat_wrapU (by omega)]; omega)) (brB_of (fun h => ⟨rfl, .inl ⟨rfl, by simpa using h⟩⟩) (fun h => ⟨rfl, .inr ⟨rfl, by simpa using h⟩⟩))) (fun h => by simp at h), ?_⟩
        rintro J n7 H5 ⟨rfl, ⟨e, hlt⟩ | ⟨e, hlt⟩⟩
        · simp only [List.cons.injEq, Value.int.injEq, true_and, and_true] at e
          subst e
          refine brB_of (fun _ => stx hb4 fun H6 hb6 hf6 => ⟨_, _, rfl, hno (.inr ?_) 11 H6 (by decide) hb6 (frt (frt hf2 hf4) hf6)⟩) (fun h => by simp at h)
          unfold riceP
          rw [hlead, if_pos rfl, if_pos (.inr hlt)]
        · simp only [List.cons.injEq, Value.int.injEq, true_and, and_true] at e
          subst e
          refine brB_of (fun h => by simp at h) (fun _ => ⟨_, _, rfl, hyes hk40 _ 88 H5 ?_ hvl (by omega) ?_ (frt hf2 hf4)⟩)
          · unfold riceP
            rw [hlead, if_pos rfl, if_neg (by omega)]
          · have e5 : a + 24 + 64 = a + 88 := by omega
            rw [e5] at hb4; exact hb4
  refine ⟨fun vs H' => match vs with | [.int _ i] => ∃ q : Nat, i = q ∧ q ≤ 24 ∧ Blk H' ⟨r, 0, none⟩ [.string s, .int .i64 ((a + q : Nat) : Int)] ∧ Fr [r] H1 H' ∧ q ≤ R.length ∧ R.take q = List.replicate q true | _ => False,
    fun vs _ => match vs with | [.int _ i] => 24 - i.toNat | _ => 0, ⟨0, rfl, by omega, hb, frr, by omega, rfl⟩, ?_⟩
  rintro J i H2 ⟨q, rfl, hq, hb2, hf2, hqR, hrep⟩
  refine ⟨fun _ H' => H' = H2 ∧ q < 24 ∧ R[q]? = some true, brB_of (fun h0 => ?_) (fun h0 => exitA q H2 hq hb2 hf2 hqR hrep (.inl (by simp at h0; omega))), ?_⟩
  · apply vc_ref02_Reader_Left
    refine ⟨s, ldRs hb2, _, ldx hb2, _, rfl, ?_⟩
    rw [rLeft_eq (by omega) hs]
    refine brB_of (fun h1 => ⟨_, ldx hb2, ?_⟩) (fun h1 => exitA q H2 hq hb2 hf2 hqR hrep (.inr (.inl (by simp at h1; omega))))
    have hlt : q < R.length := by simp at h1; omega
    obtain ⟨b, hbt⟩ := getElem_ex hlt
    have hbt2 : (bitsL (bl s))[a + q]? = some b := by rw [← hR, List.getElem?_drop] at hbt; exact hbt
    refine rBit_ok hb2 rfl hbt2 hs ?_
    cases b
    · exact brB_of (fun h => by simp at h) (fun _ => exitA q H2 hq hb2 hf2 hqR hrep (.inr (.inr hbt)))
    · exact brB_of (fun _ => ⟨rfl, by simp at h0; omega, hbt⟩) (fun h => by simp at h)
  · rintro J H3 ⟨rfl, hlt, hbt⟩
    refine ⟨_, ldx hb2, ?_⟩
    rw [wrap64_of (by omega) (by omega), show ((a + q : Nat) : Int) + 1 = ((a + (q + 1) : Nat) : Int) by omega]
    have hlR : q < R.length := (List.getElem?_eq_some_iff.1 hbt).1
    have e1 : IntKind.u64.wrap ((q : Int) + 1) = ((q + 1 : Nat) : Int) := nat_wrapU (n := q + 1) (by omega)
    refine stx hb2 fun H4 hb4 hf4 => ⟨⟨q + 1, e1, by omega, hb4, frt hf2 hf4, by omega, ?_⟩, ?_⟩
    · rw [List.take_add_one, hrep, hbt, List.replicate_succ']; rfl
    · show 24 - (IntKind.u64.wrap ((q : Int) + 1)).toNat < 24 - ((q : Nat) : Int).toNat
      rw [e1]; omega

theorem lies179 : liesAt Tryz.prog Tryz.prog.depth 179 (4 / Tryz.prog.cellsOf 179) 0 83 1 = true := by kernel_rfl
theorem to_unsafeW {H : Heap} {b : Nat} {cs : Array Value} {fz : Nat × Nat} {X : Value → Heap → Prop} (h1 : H[b]? = some (.cells cs 179 fz)) (hcs : cs.size = 4)
    (hk : X (.pointer (some ⟨b, 0, none⟩)) H) : SemWp Tryz.prog (convert 80 173 (.pointer (some ⟨b, 0, none⟩))) H X := by
  intro E d
  have hs := bT.sz
  unfold szOf at hs
  split at hs
  · rename_i i hi
    exact ⟨_, H, d, Lib.run_to_unsafe (mkW E H d) ⟨b, 0, none⟩ bT.ptr bT.uns hi (by omega) (shape_of h1) (by rw [hcs]; exact Nat.zero_lt_succ 3), hk⟩
  · cases hs
theorem from_unsafeW {H : Heap} {b : Nat} {cs : Array Value} {fz : Nat × Nat} {K : Option Addr → Heap → Prop} (h1 : H[b]? = some (.cells cs 179 fz)) (hcs : cs.size = 4)
    (hk : K (some ⟨b, 0, none⟩) H) : SemWp Tryz.prog (convert 173 80 (.pointer (some ⟨b, 0, none⟩))) H fun v H' => ∃ a, v = .pointer a ∧ K a H' := by
  intro E d
  have hs := bT.sz
  unfold szOf at hs
  split at hs
  · rename_i i hi
    exact ⟨_, H, d, Lib.run_from_unsafe (mkW E H d) ⟨b, 0, none⟩ bT.uns bT.ptr hi (shape_of h1) (by rw [hcs]; exact lies179), _, rfl, hk⟩
  · cases hs
structure BwH (H : Heap) (b : Nat) (S : List Nat) (xs : List UInt8) (l m : Int) : Prop where
  it : ∃ p o n c te, H[b]? = some (.cells ⟨[.pointer p, .slice o n c, .int .u64 l, .int .i64 m]⟩ te (0, 0)) ∧ ((p = none ∧ te = 179) ∨ p = some ⟨b, 0, none⟩) ∧ Own encByte 5 0 H o n c xs ∧ S = b :: blkL o ∧ b ∉ blkL o
theorem BwH.fr {H H' : Heap} {b : Nat} {S T : List Nat} {xs : List UInt8} {l m : Int} (h : BwH H b S xs l m) (hf : Fr T H H') (hd : ∀ k ∈ S, k ∉ T) : BwH H' b S xs l m := by
  obtain ⟨p, o, n, c, te, h1, h3, h4, rfl, h6⟩ := h.it
  exact ⟨p, o, n, c, te, hf.get h1 (hd _ (by simp)), h3, h4.fr hf (fun ad e => hd _ (by simp [e, blkL])), rfl, h6⟩
theorem BwH.keep {H H' : Heap} {b : Nat} {S : List Nat} {xs : List UInt8} {l m : Int} (h : BwH H b S xs l m) (hf : Fr [] H H') : BwH H' b S xs l m := h.fr hf (by simp)
theorem BwH.ldl {H : Heap} {b : Nat} {S : List Nat} {xs : List UInt8} {l m : Int} (h : BwH H b S xs l m) : Ld Tryz.prog 89 H (Addr.add ⟨b, 0, none⟩ 2) (.int .u64 l) := by
  obtain ⟨p, o, n, c, te, h1, _⟩ := h.it
  exact Blk.ld (j := 2) (by kernel_rfl) ⟨b, te, rfl, h1⟩ rfl
theorem BwH.ldm {H : Heap} {b : Nat} {S : List Nat} {xs : List UInt8} {l m : Int} (h : BwH H b S xs l m) : Ld Tryz.prog 3 H (Addr.add ⟨b, 0, none⟩ 3) (.int .i64 m) := by
  obtain ⟨p, o, n, c, te, h1, _⟩ := h.it
  exact Blk.ld (j := 3) (by kernel_rfl) ⟨b, te, rfl, h1⟩ rfl
theorem copyCheckW {H : Heap} {b : Nat} {S : List Nat} {xs : List UInt8} {l m : Int} {K : Heap → Prop} (h : BwH H b S xs l m)
    (hk : ∀ H' o n c te, H'[b]? = some (.cells ⟨[.pointer (some ⟨b, 0, none⟩), .slice o n c, .int .u64 l, .int .i64 m]⟩ te (0, 0)) → Own encByte 5 0 H' o n c xs → S = b :: blkL o → b ∉ blkL o → Fr [b] H H' → K H') :
    CallH Tryz.prog fn_strings_Builder_copyCheck ⟨[.pointer (some ⟨b, 0, none⟩)]⟩ H fun v H' => v = .tuple ⟨[]⟩ ∧ K H' := by
  apply vc_strings_Builder_copyCheck
  obtain ⟨p, o, n, c, te, h1, h3, h4, rfl, h6⟩ := h.it
  have hb : Blk H ⟨b, 0, none⟩ [.pointer p, .slice o n c, .int .u64 l, .int .i64 m] := ⟨b, _, rfl, h1⟩
  refine ⟨_, hb.ld0 bT.ap rfl, ?_⟩
  rcases h3 with ⟨rfl, rfl⟩ | rfl
  · refine to_unsafeW h1 rfl ⟨_, rfl, noEscape_ok ?_⟩
    refine from_unsafeW h1 rfl ?_
    refine hb.st0 (v := .pointer (some ⟨b, 0, none⟩)) bT.p1 bT.pi (fun x hx => by simp [Value.cells] at hx; subst hx; rfl) (by simp [Value.cells]) fun H' h' hf => ⟨rfl, ?_⟩
    obtain ⟨b', te', e, hg⟩ := h'
    cases e
    exact hk H' o n c te' hg (h4.fr hf (fun ad e hh => by
      have : ad.block = b := by simpa using hh
      exact h6 (by simp [e, blkL, this]))) rfl h6 hf
  · exact ⟨_, hb.ld0 bT.ap rfl, false, neq_self bT _ _ _, rfl, hk H o n c te h1 h4 rfl h6 (Fr.refl _ _)⟩
theorem WriteByteW {H : Heap} {b : Nat} {S : List Nat} {xs : List UInt8} {x : UInt8} {y l m : Int} {K : Value → Heap → Prop} (h : BwH H b S xs l m) (hx : y = x.toNat) (hlen : xs.length + 1 ≤ 140737488355328)
    (hk : ∀ H' S', BwH H' b S' (xs ++ [x]) l m → Fr S H H' → Grow H S S' → K .nilIface H') :
    CallH Tryz.prog fn_strings_Builder_WriteByte ⟨[.pointer (some ⟨b, 0, none⟩), .int .u8 y]⟩ H fun v H' => ∃ w, v = w ∧ K w H' := by
  subst hx
  apply vc_strings_Builder_WriteByte
  refine copyCheckW h fun H1 o n c te h1 h2 hS h3 hf1 => ?_
  have hb : Blk H1 ⟨b, 0, none⟩ [.pointer (some ⟨b, 0, none⟩), .slice o n c, .int .u64 l, .int .i64 m] := ⟨b, _, rfl, h1⟩
  refine ⟨o, n, c, hb.ld bT.ab (j := 1) rfl, ?_⟩
  intro b1 H2 hn1
  have hs1 : Sl encByte H2 (some ⟨b1, 0, none⟩) 1 1 [x] := sl_one encByte x hn1 rfl
  have h2' := h2.keep hn1.fr
  refine ap_grow (E := encByte) (bytes := 1) bT.sl (by kernel_rfl) h2' hs1 (Nat.zero_le _) (by rw [h2.1]; omega) fun a' n' c' H3 h4 hf2 hg2 => ?_
  have hb2 := (hb.keep hn1.fr).fr hf2 h3
  refine hb2.st (j := 1) (v := .slice a' n' c') bT.s1 bT.si (fun x hx => by simp [Value.cells] at hx; subst hx; rfl) (by simp [Value.cells]) fun H4 hb3 hf3 => ⟨_, rfl, ?_⟩
  obtain ⟨b', te', e, hg⟩ := hb3
  cases e
  have hlt : b < H1.size := lt_of_get h1
  have hsz := hn1.size
  have hnb : b ∉ blkL a' := fun hk => by
    rcases hg2 b hk with h5 | h5
    · exact h3 h5
    · omega
  refine hk H4 (b :: blkL a') ⟨_, a', n', c', te', hg, .inr rfl, h4.fr hf3 (fun ad e hh => hnb (by
      have : ad.block = b := by simpa using hh
      simp [e, blkL, this])), rfl, hnb⟩ ?_ ?_
  · rw [hS]
    exact ((hf1.trans' hn1.fr (T := b :: blkL o) (by simp) (by simp)).trans' hf2 (T := b :: blkL o) (fun k hk _ => hk) (fun k hk _ => by simp [hk])).trans' hf3 (fun k hk _ => hk) (by simp)
  · rw [hS]
    intro k hk
    rcases List.mem_cons.1 hk with rfl | hk
    · exact .inl (by simp)
    · rcases hg2 k hk with h5 | h5
      · exact .inl (by simp [h5])
      · exact .inr (by have := hf1.size; omega)
theorem StringW {H : Heap} {b : Nat} {S : List Nat} {xs : List UInt8} {l m : Int} {K : ByteArray → Heap → Prop} (h : BwH H b S xs l m) (hlen : xs.length ≤ 140737488355328)
    (hk : ∀ H', Fr S H H' → Ld Tryz.prog 89 H' (Addr.add ⟨b, 0, none⟩ 2) (.int .u64 l) → Ld Tryz.prog 3 H' (Addr.add ⟨b, 0, none⟩ 3) (.int .i64 m) → K ⟨xs.toArray⟩ H') :
    CallH Tryz.prog fn_strings_Builder_String ⟨[.pointer (some ⟨b, 0, none⟩)]⟩ H fun v H' => ∃ s, v = .string s ∧ K s H' := by
  apply vc_strings_Builder_String
  obtain ⟨p, o, n, c, te, h1, h3, h4, rfl, h6⟩ := h.it
  have hb : Blk H ⟨b, 0, none⟩ [.pointer p, .slice o n c, .int .u64 l, .int .i64 m] := ⟨b, _, rfl, h1⟩
  refine ⟨o, n, c, hb.ld bT.ab (j := 1) rfl, o, n, c, hb.ld bT.ab (j := 1) rfl, ?_⟩
  have hs := sl_data bT (it := 3) (sty := 9) (ts := ⟨[81]⟩) (K := fun H' => K ⟨xs.toArray⟩ H') (L := fun H' => Ld Tryz.prog 81 H' (Addr.add ⟨b, 0, none⟩ 1) (.slice o n c)) h4 (by rw [h4.1]; exact hlen) (fun H' hf => (hb.keep hf).ld bT.ab (j := 1) rfl)
    (fun H' hf => hk H' (hf.mono (fun k hk => by simp [hk])) ((hb.fr hf h6).ld (j := 2) (by kernel_rfl) rfl) ((hb.fr hf h6).ld (j := 3) (by kernel_rfl) rfl))
  refine hs.mono fun v H' h => ?_
  obtain ⟨a, rfl, h5, h7⟩ := h
  refine ⟨a, rfl, h5, h7.mono fun v H' h => ?_⟩
  obtain ⟨s, rfl, rfl, h⟩ := h
  exact ⟨_, rfl, _, rfl, h⟩
theorem BwH.stl {H : Heap} {b : Nat} {S : List Nat} {xs : List UInt8} {l m l' : Int} {X : Heap → Prop} (h : BwH H b S xs l m) (hk : ∀ H', BwH H' b S xs l' m → Fr [b] H H' → X H') : ∃ H', St Tryz.prog 89 H (Addr.add ⟨b, 0, none⟩ 2) (.int .u64 l') H' ∧ X H' := by
  obtain ⟨p, o, n, c, te, h1, h3, h4, rfl, h6⟩ := h.it
  rw [add_at, Nat.zero_add]
  refine st_blk (off := 2) (v := .int .u64 l') h1 (by kernel_rfl) (by kernel_rfl) (fun x hx => by simp [Value.cells] at hx; subst hx; rfl) (by simp [Value.cells]) fun H' hg hf => hk H' ⟨p, o, n, c, te, ?_, h3, h4.fr hf (fun ad e hh => by
    have : ad.block = b := by simpa using hh
    exact h6 (by simp [e, blkL, this])), rfl, h6⟩ hf
  simpa [Value.cells] using hg
theorem BwH.stm {H : Heap} {b : Nat} {S : List Nat} {xs : List UInt8} {l m l' : Int} {X : Heap → Prop} (h : BwH H b S xs l m) (hk : ∀ H', BwH H' b S xs l l' → Fr [b] H H' → X H') : ∃ H', St Tryz.prog 3 H (Addr.add ⟨b, 0, none⟩ 3) (.int .i64 l') H' ∧ X H' := by
  obtain ⟨p, o, n, c, te, h1, h3, h4, rfl, h6⟩ := h.it
  rw [add_at, Nat.zero_add]
  refine st_blk (off := 3) (v := .int .i64 l') h1 (by kernel_rfl) (by kernel_rfl) (fun x hx => by simp [Value.cells] at hx; subst hx; rfl) (by simp [Value.cells]) fun H' hg hf => hk H' ⟨p, o, n, c, te, ?_, h3, h4.fr hf (fun ad e hh => by
    have : ad.block = b := by simpa using hh
    exact h6 (by simp [e, blkL, this])), rfl, h6⟩ hf
  simpa [Value.cells] using hg

structure WrH (H : Heap) (w : Nat) (S : List Nat) (bs : List Bool) : Prop where
  it : ∃ full rem, bs = full ++ rem ∧ full.length % 8 = 0 ∧ rem.length < 8 ∧ BwH H w S (pack full) (valB rem : Nat) (rem.length : Nat)
theorem pack_len (l : List Bool) : (pack l).length ≤ l.length := by
  obtain ⟨m, hm, e⟩ := bits_pack l.length l (Nat.le_refl _)
  have := congrArg List.length e
  rw [bitsL_len, List.length_append, List.length_replicate] at this
  omega
theorem BwH.inS {H : Heap} {b : Nat} {S : List Nat} {xs : List UInt8} {l m : Int} (h : BwH H b S xs l m) : b ∈ S := by
  obtain ⟨p, o, n, c, te, h1, h3, h4, rfl, h6⟩ := h.it
  simp
theorem put_ok {H : Heap} {w : Nat} {S : List Nat} {bs : List Bool} {nn mm : Int} {n m : Nat} {K : Heap → Prop} (h : WrH H w S bs) (en : nn = n) (em : mm = m) (hm : m ≤ 8) (hn : n < 2 ^ m) (hlen : bs.length ≤ 1000000000000)
    (hk : ∀ H' S', WrH H' w S' (bs ++ lowB n m) → Fr S H H' → Grow H S S' → K H') :
    CallH Tryz.prog fn_rice_Writer_put ⟨[.pointer (some ⟨w, 0, none⟩), .int .u64 nn, .int .i64 mm]⟩ H fun v H' => v = .tuple ⟨[]⟩ ∧ K H' := by
  subst en; subst em
  apply vc_rice_Writer_put
  obtain ⟨full, rem, rfl, hf8, hr8, hb⟩ := h.it
  have hfl := pack_len full
  rw [List.length_append] at hlen
  have hv := valB_lt rem
  have h7 : 2 ^ rem.length ≤ 2 ^ 7 := Nat.pow_le_pow_right (by decide) (by omega)
  have hm8 : 2 ^ m ≤ 2 ^ 8 := Nat.pow_le_pow_right (by decide) hm
  have e7 : (2 : Nat) ^ 7 = 128 := by decide
  have e8 : (2 : Nat) ^ 8 = 256 := by decide
  have hmul : valB rem * 2 ^ m ≤ 128 * 256 := Nat.mul_le_mul (by omega) (by omega)
  have hval : valB (rem ++ lowB n m) = valB rem * 2 ^ m + n := by rw [valB_app, valB_low, lowB_len, Nat.mod_eq_of_lt hn]
  have hL : (rem ++ lowB n m).length = rem.length + m := by rw [List.length_append, lowB_len]
  have hS := hb.inS
  refine ⟨_, hb.ldl, chk_true (decide_eq_true (by rw [nat_wrapU (by omega)]; omega)) ⟨_, hb.ldm, ?_⟩⟩
  rw [shlU (by omega) (by omega), orU (by omega) hn, nat_wrapU (by omega), ← hval]
  refine hb.stl fun H1 hb1 hf1 => ?_
  rw [wrap64_of (by omega) (by omega), ← Int.natCast_add, ← hL]
  refine hb1.stm fun H2 hb2 hf2 => ⟨_, hb2.ldm, ?_⟩
  have f2 : Fr S H H2 := (hf1.mono (S' := S) (by simpa using hS)).trans' hf2 (fun k hk _ => hk) fun k hk _ => by simp at hk; rw [hk]; exact hS
  generalize hR : rem ++ lowB n m = R at *
  refine brB_of (fun h8 => ⟨_, hb2.ldm, ?_⟩) (fun h8 => ⟨rfl, hk H2 S ⟨full, R, by rw [← hR, List.append_assoc], hf8, by simp at h8; omega, hb2⟩ f2 (Grow.refl _ _)⟩)
  have hR8 : 8 ≤ R.length := by simp at h8; omega
  have hvR := valB_lt R
  have e3 : IntKind.i64.wrap (((R.length : Nat) : Int) - 8) = ((R.length - 8 : Nat) : Int) := by rw [wrap64_of (by omega) (by omega)]; omega
  rw [e3]
  refine hb2.stm fun H3 hb3 hf3 => ⟨_, hb3.ldl, _, hb3.ldm, chk_true (decide_eq_true (by rw [nat_wrapU (by omega)]; omega)) ?_⟩
  have hsp : R = R.take 8 ++ R.drop 8 := (List.take_append_drop 8 R).symm
  have ht8 : (R.take 8).length = 8 := by rw [List.length_take]; omega
  have hd8 : (R.drop 8).length = R.length - 8 := List.length_drop
  have hvd := valB_lt (R.drop 8)
  have hvt := valB_lt (R.take 8)
  rw [hd8] at hvd
  rw [ht8] at hvt
  have hvs : valB R = valB (R.take 8) * 2 ^ (R.length - 8) + valB (R.drop 8) := by
    conv => lhs; rw [hsp]
    rw [valB_app, hd8]
  have hdiv : valB R / 2 ^ (R.length - 8) = valB (R.take 8) := by
    rw [hvs, Nat.mul_comm, Nat.mul_add_div (Nat.pow_pos (by decide)), Nat.div_eq_of_lt hvd, Nat.add_zero]
  have hmod : valB R % 2 ^ (R.length - 8) = valB (R.drop 8) := by
    rw [hvs, Nat.mul_comm, Nat.mul_add_mod, Nat.mod_eq_of_lt hvd]
  have hvR2 : valB R < 18446744073709551616 := by rw [hval]; omega
  rw [fdivU _ (by omega), hdiv]
  have ebyte : IntKind.u8.wrap ((valB (R.take 8) : Nat) : Int) = ((byteB (R.take 8)).toNat : Int) := by
    unfold byteB
    rw [ht8, Nat.sub_self, Nat.pow_zero, Nat.mul_one, UInt8.toNat_ofNat']
    have : valB (R.take 8) % 2 ^ 8 = valB (R.take 8) := Nat.mod_eq_of_lt hvt
    rw [this, wrapU8 (Int.natCast_nonneg _)]
    omega
  rw [ebyte]
  refine WriteByteW hb3 rfl (by omega) fun H4 S4 hb4 hf4 hg4 => ⟨_, hb4.ldl, _, hb4.ldm, chk_true (decide_eq_true (by rw [nat_wrapU (by omega)]; omega)) ?_⟩
  rw [maskU (by omega), andU hvR2 (by omega), hmod, nat_wrapU (by omega)]
  refine hb4.stl fun H5 hb5 hf5 => ⟨rfl, hk H5 S4 ⟨full ++ R.take 8, R.drop 8, ?_, ?_, by omega, ?_⟩ ?_ ?_⟩
  · rw [List.append_assoc, List.append_assoc, List.take_append_drop, ← hR]
  · rw [List.length_append, ht8]; omega
  · rw [hd8]
    have : pack (full ++ R.take 8) = pack full ++ [byteB (R.take 8)] := by
      rw [pack_full _ _ hf8, pack_small (l := R.take 8) (by intro e; rw [e] at ht8; cases ht8) (by omega)]
    rw [this]; exact hb5
  · have f3 : Fr S H H3 := f2.trans' hf3 (fun k hk _ => hk) fun k hk _ => by simp at hk; rw [hk]; exact hS
    have f4 : Fr S H H4 := f3.trans' hf4 (fun k hk _ => hk) fun k hk _ => hk
    exact f4.trans' hf5 (fun k hk _ => hk) fun k hk _ => by simp at hk; rw [hk]; exact hS
  · intro k hk
    rcases hg4 k hk with e | e
    · exact .inl e
    · exact .inr (by have := hf1.size; have := hf2.size; have := hf3.size; omega)

theorem fr_grow {S S' : List Nat} {H H' H2 : Heap} (h1 : Fr S H H') (hg : Grow H S S') (h2 : Fr S' H' H2) : Fr S H H2 := h1.trans' h2 (fun k hk _ => hk) fun k hk hlt => (hg k hk).elim id fun h => by omega
theorem all_ok {H : Heap} {w : Nat} {S : List Nat} {bs : List Bool} {nn mm : Int} {n m : Nat} {K : Heap → Prop} (h : WrH H w S bs) (en : nn = n) (em : mm = m) (hm : m ≤ 64) (hn : n < 18446744073709551616) (hlen : bs.length ≤ 900000000000)
    (hk : ∀ H' S', WrH H' w S' (bs ++ lowB n m) → Fr S H H' → Grow H S S' → K H') :
    CallH Tryz.prog fn_rice_Writer_all ⟨[.pointer (some ⟨w, 0, none⟩), .int .u64 nn, .int .i64 mm]⟩ H fun v H' => v = .tuple ⟨[]⟩ ∧ K H' := by
  subst en; subst em
  apply vc_rice_Writer_all
  refine ⟨fun vs H' => match vs with | [.int _ i] => ∃ (j : Nat) (S' : List Nat), i = j ∧ j ≤ m ∧ WrH H' w S' (bs ++ lowB (n / 2 ^ j) (m - j)) ∧ Fr S H H' ∧ Grow H S S' | _ => False, fun vs _ => match vs with | [.int _ i] => i.toNat | _ => 0, ⟨m, S, rfl, Nat.le_refl _, by rw [Nat.sub_self]; simpa [lowB] using h, Fr.refl _ _, Grow.refl _ _⟩, ?_⟩
  rintro J i H1 ⟨j, S1, rfl, hj, hw, hf, hg⟩
  have hl1 : (bs ++ lowB (n / 2 ^ j) (m - j)).length ≤ 1000000000000 := by rw [List.length_append, lowB_len]; omega
  refine brB_of (fun h8 => ?_) (fun h8 => ?_)
  · have hj8 : 8 < j := by simp at h8; omega
    have e1 : IntKind.i64.wrap (((j : Nat) : Int) - 8) = ((j - 8 : Nat) : Int) := by rw [wrap64_of (by omega) (by omega)]; omega
    rw [e1, fdivU _ (by omega), show (255 : Int) = ((2 ^ 8 - 1 : Nat) : Int) from rfl, andU (Nat.lt_of_le_of_lt (Nat.div_le_self _ _) hn) (by omega)]
    have hc : n / 2 ^ (j - 8) % 2 ^ 8 < 2 ^ 8 := Nat.mod_lt _ (by decide)
    rw [nat_wrapU (n := n / 2 ^ (j - 8) % 2 ^ 8) (Nat.lt_of_lt_of_le hc (by decide))]
    refine chk_true (decide_eq_true (by rw [nat_wrapU (by omega)]; omega)) ?_
    refine put_ok (m := 8) hw rfl rfl (by omega) hc hl1 fun H2 S2 hw2 hf2 hg2 => ⟨⟨j - 8, S2, rfl, by omega, ?_, fr_grow hf hg hf2, hg.trans hf.size hg2⟩, ?_⟩
    · have e2 : n / 2 ^ (j - 8) / 2 ^ 8 = n / 2 ^ j := by rw [Nat.div_div_eq_div_mul, ← Nat.pow_add, show j - 8 + 8 = j by omega]
      rw [low_mod, List.append_assoc, ← e2, ← low_app, show m - j + 8 = m - (j - 8) by omega] at hw2
      exact hw2
    · show (((j - 8 : Nat) : Int)).toNat < ((j : Nat) : Int).toNat
      omega
  · have hj8 : j ≤ 8 := by simp at h8; omega
    rw [maskU (by omega), andU hn (by omega), nat_wrapU (n := n % 2 ^ j) (Nat.lt_of_le_of_lt (Nat.mod_le _ _) hn)]
    refine chk_true (decide_eq_true (by rw [nat_wrapU (by omega)]; omega)) ?_
    refine put_ok (m := j) hw rfl rfl hj8 (Nat.mod_lt _ (Nat.pow_pos (by decide))) hl1 fun H2 S2 hw2 hf2 hg2 => ⟨rfl, hk H2 S2 ?_ (fr_grow hf hg hf2) (hg.trans hf.size hg2)⟩
    rw [low_mod, List.append_assoc, ← low_app, show m - j + j = m by omega] at hw2
    exact hw2
end Go.Proofs
