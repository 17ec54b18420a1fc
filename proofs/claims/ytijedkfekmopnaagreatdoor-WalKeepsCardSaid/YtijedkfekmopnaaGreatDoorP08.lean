/- A part of a proof: see the last text of this claim. -/
import Derived.Test.YtijedkfekmopnaaGreatDoorL07f
import Derived.Test.YtijedkfekmopnaaGreatDoorZ10q
set_option linter.unusedVariables false
set_option maxRecDepth 100000
open Go Go.GV
namespace Go.Proofs

def stepsL : List Nat := [0, 4129, 8258, 12387, 16516, 20645, 24774, 28903, 33032, 37161, 41290, 45419, 49548, 53677, 57806, 61935]
def stN (k : Nat) : Nat := stepsL.getD k 0
def nibN (c h : Nat) : Nat := (c * 16 % 65536) ^^^ stN ((c / 4096) ^^^ h)
def crcB (c b : Nat) : Nat := nibN (nibN c (b / 16)) (b % 16)
def crcN (l : List UInt8) : Nat := l.foldl (fun c b => crcB c b.toNat) 65535
def bitN (x : Nat) : Nat := if 65536 ≤ 2 * x then (2 * x - 65536) ^^^ 4129 else 2 * x
def bitsN : Nat → Nat → Nat
  | 0, x => x
  | k + 1, x => bitsN k (bitN x)
def bitK (x : Nat) : Nat := cond (Nat.ble 65536 (Nat.mul 2 x)) (Nat.xor (Nat.sub (Nat.mul 2 x) 65536) 4129) (Nat.mul 2 x)
theorem bitK_eq (x : Nat) : bitK x = bitN x := by
  unfold bitK bitN
  by_cases h : 65536 ≤ 2 * x
  · rw [if_pos h, show Nat.ble 65536 (Nat.mul 2 x) = true from Nat.ble_eq_true_of_le h]; rfl
  · have : Nat.ble 65536 (Nat.mul 2 x) = false := by
      cases hb : Nat.ble 65536 (Nat.mul 2 x) with
      | false => rfl
      | true => exact absurd (Nat.le_of_ble_eq_true hb) h
    rw [if_neg h, this]; rfl
def chkK (s : Nat) : Nat → Nat → Bool
  | 0, _ => true
  | n + 1, x => cond (Nat.beq (bitK (bitK (bitK (bitK x)))) (Nat.xor (Nat.mod (Nat.mul x 16) 65536) s)) (chkK s n (Nat.add x 1)) false
theorem chkK_ok {s : Nat} : ∀ {n x : Nat}, chkK s n x = true → ∀ y, x ≤ y → y < x + n → bitN (bitN (bitN (bitN y))) = (y * 16 % 65536) ^^^ s
  | 0, x, _, y, h1, h2 => by omega
  | n + 1, x, h, y, h1, h2 => by
    unfold chkK at h
    cases hb : Nat.beq (bitK (bitK (bitK (bitK x)))) (Nat.xor (Nat.mod (Nat.mul x 16) 65536) s) with
    | false => rw [hb] at h; cases h
    | true =>
      rw [hb] at h
      by_cases e : y = x
      · subst e
        have := Nat.eq_of_beq_eq_true hb
        simp only [bitK_eq] at this
        exact this
      · exact chkK_ok (x := x + 1) h y (by omega) (by omega)
theorem four_all : ((List.range 16).all fun k => (List.range 16).all fun j => chkK (stN k) 256 (4096 * k + 256 * j)) = true := by decide +kernel
theorem four_ok {x : Nat} (h : x < 65536) : bitsN 4 x = (x * 16 % 65536) ^^^ stN (x / 4096) := by
  have h1 := List.all_eq_true.1 four_all (x / 4096) (List.mem_range.2 (by omega))
  have h2 := List.all_eq_true.1 h1 (x % 4096 / 256) (List.mem_range.2 (by omega))
  exact chkK_ok h2 x (by omega) (by omega)
theorem stN_lt (k : Nat) : stN k < 65536 := by
  unfold stN
  by_cases h : k < 16
  · have : ∀ k : Fin 16, stepsL.getD k.val 0 < 65536 := by decide
    exact this ⟨k, h⟩
  · have : stepsL[k]? = none := List.getElem?_eq_none (by simp [stepsL]; omega)
    rw [List.getD, this]; decide
theorem xor_lt {a b : Nat} (ha : a < 65536) (hb : b < 65536) : a ^^^ b < 65536 := Nat.xor_lt_two_pow (n := 16) ha hb
theorem xor_lt16 {a b : Nat} (ha : a < 16) (hb : b < 16) : a ^^^ b < 16 := Nat.xor_lt_two_pow (n := 4) ha hb
theorem nibN_lt {c h : Nat} : nibN c h < 65536 := xor_lt (Nat.mod_lt _ (by decide)) (stN_lt _)
theorem crcB_lt {c b : Nat} : crcB c b < 65536 := nibN_lt
theorem xor_div (a b : Nat) : (a ^^^ b) / 4096 = a / 4096 ^^^ b / 4096 := by
  have := Nat.shiftRight_xor_distrib (a := a) (b := b) (i := 12)
  simpa [Nat.shiftRight_eq_div_pow] using this
theorem xor_mul (a b : Nat) : (a ^^^ b) * 16 = (a * 16) ^^^ (b * 16) := by
  have := Nat.shiftLeft_xor_distrib (a := a) (b := b) (i := 4)
  simpa [Nat.shiftLeft_eq] using this
theorem xor_mod (a b : Nat) : (a ^^^ b) % 65536 = (a % 65536) ^^^ (b % 65536) := Nat.xor_mod_two_pow (n := 16)
theorem bits_add : ∀ (j k x : Nat), bitsN (j + k) x = bitsN k (bitsN j x)
  | 0, k, x => by rw [Nat.zero_add]; rfl
  | j + 1, k, x => by rw [show j + 1 + k = (j + k) + 1 by omega]; exact bits_add j k (bitN x)
theorem crc_bits {c b : Nat} (hc : c < 65536) (hb : b < 256) : bitsN 8 (c ^^^ (b * 256)) = crcB c b := by
  rw [show 8 = 4 + 4 by rfl, bits_add, four_ok (xor_lt hc (by omega)), xor_div, xor_mul, xor_mod, show b * 256 / 4096 = b / 16 by omega, show b * 256 * 16 % 65536 = (b % 16) * 4096 by omega]
  have e : ((c * 16 % 65536) ^^^ ((b % 16) * 4096)) ^^^ stN (c / 4096 ^^^ b / 16) = nibN c (b / 16) ^^^ ((b % 16) * 4096) := by
    unfold nibN
    rw [Nat.xor_assoc, Nat.xor_comm (b % 16 * 4096), ← Nat.xor_assoc]
  rw [e, four_ok (xor_lt nibN_lt (by omega)), xor_div, xor_mul, xor_mod, show b % 16 * 4096 * 16 % 65536 = 0 by omega, Nat.xor_zero, show b % 16 * 4096 / 4096 = b % 16 by omega]
  rfl
theorem crc_fold_lt : ∀ (l : List UInt8) (c : Nat), c < 65536 → l.foldl (fun c b => crcB c b.toNat) c < 65536
  | [], _, h => h
  | b :: l, c, _ => crc_fold_lt l _ crcB_lt
theorem crcN_lt (l : List UInt8) : crcN l < 65536 := crc_fold_lt l _ (by decide)
theorem crcN_snoc {l : List UInt8} {k : Nat} {b : UInt8} (h : l[k]? = some b) : crcN (l.take (k + 1)) = crcB (crcN (l.take k)) b.toNat := by
  unfold crcN
  rw [List.take_add_one, h]
  simp
def frameL (s : ByteArray) : List UInt8 := textL s ++ [UInt8.ofNat (crcN (bl s) / 256), UInt8.ofNat (crcN (bl s) % 256)]
theorem frameL_len (s : ByteArray) : (frameL s).length = (textL s).length + 2 := by simp [frameL]
theorem frameL_pos (s : ByteArray) : 3 ≤ (frameL s).length := by
  rw [frameL_len]
  unfold textL
  rw [List.length_append]
  have := uintL_pos s.size
  omega
end Go.Proofs
set_option linter.unusedVariables false
set_option maxRecDepth 100000
open Go Go.GV
namespace Go.Proofs

def TabH (H : Heap) : Prop := ∀ k, k < 16 → cellH H ⟨0, k, none⟩ = some (.int .u16 (stN k))
theorem TabH.keep {H H' : Heap} (h : TabH H) (hf : Fr [] H H') : TabH H' := fun k hk => hf.cell0 (h k hk)
theorem TabH.ld {H : Heap} (h : TabH H) {k : Nat} (hk : k < 16) : Ld Tryz.prog 173 H (Addr.add ⟨0, 0, none⟩ (((k : Nat) : Int).toNat * 1)) (.int .u16 (stN k)) := by
  refine ld_cell (by kernel_rfl) ?_
  have : (Addr.add ⟨0, 0, none⟩ (((k : Nat) : Int).toNat * 1) : Addr) = ⟨0, k, none⟩ := by
    rw [add_at]; congr 1; omega
  rw [this]; exact h k hk
theorem wrapU16 {n : Int} (h : 0 ≤ n) : IntKind.u16.wrap n = n % 65536 := by
  unfold IntKind.wrap
  simp [IntKind.bits, IntKind.signed]
theorem w16 {n : Int} (h : 0 ≤ n) (h2 : n < 65536) : IntKind.u16.wrap n = n := by
  rw [wrapU16 h]; omega
theorem bx16 {a b : Nat} (ha : a < 65536) (hb : b < 65536) : (BitVec.ofInt 16 (a : Int) ^^^ BitVec.ofInt 16 (b : Int)).toNat = a ^^^ b := by
  simp only [BitVec.toNat_xor, BitVec.ofInt_natCast, BitVec.toNat_ofNat]
  rw [Nat.mod_eq_of_lt (by omega), Nat.mod_eq_of_lt (by omega)]
theorem bx64 {a b : Nat} (ha : a < 18446744073709551616) (hb : b < 18446744073709551616) : (BitVec.ofInt 64 (a : Int) ^^^ BitVec.ofInt 64 (b : Int)).toNat = a ^^^ b := by
  simp only [BitVec.toNat_xor, BitVec.ofInt_natCast, BitVec.toNat_ofNat]
  rw [Nat.mod_eq_of_lt (by omega), Nat.mod_eq_of_lt (by omega)]
theorem ba8 {a : Nat} (ha : a < 256) : (BitVec.ofInt 8 (a : Int) &&& BitVec.ofInt 8 15).toNat = a % 16 := by
  have : (BitVec.ofInt 8 15).toNat = 15 := rfl
  simp only [BitVec.toNat_and, BitVec.ofInt_natCast, BitVec.toNat_ofNat, this]
  rw [Nat.mod_eq_of_lt (by omega)]
  exact Nat.and_two_pow_sub_one_eq_mod a 4
theorem fd (a k : Nat) (hk : k ≠ 0) : Int.fdiv (a : Int) (k : Int) = ((a / k : Nat) : Int) := by
  rw [Int.fdiv_eq_ediv_of_nonneg _ (by omega)]; rfl
theorem Crc_ok {s : ByteArray} {H : Heap} {K : Int → Heap → Prop} (hT : TabH H) (hs : s.size ≤ 1000000000000) (hk : ∀ H', Fr [] H H' → K (crcN (bl s) : Nat) H') :
    CallH Tryz.prog fn_frame_Crc ⟨[.string s]⟩ H fun v H' => ∃ n, v = .int .i64 n ∧ K n H' := by
  apply vc_frame_Crc
  refine cv_sb bT.str bT.sl (by kernel_rfl) fun q c H1 hq hsl f1 => ?_
  have hlen := bl_len s
  refine ⟨fun vs H2 => match vs with | [.int _ x, .int _ i] => ∃ j : Nat, i = j ∧ j ≤ s.size ∧ x = (crcN ((bl s).take j) : Nat) ∧ H2 = H1 | _ => False,
    fun vs _ => match vs with | [_, .int _ i] => s.size - i.toNat | _ => 0, ⟨0, rfl, by omega, rfl, rfl⟩, ?_⟩
  rintro J x i H2 ⟨j, rfl, hj, rfl, rfl⟩
  have hT2 := hT.keep f1
  refine brB_of (fun h0 => ?_) (fun h0 => ?_)
  · have h0' : j < s.size := by simpa using h0
    obtain ⟨b, hb⟩ := getElem_ex (l := bl s) (i := j) (by omega)
    refine hsl.get rfl hb (by simp; omega) fun ad e hc => ⟨b.toNat, ld_one (by kernel_rfl) hc, ?_⟩
    have hb8 : b.toNat < 256 := UInt8.toNat_lt _
    have hcl := crcN_lt ((bl s).take j)
    have hnext := crcN_snoc hb
    generalize hce : crcN ((bl s).take j) = cN at *
    generalize b.toNat = bN at *
    have e1 : IntKind.u16.wrap ((BitVec.toNat (BitVec.ofInt 16 (Int.fdiv (cN : Int) (2 ^ 12)) ^^^ BitVec.ofInt 16 (IntKind.u16.wrap (Int.fdiv (bN : Int) (2 ^ 4)))) : Nat) : Int) = ((cN / 4096 ^^^ bN / 16 : Nat) : Int) := by
      rw [show ((2 : Int) ^ 12) = ((4096 : Nat) : Int) by rfl, show ((2 : Int) ^ 4) = ((16 : Nat) : Int) by rfl, fd _ _ (by decide), fd _ _ (by decide), w16 (n := ((bN / 16 : Nat) : Int)) (by omega) (by omega), bx16 (by omega) (by omega)]
      have := xor_lt16 (a := cN / 4096) (b := bN / 16) (by omega) (by omega)
      exact w16 (by omega) (by omega)
    rw [e1]
    have hk1 := xor_lt16 (a := cN / 4096) (b := bN / 16) (by omega) (by omega)
    refine chk_true (decide_eq_true (by omega)) ⟨_, hT2.ld hk1, ?_⟩
    have e2 : IntKind.u16.wrap ((BitVec.toNat (BitVec.ofInt 16 (IntKind.u16.wrap ((cN : Int) * 2 ^ 4)) ^^^ BitVec.ofInt 16 (stN (cN / 4096 ^^^ bN / 16) : Int)) : Nat) : Int) = (nibN cN (bN / 16) : Nat) := by
      have hw : IntKind.u16.wrap ((cN : Int) * 2 ^ 4) = ((cN * 16 % 65536 : Nat) : Int) := by
        rw [wrapU16 (by omega)]; omega
      have := stN_lt (cN / 4096 ^^^ bN / 16)
      rw [hw, bx16 (by omega) this]
      have h2 := nibN_lt (c := cN) (h := bN / 16)
      unfold nibN at h2 ⊢
      exact w16 (by omega) (by omega)
    rw [e2]
    have hn := nibN_lt (c := cN) (h := bN / 16)
    generalize hd : nibN cN (bN / 16) = dN at *
    have e3 : IntKind.u16.wrap ((BitVec.toNat (BitVec.ofInt 16 (Int.fdiv (dN : Int) (2 ^ 12)) ^^^ BitVec.ofInt 16 (IntKind.u16.wrap (IntKind.u8.wrap ((BitVec.toNat (BitVec.ofInt 8 (bN : Int) &&& BitVec.ofInt 8 15) : Nat) : Int)))) : Nat) : Int) = ((dN / 4096 ^^^ bN % 16 : Nat) : Int) := by
      have h8 : IntKind.u8.wrap ((bN % 16 : Nat) : Int) = ((bN % 16 : Nat) : Int) := by
        rw [wrapU8 (by omega)]; omega
      rw [ba8 hb8, h8, show ((2 : Int) ^ 12) = ((4096 : Nat) : Int) by rfl, fd _ _ (by decide), w16 (n := ((bN % 16 : Nat) : Int)) (by omega) (by omega), bx16 (by omega) (by omega)]
      have := xor_lt16 (a := dN / 4096) (b := bN % 16) (by omega) (by omega)
      exact w16 (by omega) (by omega)
    rw [e3]
    have hk2 := xor_lt16 (a := dN / 4096) (b := bN % 16) (by omega) (by omega)
    refine chk_true (decide_eq_true (by omega)) ⟨_, hT2.ld hk2, ?_⟩
    have e4 : IntKind.u16.wrap ((BitVec.toNat (BitVec.ofInt 16 (IntKind.u16.wrap (IntKind.u16.wrap ((BitVec.toNat (BitVec.ofInt 16 (IntKind.u16.wrap ((cN : Int) * 2 ^ 4)) ^^^ BitVec.ofInt 16 (stN (cN / 4096 ^^^ bN / 16) : Int)) : Nat) : Int) * 2 ^ 4)) ^^^ BitVec.ofInt 16 (stN (dN / 4096 ^^^ bN % 16) : Int)) : Nat) : Int) = (nibN dN (bN % 16) : Nat) := by
      rw [e2]
      have hw : IntKind.u16.wrap ((dN : Int) * 2 ^ 4) = ((dN * 16 % 65536 : Nat) : Int) := by
        rw [wrapU16 (by omega)]; omega
      have := stN_lt (dN / 4096 ^^^ bN % 16)
      rw [hw, bx16 (by omega) this]
      have h2 := nibN_lt (c := dN) (h := bN % 16)
      unfold nibN at h2 ⊢
      exact w16 (by omega) (by omega)
    first
      | rw [e4]
      | (rw [e2] at e4; rw [e4])
    refine ⟨⟨j + 1, succ64 (by omega), by omega, ?_, rfl⟩, ?_⟩
    · rw [hnext]; unfold crcB; rw [hd]
    · show s.size - (IntKind.i64.wrap ((j : Int) + 1)).toNat < s.size - ((j : Nat) : Int).toNat
      rw [succ64 (by omega)]
      exact mu_lt h0'
  · have hjs : j = s.size := by simp at h0; omega
    subst hjs
    rw [List.take_of_length_le (by omega)]
    have := crcN_lt (bl s)
    rw [wrap64_of (by omega) (by omega)]
    exact ⟨_, rfl, hk _ f1⟩
theorem rCrc_ok {s : ByteArray} {H : Heap} {K : Int → Heap → Prop} (hs : s.size ≤ 1000000000000) (hk : K (crcN (bl s) : Nat) H) :
    CallH Tryz.prog fn_ref08_Crc ⟨[.string s]⟩ H fun v H' => ∃ n, v = .int .i64 n ∧ K n H' := by
  apply vc_ref08_Crc
  have hlen := bl_len s
  refine ⟨fun vs H2 => match vs with | [.int _ x, .int _ i] => ∃ j : Nat, i = j ∧ j ≤ s.size ∧ x = (crcN ((bl s).take j) : Nat) ∧ H2 = H | _ => False,
    fun vs _ => match vs with | [_, .int _ i] => s.size - i.toNat | _ => 0, ⟨0, rfl, by omega, rfl, rfl⟩, ?_⟩
  rintro J x i H2 ⟨j, rfl, hj, rfl, rfl⟩
  refine brB_of (fun h0 => ?_) (fun h0 => ?_)
  · have h0' : j < s.size := by simpa using h0
    refine chk_true (decide_eq_true (by omega)) ?_
    obtain ⟨b, hb⟩ := getElem_ex (l := bl s) (i := j) (by omega)
    have hcl := crcN_lt ((bl s).take j)
    have hnext := crcN_snoc hb
    have hat : atB s (((j : Nat) : Int).toNat) = b.toNat := atB_of (by rw [bl_get]; exact hb)
    have hb8 : b.toNat < 256 := UInt8.toNat_lt _
    generalize hce : crcN ((bl s).take j) = cN at *
    rw [hat]
    generalize b.toNat = bN at *
    have e1 : IntKind.i64.wrap ((BitVec.toNat (BitVec.ofInt 64 (cN : Int) ^^^ BitVec.ofInt 64 (IntKind.i64.wrap (IntKind.i64.wrap (bN : Int) * 256))) : Nat) : Int) = ((cN ^^^ bN * 256 : Nat) : Int) := by
      rw [wrap64_of (n := (bN : Int)) (by omega) (by omega), wrap64_of (n := (bN : Int) * 256) (by omega) (by omega)]
      rw [show (bN : Int) * 256 = ((bN * 256 : Nat) : Int) by omega, bx64 (by omega) (by omega)]
      have := xor_lt (a := cN) (b := bN * 256) hcl (by omega)
      exact wrap64_of (by omega) (by omega)
    rw [e1]
    have hx := xor_lt (a := cN) (b := bN * 256) hcl (by omega)
    have hall := crc_bits hcl hb8
    refine ⟨fun vs H3 => match vs with | [.int _ y, .int _ k] => ∃ (kN yN : Nat), k = kN ∧ kN ≤ 8 ∧ y = yN ∧ yN < 65536 ∧ bitsN (8 - kN) yN = crcB cN bN ∧ H3 = H2 | _ => False,
      fun vs _ => match vs with | [_, .int _ k] => 8 - k.toNat | _ => 0, ⟨0, _, rfl, by omega, rfl, hx, hall, rfl⟩, ?_⟩
    rintro J2 y k H3 ⟨kN, yN, rfl, hk8, rfl, hy, hbits, rfl⟩
    refine brB_of (fun h1 => ?_) (fun h1 => ?_)
    · have h1' : kN < 8 := by simp at h1; omega
      rw [show 8 - kN = (8 - (kN + 1)) + 1 by omega] at hbits
      simp only [bitsN] at hbits
      rw [wrap64_of (n := (yN : Int) * 2) (by omega) (by omega)]
      refine brB_of (fun h2 => ?_) (fun h2 => ?_)
      · have h2' : 65536 ≤ 2 * yN := by simp at h2; omega
        have e5 : IntKind.i64.wrap ((BitVec.toNat (BitVec.ofInt 64 (IntKind.i64.wrap ((yN : Int) * 2 - 65536)) ^^^ BitVec.ofInt 64 4129) : Nat) : Int) = (bitN yN : Nat) := by
          rw [wrap64_of (n := (yN : Int) * 2 - 65536) (by omega) (by omega), show (yN : Int) * 2 - 65536 = ((2 * yN - 65536 : Nat) : Int) by omega, show (4129 : Int) = ((4129 : Nat) : Int) by rfl, bx64 (by omega) (by omega)]
          unfold bitN
          rw [if_pos h2']
          have := xor_lt (a := 2 * yN - 65536) (b := 4129) (by omega) (by decide)
          exact wrap64_of (by omega) (by omega)
        rw [e5]
        refine ⟨⟨kN + 1, bitN yN, succ64 (by omega), by omega, rfl, ?_, hbits, rfl⟩, ?_⟩
        · unfold bitN; rw [if_pos h2']; exact xor_lt (by omega) (by decide)
        · show 8 - (IntKind.i64.wrap ((kN : Int) + 1)).toNat < 8 - ((kN : Nat) : Int).toNat
          rw [succ64 (by omega)]
          exact mu_lt h1'
      · have h2' : ¬ 65536 ≤ 2 * yN := by simp at h2; omega
        have e5 : (yN : Int) * 2 = (bitN yN : Nat) := by unfold bitN; rw [if_neg h2']; omega
        rw [e5]
        refine ⟨⟨kN + 1, bitN yN, succ64 (by omega), by omega, rfl, ?_, hbits, rfl⟩, ?_⟩
        · unfold bitN; rw [if_neg h2']; omega
        · show 8 - (IntKind.i64.wrap ((kN : Int) + 1)).toNat < 8 - ((kN : Nat) : Int).toNat
          rw [succ64 (by omega)]
          exact mu_lt h1'
    · have hk : kN = 8 := by simp at h1; omega
      subst hk
      simp only [Nat.sub_self, bitsN] at hbits
      refine ⟨⟨j + 1, succ64 (by omega), by omega, by rw [hnext, hbits], rfl⟩, ?_⟩
      show s.size - (IntKind.i64.wrap ((j : Int) + 1)).toNat < s.size - ((j : Nat) : Int).toNat
      rw [succ64 (by omega)]
      exact mu_lt h0'
  · have hjs : j = s.size := by simp at h0; omega
    subst hjs
    rw [List.take_of_length_le (by omega)]
    exact ⟨_, rfl, hk⟩
end Go.Proofs
set_option linter.unusedVariables false
set_option maxRecDepth 100000
open Go Go.GV
namespace Go.Proofs

theorem sl_by {H H' : Heap} {b : Nat} {t : TypeId} (xs : List UInt8) {vs : List Value} (h : New H b (.cells ⟨vs⟩ t) H') (hv : vs = xs.map fun x => Value.int .u8 (x.toNat : Int)) : Sl encByte H' (some ⟨b, 0, none⟩) xs.length xs.length xs := by
  refine ⟨rfl, Nat.le_refl _, .inr ⟨b, 0, rfl, fun i y hy j v hj => ?_⟩⟩
  rw [cell_of_blk h.get, hv]
  have := flatMap_get encByte xs i y hy j v hj
  have e : xs.flatMap encByte.cells = xs.map fun x => Value.int .u8 (x.toNat : Int) := by
    clear this hj hy hv
    induction xs with
    | nil => rfl
    | cons x l ih => rw [List.flatMap_cons, ih]; rfl
  rw [e] at this
  simpa using this
theorem two_bytes {n : Nat} (h : n < 65536) : [Value.int .u8 (IntKind.u8.wrap (Int.fdiv (n : Int) (2 ^ 8))), Value.int .u8 (IntKind.u8.wrap (n : Int))] = [UInt8.ofNat (n / 256), UInt8.ofNat (n % 256)].map fun x => Value.int .u8 (x.toNat : Int) := by
  rw [show ((2 : Int) ^ 8) = ((256 : Nat) : Int) by rfl, fd _ _ (by decide), wrapU8 (by omega), wrapU8 (by omega)]
  simp only [List.map_cons, List.map_nil, UInt8.toNat_ofNat']
  rw [show (2 : Nat) ^ 8 = 256 by rfl]
  have e1 : ((n / 256 : Nat) : Int) % 256 = ((n / 256 % 256 : Nat) : Int) := by omega
  have e2 : (n : Int) % 256 = ((n % 256 % 256 : Nat) : Int) := by omega
  rw [e1, e2]
theorem Frame_ok {s : ByteArray} {H : Heap} {K : ByteArray → Heap → Prop} (hT : TabH H) (hs : s.size ≤ 1000000000000) (hk : ∀ H', Fr [] H H' → K ⟨(frameL s).toArray⟩ H') :
    CallH Tryz.prog fn_frame_Frame ⟨[.string s]⟩ H fun v H' => ∃ s, v = .string s ∧ K s H' := by
  apply vc_frame_Frame
  have hc := crcN_lt (bl s)
  have hfin : ∀ H', Fr [] H H' → chk (decide (ByteArray.size (⟨(textL s).toArray⟩ : ByteArray) + ByteArray.size (⟨[UInt8.ofNat (crcN (bl s) / 256), UInt8.ofNat (crcN (bl s) % 256)].toArray⟩ : ByteArray) ≤ 9223372036854775807)) (∃ s_1, Value.string ((⟨(textL s).toArray⟩ : ByteArray) ++ ⟨[UInt8.ofNat (crcN (bl s) / 256), UInt8.ofNat (crcN (bl s) % 256)].toArray⟩) = .string s_1 ∧ K s_1 H') := fun H' hf => by
    have h1 := uintL_len10 (n := s.size) (by omega)
    have h2 : (textL s).length ≤ 10 + s.size := by unfold textL; rw [List.length_append, bl_len]; omega
    refine chk_true (decide_eq_true ?_) ⟨_, rfl, ?_⟩
    · rw [size_mk (textL s), size_mk [UInt8.ofNat (crcN (bl s) / 256), UInt8.ofNat (crcN (bl s) % 256)]]
      simp only [List.length_cons, List.length_nil]
      omega
    · rw [app_mk (textL s)]
      exact hk H' hf
  refine Crc_ok hT hs fun H1 f1 => ⟨?_, fun b H2 hn2 => ?_⟩
  · refine Text_ok (by omega) fun H2 f2 b H3 hn3 => ?_
    refine cv_bs bT.sl bT.str (by kernel_rfl) (sl_by _ hn3 (two_bytes hc)) ?_
    exact hfin H3 ((f1.keep0 f2).keep0 hn3.fr)
  · have hsl := sl_by _ hn2 (two_bytes hc)
    refine ⟨Text_ok (by omega) fun H3 f3 => ?_, ?_⟩
    · refine cv_bs bT.sl bT.str (by kernel_rfl) (hsl.keep f3) ?_
      exact hfin H3 ((f1.keep0 hn2.fr).keep0 f3)
    · refine cv_bs bT.sl bT.str (by kernel_rfl) hsl ?_
      refine Text_ok (by omega) fun H3 f3 => ?_
      exact hfin H3 ((f1.keep0 hn2.fr).keep0 f3)
theorem two_bytes' {n : Nat} (h : n < 65536) : [Value.int .u8 (IntKind.u8.wrap (IntKind.i64.wrap (Int.tdiv (n : Int) 256))), Value.int .u8 (IntKind.u8.wrap (Int.tmod (n : Int) 256))] = [UInt8.ofNat (n / 256), UInt8.ofNat (n % 256)].map fun x => Value.int .u8 (x.toNat : Int) := by
  rw [← two_bytes h, show ((2 : Int) ^ 8) = ((256 : Nat) : Int) by rfl, fd _ _ (by decide)]
  have e1 : Int.tdiv (n : Int) 256 = ((n / 256 : Nat) : Int) := rfl
  have e2 : Int.tmod (n : Int) 256 = ((n % 256 : Nat) : Int) := rfl
  rw [e1, e2, wrap64_of (by omega) (by omega), wrapU8 (n := ((n % 256 : Nat) : Int)) (by omega), wrapU8 (n := (n : Int)) (by omega)]
  congr 3
  omega
theorem rFrame_ok {s : ByteArray} {H : Heap} {K : ByteArray → Heap → Prop} (hs : s.size ≤ 1000000000000) (hk : ∀ H', Fr [] H H' → K ⟨(frameL s).toArray⟩ H') :
    CallH Tryz.prog fn_ref08_Frame ⟨[.string s]⟩ H fun v H' => ∃ s, v = .string s ∧ K s H' := by
  apply vc_ref08_Frame
  have hc := crcN_lt (bl s)
  have hfin : ∀ H', Fr [] H H' → chk (decide (ByteArray.size (⟨(textL s).toArray⟩ : ByteArray) + ByteArray.size (⟨[UInt8.ofNat (crcN (bl s) / 256), UInt8.ofNat (crcN (bl s) % 256)].toArray⟩ : ByteArray) ≤ 9223372036854775807)) (∃ s_1, Value.string ((⟨(textL s).toArray⟩ : ByteArray) ++ ⟨[UInt8.ofNat (crcN (bl s) / 256), UInt8.ofNat (crcN (bl s) % 256)].toArray⟩) = .string s_1 ∧ K s_1 H') := fun H' hf => by
    have h1 := uintL_len10 (n := s.size) (by omega)
    have h2 : (textL s).length ≤ 10 + s.size := by unfold textL; rw [List.length_append, bl_len]; omega
    refine chk_true (decide_eq_true ?_) ⟨_, rfl, ?_⟩
    · rw [size_mk (textL s), size_mk [UInt8.ofNat (crcN (bl s) / 256), UInt8.ofNat (crcN (bl s) % 256)]]
      simp only [List.length_cons, List.length_nil]
      omega
    · rw [app_mk (textL s)]
      exact hk H' hf
  refine rCrc_ok hs ⟨?_, fun b H2 hn2 => ?_⟩
  · refine rText_ok (by omega) fun H2 f2 b H3 hn3 => ?_
    refine cv_bs bT.sl bT.str (by kernel_rfl) (sl_by _ hn3 (two_bytes' hc)) ?_
    exact hfin H3 (f2.keep0 hn3.fr)
  · have hsl := sl_by _ hn2 (two_bytes' hc)
    refine ⟨rText_ok (by omega) fun H3 f3 => ?_, ?_⟩
    · refine cv_bs bT.sl bT.str (by kernel_rfl) (hsl.keep f3) ?_
      exact hfin H3 (hn2.fr.keep0 f3)
    · refine cv_bs bT.sl bT.str (by kernel_rfl) hsl ?_
      refine rText_ok (by omega) fun H3 f3 => ?_
      exact hfin H3 (hn2.fr.keep0 f3)
end Go.Proofs
set_option linter.unusedVariables false
set_option maxRecDepth 100000
open Go Go.GV
namespace Go.Proofs

theorem frame_eq {s t : ByteArray} {x y : List UInt8} (h : frameL s ++ x = frameL t ++ y) : s = t ∧ x = y := by
  unfold frameL at h
  rw [List.append_assoc, List.append_assoc] at h
  obtain ⟨h1, h2⟩ := text_eq h
  subst h1
  exact ⟨rfl, List.append_cancel_left h2⟩
open Classical in
noncomputable def gF (r : List UInt8) : Option (ByteArray × List UInt8) :=
  if h : ∃ p : ByteArray × List UInt8, p.1.size < 18446744073709551616 ∧ r = frameL p.1 ++ p.2 then some (Classical.choose h) else none
theorem gF_of {r t : List UInt8} {s : ByteArray} (hn : s.size < 18446744073709551616) (h : r = frameL s ++ t) : gF r = some (s, t) := by
  have hx : ∃ p : ByteArray × List UInt8, p.1.size < 18446744073709551616 ∧ r = frameL p.1 ++ p.2 := ⟨(s, t), hn, h⟩
  unfold gF
  rw [dif_pos hx]
  have hc := Classical.choose_spec hx
  have := frame_eq (h.symm.trans hc.2)
  rw [Option.some.injEq]
  exact Prod.ext this.1.symm this.2.symm
theorem gF_none {r : List UInt8} (h : ∀ s x, s.size < 18446744073709551616 → r ≠ frameL s ++ x) : gF r = none := by
  unfold gF
  rw [dif_neg]
  rintro ⟨p, h1, h2⟩
  exact h p.1 p.2 h1 h2
theorem gF_some {r : List UInt8} {p : ByteArray × List UInt8} (h : gF r = some p) : r = frameL p.1 ++ p.2 := by
  unfold gF at h
  split at h
  · rename_i hx
    have hc := Classical.choose_spec hx
    rw [Option.some.injEq] at h
    rw [h] at hc
    exact hc.2
  · cases h
noncomputable def scanF : Nat → List UInt8 → List ByteArray × List UInt8
  | 0, r => ([], r)
  | f + 1, r => match gF r with
    | some p => (p.1 :: (scanF f p.2).1, (scanF f p.2).2)
    | none => ([], r)
noncomputable def scanA (r : List UInt8) : List ByteArray × List UInt8 := scanF (r.length + 1) r
theorem scanF_some {r : List UInt8} {p : ByteArray × List UInt8} (h : gF r = some p) (f : Nat) : scanF (f + 1) r = (p.1 :: (scanF f p.2).1, (scanF f p.2).2) := by rw [scanF, h]
theorem scanF_none {r : List UInt8} (h : gF r = none) (f : Nat) : scanF f r = ([], r) := by
  cases f with
  | zero => rfl
  | succ f => rw [scanF, h]
structure ScanS (s : ByteArray) (M : List ByteArray) (a : Nat) : Prop where
  le : a ≤ s.size
  len : M.length ≤ a
  out : ∃ f, s.size - a < f ∧ scanA (bl s) = (M ++ (scanF f ((bl s).drop a)).1, (scanF f ((bl s).drop a)).2)
  sm : ∀ t ∈ M, t.size ≤ s.size
theorem ScanS.start (s : ByteArray) : ScanS s [] 0 := ⟨Nat.zero_le _, Nat.le_refl _, ⟨(bl s).length + 1, by rw [bl_len]; omega, by rw [List.nil_append, List.drop_zero]; rfl⟩, by simp⟩
theorem ScanS.next {s : ByteArray} {M : List ByteArray} {a : Nat} {t : ByteArray} {x : List UInt8} (h : ScanS s M a) (ht : t.size < 18446744073709551616) (hr : (bl s).drop a = frameL t ++ x) : ScanS s (M ++ [t]) (a + (textL t).length + 2) := by
  have hl := congrArg List.length hr
  rw [List.length_drop, bl_len, List.length_append, frameL_len] at hl
  have hx : (bl s).drop (a + (textL t).length + 2) = x := by
    rw [show a + (textL t).length + 2 = a + (frameL t).length by rw [frameL_len]; omega, ← List.drop_drop, hr]
    simp
  have hts : t.size ≤ (textL t).length := by unfold textL; rw [List.length_append, bl_len]; omega
  obtain ⟨f, hf, ho⟩ := h.out
  refine ⟨by have := h.le; omega, by have := h.len; simp; omega, ⟨f - 1, by omega, ?_⟩, fun y hy => ?_⟩
  · obtain ⟨g, rfl⟩ : ∃ g, f = g + 1 := ⟨f - 1, by omega⟩
    rw [scanF_some (gF_of ht hr)] at ho
    rw [hx, ho]
    simp
  · rcases List.mem_append.1 hy with hy | hy
    · exact h.sm y hy
    · rw [List.mem_singleton.1 hy]; omega
theorem ScanS.stop {s : ByteArray} {M : List ByteArray} {a : Nat} (h : ScanS s M a) (hn : gF ((bl s).drop a) = none) : scanA (bl s) = (M, (bl s).drop a) := by
  obtain ⟨f, hf, ho⟩ := h.out
  rw [ho, scanF_none hn]
  simp
theorem gF_text {r : List UInt8} {a : Nat} {t : ByteArray} {next e : Int} (h : GT r a t next e) (hr : r.length < 18446744073709551616) : (e ≠ 0 ∧ gF r = none) ∨ (e = 0 ∧ next = ((a + (textL t).length : Nat) : Int) ∧ t.size < 18446744073709551616 ∧ (textL t).length ≤ r.length ∧ r = textL t ++ r.drop (textL t).length ∧ ∀ p, gF r = some p → p.1 = t ∧ r = frameL t ++ p.2) := by
  rcases h with ⟨h1, h2, h3, h4⟩ | ⟨_, _, h3, h4⟩ | ⟨_, _, h3, _, h4⟩
  · have hsz := size64 h2
    refine .inr ⟨h4, h3, by omega, h2, h1, fun p hp => ?_⟩
    have hq := gF_some hp
    have := hq
    unfold frameL at this
    rw [List.append_assoc] at this
    have := (text_eq (h1.symm.trans this)).1
    exact ⟨this.symm, by rw [this]; exact hq⟩
  · refine .inl ⟨by omega, gF_none fun s x hs e => ?_⟩
    unfold frameL at e
    rw [List.append_assoc] at e
    exact h4.no s hs e
  · refine .inl ⟨by omega, gF_none fun s x hs e => ?_⟩
    unfold frameL textL at e
    rw [List.append_assoc, List.append_assoc] at e
    exact h4 s.size hs _ e
theorem or_val {a b : Nat} (ha : a < 256) (hb : b < 256) : IntKind.i64.wrap ((BitVec.toNat (BitVec.ofInt 64 (IntKind.i64.wrap (IntKind.i64.wrap (a : Int) * 2 ^ 8)) ||| BitVec.ofInt 64 (IntKind.i64.wrap (b : Int))) : Nat) : Int) = ((a * 256 + b : Nat) : Int) := by
  rw [wrap64_of (n := (a : Int)) (by omega) (by omega), show ((2 : Int) ^ 8) = 256 by rfl, wrap64_of (n := (a : Int) * 256) (by omega) (by omega), wrap64_of (n := (b : Int)) (by omega) (by omega), show (a : Int) * 256 = ((a * 256 : Nat) : Int) by omega]
  simp only [BitVec.toNat_or, BitVec.ofInt_natCast, BitVec.toNat_ofNat]
  rw [Nat.mod_eq_of_lt (by omega), Nat.mod_eq_of_lt (by omega)]
  have := Nat.shiftLeft_add_eq_or_of_lt (i := 8) (b := b) hb a
  rw [Nat.shiftLeft_eq] at this
  rw [← this]
  exact wrap64_of (by omega) (by omega)
theorem Scan_ok {s : ByteArray} {H : Heap} {K : Option Addr → Nat → Nat → Int → Heap → Prop} (hT : TabH H) (hs : s.size ≤ 1000000000)
    (hk : ∀ M (a : Nat) o n c H', a ≤ s.size → scanA (bl s) = (M, (bl s).drop a) → (∀ t ∈ M, t.size ≤ s.size) → Own GV.encStr 9 H.size H' o n c M → Fr [] H H' → K o n c a H') :
    CallH Tryz.prog fn_frame_Scan ⟨[.string s]⟩ H fun v H' => ∃ o n c i, v = .tuple ⟨[.slice o n c, .int .i64 i]⟩ ∧ K o n c i H' := by
  apply vc_frame_Scan
  have hbl := bl_len s
  refine ⟨fun vs H' => match vs with | [.slice o n c, .int _ i] => ∃ (M : List ByteArray) (a : Nat), i = a ∧ ScanS s M a ∧ Own GV.encStr 9 H.size H' o n c M ∧ Fr [] H H' | _ => False,
    fun vs _ => match vs with | [_, .int _ i] => s.size - i.toNat | _ => 0, ⟨[], 0, rfl, ScanS.start s, ⟨rfl, .inl ⟨rfl, rfl, rfl⟩⟩, Fr.refl _ _⟩, ?_⟩
  rintro J o n c i H1 ⟨M, a, rfl, hS, ho, hf⟩
  have hal := hS.le
  refine GetText_ok (by omega) (fun h => absurd ⟨by omega, by omega⟩ h) fun a' ea ha' t next e H2 hg hf2 => ?_
  have ea : a' = a := by omega
  subst ea
  have hdl : ((bl s).drop a').length = s.size - a' := by rw [List.length_drop, hbl]
  have ho2 := ho.keep hf2
  have f2 := hf.keep0 hf2
  have hT2 := hT.keep f2
  have stop : gF ((bl s).drop a') = none → ∀ H', Fr [] H2 H' → ∃ o_1 n_1 c_1 i, Value.tuple ⟨[.slice o n c, .int .i64 a']⟩ = .tuple ⟨[.slice o_1 n_1 c_1, .int .i64 i]⟩ ∧ K o_1 n_1 c_1 i H' := fun hn H' hf' => ⟨_, _, _, _, rfl, hk M a' _ _ _ H' hal (hS.stop hn) hS.sm (ho2.keep hf') (f2.keep0 hf')⟩
  refine ⟨fun _ H' => e = 0 ∧ (∃ x, (bl s).drop a' = frameL t ++ x) ∧ t.size < 18446744073709551616 ∧ next = ((a' + (textL t).length : Nat) : Int) ∧ Fr [] H2 H', ⟨fun vs H' => match vs with | [.bool b] => Fr [] H2 H' ∧ ((b = true ∧ gF ((bl s).drop a') = none) ∨ (b = false ∧ e = 0 ∧ (∃ x, (bl s).drop a' = frameL t ++ x) ∧ t.size < 18446744073709551616 ∧ next = ((a' + (textL t).length : Nat) : Int))) | _ => False, ?_, ?_⟩, ?_⟩
  · rcases gF_text hg (by omega) with ⟨h1, h2⟩ | ⟨h1, h2, h3, h4, h5, h6⟩
    · exact brB_of (fun _ => ⟨Fr.refl _ _, .inl ⟨rfl, h2⟩⟩) (fun h => absurd (by simpa using h) h1)
    · subst h1 h2
      refine brB_of (fun h => by simp at h) fun _ => ?_
      have hle : a' + (textL t).length ≤ s.size := by omega
      rw [wrap64_of (n := (s.size : Int) - ((a' + (textL t).length : Nat) : Int)) (by omega) (by omega)]
      have hno : ∀ p, gF ((bl s).drop a') = some p → (textL t).length + 2 ≤ s.size - a' := fun p hp => by
        have := congrArg List.length (h6 p hp).2
        rw [List.length_append, frameL_len] at this
        omega
      refine brB_of (fun h => ?_) (fun h => ?_)
      · refine ⟨Fr.refl _ _, .inl ⟨rfl, ?_⟩⟩
        cases hp : gF ((bl s).drop a') with
        | none => rfl
        | some p => have := hno p hp; simp at h; omega
      · have hlt : a' + (textL t).length + 2 ≤ s.size := by simp at h; omega
        rw [wrap64_of (n := ((a' + (textL t).length : Nat) : Int) + 1) (by omega) (by omega)]
        refine chk_true (decide_eq_true (by omega)) (chk_true (decide_eq_true (by omega)) ?_)
        refine Crc_ok hT2 (by have := size64 h4; omega) fun H3 hf3 => ?_
        obtain ⟨b1, hb1⟩ := getElem_ex (l := bl s) (i := a' + (textL t).length) (by omega)
        obtain ⟨b2, hb2⟩ := getElem_ex (l := bl s) (i := a' + (textL t).length + 1) (by omega)
        have at1 : atB s (((a' + (textL t).length : Nat) : Int).toNat) = b1.toNat := atB_of (by rw [bl_get]; exact hb1)
        have at2 : atB s ((((a' + (textL t).length : Nat) : Int) + 1).toNat) = b2.toNat := atB_of (by rw [bl_get, show (((a' + (textL t).length : Nat) : Int) + 1).toNat = a' + (textL t).length + 1 by omega]; exact hb2)
        rw [at1, at2, or_val (UInt8.toNat_lt _) (UInt8.toNat_lt _)]
        have hcl := crcN_lt (bl t)
        have hb1l : b1.toNat < 256 := UInt8.toNat_lt _
        have hb2l : b2.toNat < 256 := UInt8.toNat_lt _
        have hdrop : ((bl s).drop a').drop (textL t).length = b1 :: b2 :: (bl s).drop (a' + (textL t).length + 2) := by
          rw [List.drop_drop]
          have e1 : (bl s).drop (a' + (textL t).length) = b1 :: (bl s).drop (a' + (textL t).length + 1) := by
            obtain ⟨q1, q2⟩ := List.getElem?_eq_some_iff.1 hb1
            rw [List.drop_eq_getElem_cons q1, q2]
          have e2 : (bl s).drop (a' + (textL t).length + 1) = b2 :: (bl s).drop (a' + (textL t).length + 2) := by
            obtain ⟨q1, q2⟩ := List.getElem?_eq_some_iff.1 hb2
            rw [List.drop_eq_getElem_cons q1, q2]
          rw [e1, e2]
        refine ⟨hf3, ?_⟩
        by_cases hx : b1.toNat * 256 + b2.toNat = crcN (bl t)
        · right
          rw [hx]
          refine ⟨by simp, rfl, ⟨(bl s).drop (a' + (textL t).length + 2), ?_⟩, h3, rfl⟩
          rw [h5, hdrop]
          unfold frameL
          have q1 : UInt8.ofNat (crcN (bl t) / 256) = b1 := by
            rw [show crcN (bl t) / 256 = b1.toNat by omega]; exact UInt8.ofNat_toNat
          have q2 : UInt8.ofNat (crcN (bl t) % 256) = b2 := by
            rw [show crcN (bl t) % 256 = b2.toNat by omega]; exact UInt8.ofNat_toNat
          rw [q1, q2]
          simp
        · left
          have : ¬ ((b1.toNat * 256 + b2.toNat : Nat) : Int) = ((crcN (bl t) : Nat) : Int) := by omega
          refine ⟨by simpa using this, ?_⟩
          cases hp : gF ((bl s).drop a') with
          | none => rfl
          | some p =>
            exfalso
            have hq := (h6 p hp).2
            rw [hq] at hdrop
            unfold frameL at hdrop
            rw [List.append_assoc, List.drop_left] at hdrop
            simp only [List.cons_append, List.nil_append, List.cons.injEq] at hdrop
            apply hx
            rw [← hdrop.1, ← hdrop.2.1, UInt8.toNat_ofNat', UInt8.toNat_ofNat']
            omega
  · rintro J2 b H3 ⟨hf3, ⟨rfl, hn⟩ | ⟨rfl, h1, h2, h3, h4⟩⟩
    · exact brB_of (fun _ => stop hn H3 hf3) (fun h => by cases h)
    · exact brB_of (fun h => by cases h) (fun _ => ⟨h1, h2, h3, h4, hf3⟩)
  · rintro J2 H3 ⟨rfl, ⟨x, hx⟩, ht, rfl, hf3⟩ b H4 hn4
    have hS2 := hS.next ht hx
    have hnl := ho.1
    have hml := hS.len
    have h3 := hS2.le
    refine ap_own (E := GV.encStr) (bytes := 16) slice41 elem9 ((ho2.keep hf3).keep hn4.fr) ((f2.keep0 hf3).keep0 hn4.fr) (sl_one GV.encStr t hn4 rfl) (by omega) fun o' n' c' H5 ho5 hf5 _ => ⟨⟨M ++ [t], _, ?_, hS2, ho5, hf5⟩, ?_⟩
    · exact wrap64_of (by omega) (by omega)
    · show s.size - (IntKind.i64.wrap (((a' + (textL t).length : Nat) : Int) + 2)).toNat < s.size - ((a' : Nat) : Int).toNat
      rw [wrap64_of (by omega) (by omega)]
      omega
end Go.Proofs
