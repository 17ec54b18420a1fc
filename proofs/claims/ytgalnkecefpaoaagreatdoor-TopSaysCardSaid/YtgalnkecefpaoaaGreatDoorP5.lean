/- Part of a proof. -/
import Derived.Test.YtgalnkecefpaoaaGreatDoorP4
import Derived.Sort.OwnSorted
import Derived.Shelf.SortM.Plain
import Derived.Shelf.SortM.SortNone
import Derived.Shelf.SlGeneric
import Derived.Ground.SlgmProg
import Derived.Test.YtgalnkecefpaoaaGreatDoorProg
import Derived.Sort.OwnSortedInts
import Derived.Lib.ItoaLen
import Derived.Shelf.Strconv.AtoiInnerAll
import Derived.Shelf.Strconv.Itoa3
import Derived.Shelf.Strings.LastIndex
import Derived.Shelf.Small.Wraps
import Derived.Ground.NamesProg
import Derived.Below
import Derived.Lib.AtoiErrMem
import Derived.Shelf.Strings.Prefix
import Derived.Shelf.Strings.Cut
set_option linter.unusedVariables false
set_option linter.unusedSimpArgs false
set_option maxRecDepth 100000
open Go Go.GV
namespace Go.Proofs
theorem frame_eq {s t : ByteArray} {x y : List UInt8} (h : frameL s ++ x = frameL t ++ y) : s = t ∧ x = y := by
  unfold frameL at h
  rw [List.append_assoc, List.append_assoc] at h
  obtain ⟨h1, h2⟩ := text_eq h
  subst h1
  exact ⟨rfl, List.append_cancel_left h2⟩
open Classical in
noncomputable def gF (r : List UInt8) : Option (ByteArray × List UInt8) :=
  if h : ∃ p : ByteArray × List UInt8, p.1.size < 18446744073709551616 ∧ r = frameL p.1 ++ p.2 then some (Classical.choose h) else none
theorem gF_of {r t : List UInt8} {s : ByteArray} (hn : s.size < 18446744073709551616) (h : r = frameL s ++ t) : gF r = some (s, t) := by
  have hx : ∃ p : ByteArray × List UInt8, p.1.size < 18446744073709551616 ∧ r = frameL p.1 ++ p.2 := ⟨(s, t), hn, h⟩
  unfold gF
  rw [dif_pos hx]
  have hc := Classical.choose_spec hx
  have := frame_eq (h.symm.trans hc.2)
  rw [Option.some.injEq]
  exact Prod.ext this.1.symm this.2.symm
theorem gF_none {r : List UInt8} (h : ∀ s x, s.size < 18446744073709551616 → r ≠ frameL s ++ x) : gF r = none := by
  unfold gF
  rw [dif_neg]
  rintro ⟨p, h1, h2⟩
  exact h p.1 p.2 h1 h2
theorem gF_some {r : List UInt8} {p : ByteArray × List UInt8} (h : gF r = some p) : r = frameL p.1 ++ p.2 := by
  unfold gF at h
  split at h
  · rename_i hx
    have hc := Classical.choose_spec hx
    rw [Option.some.injEq] at h
    rw [h] at hc
    exact hc.2
  · cases h
noncomputable def scanF : Nat → List UInt8 → List ByteArray × List UInt8
  | 0, r => ([], r)
  | f + 1, r => match gF r with
    | some p => (p.1 :: (scanF f p.2).1, (scanF f p.2).2)
    | none => ([], r)
noncomputable def scanA (r : List UInt8) : List ByteArray × List UInt8 := scanF (r.length + 1) r
theorem scanF_some {r : List UInt8} {p : ByteArray × List UInt8} (h : gF r = some p) (f : Nat) : scanF (f + 1) r = (p.1 :: (scanF f p.2).1, (scanF f p.2).2) := by rw [scanF, h]
theorem scanF_none {r : List UInt8} (h : gF r = none) (f : Nat) : scanF f r = ([], r) := by
  cases f with
  | zero => rfl
  | succ f => rw [scanF, h]
structure ScanS (s : ByteArray) (M : List ByteArray) (a : Nat) : Prop where
  le : a ≤ s.size
  len : M.length ≤ a
  out : ∃ f, s.size - a < f ∧ scanA (bl s) = (M ++ (scanF f ((bl s).drop a)).1, (scanF f ((bl s).drop a)).2)
  sm : ∀ t ∈ M, t.size ≤ s.size
theorem ScanS.start (s : ByteArray) : ScanS s [] 0 := ⟨Nat.zero_le _, Nat.le_refl _, ⟨(bl s).length + 1, by rw [bl_len]; omega, by rw [List.nil_append, List.drop_zero]; rfl⟩, by simp⟩
theorem ScanS.next {s : ByteArray} {M : List ByteArray} {a : Nat} {t : ByteArray} {x : List UInt8} (h : ScanS s M a) (ht : t.size < 18446744073709551616) (hr : (bl s).drop a = frameL t ++ x) : ScanS s (M ++ [t]) (a + (textL t).length + 2) := by
  have hl := congrArg List.length hr
  rw [List.length_drop, bl_len, List.length_append, frameL_len] at hl
  have hx : (bl s).drop (a + (textL t).length + 2) = x := by
    rw [show a + (textL t).length + 2 = a + (frameL t).length by rw [frameL_len]; omega, ← List.drop_drop, hr]
    simp
  have hts : t.size ≤ (textL t).length := by unfold textL; rw [List.length_append, bl_len]; omega
  obtain ⟨f, hf, ho⟩ := h.out
  refine ⟨by have := h.le; omega, by have := h.len; simp; omega, ⟨f - 1, by omega, ?_⟩, fun y hy => ?_⟩
  · obtain ⟨g, rfl⟩ : ∃ g, f = g + 1 := ⟨f - 1, by omega⟩
    rw [scanF_some (gF_of ht hr)] at ho
    rw [hx, ho]
    simp
  · rcases List.mem_append.1 hy with hy | hy
    · exact h.sm y hy
    · rw [List.mem_singleton.1 hy]; omega
theorem ScanS.stop {s : ByteArray} {M : List ByteArray} {a : Nat} (h : ScanS s M a) (hn : gF ((bl s).drop a) = none) : scanA (bl s) = (M, (bl s).drop a) := by
  obtain ⟨f, hf, ho⟩ := h.out
  rw [ho, scanF_none hn]
  simp
theorem gF_text {r : List UInt8} {a : Nat} {t : ByteArray} {next e : Int} (h : GT r a t next e) (hr : r.length < 18446744073709551616) : (e ≠ 0 ∧ gF r = none) ∨ (e = 0 ∧ next = ((a + (textL t).length : Nat) : Int) ∧ t.size < 18446744073709551616 ∧ (textL t).length ≤ r.length ∧ r = textL t ++ r.drop (textL t).length ∧ ∀ p, gF r = some p → p.1 = t ∧ r = frameL t ++ p.2) := by
  rcases h with ⟨h1, h2, h3, h4⟩ | ⟨_, _, h3, h4⟩ | ⟨_, _, h3, _, h4⟩
  · have hsz := size64 h2
    refine .inr ⟨h4, h3, by omega, h2, h1, fun p hp => ?_⟩
    have hq := gF_some hp
    have := hq
    unfold frameL at this
    rw [List.append_assoc] at this
    have := (text_eq (h1.symm.trans this)).1
    exact ⟨this.symm, by rw [this]; exact hq⟩
  · refine .inl ⟨by omega, gF_none fun s x hs e => ?_⟩
    unfold frameL at e
    rw [List.append_assoc] at e
    exact h4.no s hs e
  · refine .inl ⟨by omega, gF_none fun s x hs e => ?_⟩
    unfold frameL textL at e
    rw [List.append_assoc, List.append_assoc] at e
    exact h4 s.size hs _ e
theorem or_val {a b : Nat} (ha : a < 256) (hb : b < 256) : IntKind.i64.wrap ((BitVec.toNat (BitVec.ofInt 64 (IntKind.i64.wrap (IntKind.i64.wrap (a : Int) * 2 ^ 8)) ||| BitVec.ofInt 64 (IntKind.i64.wrap (b : Int))) : Nat) : Int) = ((a * 256 + b : Nat) : Int) := by
  rw [wrap64_of (n := (a : Int)) (by omega) (by omega), show ((2 : Int) ^ 8) = 256 by rfl, wrap64_of (n := (a : Int) * 256) (by omega) (by omega), wrap64_of (n := (b : Int)) (by omega) (by omega), show (a : Int) * 256 = ((a * 256 : Nat) : Int) by omega]
  simp only [BitVec.toNat_or, BitVec.ofInt_natCast, BitVec.toNat_ofNat]
  rw [Nat.mod_eq_of_lt (by omega), Nat.mod_eq_of_lt (by omega)]
  have := Nat.shiftLeft_add_eq_or_of_lt (i := 8) (b := b) hb a
  rw [Nat.shiftLeft_eq] at this
  rw [← this]
  exact wrap64_of (by omega) (by omega)
theorem Scan_ok {s : ByteArray} {H : Heap} {K : Option Addr → Nat → Nat → Int → Heap → Prop} (hT : TabH H) (hs : s.size ≤ 1000000000)
    (hk : ∀ M (a : Nat) o n c H', a ≤ s.size → scanA (bl s) = (M, (bl s).drop a) → (∀ t ∈ M, t.size ≤ s.size) → Own GV.encStr 9 H.size H' o n c M → Fr [] H H' → K o n c a H') :
    CallH Tryz.prog fn_frame_Scan ⟨[.string s]⟩ H fun v H' => ∃ o n c i, v = .tuple ⟨[.slice o n c, .int .i64 i]⟩ ∧ K o n c i H' := by
  apply vc_frame_Scan
  have hbl := bl_len s
  refine ⟨fun vs H' => match vs with | [.slice o n c, .int _ i] => ∃ (M : List ByteArray) (a : Nat), i = a ∧ ScanS s M a ∧ Own GV.encStr 9 H.size H' o n c M ∧ Fr [] H H' | _ => False,
    fun vs _ => match vs with | [_, .int _ i] => s.size - i.toNat | _ => 0, ⟨[], 0, rfl, ScanS.start s, ⟨rfl, .inl ⟨rfl, rfl, rfl⟩⟩, Fr.refl _ _⟩, ?_⟩
  rintro J o n c i H1 ⟨M, a, rfl, hS, ho, hf⟩
  have hal := hS.le
  refine GetText_ok (by omega) (fun h => absurd ⟨by omega, by omega⟩ h) fun a' ea ha' t next e H2 hg hf2 => ?_
  have ea : a' = a := by omega
  subst ea
  have hdl : ((bl s).drop a').length = s.size - a' := by rw [List.length_drop, hbl]
  have ho2 := ho.keep hf2
  have f2 := hf.keep0 hf2
  have hT2 := hT.keep f2
  have stop : gF ((bl s).drop a') = none → ∀ H', Fr [] H2 H' → ∃ o_1 n_1 c_1 i, Value.tuple ⟨[.slice o n c, .int .i64 a']⟩ = .tuple ⟨[.slice o_1 n_1 c_1, .int .i64 i]⟩ ∧ K o_1 n_1 c_1 i H' := fun hn H' hf' => ⟨_, _, _, _, rfl, hk M a' _ _ _ H' hal (hS.stop hn) hS.sm (ho2.keep hf') (f2.keep0 hf')⟩
  refine ⟨fun _ H' => e = 0 ∧ (∃ x, (bl s).drop a' = frameL t ++ x) ∧ t.size < 18446744073709551616 ∧ next = ((a' + (textL t).length : Nat) : Int) ∧ Fr [] H2 H', ⟨fun vs H' => match vs with | [.bool b] => Fr [] H2 H' ∧ ((b = true ∧ gF ((bl s).drop a') = none) ∨ (b = false ∧ e = 0 ∧ (∃ x, (bl s).drop a' = frameL t ++ x) ∧ t.size < 18446744073709551616 ∧ next = ((a' + (textL t).length : Nat) : Int))) | _ => False, ?_, ?_⟩, ?_⟩
  · rcases gF_text hg (by omega) with ⟨h1, h2⟩ | ⟨h1, h2, h3, h4, h5, h6⟩
    · exact brB_of (fun _ => ⟨Fr.refl _ _, .inl ⟨rfl, h2⟩⟩) (fun h => absurd (by simpa using h) h1)
    · subst h1 h2
      refine brB_of (fun h => by simp at h) fun _ => ?_
      have hle : a' + (textL t).length ≤ s.size := by omega
      rw [wrap64_of (n := (s.size : Int) - ((a' + (textL t).length : Nat) : Int)) (by omega) (by omega)]
      have hno : ∀ p, gF ((bl s).drop a') = some p → (textL t).length + 2 ≤ s.size - a' := fun p hp => by
        have := congrArg List.length (h6 p hp).2
        rw [List.length_append, frameL_len] at this
        omega
      refine brB_of (fun h => ?_) (fun h => ?_)
      · refine ⟨Fr.refl _ _, .inl ⟨rfl, ?_⟩⟩
        cases hp : gF ((bl s).drop a') with
        | none => rfl
        | some p => have := hno p hp; simp at h; omega
      · have hlt : a' + (textL t).length + 2 ≤ s.size := by simp at h; omega
        rw [wrap64_of (n := ((a' + (textL t).length : Nat) : Int) + 1) (by omega) (by omega)]
        refine chk_true (decide_eq_true (by omega)) (chk_true (decide_eq_true (by omega)) ?_)
        refine Crc_ok hT2 (by have := size64 h4; omega) fun H3 hf3 => ?_
        obtain ⟨b1, hb1⟩ := getElem_ex (l := bl s) (i := a' + (textL t).length) (by omega)
        obtain ⟨b2, hb2⟩ := getElem_ex (l := bl s) (i := a' + (textL t).length + 1) (by omega)
        have at1 : atB s (((a' + (textL t).length : Nat) : Int).toNat) = b1.toNat := atB_of (by rw [bl_get]; exact hb1)
        have at2 : atB s ((((a' + (textL t).length : Nat) : Int) + 1).toNat) = b2.toNat := atB_of (by rw [bl_get, show (((a' + (textL t).length : Nat) : Int) + 1).toNat = a' + (textL t).length + 1 by omega]; exact hb2)
        rw [at1, at2, or_val (UInt8.toNat_lt _) (UInt8.toNat_lt _)]
        have hcl := crcN_lt (bl t)
        have hb1l : b1.toNat < 256 := UInt8.toNat_lt _
        have hb2l : b2.toNat < 256 := UInt8.toNat_lt _
        have hdrop : ((bl s).drop a').drop (textL t).length = b1 :: b2 :: (bl s).drop (a' + (textL t).length + 2) := by
          rw [List.drop_drop]
          have e1 : (bl s).drop (a' + (textL t).length) = b1 :: (bl s).drop (a' + (textL t).length + 1) := by
            obtain ⟨q1, q2⟩ := List.getElem?_eq_some_iff.1 hb1
            rw [List.drop_eq_getElem_cons q1, q2]
          have e2 : (bl s).drop (a' + (textL t).length + 1) = b2 :: (bl s).drop (a' + (textL t).length + 2) := by
            obtain ⟨q1, q2⟩ := List.getElem?_eq_some_iff.1 hb2
            rw [List.drop_eq_getElem_cons q1, q2]
          rw [e1, e2]
        refine ⟨hf3, ?_⟩
        by_cases hx : b1.toNat * 256 + b2.toNat = crcN (bl t)
        · right
          rw [hx]
          refine ⟨by simp, rfl, ⟨(bl s).drop (a' + (textL t).length + 2), ?_⟩, h3, rfl⟩
          rw [h5, hdrop]
          unfold frameL
          have q1 : UInt8.ofNat (crcN (bl t) / 256) = b1 := by
            rw [show crcN (bl t) / 256 = b1.toNat by omega]; exact UInt8.ofNat_toNat
          have q2 : UInt8.ofNat (crcN (bl t) % 256) = b2 := by
            rw [show crcN (bl t) % 256 = b2.toNat by omega]; exact UInt8.ofNat_toNat
          rw [q1, q2]
          simp
        · left
          have : ¬ ((b1.toNat * 256 + b2.toNat : Nat) : Int) = ((crcN (bl t) : Nat) : Int) := by omega
          refine ⟨by simpa using this, ?_⟩
          cases hp : gF ((bl s).drop a') with
          | none => rfl
          | some p =>
            exfalso
            have hq := (h6 p hp).2
            rw [hq] at hdrop
            unfold frameL at hdrop
            rw [List.append_assoc, List.drop_left] at hdrop
            simp only [List.cons_append, List.nil_append, List.cons.injEq] at hdrop
            apply hx
            rw [← hdrop.1, ← hdrop.2.1, UInt8.toNat_ofNat', UInt8.toNat_ofNat']
            omega
  · rintro J2 b H3 ⟨hf3, ⟨rfl, hn⟩ | ⟨rfl, h1, h2, h3, h4⟩⟩
    · exact brB_of (fun _ => stop hn H3 hf3) (fun h => by cases h)
    · exact brB_of (fun h => by cases h) (fun _ => ⟨h1, h2, h3, h4, hf3⟩)
  · rintro J2 H3 ⟨rfl, ⟨x, hx⟩, ht, rfl, hf3⟩ b H4 hn4
    have hS2 := hS.next ht hx
    have hnl := ho.1
    have hml := hS.len
    have h3 := hS2.le
    refine ap_own (E := GV.encStr) (bytes := 16) Fs.slice41 elem9 ((ho2.keep hf3).keep hn4.fr) ((f2.keep0 hf3).keep0 hn4.fr) (sl_one GV.encStr t hn4 rfl) (by omega) fun o' n' c' H5 ho5 hf5 _ => ⟨⟨M ++ [t], _, ?_, hS2, ho5, hf5⟩, ?_⟩
    · exact wrap64_of (by omega) (by omega)
    · show s.size - (IntKind.i64.wrap (((a' + (textL t).length : Nat) : Int) + 2)).toNat < s.size - ((a' : Nat) : Int).toNat
      rw [wrap64_of (by omega) (by omega)]
      omega
theorem vc_strconv_Atoi (s : ByteArray) (H : Heap) (R : Value → Heap → Prop) (h : cH 160 ⟨[.string s]⟩ H fun v H' => ∃ n v_1, v = .tuple ⟨[.int .i64 n, v_1]⟩ ∧ ∃ r, RdA Tryz.prog (eqSem BinOp.neq 173 (Operand.tmp 11) (Operand.const .nilIface) v_1 .nilIface) (.bool r) ∧ brB r (cV 161 [.string { data := #[(65 : UInt8), (116 : UInt8), (111 : UInt8), (105 : UInt8)] }, .string s, .int .i64 0, .int .i64 0, v_1] H' fun v_2 H' => R (.tuple ⟨[.int .i64 n, v_2]⟩) H') (R (.tuple ⟨[.int .i64 n, .nilIface]⟩) H')) : CallH Tryz.prog 82 (List.toArray [.string s]) H R := vc_call (annOf []) followsAll Tryz.func82 rfl Tryz.ntmps82 rfl rfl (Eq.mpr (by kernel_rfl) h)
abbrev fn_zig_GetInt : Nat := 252
theorem vc_zig_GetInt (s : ByteArray) (at' : Int) (H : Heap) (R : Value → Heap → Prop) (h : cH 33 ⟨[.string s, .int .i64 at']⟩ H fun v H' => ∃ n n_1 n_2, v = .tuple ⟨[.int .u64 n, .int .i64 n_1, .int .i64 n_2]⟩ ∧ cI 341 [.int .u64 n] H' fun n H' => R (.tuple ⟨[.int .i64 n, .int .i64 n_1, .int .i64 n_2]⟩) H') : CallH Tryz.prog 252 (List.toArray [.string s, .int .i64 at']) H R := vc_call (annOf []) followsAll Tryz.func252 rfl Tryz.ntmps252 rfl rfl (Eq.mpr (by kernel_rfl) h)
abbrev fn_zig_Unfold : Nat := 341
theorem vc_zig_Unfold (n : Int) (H : Heap) (R : Value → Heap → Prop) (h : R (.int .i64 (IntKind.wrap .i64 (↑(BitVec.toNat (BitVec.ofInt 64 (IntKind.wrap .i64 (Int.fdiv n (2 ^ 1))) ^^^ BitVec.ofInt 64 (IntKind.wrap .i64 (0 - IntKind.wrap .i64 (IntKind.wrap .u64 (↑(BitVec.toNat (BitVec.ofInt 64 n &&& BitVec.ofInt 64 1)) : Int)))))) : Int))) H) : CallH Tryz.prog 341 (List.toArray [.int .u64 n]) H R := vc_call (annOf []) followsAll Tryz.func341 rfl Tryz.ntmps341 rfl rfl (Eq.mpr (by kernel_rfl) h)
end Go.Proofs
namespace Go.Proofs.Sr
theorem Unfold_ok {n : Nat} {H : Heap} {K : Int → Heap → Prop} (hn : n < 18446744073709551616) (hk : K (unfoldN n) H) : CallH Tryz.prog fn_zig_Unfold ⟨[.int .u64 n]⟩ H fun w H' => ∃ v, w = .int .i64 v ∧ K v H' := by
  apply vc_zig_Unfold
  refine ⟨_, rfl, ?_⟩
  unfold unfoldN at hk
  have e1 : Int.fdiv (n : Int) (2 ^ 1) = ((n / 2 : Nat) : Int) := by rw [Int.fdiv_eq_ediv_of_nonneg _ (by decide)]; omega
  rw [e1, and_oneZ n hn, wrapU64 (n := ((n % 2 : Nat) : Int)) (by omega) (by omega), wrap64_of (n := ((n % 2 : Nat) : Int)) (by omega) (by omega), wrap64_of (n := ((n / 2 : Nat) : Int)) (by omega) (by omega)]
  by_cases h0 : n % 2 = 0
  · rw [if_pos h0] at hk
    rw [h0, wrap64_of (n := 0 - ((0 : Nat) : Int)) (by omega) (by omega)]
    show K (IntKind.i64.wrap ((BitVec.ofInt 64 ((n / 2 : Nat) : Int) ^^^ BitVec.ofInt 64 0).toNat : Nat)) H
    rw [xor_zero (by omega), wrap64_of (by omega) (by omega)]
    exact hk
  · rw [if_neg h0] at hk
    have e2 : n % 2 = 1 := by omega
    rw [e2, wrap64_of (n := 0 - ((1 : Nat) : Int)) (by omega) (by omega)]
    show K (IntKind.i64.wrap ((BitVec.ofInt 64 ((n / 2 : Nat) : Int) ^^^ BitVec.ofInt 64 (-1)).toNat : Nat)) H
    rw [xor_ones' (by omega), wrapI_big (by omega) (by omega)]
    have : ((18446744073709551615 - n / 2 : Nat) : Int) - 18446744073709551616 = -((n / 2 : Nat) : Int) - 1 := by omega
    rw [this]; exact hk
theorem GetInt_ok {s : ByteArray} {at' : Int} {H : Heap} {K : Int → Int → Int → Heap → Prop} (hs : s.size ≤ 100000000000) (hbad : ¬ (0 ≤ at' ∧ at' ≤ s.size) → K 0 0 1 H)
    (hk : ∀ a : Nat, at' = a → a ≤ s.size → ∀ (v : Nat) n e, GU ((bl s).drop a) a v n e → v < 18446744073709551616 → K (unfoldN v) n e H) :
    CallH Tryz.prog fn_zig_GetInt ⟨[.string s, .int .i64 at']⟩ H fun v H' => ∃ n m e, v = .tuple ⟨[.int .i64 n, .int .i64 m, .int .i64 e]⟩ ∧ K n m e H' := by
  apply vc_zig_GetInt
  refine GetUint_ok hs (fun h => ?_) fun a ea ha v n e hg => ?_
  · have := Unfold_ok (n := 0) (H := H) (K := fun w H' => K w 0 1 H') (by omega) (hbad h)
    exact this.mono fun v H' ⟨w, h1, h2⟩ => ⟨w, h1, _, _, _, rfl, h2⟩
  · obtain ⟨m, rfl, hm⟩ : ∃ m : Nat, v = m ∧ m < 18446744073709551616 := by
      rcases hg with ⟨m, h1, h2, _⟩ | ⟨h, _⟩ | ⟨h, _⟩
      · exact ⟨m, h1, h2⟩
      · exact ⟨0, h, by omega⟩
      · exact ⟨0, h, by omega⟩
    have := Unfold_ok (n := m) (H := H) (K := fun w H' => K w n e H') hm (hk a ea ha m n e hg hm)
    exact this.mono fun v H' ⟨w, h1, h2⟩ => ⟨w, h1, _, _, _, rfl, h2⟩
end Go.Proofs.Sr
namespace Go.GV
theorem Lp.fr {H H' : Heap} {l : Nat} {R0 : Loop} {st : LoopState} {j : Option Code} {T : List Nat} (h : Lp H l R0 st j) (hf : Fr T H H') (hn : l ∉ T) : Lp H' l R0 st j := hf.get h hn
theorem Lp.lt {H : Heap} {l : Nat} {R0 : Loop} {st : LoopState} {j : Option Code} (h : Lp H l R0 st j) : l < H.size := lt_of_get h
theorem setLp_fr (H : Heap) (l : Nat) (R0 : Loop) (st : LoopState) (j : Option Code) : Fr [l] H (setLp H l R0 st j) := set_fr H l _
theorem setLp_get {H : Heap} {l : Nat} {R0 : Loop} {st : LoopState} {j : Option Code} (h : l < H.size) : Lp (setLp H l R0 st j) l R0 st j := by
  simp [Lp, setLp, h]
theorem setLp_size (H : Heap) (l : Nat) (R0 : Loop) (st : LoopState) (j : Option Code) : (setLp H l R0 st j).size = H.size := by simp [setLp]
theorem Dq.fr {H H' : Heap} {D : Nat} {T : List Nat} (h : Dq H D) (hf : Fr T H H') (hn : D ∉ T) : Dq H' D := hf.get h hn
theorem shutD_fr (H : Heap) (D : Nat) : Fr [D] H (shutD H D) := set_fr H D _
theorem NewL.out {H H' : Heap} {D l : Nat} {R0 : Loop} (h : NewL H D l R0 H') : Fr [] H H' ∧ Lp H' l R0 .ready none ∧ Dq H' D ∧ D = H.size ∧ l = H.size + 1 ∧ H'.size = H.size + 2 := by
  obtain ⟨rfl, rfl, rfl⟩ := h
  refine ⟨(push_fr _ _).keep0 (push_fr _ _), ?_, ?_, rfl, rfl, by simp⟩
  · unfold Lp
    rw [show H.size + 1 = (H.push (.deferred (some []))).size by simp]
    exact Array.getElem?_push_size
  · simp [Dq, Array.getElem?_push]
def SeqOk {α : Type} (P : Program) (enc : α → Value) (seq : Value) (A F : List α → Prop) (Q : List Nat) (G : Heap → Prop) : Prop :=
  ∀ (l : Nat) (H : Heap) (I : List α → List Nat → Heap → Prop) (K : Heap → Prop) (S : List Nat), G H → In H S → Dj S Q → I [] S H →
    (∀ ys S H1 H2 T, I ys S H1 → Fr T H1 H2 → Dj S T → (∀ k ∈ T, H.size ≤ k) → I ys S H2) →
    (∀ ys x S H1, A (ys ++ [x]) → In H1 S → I ys S H1 → YieldH P l [enc x] H1 fun v H2 => v = .bool true ∧ ∃ S2, I (ys ++ [x]) S2 H2 ∧ Fr S H1 H2 ∧ Grow H1 S S2 ∧ In H2 S2) →
    (∀ xs S1 H1, F xs → I xs S1 H1 → In H1 S1 → Fr S H H1 → Grow H S S1 → K H1) →
    CallV P seq [.func (.yield l) #[] #[]] H fun v H' => v = .tuple ⟨[]⟩ ∧ K H'
structure ColI {α : Type} (E : Enc α) (t base : Nat) (l D b : Nat) (R0 : Loop) (H0 : Heap) (ys : List α) (S : List Nat) (H : Heap) : Prop where
  fr : Fr [] H0 H
  lp : Lp H l R0 .ready none
  dq : Dq H D
  it : ∃ a n c, Blk H ⟨b, 0, none⟩ [.slice a n c] ∧ Own E t base H a n c ys ∧ S = b :: l :: D :: blkL a ∧ b ∉ blkL a ∧ l ∉ blkL a ∧ D ∉ blkL a
  bl : b ≠ l
  bD : b ≠ D
  lD : l ≠ D
  lo : ∀ k ∈ S, H0.size ≤ k
theorem collect_loop {α : Type} {P : Program} {E : Enc α} {enc : α → Value} {ts t bytes : Nat} {seq : Value} {A F : List α → Prop} {Q : List Nat} {G : Heap → Prop} {H0 : Heap} {K : Option Addr → Nat → Nat → Heap → Prop}
    (hsl : sliceB P ts t = true) (hel : elemB P t E.sz bytes = true) (hab : aggB P ts = false) (hsz : szOf P ts = 1) (hinf : (P.info? ts).isSome = true) (henc : ∀ x, E.cells x = [enc x]) (hq : SeqOk P enc seq A F Q G)
    (hA : ∀ ys, A ys → ys.length * bytes ≤ 140737488355328) (hG : ∀ H', Fr [] H0 H' → G H') (hQ : ∀ k ∈ Q, k < H0.size)
    (hk : ∀ xs a n c H', F xs → Own E t H0.size H' a n c xs → Fr [] H0 H' → K a n c H') :
    ∀ (b : Nat) (H' : Heap), New H0 b (.cells ⟨[.slice none 0 0]⟩ ts) H' → ∀ (D l : Nat) (R0 : Loop) (H1 : Heap), NewL H' D l R0 H1 →
      (∀ (x : α) (H2 : Heap) (K2 : Value → Heap → Prop), Lp H2 l R0 .ready none →
        (Lp H2 l R0 .ready none ∧ ∃ a n c, Ld P ts (setLp H2 l R0 .busy none) ⟨b, 0, none⟩ (.slice a n c) ∧
          ∀ (b1 : Nat) (H' : Heap), New (setLp H2 l R0 .busy none) b1 (.cells ⟨[enc x]⟩ t) H' →
            SemWp P (Builtin.append_ ⟨[ts, ts]⟩ ts ⟨[.slice a n c, .slice (some ⟨b1, 0, none⟩) 1 1]⟩) H' fun v H' => ∃ a n c, v = .slice a n c ∧
              ∃ H3, St P ts H' ⟨b, 0, none⟩ (.slice a n c) H3 ∧ Lp H3 l R0 .busy none ∧ K2 (.bool true) (setLp H3 l R0 .ready none)) →
        YieldH P l [enc x] H2 fun a a_1 => K2 a a_1) →
      CallV P seq [.func (.yield l) ⟨[]⟩ ⟨[]⟩] H1 fun x H4 =>
        (Lp H4 l R0 .ready none ∧ ∃ a n c, Ld P ts (setLp H4 l R0 .exhausted none) ⟨b, 0, none⟩ (.slice a n c) ∧ Dq (setLp H4 l R0 .exhausted none) D ∧ K a n c (shutD (setLp H4 l R0 .exhausted none) D)) ∨
        Lp H4 l R0 .done (some .ret) ∧ Dq (setLp H4 l R0 .exhausted (some .ret)) D ∧ K none 0 0 (shutD (setLp H4 l R0 .exhausted (some .ret)) D) := by
  intro b H' hn D l R0 H1 hnl hY
  obtain ⟨hf1, hlp, hdq, hD, hl, hs1⟩ := hnl.out
  have hb := hn.eq
  have hs0 := hn.size
  have hf01 : Fr [] H0 H1 := hn.fr.keep0 hf1
  have hblk : Blk H1 ⟨b, 0, none⟩ [.slice none 0 0] := hn.blk.keep hf1
  refine CallV.mono (hq l H1 (ColI E t H0.size l D b R0 H0) (fun H4 => _) [b, l, D] (hG H1 hf01) ?_ ?_ ?_ ?_ ?_ fun xs S1 H4 hF hI hin hfr hg => ?_) fun v H4 h => h.2
  · intro k hk
    simp only [List.mem_cons, List.mem_nil_iff, or_false] at hk
    omega
  · intro k hk hkq
    have := hQ k hkq
    simp only [List.mem_cons, List.mem_nil_iff, or_false] at hk
    omega
  · exact ⟨hf01, hlp, hdq, ⟨none, 0, 0, hblk, Own.nil .., rfl, by simp [blkL], by simp [blkL], by simp [blkL]⟩, by omega, by omega, by omega, fun k hk => by
      simp only [List.mem_cons, List.mem_nil_iff, or_false] at hk
      omega⟩
  · intro ys S Ha Hb T hI hf hd hT
    obtain ⟨h1, h2, h3, ⟨a, n, c, hbk, ho, hS, n1, n2, n3⟩, q1, q2, q3, q4⟩ := hI
    have m : ∀ k ∈ S, k ∉ T := hd
    have hbT : b ∉ T := m b (by simp [hS])
    have hlT : l ∉ T := m l (by simp [hS])
    have hDT : D ∉ T := m D (by simp [hS])
    refine ⟨h1.keep hf fun k hk => by have := hT k hk; omega, h2.fr hf hlT, h3.fr hf hDT, ⟨a, n, c, hbk.fr hf hbT, ho.fr hf fun ad e => m _ (by simp [hS, e, blkL]), hS, n1, n2, n3⟩, q1, q2, q3, q4⟩
  · intro ys x S H2 hAx hin hI
    obtain ⟨h1, h2, h3, ⟨a, n, c, hbk, ho, hS, n1, n2, n3⟩, q1, q2, q3, q4⟩ := hI
    subst hS
    refine hY x H2 _ h2 ⟨h2, a, n, c, ?_, fun b1 H3 hn3 => ?_⟩
    · have := (hbk.fr (setLp_fr H2 l R0 .busy none) (by simp [q1])).ld0 (t := ts) hab rfl
      exact this
    · have fL := setLp_fr H2 l R0 .busy none
      have sL := setLp_size H2 l R0 .busy none
      have ho2 := ho.fr fL (fun ad e hh => n2 (by simp only [List.mem_singleton] at hh; simp [e, blkL, hh]))
      have hbase : H0.size ≤ H3.size := by have := h1.size; have := hn3.size; omega
      have hlen := hA _ hAx
      refine ap_grow hsl hel (ho2.keep hn3.fr) (sl_one E x hn3 (henc x).symm) hbase (by rw [ho.1]; simpa using hlen) fun a' n' c' H4 ho4 hf4 hg4 => ?_
      have hb3 := ((hbk.fr fL (by simp [q1])).keep hn3.fr).fr hf4 n1
      refine hb3.st0 (v := .slice a' n' c') hsz hinf (fun x hx => by simp [Value.cells] at hx; subst hx; rfl) (by simp [Value.cells]) fun H5 hb5 hf5 => ?_
      have hlt := h2.lt
      have hnew : ∀ k ∈ blkL a', k ∈ blkL a ∨ H2.size ≤ k := fun k hk => (hg4 k hk).imp id fun h => by have := hn3.size; omega
      have hbl : b < H2.size := hin b (by simp)
      have hDl : D < H2.size := hin D (by simp)
      have nb : b ∉ blkL a' := fun hk => (hnew b hk).elim n1 fun h => by omega
      have nl : l ∉ blkL a' := fun hk => (hnew l hk).elim n2 fun h => by omega
      have nD : D ∉ blkL a' := fun hk => (hnew D hk).elim n3 fun h => by omega
      have lp3 : Lp H3 l R0 .busy none := (setLp_get hlt).fr hn3.fr (by simp)
      have lp5 : Lp H5 l R0 .busy none := (lp3.fr hf4 n2).fr hf5 (by simp; exact fun e => q1 e.symm)
      have fE := setLp_fr H5 l R0 .ready none
      have f25 : Fr (b :: l :: D :: blkL a) H2 H5 := by
        have g1 : Fr (b :: l :: D :: blkL a) H2 H3 := fL.trans' hn3.fr (fun k hk _ => by simp at hk; simp [hk]) (by simp)
        have g2 : Fr (b :: l :: D :: blkL a) H2 H4 := g1.trans' hf4 (fun k hk _ => hk) (fun k hk _ => by simp [hk])
        exact g2.trans' hf5 (fun k hk _ => hk) (fun k hk _ => by simp at hk; simp [hk])
      have f26 : Fr (b :: l :: D :: blkL a) H2 (setLp H5 l R0 .ready none) := f25.trans' fE (fun k hk _ => hk) (fun k hk _ => by simp at hk; simp [hk])
      refine ⟨lp5, rfl, b :: l :: D :: blkL a', ?_, f26, ?_, ?_⟩
      · refine ⟨h1.keep f26 q4, setLp_get lp5.lt, ?_, ⟨a', n', c', ?_, ?_, rfl, nb, nl, nD⟩, q1, q2, q3, ?_⟩
        · refine ((((h3.fr fL (by simp; exact fun e => q3 e.symm)).fr hn3.fr (by simp)).fr hf4 n3).fr hf5 (by simp; exact fun e => q2 e.symm)).fr fE (by simp; exact fun e => q3 e.symm)
        · have hb6 := hb5.fr fE (by simp [q1])
          simpa [Value.cells] using hb6
        · refine (ho4.fr hf5 fun ad e hh => nb (by simp only [List.mem_singleton] at hh; simp [e, blkL, hh])).fr fE fun ad e hh => nl (by simp only [List.mem_singleton] at hh; simp [e, blkL, hh])
        · intro k hk
          simp only [List.mem_cons] at hk
          rcases hk with rfl | rfl | rfl | hk
          · exact q4 _ (by simp)
          · exact q4 _ (by simp)
          · exact q4 _ (by simp)
          · exact (ho4.ge k hk).1
      · intro k hk
        simp only [List.mem_cons] at hk
        rcases hk with rfl | rfl | rfl | hk
        · exact .inl (by simp)
        · exact .inl (by simp)
        · exact .inl (by simp)
        · exact (hnew k hk).imp (fun h => by simp [h]) id
      · intro k hk
        have e6 := setLp_size H5 l R0 .ready none
        have e5 := f25.size
        have e45 := hf5.size
        simp only [List.mem_cons] at hk
        rcases hk with rfl | rfl | rfl | hk
        · omega
        · omega
        · omega
        · have := (ho4.ge k hk).2; omega
  · obtain ⟨h1, h2, h3, ⟨a, n, c, hbk, ho, hS, n1, n2, n3⟩, q1, q2, q3, q4⟩ := hI
    subst hS
    have fE := setLp_fr H4 l R0 .exhausted none
    have fD := shutD_fr (setLp H4 l R0 .exhausted none) D
    refine .inl ⟨h2, a, n, c, (hbk.fr fE (by simp [q1])).ld0 hab rfl, h3.fr fE (by simp; exact fun e => q3 e.symm), hk xs a n c _ hF ?_ ?_⟩
    · exact (ho.fr fE fun ad e hh => n2 (by simp only [List.mem_singleton] at hh; simp [e, blkL, hh])).fr fD fun ad e hh => n3 (by simp only [List.mem_singleton] at hh; simp [e, blkL, hh])
    · refine (h1.keep fE fun k hk => ?_).keep fD fun k hk => ?_
      · simp at hk; subst hk; exact q4 _ (by simp)
      · simp at hk; subst hk; exact q4 _ (by simp)
theorem ColI.stay {α : Type} {E : Enc α} {t base l D b : Nat} {R0 : Loop} {H0 Ha Hb : Heap} {ys : List α} {S T : List Nat} (hI : ColI E t base l D b R0 H0 ys S Ha) (hf : Fr T Ha Hb) (hd : Dj S T) (hT : ∀ k ∈ T, H0.size ≤ k) : ColI E t base l D b R0 H0 ys S Hb := by
  obtain ⟨h1, h2, h3, ⟨a, n, c, hbk, ho, hS, n1, n2, n3⟩, q1, q2, q3, q4⟩ := hI
  have m : ∀ k ∈ S, k ∉ T := hd
  have hbT : b ∉ T := m b (by simp [hS])
  have hlT : l ∉ T := m l (by simp [hS])
  have hDT : D ∉ T := m D (by simp [hS])
  exact ⟨h1.keep hf hT, h2.fr hf hlT, h3.fr hf hDT, ⟨a, n, c, hbk.fr hf hbT, ho.fr hf fun ad e => m _ (by simp [hS, e, blkL]), hS, n1, n2, n3⟩, q1, q2, q3, q4⟩
theorem ColI.start {α : Type} {E : Enc α} {t l D b : Nat} {R0 : Loop} {H0 H' H1 : Heap} (hf0 : Fr [] H0 H') (hb : Blk H' ⟨b, 0, none⟩ [.slice none 0 0]) (hlo : H0.size ≤ b) (hnl : NewL H' D l R0 H1) : ColI E t H0.size l D b R0 H0 ([] : List α) [b, l, D] H1 ∧ In H1 [b, l, D] := by
  obtain ⟨hf1, hlp, hdq, hD, hl, hs1⟩ := hnl.out
  have hlt := hb.lt
  have hs0 := hf0.size
  refine ⟨⟨hf0.keep0 hf1, hlp, hdq, ⟨none, 0, 0, hb.keep hf1, Own.nil .., rfl, by simp [blkL], by simp [blkL], by simp [blkL]⟩, by simp at hlt; omega, by simp at hlt; omega, by omega, fun k hk => ?_⟩, fun k hk => ?_⟩
  · simp only [List.mem_cons, List.mem_nil_iff, or_false] at hk
    omega
  · simp only [List.mem_cons, List.mem_nil_iff, or_false] at hk
    simp at hlt
    omega
theorem ColI.more {α : Type} {P : Program} {E : Enc α} {vs : List Value} {ts t bytes l D b : Nat} {R0 : Loop} {H0 H2 Hx : Heap} {ys : List α} {x : α} {S : List Nat} {a : Option Addr} {n c : Nat} {K : Heap → Prop}
    (hsl : sliceB P ts t = true) (hel : elemB P t E.sz bytes = true) (hsz : szOf P ts = 1) (hinf : (P.info? ts).isSome = true) (henc : E.cells x = vs)
    (hI : ColI E t H0.size l D b R0 H0 ys S H2) (hin : In H2 S) (hbk : Blk H2 ⟨b, 0, none⟩ [.slice a n c]) (ho : Own E t H0.size H2 a n c ys) (hS : S = b :: l :: D :: blkL a) (n1 : b ∉ blkL a) (n2 : l ∉ blkL a) (n3 : D ∉ blkL a) (hlen : (ys.length + 1) * bytes ≤ 140737488355328)
    (hx : Fr [] (setLp H2 l R0 .busy none) Hx)
    (hk : ∀ H5 S2, Lp H5 l R0 .busy none → ColI E t H0.size l D b R0 H0 (ys ++ [x]) S2 (setLp H5 l R0 .ready none) → Fr S H2 (setLp H5 l R0 .ready none) → Grow H2 S S2 → In (setLp H5 l R0 .ready none) S2 → K H5) :
    ∀ b1 H3, New Hx b1 (.cells ⟨vs⟩ t) H3 → SemWp P (Builtin.append_ ⟨[ts, ts]⟩ ts ⟨[.slice a n c, .slice (some ⟨b1, 0, none⟩) 1 1]⟩) H3 fun v H' => ∃ a n c, v = .slice a n c ∧ ∃ H5, St P ts H' ⟨b, 0, none⟩ (.slice a n c) H5 ∧ K H5 := by
  intro b1 H3 hn3
  obtain ⟨h1, h2, h3, _, q1, q2, q3, q4⟩ := hI
  subst hS
  have fL := setLp_fr H2 l R0 .busy none
  have sL := setLp_size H2 l R0 .busy none
  have fx : Fr [] (setLp H2 l R0 .busy none) H3 := hx.keep0 hn3.fr
  have ho2 := ho.fr fL (fun ad e hh => n2 (by simp only [List.mem_singleton] at hh; simp [e, blkL, hh]))
  have hbase : H0.size ≤ H3.size := by have := h1.size; have := fx.size; omega
  refine ap_grow hsl hel (ho2.keep fx) (sl_one E x hn3 henc.symm) hbase (by rw [ho.1]; exact hlen) fun a' n' c' H4 ho4 hf4 hg4 => ?_
  have hb3 := ((hbk.fr fL (by simp [q1])).keep fx).fr hf4 n1
  refine hb3.st0 (v := .slice a' n' c') hsz hinf (fun x hx => by simp [Value.cells] at hx; subst hx; rfl) (by simp [Value.cells]) fun H5 hb5 hf5 => ?_
  have hlt := h2.lt
  have s3 := fx.size
  have hnew : ∀ k ∈ blkL a', k ∈ blkL a ∨ H2.size ≤ k := fun k hk => (hg4 k hk).imp id fun h => by omega
  have hbl : b < H2.size := hin b (by simp)
  have hDl : D < H2.size := hin D (by simp)
  have nb : b ∉ blkL a' := fun hk => (hnew b hk).elim n1 fun h => by omega
  have nl : l ∉ blkL a' := fun hk => (hnew l hk).elim n2 fun h => by omega
  have nD : D ∉ blkL a' := fun hk => (hnew D hk).elim n3 fun h => by omega
  have lp3 : Lp H3 l R0 .busy none := (setLp_get hlt).fr fx (by simp)
  have lp5 : Lp H5 l R0 .busy none := (lp3.fr hf4 n2).fr hf5 (by simp; exact fun e => q1 e.symm)
  have fE := setLp_fr H5 l R0 .ready none
  have f25 : Fr (b :: l :: D :: blkL a) H2 H5 := by
    have g1 : Fr (b :: l :: D :: blkL a) H2 H3 := fL.trans' fx (fun k hk _ => by simp at hk; simp [hk]) (by simp)
    have g2 : Fr (b :: l :: D :: blkL a) H2 H4 := g1.trans' hf4 (fun k hk _ => hk) (fun k hk _ => by simp [hk])
    exact g2.trans' hf5 (fun k hk _ => hk) (fun k hk _ => by simp at hk; simp [hk])
  have f26 : Fr (b :: l :: D :: blkL a) H2 (setLp H5 l R0 .ready none) := f25.trans' fE (fun k hk _ => hk) (fun k hk _ => by simp at hk; simp [hk])
  refine hk H5 (b :: l :: D :: blkL a') lp5 ?_ f26 ?_ ?_
  · refine ⟨h1.keep f26 q4, setLp_get lp5.lt, ?_, ⟨a', n', c', ?_, ?_, rfl, nb, nl, nD⟩, q1, q2, q3, ?_⟩
    · refine ((((h3.fr fL (by simp; exact fun e => q3 e.symm)).fr fx (by simp)).fr hf4 n3).fr hf5 (by simp; exact fun e => q2 e.symm)).fr fE (by simp; exact fun e => q3 e.symm)
    · have hb6 := hb5.fr fE (by simp [q1])
      simpa [Value.cells] using hb6
    · refine (ho4.fr hf5 fun ad e hh => nb (by simp only [List.mem_singleton] at hh; simp [e, blkL, hh])).fr fE fun ad e hh => nl (by simp only [List.mem_singleton] at hh; simp [e, blkL, hh])
    · intro k hk
      simp only [List.mem_cons] at hk
      rcases hk with rfl | rfl | rfl | hk
      · exact q4 _ (by simp)
      · exact q4 _ (by simp)
      · exact q4 _ (by simp)
      · exact (ho4.ge k hk).1
  · intro k hk
    simp only [List.mem_cons] at hk
    rcases hk with rfl | rfl | rfl | hk
    · exact .inl (by simp)
    · exact .inl (by simp)
    · exact .inl (by simp)
    · exact (hnew k hk).imp (fun h => by simp [h]) id
  · intro k hk
    have e6 := setLp_size H5 l R0 .ready none
    have e5 := f25.size
    have e45 := hf5.size
    simp only [List.mem_cons] at hk
    rcases hk with rfl | rfl | rfl | hk
    · omega
    · omega
    · omega
    · have := (ho4.ge k hk).2; omega
theorem ColI.done {α : Type} {P : Program} {E : Enc α} {ts t l D b : Nat} {R0 : Loop} {H0 H4 : Heap} {ys : List α} {S : List Nat} {K : Option Addr → Nat → Nat → Heap → Prop} (hab : aggB P ts = false) (hI : ColI E t H0.size l D b R0 H0 ys S H4)
    (hk : ∀ a n c H', Own E t H0.size H' a n c ys → Fr [] H0 H' → Fr S H4 H' → K a n c H') :
    Lp H4 l R0 .ready none ∧ ∃ a n c, Ld P ts (setLp H4 l R0 .exhausted none) ⟨b, 0, none⟩ (.slice a n c) ∧ Dq (setLp H4 l R0 .exhausted none) D ∧ K a n c (shutD (setLp H4 l R0 .exhausted none) D) := by
  obtain ⟨h1, h2, h3, ⟨a, n, c, hbk, ho, hS, n1, n2, n3⟩, q1, q2, q3, q4⟩ := hI
  subst hS
  have fE := setLp_fr H4 l R0 .exhausted none
  have fD := shutD_fr (setLp H4 l R0 .exhausted none) D
  refine ⟨h2, a, n, c, (hbk.fr fE (by simp [q1])).ld0 hab rfl, h3.fr fE (by simp; exact fun e => q3 e.symm), hk a n c _ ?_ ?_ ?_⟩
  · exact (ho.fr fE fun ad e hh => n2 (by simp only [List.mem_singleton] at hh; simp [e, blkL, hh])).fr fD fun ad e hh => n3 (by simp only [List.mem_singleton] at hh; simp [e, blkL, hh])
  · refine (h1.keep fE fun k hk => ?_).keep fD fun k hk => ?_
    · simp at hk; subst hk; exact q4 _ (by simp)
    · simp at hk; subst hk; exact q4 _ (by simp)
  · exact fE.trans' fD (fun k hk _ => by simp at hk; simp [hk]) (fun k hk _ => by simp at hk; simp [hk])
end Go.GV
section
open Go.Proofs Go.Shelf
namespace Go.GV
theorem flatMap_str (xs : List ByteArray) : xs.flatMap GV.encStr.cells = (xs.map bl).map Go.Proofs.encStr := by
  induction xs with
  | nil => rfl
  | cons x l ih =>
    rw [List.flatMap_cons, ih, List.map_cons, List.map_cons]
    have : Go.Proofs.encStr (bl x) = .string x := by
      show Value.string ⟨(bl x).toArray⟩ = _
      congr 1
    rw [this]; rfl
theorem map_bl_mk (ys : List (List UInt8)) : (ys.map fun l => (⟨l.toArray⟩ : ByteArray)).map bl = ys := by
  rw [List.map_map]
  conv => rhs; rw [← List.map_id ys]
  apply List.map_congr_left
  intro l _
  simp [bl]
theorem sortS_ok {P : Program} {ρ : Ren} (L : SlLaysM.n6 P ρ) {k : FuncId} (hkf : ρ.f 6 = k) {t : TypeId} {base : Nat} {H : Heap} {a : Option Addr} {n c : Nat} {xs : List ByteArray} {K : Heap → Prop} (ho : Own GV.encStr t base H a n c xs) (hn : n < 4611686018427387904)
    (hk : ∀ H' ys, Own GV.encStr t base H' a n c ys → ys.map bl = (xs.map bl).mergeSort (fun x y => decide (x ≤ y)) → Fr (blkL a) H H' → K H') :
    CallH P k ⟨[.slice a n c]⟩ H fun v H' => v = .tuple ⟨[]⟩ ∧ K H' := by
  subst hkf
  intro E d
  have hl := ho.1
  obtain ⟨_, ⟨rfl, h0, hc0⟩ | ⟨b, cur, rfl, hb, hh, hc, hm, hs, ht⟩⟩ := id ho
  · have := AnyM.slices_Sort_string_none L none c (mkW E H d)
    rw [h0]
    refine this.mono ?_
    rintro e w' ⟨rfl, rfl⟩
    have hx : xs = [] := List.eq_nil_of_length_eq_zero (by omega)
    subst hx
    exact ⟨_, H, d, rfl, rfl, rfl, hk H [] ho (by simp) (Fr.refl _ _)⟩
  · rw [flatMap_str] at ht
    have hb' : (mkW E H d).heap[b]? = some (.cells cur t (0, 0)) := hh
    have hsz : GV.encStr.sz = 1 := rfl
    rw [hsz, Nat.mul_one] at ht hs
    rw [hl, ← List.length_map (f := bl)] at ht
    have hH : Go.Sort.Holds Go.Proofs.encStr (mkW E H d) b 0 (xs.map bl).toArray := holds_of_block hb' ht
    have := AnyM.slices_Sort_string L b 0 c (xs.map bl) (mkW E H d) hH (lt_of_get hh) (by rw [List.length_map]; omega)
    rw [List.length_map, ← hl] at this
    refine this.mono ?_
    rintro e w' ⟨rfl, m, os, rfl⟩
    have hperm := List.mergeSort_perm (xs.map bl) (fun x y => decide (x ≤ y))
    have hlen : ((xs.map bl).mergeSort fun x y => decide (x ≤ y)).length = xs.length := by rw [hperm.length_eq, List.length_map]
    generalize hg : ((xs.map bl).mergeSort fun x y => decide (x ≤ y)) = ys at hk hlen
    refine ⟨_, (Go.Sort.grow (Go.Sort.putRow Go.Proofs.encStr (Go.Sort.ahead (mkW E H d) m) b 0 ys.toArray) os).heap, ⟨d.1 + m, Nat.le_trans d.2 (Nat.le_add_right _ _)⟩, rfl, rfl, rfl, hk _ (ys.map fun l => ⟨l.toArray⟩) ?_ (map_bl_mk ys) ?_⟩
    · refine ⟨by rw [List.length_map]; omega, .inr ⟨b, _, rfl, hb, heap_sorted _ hb', by omega, hm, by simp [Go.Sort.putCells, hs, hsz], ?_⟩⟩
      rw [flatMap_str, map_bl_mk, hsz, Nat.mul_one, hl, ← hlen]
      exact take_putCells cur ys (by omega)
    · have hgb := grownBy_sorted (w := mkW E H d) (g := b) (n := m) (os := os) ys.toArray
      exact ⟨hgb.size, fun k hk hn => hgb.block k hk (by simp [blkL] at hn; simpa using hn)⟩
end Go.GV
end
namespace Go.Proofs.Fs
structure BT : Prop where
  sl : sliceB Tryz.prog 273 5 = true
  str : strB Tryz.prog 9 = true
theorem bT : BT := ⟨by kernel_rfl, by kernel_rfl⟩
end Go.Proofs.Fs
namespace Go.Proofs
open Go.Shelf
def Tryz.sortS_ren : Go.Shelf.Ren := ⟨fun | 6 => 391 | 8 => 187 | 9 => 436 | 19 => 263 | 20 => 264 | 21 => 454 | 22 => 455 | 23 => 456 | 24 => 457 | 25 => 458 | 26 => 459 | 27 => 460 | 28 => 461 | 29 => 462 | 36 => 473 | 31 => 344 | 32 => 345 | 37 => 474 | 38 => 475 | 39 => 476 | 41 => 478 | n => n, fun | 27 => 24 | 29 => 9 | 3 => 3 | 32 => 184 | 26 => 24 | 0 => 0 | 44 => 372 | 46 => 43 | 4 => 4 | 36 => 366 | 35 => 365 | 41 => 89 | 5 => 5 | 9 => 9 | 53 => 454 | 57 => 458 | 63 => 514 | 64 => 515 | n => n, fun | n => n⟩
theorem Tryz.sortS : Go.Proofs.SlLaysM.n6 Tryz.prog Tryz.sortS_ren := {
  mixed := by kernel_rfl
  f6 := ⟨Tryz.f391.name, by decide, Tryz.func391.trans (congrArg some (by kernel_rfl))⟩
  f8 := Tryz.func187.trans (congrArg some (by kernel_rfl))
  f9 := ⟨Tryz.f436.name, by decide, Tryz.func436.trans (congrArg some (by kernel_rfl))⟩
  f19 := Tryz.func263.trans (congrArg some (by kernel_rfl))
  f20 := Tryz.func264.trans (congrArg some (by kernel_rfl))
  f21 := ⟨Tryz.f454.name, by decide, Tryz.func454.trans (congrArg some (by kernel_rfl))⟩
  f22 := ⟨Tryz.f455.name, by decide, Tryz.func455.trans (congrArg some (by kernel_rfl))⟩
  f23 := ⟨Tryz.f456.name, by decide, Tryz.func456.trans (congrArg some (by kernel_rfl))⟩
  f24 := ⟨Tryz.f457.name, by decide, Tryz.func457.trans (congrArg some (by kernel_rfl))⟩
  f25 := ⟨Tryz.f458.name, by decide, Tryz.func458.trans (congrArg some (by kernel_rfl))⟩
  f26 := ⟨Tryz.f459.name, by decide, Tryz.func459.trans (congrArg some (by kernel_rfl))⟩
  f27 := ⟨Tryz.f460.name, by decide, Tryz.func460.trans (congrArg some (by kernel_rfl))⟩
  f28 := ⟨Tryz.f461.name, by decide, Tryz.func461.trans (congrArg some (by kernel_rfl))⟩
  f29 := ⟨Tryz.f462.name, by decide, Tryz.func462.trans (congrArg some (by kernel_rfl))⟩
  f31 := Tryz.func344.trans (congrArg some (by kernel_rfl))
  f32 := Tryz.func345.trans (congrArg some (by kernel_rfl))
  f36 := ⟨Tryz.f473.name, by decide, Tryz.func473.trans (congrArg some (by kernel_rfl))⟩
  f37 := ⟨Tryz.f474.name, by decide, Tryz.func474.trans (congrArg some (by kernel_rfl))⟩
  f38 := ⟨Tryz.f475.name, by decide, Tryz.func475.trans (congrArg some (by kernel_rfl))⟩
  f39 := ⟨Tryz.f476.name, by decide, Tryz.func476.trans (congrArg some (by kernel_rfl))⟩
  f41 := ⟨Tryz.f478.name, by decide, Tryz.func478.trans (congrArg some (by kernel_rfl))⟩
  t0 := Tryz.underlying0
  a0 := Tryz.isAgg0
  z0 := Tryz.sizeOf0
  v0 := Tryz.zeroValue0
  t3 := Tryz.underlying3
  a3 := Tryz.isAgg3
  z3 := Tryz.sizeOf3
  v3 := Tryz.zeroValue3
  t4 := Tryz.underlying4
  a4 := Tryz.isAgg4
  z4 := Tryz.sizeOf4
  v4 := Tryz.zeroValue4
  t5 := Tryz.underlying5
  a5 := Tryz.isAgg5
  z5 := Tryz.sizeOf5
  v5 := Tryz.zeroValue5
  t9 := Tryz.underlying9
  a9 := Tryz.isAgg9
  z9 := Tryz.sizeOf9
  v9 := Tryz.zeroValue9
  t26 := Tryz.underlying24
  a26 := Tryz.isAgg24
  z26 := Tryz.sizeOf24
  v26 := Tryz.zeroValue24
  t27 := Tryz.underlying24
  a27 := Tryz.isAgg24
  z27 := Tryz.sizeOf24
  v27 := Tryz.zeroValue24
  t29 := Tryz.underlying9
  a29 := Tryz.isAgg9
  z29 := Tryz.sizeOf9
  v29 := Tryz.zeroValue9
  t32 := Tryz.underlying184
  a32 := Tryz.isAgg184
  z32 := Tryz.sizeOf184
  v32 := Tryz.zeroValue184
  t35 := Tryz.underlying365
  a35 := Tryz.isAgg365
  z35 := Tryz.sizeOf365
  v35 := Tryz.zeroValue365
  t36 := Tryz.underlying366
  a36 := Tryz.isAgg366
  z36 := Tryz.sizeOf366
  v36 := Tryz.zeroValue366
  t41 := Tryz.underlying89
  a41 := Tryz.isAgg89
  z41 := Tryz.sizeOf89
  v41 := Tryz.zeroValue89
  t44 := Tryz.underlying372
  a44 := Tryz.isAgg372
  z44 := Tryz.sizeOf372
  v44 := Tryz.zeroValue372
  t46 := Tryz.underlying43
  a46 := Tryz.isAgg43
  z46 := Tryz.sizeOf43
  v46 := Tryz.zeroValue43
  t53 := Tryz.underlying454
  a53 := Tryz.isAgg454
  z53 := Tryz.sizeOf454
  v53 := Tryz.zeroValue454
  t57 := Tryz.underlying458
  a57 := Tryz.isAgg458
  z57 := Tryz.sizeOf458
  v57 := Tryz.zeroValue458
  t63 := Tryz.underlying514
  a63 := Tryz.isAgg514
  z63 := Tryz.sizeOf514
  v63 := Tryz.zeroValue514
  t64 := Tryz.underlying515
  a64 := Tryz.isAgg515
  z64 := Tryz.sizeOf515
  v64 := Tryz.zeroValue515 }
end Go.Proofs
namespace Go.Proofs.Fs
noncomputable abbrev SM : KeyT Tryz.prog 9 ByteArray := keyStr Tryz.underlying9
def VarH (H : Heap) (a : Addr) (v : Value) : Prop := ∃ vs, Blk H a vs ∧ vs[0]? = some v
theorem VarH.of {H : Heap} {a : Addr} {v : Value} {vs : List Value} (h : Blk H a vs) (e : vs[0]? = some v) : VarH H a v := ⟨vs, h, e⟩
theorem VarH.fr {H H' : Heap} {a : Addr} {v : Value} {S : List Nat} (h : VarH H a v) (hf : Fr S H H') (hn : a.block ∉ S) : VarH H' a v := by
  obtain ⟨vs, h1, h2⟩ := h
  exact ⟨vs, h1.fr hf hn, h2⟩
theorem VarH.keep {H H' : Heap} {a : Addr} {v : Value} (h : VarH H a v) (hf : Fr [] H H') : VarH H' a v := h.fr hf (by simp)
def keysA (L : List (Ent ByteArray)) (ys : List ByteArray) : Prop := ys.Nodup ∧ ∀ y ∈ ys, ∃ x ∈ L, x.1 = y
def keysF (L : List (Ent ByteArray)) (ys : List ByteArray) : Prop := ys.Nodup ∧ ∀ y, y ∈ ys ↔ ∃ x ∈ L, x.1 = y
theorem keys_seq {b r ck : Nat} {L : List (Ent ByteArray)} : SeqOk Tryz.prog (fun s => .string s) (.func (.func 392) ⟨[]⟩ ⟨[.pointer (some ⟨b, 0, none⟩)]⟩) (keysA L) (keysF L) [b, r]
    (fun H => VarH H ⟨b, 0, none⟩ (.map (some r)) ∧ MapR SM H r ck L) := by
  intro l H I K S hG hin hd h0 stab step fin
  obtain ⟨⟨vs0, hb, hv0⟩, hm⟩ := hG
  refine ⟨392, ⟨[]⟩, _, rfl, by kernel_rfl, ?_⟩
  apply vc_maps_Keys_map_string_string_string_string__1
  have hSb : b ∉ S := fun h => hd b h (by simp)
  have hSr : r ∉ S := fun h => hd r h (by simp)
  refine ⟨some r, hb.ld0 (by kernel_rfl) hv0, range_map SM (mt := 91) (e := 9) Tryz.underlying91 hm fun it H1 hn1 => ?_⟩
  have hit := hn1.eq
  have hs1 := hn1.size
  refine ⟨fun _ H2 => ∃ (ys : List ByteArray) (seen : Array Nat) (S2 : List Nat), I ys S2 H2 ∧ ys.Nodup ∧ (∀ k, k ∈ ys ↔ ∃ x ∈ L, x.1 = k ∧ x.2.2 ∈ seen) ∧ H2[it]? = some (.mapIter (some r) ck seen ck) ∧ it ∉ S2 ∧ Fr S H H2 ∧ Grow H S S2 ∧ In H2 S2,
    fun _ H2 => pendH H2 r it, ⟨[], #[], S, stab _ _ _ _ [] h0 hn1.fr (fun _ _ => by simp) (by simp), by simp, by simp, hn1.get, fun h => by have := hin it h; omega, hn1.fr.mono (by simp), Grow.refl _ _, hin.le hn1.fr.size⟩, ?_⟩
  rintro J H2 ⟨ys, seen, S2, hI, hnd, hmem, hi2, hit2, hf2, hg2, hin2⟩
  have hm2 := hm.fr SM hf2 hSr
  have hb2 := hb.fr hf2 hSb
  refine next_map SM hm2 hi2 (fun hall => ⟨rfl, ?_⟩) fun x hx hns H3 hi3 hf3 => ?_
  · refine fin ys S2 H2 ⟨hnd, fun y => ?_⟩ hI hin2 hf2 hg2
    rw [hmem]
    exact ⟨fun ⟨x, hx, e, _⟩ => ⟨x, hx, e⟩, fun ⟨x, hx, e⟩ => ⟨x, hx, e, hall x hx⟩⟩
  · have hrit : r ≠ it := fun e => by have := hm.lt; omega
    have hm3 := hm2.fr SM hf3 (by simp; exact hrit)
    have hI3 := stab ys S2 H2 H3 [it] hI hf3 (fun k hk => by simp; exact fun e => hit2 (e ▸ hk)) (fun k hk => by simp at hk; omega)
    have hin3 : In H3 S2 := hin2.le hf3.size
    refine entry_map SM hm3 hi3 hx rfl ⟨x.1, rfl, .inr ⟨l, rfl, (step ys x.1 S2 H3 ?_ hin3 hI3).mono fun v H4 => ?_⟩⟩
    · constructor
      · rw [List.nodup_append]
        refine ⟨hnd, by simp, fun a ha b' hb' => ?_⟩
        simp only [List.mem_singleton] at hb'
        subst hb'
        intro e
        subst e
        obtain ⟨z, hz, e, hs⟩ := (hmem _).1 ha
        have := ent_key hm.wf hz hx e
        subst this
        exact hns hs
      · intro y hy
        rcases List.mem_append.1 hy with hy | hy
        · obtain ⟨z, hz, e, _⟩ := (hmem y).1 hy; exact ⟨z, hz, e⟩
        · simp only [List.mem_singleton] at hy; exact ⟨x, hx, hy.symm⟩
    · rintro ⟨rfl, S4, hI4, hf4, hg4, hin4⟩
      have hlt3 : it < H3.size := lt_of_get hi3
      have hi4 : H4[it]? = some (.mapIter (some r) ck (seen.push x.2.2) ck) := hf4.get hi3 hit2
      have hf24 : Fr S H H3 := hf2.trans' hf3 (fun k hk _ => hk) (fun k hk hlt => by simp at hk; omega)
      have hf34 : Fr S H H4 := hf24.trans' hf4 (fun k hk _ => hk) (fun k hk hlt => by
        rcases hg2 k hk with h | h
        · exact h
        · omega)
      have hm4 := hm.fr SM hf34 hSr
      refine ⟨true, rfl, brB_of (fun h => by simp at h) fun _ => ⟨⟨ys ++ [x.1], seen.push x.2.2, S4, hI4, ?_, ?_, hi4, ?_, hf34, ?_, hin4⟩, ?_⟩⟩
      · rw [List.nodup_append]
        refine ⟨hnd, by simp, fun a ha b' hb' => ?_⟩
        simp only [List.mem_singleton] at hb'
        subst hb'
        intro e
        subst e
        obtain ⟨z, hz, e, hs⟩ := (hmem _).1 ha
        have := ent_key hm.wf hz hx e
        subst this
        exact hns hs
      · intro k
        rw [List.mem_append, hmem]
        constructor
        · rintro (⟨z, hz, e, hs⟩ | h)
          · exact ⟨z, hz, e, by simp [hs]⟩
          · simp only [List.mem_singleton] at h; exact ⟨x, hx, h.symm, by simp⟩
        · rintro ⟨z, hz, e, hs⟩
          simp only [Array.mem_push] at hs
          rcases hs with hs | hs
          · exact .inl ⟨z, hz, e, hs⟩
          · right
            have := ent_born hm.wf hz hx hs
            subst this
            simp [e]
      · intro h
        rcases hg4 it h with h | h
        · exact hit2 h
        · omega
      · exact hg2.trans (by have := hf2.size; exact this) (fun k hk => (hg4 k hk).imp id fun h => by have := hf3.size; omega)
      · show pendH H4 r it < pendH H2 r it
        rw [pendH_eq SM hm2 hi2, pendH_eq SM hm4 hi4]
        exact pendB_push (List.mem_map.2 ⟨x, hx, rfl⟩) hns
theorem collectS_ok {seq : Value} {A F : List ByteArray → Prop} {Q : List Nat} {G : Heap → Prop} {H : Heap} {K : Option Addr → Nat → Nat → Heap → Prop} (hq : SeqOk Tryz.prog (fun s => .string s) seq A F Q G)
    (hA : ∀ ys, A ys → ys.length ≤ 1000000000000) (hG : ∀ H', Fr [] H H' → G H') (hQ : ∀ k ∈ Q, k < H.size)
    (hk : ∀ xs a n c H', F xs → Own GV.encStr 9 H.size H' a n c xs → Fr [] H H' → K a n c H') :
    CallH Tryz.prog 390 ⟨[seq]⟩ H fun v H' => ∃ a n c, v = .slice a n c ∧ K a n c H' := by
  apply vc_slices_Collect_string_
  apply vc_slices_AppendSeq___string_string_
  exact collect_loop (K := fun a n c H' => ∃ a' n' c', Value.slice a n c = .slice a' n' c' ∧ ∃ a'' n'' c'', Value.slice a' n' c' = .slice a'' n'' c'' ∧ K a'' n'' c'' H') (E := GV.encStr) (t := 9) (bytes := 16) slice41 elem9 (by kernel_rfl) (by kernel_rfl) (by kernel_rfl) (fun _ => rfl) hq (fun ys h => by have := hA ys h; omega) hG hQ fun xs a n c H' h1 h2 h3 => ⟨_, _, _, rfl, _, _, _, rfl, hk xs a n c H' h1 h2 h3⟩
theorem sortedS_ok {seq : Value} {A F : List ByteArray → Prop} {Q : List Nat} {G : Heap → Prop} {H : Heap} {K : Option Addr → Nat → Nat → Heap → Prop} (hq : SeqOk Tryz.prog (fun s => .string s) seq A F Q G)
    (hA : ∀ ys, A ys → ys.length ≤ 1000000000000) (hF : ∀ ys, F ys → ys.length ≤ 1000000000000) (hG : ∀ H', Fr [] H H' → G H') (hQ : ∀ k ∈ Q, k < H.size)
    (hk : ∀ xs ys a n c H', F xs → ys.map bl = (xs.map bl).mergeSort (fun x y => decide (x ≤ y)) → Own GV.encStr 9 H.size H' a n c ys → Fr [] H H' → K a n c H') :
    CallH Tryz.prog 307 ⟨[seq]⟩ H fun v H' => ∃ a n c, v = .slice a n c ∧ K a n c H' := by
  apply vc_slices_Sorted_string_
  refine collectS_ok hq hA hG hQ fun xs a n c H1 hx ho hf => ?_
  refine sortS_ok Tryz.sortS (k := 391) rfl ho (by have := hF xs hx; have := ho.1; omega) fun H2 ys ho2 he hf2 => ⟨a, n, c, rfl, ?_⟩
  exact hk xs ys a n c H2 hx he ho2 (hf.keep hf2 fun k hk => (ho.ge k hk).1)
def keysS (L : List (Ent ByteArray)) (ys : List ByteArray) : Prop := (ys.map bl).Pairwise (· < ·) ∧ ∀ y, y ∈ ys ↔ ∃ x ∈ L, x.1 = y
theorem keysA_len {L : List (Ent ByteArray)} {ys : List ByteArray} (h : keysA L ys) : ys.length ≤ L.length := by
  have : ∀ (l k : List (List UInt8)), l.Nodup → (∀ x ∈ l, x ∈ k) → l.length ≤ k.length := by
    intro l
    induction l with
    | nil => intro k _ _; exact Nat.zero_le _
    | cons a l ih =>
      intro k hn hs
      rw [List.nodup_cons] at hn
      have ha : a ∈ k := hs a (by simp)
      have := ih (k.erase a) hn.2 fun x hx => by
        rw [List.mem_erase_of_ne (fun e => hn.1 (by rw [← e]; exact hx))]
        exact hs x (by simp [hx])
      rw [List.length_erase_of_mem ha] at this
      have h0 : 0 < k.length := List.length_pos_of_mem ha
      simp only [List.length_cons]
      omega
  have := this (ys.map bl) (L.map (fun x => bl x.1)) (by
    rw [List.nodup_iff_pairwise_ne, List.pairwise_map]
    exact (List.nodup_iff_pairwise_ne.1 h.1).imp fun hne e => hne (bl_inj e)) fun x hx => by
      obtain ⟨y, hy, rfl⟩ := List.mem_map.1 hx
      obtain ⟨z, hz, e⟩ := h.2 y hy
      exact List.mem_map.2 ⟨z, hz, by rw [e]⟩
  simpa using this
theorem keys_sorted {L : List (Ent ByteArray)} {xs ys : List ByteArray} (h : keysF L xs) (he : ys.map bl = (xs.map bl).mergeSort (fun x y => decide (x ≤ y))) : keysS L ys := by
  have hp : (ys.map bl).Perm (xs.map bl) := by rw [he]; exact List.mergeSort_perm _ _
  have hnd : (ys.map bl).Nodup := hp.nodup_iff.2 (by
    rw [List.nodup_iff_pairwise_ne, List.pairwise_map]
    exact (List.nodup_iff_pairwise_ne.1 h.1).imp fun hne e => hne (bl_inj e))
  have hs : (ys.map bl).Pairwise (· ≤ ·) := by
    rw [he]
    have := List.pairwise_mergeSort (le := fun x y : List UInt8 => decide (x ≤ y)) (fun a b c h1 h2 => by simp only [decide_eq_true_eq] at *; exact List.le_trans h1 h2) (fun a b => by simp only [Bool.or_eq_true, decide_eq_true_eq]; exact List.le_total a b) (xs.map bl)
    exact this.imp fun h => by simpa using h
  refine ⟨?_, fun y => ?_⟩
  · have := hs.and (List.nodup_iff_pairwise_ne.1 hnd)
    exact this.imp fun h => by
      rcases List.le_iff_lt_or_eq.1 h.1 with h1 | h1
      · exact h1
      · exact absurd h1 h.2
  · rw [← h.2]
    have : bl y ∈ ys.map bl ↔ bl y ∈ xs.map bl := hp.mem_iff
    simp only [List.mem_map] at this
    exact ⟨fun hy => by obtain ⟨z, hz, e⟩ := this.1 ⟨y, hy, rfl⟩; rw [← bl_inj e]; exact hz, fun hy => by obtain ⟨z, hz, e⟩ := this.2 ⟨y, hy, rfl⟩; rw [← bl_inj e]; exact hz⟩
def SetI (H : Heap) (r : Nat) (T : Int → Prop) : Prop := ∃ ck L, MapR MT H r ck L ∧ ∀ k, (T k ∧ getL k L = some (.bool true)) ∨ (¬ T k ∧ getL k L = none)
theorem SetI.fr {H H' : Heap} {r : Nat} {T : Int → Prop} {S : List Nat} (h : SetI H r T) (hf : Fr S H H') (hn : r ∉ S) : SetI H' r T := by
  obtain ⟨ck, L, hm, hk⟩ := h
  exact ⟨ck, L, hm.fr MT hf hn, hk⟩
theorem zero4 : zeroOf Tryz.prog 4 = some (.bool false) := by kernel_rfl
theorem SetI.look {H : Heap} {r : Nat} {T : Int → Prop} (h : SetI H r T) (x : Int) : ∃ b, Rd Tryz.prog (Instr.lookup 179 (.map (some r)) (.int .i64 x) false) H (.bool b) ∧ (b = true ↔ T x) := by
  obtain ⟨ck, L, hm, hg⟩ := h
  have hl := lookup_map MT (mt := 179) (e := 4) Tryz.underlying179 zero4 hm x
  rcases hg x with ⟨h1, h2⟩ | ⟨h1, h2⟩
  · rw [h2] at hl
    exact ⟨true, hl, ⟨fun _ => h1, fun _ => rfl⟩⟩
  · rw [h2] at hl
    exact ⟨false, hl, ⟨(fun h => by cases h), fun h => absurd h h1⟩⟩
end Go.Proofs.Fs
section
open Go.Proofs Go.Shelf
namespace Go.GV
end Go.GV
end
namespace Go.Proofs.Fs
open Classical in
noncomputable def freeN (T : Int → Prop) (n : Nat) : List Int := ((List.range n).filter fun k : Nat => decide (2 ≤ k ∧ ¬ T (k : Int))).map fun k : Nat => (k : Int)
theorem freeN_succ (T : Int → Prop) (n : Nat) : freeN T (n + 1) = freeN T n ++ (open Classical in if 2 ≤ n ∧ ¬ T (n : Int) then [(n : Int)] else []) := by
  unfold freeN
  rw [List.range_succ, List.filter_append, List.map_append]
  congr 1
  by_cases h : 2 ≤ n ∧ ¬ T (n : Int)
  · simp [h]
  · simp [h]
theorem freeN_pre (T : Int → Prop) {n m : Nat} (h : n ≤ m) : freeN T n <+: freeN T m := by
  obtain ⟨k, rfl⟩ := Nat.exists_eq_add_of_le h
  clear h
  induction k with
  | zero => exact List.prefix_refl _
  | succ k ih => rw [← Nat.add_assoc, freeN_succ]; exact ih.trans (List.prefix_append _ _)
theorem freeN_two (T : Int → Prop) : freeN T 2 = [] := by
  rw [freeN_succ, freeN_succ]
  simp [freeN]
theorem freeN_len (T : Int → Prop) (n : Nat) : (freeN T n).length ≤ n := by
  unfold freeN
  rw [List.length_map]
  have := List.length_filter_le (fun k : Nat => (open Classical in decide (2 ≤ k ∧ ¬ T (k : Int)))) (List.range n)
  rw [List.length_range] at this
  exact this
theorem free_seq {b b1 rt : Nat} {s d : Addr} {T : Int → Prop} {sz : Nat} (hsz2 : sz ≤ 512) (h2 : 2 ≤ sz) :
    SeqOk Tryz.prog (fun n => .int .i64 n) (.func (.func 395) ⟨[]⟩ ⟨[.pointer (some ⟨b, 0, none⟩), .pointer (some ⟨b1, 0, none⟩)]⟩) (fun ys => ys <+: freeN T sz) (fun ys => ys = freeN T sz) [b, b1, rt, s.block, d.block]
    (fun H => VarH H ⟨b, 0, none⟩ (.pointer (some s)) ∧ VarH H ⟨b1, 0, none⟩ (.map (some rt)) ∧ SetI H rt T ∧ VarH H s (.pointer (some d)) ∧ VarH H d (.int .i64 sz)) := by
  intro l H I K S hG hin hd h0 stab step fin
  obtain ⟨hb, hb1, hset, hs, hdk⟩ := hG
  refine ⟨395, ⟨[]⟩, _, rfl, by kernel_rfl, ?_⟩
  apply vc_files_Store_free_1
  refine ⟨fun vs H2 => match vs with | [.int _ i] => ∃ (j : Nat) (S2 : List Nat), i = j ∧ 2 ≤ j ∧ j ≤ sz ∧ I (freeN T j) S2 H2 ∧ Fr S H H2 ∧ Grow H S S2 ∧ In H2 S2 | _ => False,
    fun vs _ => match vs with | [.int _ i] => sz - i.toNat | _ => 0, ⟨2, S, rfl, by omega, by omega, by rw [freeN_two]; exact h0, Fr.refl _ _, Grow.refl _ _, hin⟩, ?_⟩
  rintro J i H2 ⟨j, S2, rfl, hj2, hj, hI, hf, hg, hin2⟩
  have m1 : ∀ k ∈ [b, b1, rt, s.block, d.block], k ∉ S := fun k hk hkS => hd k hkS hk
  have hb2 := hb.fr hf (m1 b (by simp))
  have hb12 := hb1.fr hf (m1 b1 (by simp))
  have hset2 := hset.fr hf (m1 rt (by simp))
  have hs2 := hs.fr hf (m1 _ (by simp))
  have hdk2 := hdk.fr hf (m1 _ (by simp))
  obtain ⟨vb, hb2, eb⟩ := hb2
  obtain ⟨vb1, hb12, eb1⟩ := hb12
  obtain ⟨vs2, hs2, es2⟩ := hs2
  obtain ⟨vd, hdk2, ed⟩ := hdk2
  have hmu : sz - (IntKind.i64.wrap ((j : Int) + 1)).toNat < sz - ((j : Nat) : Int).toNat ↔ j < sz := by
    rw [succ64 (by omega)]; omega
  refine ⟨_, hb2.ld0 (by kernel_rfl) eb, _, hs2.ld0 (by kernel_rfl) es2, ?_⟩
  apply vc_block_Disk_Size
  refine ⟨_, hdk2.ld0 (by kernel_rfl) ed, _, rfl, ?_⟩
  show brB (decide ((j : Int) < (sz : Int))) _ _
  refine brB_of (fun hlt => ?_) (fun hge => ?_)
  · have hlt : j < sz := by simpa using hlt
    obtain ⟨bb, hlk, hT⟩ := hset2.look (j : Int)
    refine ⟨_, hb12.ld0 (by kernel_rfl) eb1, bb, hlk, brB_of (fun h3 => ?_) (fun h3 => ?_)⟩
    · have hnT : ¬ T (j : Int) := fun h => by rw [hT.2 h] at h3; cases h3
      have hnext : freeN T (j + 1) = freeN T j ++ [(j : Int)] := by rw [freeN_succ, if_pos ⟨hj2, hnT⟩]
      refine .inr ⟨l, rfl, (step (freeN T j) (j : Int) S2 H2 (by rw [← hnext]; exact freeN_pre T hlt) hin2 hI).mono fun v H3 => ?_⟩
      rintro ⟨rfl, S3, hI3, hf3, hg3, hin3⟩
      refine ⟨true, rfl, brB_of (fun h => by simp at h) fun _ => ⟨⟨j + 1, S3, succ64 (by omega), by omega, by omega, by rw [hnext]; exact hI3, ?_, ?_, hin3⟩, hmu.2 hlt⟩⟩
      · exact hf.trans' hf3 (fun k hk _ => hk) (fun k hk hl => (hg k hk).elim id fun h => by omega)
      · exact hg.trans hf.size hg3
    · have hTj : T (j : Int) := by
        cases bb with
        | true => exact hT.1 rfl
        | false => cases h3
      have hnext : freeN T (j + 1) = freeN T j := by rw [freeN_succ, if_neg (fun h => h.2 hTj), List.append_nil]
      exact ⟨⟨j + 1, S2, succ64 (by omega), by omega, by omega, by rw [hnext]; exact hI, hf, hg, hin2⟩, hmu.2 hlt⟩
  · have hge : j = sz := by simp at hge; omega
    subst hge
    exact ⟨rfl, fin _ S2 H2 rfl hI hin2 hf hg⟩
theorem collectI_ok {seq : Value} {A F : List Int → Prop} {Q : List Nat} {G : Heap → Prop} {H : Heap} {K : Option Addr → Nat → Nat → Heap → Prop} (hq : SeqOk Tryz.prog (fun n => .int .i64 n) seq A F Q G)
    (hA : ∀ ys, A ys → ys.length ≤ 1000000000000) (hG : ∀ H', Fr [] H H' → G H') (hQ : ∀ k ∈ Q, k < H.size)
    (hk : ∀ xs a n c H', F xs → Own encInt 3 H.size H' a n c xs → Fr [] H H' → K a n c H') :
    CallH Tryz.prog 309 ⟨[seq]⟩ H fun v H' => ∃ a n c, v = .slice a n c ∧ K a n c H' := by
  apply vc_slices_Collect_int_
  apply vc_slices_AppendSeq___int_int_
  exact collect_loop (K := fun a n c H' => ∃ a' n' c', Value.slice a n c = .slice a' n' c' ∧ ∃ a'' n'' c'', Value.slice a' n' c' = .slice a'' n'' c'' ∧ K a'' n'' c'' H') (E := encInt) (t := 3) (bytes := 8) slice53 elem3 (by kernel_rfl) (by kernel_rfl) (by kernel_rfl) (fun _ => rfl) hq (fun ys h => by have := hA ys h; omega) hG hQ fun xs a n c H' h1 h2 h3 => ⟨_, _, _, rfl, _, _, _, rfl, hk xs a n c H' h1 h2 h3⟩
def nCh (n : Nat) : Nat := (n + 63) / 64
def piece (a : Option Addr) (n i : Nat) : Option Addr × Nat × Nat := (slA (min (64 * i + 64) n) (64 * i) 1 a, min (64 * i + 64) n - 64 * i, min (64 * i + 64) n - 64 * i)
def pieces (a : Option Addr) (n : Nat) : List (Option Addr × Nat × Nat) := (List.range (nCh n)).map (piece a n)
def encP (x : Option Addr × Nat × Nat) : Value := .slice x.1 x.2.1 x.2.2
def chunkB (l : List UInt8) : List (List UInt8) := (List.range (nCh l.length)).map fun i => (l.take (min (64 * i + 64) l.length)).drop (64 * i)
def chunksS (s : ByteArray) : List ByteArray := (chunkB (bl s)).map fun l => ⟨l.toArray⟩
theorem pieces_len (a : Option Addr) (n : Nat) : (pieces a n).length = nCh n := by simp [pieces]
theorem chunksS_len (s : ByteArray) : (chunksS s).length = nCh s.size := by simp [chunksS, chunkB, bl_len]
theorem take_succ_range {α : Type} (f : Nat → α) {k n : Nat} (h : k < n) : ((List.range n).map f).take (k + 1) = ((List.range n).map f).take k ++ [f k] := by
  rw [List.take_add_one]
  simp [h]
theorem chunk_seq {b b1 : Nat} {a : Option Addr} {n c : Nat} (hn : n ≤ 1000000000000) (hc : n ≤ c) :
    SeqOk Tryz.prog encP (.func (.func 437) ⟨[]⟩ ⟨[.pointer (some ⟨b, 0, none⟩), .pointer (some ⟨b1, 0, none⟩)]⟩) (fun ys => ys <+: pieces a n) (fun ys => ys = pieces a n) [b, b1]
    (fun H => Blk H ⟨b, 0, none⟩ [.slice a n c] ∧ Blk H ⟨b1, 0, none⟩ [.int .i64 64]) := by
  intro l H I K S hG hin hd h0 stab step fin
  obtain ⟨hb, hb1⟩ := hG
  refine ⟨437, ⟨[]⟩, _, rfl, by kernel_rfl, ?_⟩
  apply vc_slices_Chunk___byte_byte__1
  refine ⟨fun vs H2 => match vs with | [.int _ i] => ∃ (j : Nat) (S2 : List Nat), i = ((64 * j : Nat) : Int) ∧ j ≤ nCh n ∧ I ((pieces a n).take j) S2 H2 ∧ Fr S H H2 ∧ Grow H S S2 ∧ In H2 S2 | _ => False,
    fun vs _ => match vs with | [.int _ i] => n + 64 - i.toNat | _ => 0, ⟨0, S, rfl, by omega, by simpa using h0, Fr.refl _ _, Grow.refl _ _, hin⟩, ?_⟩
  rintro J i H2 ⟨j, S2, rfl, hj, hI, hf, hg, hin2⟩
  have m1 : ∀ k ∈ [b, b1], k ∉ S := fun k hk hkS => hd k hkS hk
  have hb2 := hb.fr hf (m1 b (by simp))
  have hb12 := hb1.fr hf (m1 b1 (by simp))
  have hch : nCh n = (n + 63) / 64 := rfl
  refine ⟨a, n, c, hb2.ld0 (by kernel_rfl) rfl, brB_of (fun h => ?_) (fun h => ?_)⟩
  · have hlt : 64 * j < n := by
      have h1 : ((64 * j : Nat) : Int) < (n : Int) := by simpa using h
      omega
    have hj' : j < nCh n := by omega
    refine ⟨64, hb12.ld0 (by kernel_rfl) rfl, a, n, c, hb2.ld0 (by kernel_rfl) rfl, chk_true (decide_eq_true (by omega)) ⟨a, n, c, hb2.ld0 (by kernel_rfl) rfl, ?_⟩⟩
    have e0 : (((64 * j : Nat) : Int) + if (((n : Int).toNat - ((64 * j : Nat) : Int).toNat : Nat) : Int) < 64 then (((n : Int).toNat - ((64 * j : Nat) : Int).toNat : Nat) : Int) else 64) = ((min (64 * j + 64) n : Nat) : Int) := by
      split <;> omega
    have e1 : IntKind.i64.wrap (((64 * j : Nat) : Int) + if (((n : Int).toNat - ((64 * j : Nat) : Int).toNat : Nat) : Int) < 64 then (((n : Int).toNat - ((64 * j : Nat) : Int).toNat : Nat) : Int) else 64) = ((min (64 * j + 64) n : Nat) : Int) := by
      rw [e0, wrap64_of (by omega) (by omega)]
    rw [e1]
    refine chk_true (decide_eq_true (by omega)) ?_
    have hnext : (pieces a n).take (j + 1) = (pieces a n).take j ++ [piece a n j] := take_succ_range _ hj'
    refine .inr ⟨l, rfl, (step ((pieces a n).take j) (piece a n j) S2 H2 (by rw [← hnext]; exact List.take_prefix _ _) hin2 hI).mono fun v H3 => ?_⟩
    rintro ⟨rfl, S3, hI3, hf3, hg3, hin3⟩
    have hf' : Fr S H H3 := hf.trans' hf3 (fun k hk _ => hk) (fun k hk hl => (hg k hk).elim id fun h => by omega)
    refine ⟨true, rfl, brB_of (fun h => by simp at h) fun _ => ⟨64, (hb1.fr hf' (m1 b1 (by simp))).ld0 (by kernel_rfl) rfl, ⟨j + 1, S3, ?_, by omega, by rw [hnext]; exact hI3, hf', hg.trans hf.size hg3, hin3⟩, ?_⟩⟩
    · rw [wrap64_of (by omega) (by omega)]; omega
    · show n + 64 - (IntKind.i64.wrap (((64 * j : Nat) : Int) + 64)).toNat < n + 64 - (((64 * j : Nat) : Int)).toNat
      rw [wrap64_of (by omega) (by omega)]; omega
  · have hge : n ≤ 64 * j := by
      have h1 : ¬ ((64 * j : Nat) : Int) < (n : Int) := by simpa using h
      omega
    have hjj : j = nCh n := by omega
    subst hjj
    refine ⟨rfl, fin _ S2 H2 ?_ hI hin2 hf hg⟩
    rw [List.take_of_length_le (by rw [pieces_len]; exact Nat.le_refl _)]
theorem chunks_ok {s : ByteArray} {H : Heap} {K : Option Addr → Nat → Nat → Heap → Prop} (hs : s.size ≤ 1000000000)
    (hk : ∀ a n c H', Own GV.encStr 9 H.size H' a n c (chunksS s) → Fr [] H H' → K a n c H') :
    CallH Tryz.prog fn_files_chunks ⟨[.string s]⟩ H fun v H' => ∃ a n c, v = .slice a n c ∧ K a n c H' := by
  apply vc_files_chunks
  intro b H1 hn1
  have hb := hn1.eq
  have hs1 := hn1.size
  refine cv_sb bT.str bT.sl (by kernel_rfl) fun q qc H2 hq hsl f2 => ?_
  apply vc_slices_Chunk___byte_byte_
  intro b2 H3 hn3 b3 H4 hn4
  have hs3 := hn3.size
  have hs4 := hn4.size
  have e3 := hn3.eq
  have e4 := hn4.eq
  have s2 := f2.size
  have f13 : Fr [] H1 H3 := f2.keep0 hn3.fr
  have f14 : Fr [] H1 H4 := f13.keep0 hn4.fr
  refine ⟨64, hn4.blk.ld0 (by kernel_rfl) rfl, brB_of (fun h => by simp at h) fun _ => ⟨_, rfl, fun D l R0 H5 hnl hY => ?_⟩⟩
  have hblk := hn1.blk.keep f14
  obtain ⟨hI0, hin0⟩ := ColI.start (E := GV.encStr) (t := 9) (hn1.fr.keep0 f14) hblk (by omega) hnl
  obtain ⟨f45, _, _, eD, el, s5⟩ := hnl.out
  have hcap := hsl.cap
  have s45 := f45.size
  have hql : 0 < s.size → q < H2.size := fun h => by
    obtain ⟨b', off, e, hlt⟩ := hsl.arr.lt (by intro e; have := bl_len s; rw [e] at this; simp at this; omega)
    cases e
    exact hlt
  have hcs : chunksS s = (List.range (nCh s.size)).map fun i => (⟨((bl s).take (min (64 * i + 64) s.size) |>.drop (64 * i)).toArray⟩ : ByteArray) := by
    unfold chunksS chunkB
    rw [List.map_map, bl_len]
    rfl
  refine CallV.mono ((chunk_seq (b := b2) (b1 := b3) (a := some ⟨q, 0, none⟩) (n := s.size) (c := qc) (by omega) hcap) l H5
    (fun ys S Hx => ColI GV.encStr 9 H.size l D b R0 H ((chunksS s).take ys.length) S Hx ∧ (0 < s.size → Sl encByte Hx (some ⟨q, 0, none⟩) s.size qc (bl s) ∧ q ∉ S))
    (fun H4 => _) [b, l, D] ⟨(hn3.blk.keep hn4.fr).keep f45, hn4.blk.keep f45⟩ hin0 ?_ ⟨hI0, fun h0 => ⟨(hsl.keep (hn3.fr.keep0 hn4.fr)).keep f45, ?_⟩⟩ ?_ ?_ ?_) fun v H' h => h.2
  · intro k hk hkq
    simp only [List.mem_cons, List.mem_nil_iff, or_false] at hk hkq
    omega
  · have := hql h0
    intro h
    simp only [List.mem_cons, List.mem_nil_iff, or_false] at h
    omega
  · rintro ys S Ha Hb T ⟨hI, hx⟩ hf hd hT
    refine ⟨hI.stay hf hd fun k hk => by have := hT k hk; have := hn1.fr.size; omega, fun h0 => ⟨(hx h0).1.fr hf fun ad e hh => ?_, (hx h0).2⟩⟩
    cases e
    have h1 : H5.size ≤ q := hT _ hh
    have h2 := hql h0
    omega
  · rintro ys x S Hx hA hin ⟨hI, hx⟩
    have hj : ys.length < nCh s.size := by
      have := hA.length_le
      rw [pieces_len] at this
      simp at this
      omega
    have hch : nCh s.size = (s.size + 63) / 64 := rfl
    have h0 : 0 < s.size := by omega
    have hxe : x = piece (some ⟨q, 0, none⟩) s.size ys.length := by
      obtain ⟨zs, hz⟩ := hA
      have h1 : (pieces (some ⟨q, 0, none⟩) s.size)[ys.length]? = some x := by rw [← hz]; simp
      unfold pieces at h1
      simp [hj] at h1
      exact h1.symm
    subst hxe
    obtain ⟨hsx, hqS⟩ := hx h0
    obtain ⟨a2, n2, c2, hbk, ho, hS, m1, m2, m3⟩ := hI.it
    have hlq : q ≠ l := fun e => hqS (by simp [hS, e])
    refine hY _ _ _ Hx _ hI.lp ⟨hI.lp, a2, n2, c2, (hbk.fr (setLp_fr Hx l R0 .busy none) (by simp [hI.bl])).ld0 (by kernel_rfl) rfl, ?_⟩
    have hlen := bl_len s
    have hcut := (hsx.fr (setLp_fr Hx l R0 .busy none) (fun ad e hh => by cases e; simp at hh; exact hlq hh)).cut (k := 64 * ys.length) (m := min (64 * ys.length + 64) s.size) (by omega) (by omega)
    have hslA : slA qc (64 * ys.length) 1 (some ⟨q, 0, none⟩) = slA (min (64 * ys.length + 64) s.size) (64 * ys.length) 1 (some ⟨q, 0, none⟩) := by
      rw [slA_eq, slA_eq, if_neg (by omega), if_neg (by omega)]
    have hsl2 : Sl encByte (setLp Hx l R0 .busy none) (piece (some ⟨q, 0, none⟩) s.size ys.length).1 (piece (some ⟨q, 0, none⟩) s.size ys.length).2.1 (piece (some ⟨q, 0, none⟩) s.size ys.length).2.2 (((bl s).take (min (64 * ys.length + 64) s.size)).drop (64 * ys.length)) := by
      refine ⟨hcut.len, Nat.le_refl _, ?_⟩
      have h1 := hcut.arr
      rw [show encByte.sz = 1 from rfl, hslA] at h1
      exact h1
    have hnext : (chunksS s).take (ys.length + 1) = (chunksS s).take ys.length ++ [⟨(((bl s).take (min (64 * ys.length + 64) s.size)).drop (64 * ys.length)).toArray⟩] := by
      rw [hcs]; exact take_succ_range _ hj
    refine cv_bs (e := 5) bT.sl bT.str (by kernel_rfl) hsl2 ?_
    refine hI.more (E := GV.encStr) (bytes := 16) (x := ⟨(((bl s).take (min (64 * ys.length + 64) s.size)).drop (64 * ys.length)).toArray⟩) slice41 elem9 (by kernel_rfl) (by kernel_rfl) rfl hin hbk ho hS m1 m2 m3 ?_ (Fr.refl _ _) fun H6 S6 lp6 hI6 f6 g6 in6 => ⟨lp6, rfl, S6, ⟨?_, fun _ => ⟨?_, ?_⟩⟩, f6, g6, in6⟩
    · rw [List.length_take, chunksS_len]; omega
    · rw [List.length_append, List.length_singleton, hnext]; exact hI6
    · exact hsx.fr f6 fun ad e hh => by cases e; exact hqS hh
    · intro h
      have h1 := hql h0
      have h2 := hin0 b (by simp)
      rcases g6 q h with h | h
      · exact hqS h
      · have := hI.fr.size
        have h3 : q < Hx.size := by
          obtain ⟨b', off, e, hlt⟩ := hsx.arr.lt (by intro e; rw [e] at hlen; simp at hlen; omega)
          cases e
          exact hlt
        omega
  · rintro xs S1 H6 rfl ⟨hI, _⟩ hin hf hg
    refine .inl (hI.done (P := Tryz.prog) (ts := 24) (K := fun a n c H' => ∃ a_1 n_1 c_1, Value.slice a n c = Value.slice a_1 n_1 c_1 ∧ K a_1 n_1 c_1 H') (by kernel_rfl) fun a n c H7 ho hf7 _ => ⟨_, _, _, rfl, hk a n c H7 ?_ hf7⟩)
    rw [pieces_len, List.take_of_length_le (by rw [chunksS_len]; exact Nat.le_refl _)] at ho
    exact ho
end Go.Proofs.Fs
namespace Go.SX
open Go.Proofs Go.Proofs.Fs
structure Tok (T : Tab) (V : Val) : Prop extends TokN T V where
  U : ∀ (j : Nat) (a : Atom) (x : Lin), T[j]? = some a → a.d = .U x → ∃ n : Nat, x.den V = (n : Int) ∧ n < 18446744073709551616 ∧ V.s j = uintL n
  I : ∀ (j : Nat) (a : Atom) (x : Lin), T[j]? = some a → a.d = .I x → Go.Proofs.I64 (x.den V) ∧ V.s j = intL (x.den V)
  D : ∀ (j : Nat) (a : Atom) (x : Lin), T[j]? = some a → a.d = .D x → Go.Proofs.I64 (x.den V) ∧ V.s j = Lib.itoa (x.den V)
  C : ∀ (j : Nat) (a : Atom) (r : Rope), T[j]? = some a → a.d = .C r → V.s j = [UInt8.ofNat (crcN (denR V r) / 256), UInt8.ofNat (crcN (denR V r) % 256)]
  st : ∃ cs te fz, V.fr 1 = some (.cells cs te fz) ∧ ∀ k, k < 16 → cs[k]? = some (.int .u16 (stN k))
  p10 : ∃ t f, V.fr 4 = some (.cells (Lib.pow10Tab.map fun z => Value.int .u64 z).toArray t f)
section
variable {V : Val} {T : Tab}
theorem Tok.mono (h : Tok T V) {V' : Val} (hV : Sim V V') (hf : ∀ x o, V.fr x = some o → V'.fr x = some o) : Tok T V' where
  rng i a hi := by rw [hV.1]; exact h.rng i a hi
  size i a hi := by rw [hV.den, hV.2.1]; exact h.size i a hi
  div i a x k hi ha := by rw [hV.1, hV.den]; exact h.div i a x k hi ha
  U i a x hi ha := by rw [hV.den, hV.2.1]; exact h.U i a x hi ha
  I i a x hi ha := by rw [hV.den, hV.2.1]; exact h.I i a x hi ha
  D i a x hi ha := by rw [hV.den, hV.2.1]; exact h.D i a x hi ha
  C i a r hi ha := by rw [hV.denR, hV.2.1]; exact h.C i a r hi ha
  st := by obtain ⟨cs, te, fz, h1, h2⟩ := h.st; exact ⟨cs, te, fz, hf _ _ h1, h2⟩
  p10 := by obtain ⟨t, f, h1⟩ := h.p10; exact ⟨t, f, hf _ _ h1⟩
theorem bOf (V : Val) (l : List Nat) : denR V [.b l] = byteL l := by simp [denR, Seg.den]
theorem aOf (V : Val) (j : Nat) : denR V [.a j] = V.s j := by simp [denR, Seg.den]
theorem uBytes_ok : ∀ f n, n < 128 ^ (f + 1) → byteL (uBytes f n) = uintL n
  | 0, n, h => by rw [uintL_small (by omega)]; rfl
  | f + 1, n, h => by
    unfold uBytes
    by_cases h1 : n < 128
    · rw [show Nat.blt n 128 = true by simpa [Nat.blt_eq] using h1, uintL_small h1]; rfl
    · rw [show Nat.blt n 128 = false by simpa [← Bool.not_eq_true, Nat.blt_eq] using h1, uintL_big h1]
      show UInt8.ofNat (n % 128 + 128) :: byteL (uBytes f (n / 128)) = _
      rw [uBytes_ok f (n / 128) (by rw [Nat.div_lt_iff_lt_mul (by decide), ← Nat.pow_succ]; exact h)]
theorem foldZ_ok (v : Int) : foldZ v = foldN v := by
  cases v with
  | ofNat n =>
    have e : (Int.ofNat n) = (n : Int) := rfl
    unfold foldZ foldN; rw [e, if_pos (by omega)]; show 2 * n = _; omega
  | negSucc n => unfold foldZ foldN; rw [if_neg (by omega)]; show 2 * n + 1 = _; omega
theorem unfoldZ_ok (n : Nat) : unfoldZ n = unfoldN n := by
  unfold unfoldZ unfoldN
  by_cases h : n % 2 = 0
  · rw [if_pos h, show Nat.beq (Nat.mod n 2) 0 = true by rw [show Nat.mod n 2 = 0 from h]; rfl]; rfl
  · rw [if_neg h, show Nat.beq (Nat.mod n 2) 0 = false by
      rw [show Nat.mod n 2 = 1 by show n % 2 = 1; omega]; rfl]
    show Int.negSucc (n / 2) = _; omega
theorem decN_ok : ∀ f n acc, n < 10 ^ (f + 1) → byteL (decN (f + 1) n acc) = Lib.decDigits n ++ byteL acc
  | f, n, acc, h => by
    unfold decN
    by_cases h1 : n < 10
    · rw [show Nat.blt n 10 = true by simpa [Nat.blt_eq] using h1, Lib.decDigits, dif_pos h1]; rfl
    · rw [show Nat.blt n 10 = false by simpa [← Bool.not_eq_true, Nat.blt_eq] using h1, Lib.decDigits, dif_neg h1]
      cases f with
      | zero => omega
      | succ f =>
        show byteL (decN (f + 1) (n / 10) ((48 + n % 10) :: acc)) = _
        rw [decN_ok f (n / 10) _ (by rw [Nat.pow_succ] at h; omega)]
        simp [byteL]
theorem fitI64 {z : Int} (h : fitI .i64 z = true) : Go.Proofs.I64 z := by
  have h := eqI_ok.1 h
  unfold IntKind.wrap at h
  simp [IntKind.bits, IntKind.signed] at h
  unfold Go.Proofs.I64
  omega
theorem decB_ok {c : Int} (h : Go.Proofs.I64 c) : byteL (decB c) = Lib.itoa c := by
  cases c with
  | ofNat n =>
    have e : (Int.ofNat n) = (n : Int) := rfl
    rw [e] at h
    unfold Go.Proofs.I64 at h
    have := decN_ok 24 n [] (by omega)
    rw [e, Lib.itoa_nonneg]
    simpa [byteL, decB] using this
  | negSucc n =>
    unfold Go.Proofs.I64 at h
    have := decN_ok 24 (n + 1) [] (by omega)
    rw [show Int.negSucc n = -((n + 1 : Nat) : Int) by omega, Lib.itoa_neg _ (by omega)]
    show UInt8.ofNat 45 :: byteL (decN 25 (n + 1) []) = _
    rw [this]; simp [byteL]
theorem nthN_eq : ∀ (l : List Nat) (i : Nat), nthN l i = l.getD i 0
  | [], _ => by simp [nthN]
  | a :: l, 0 => rfl
  | a :: l, i + 1 => by
    have : Nat.beq (i + 1) 0 = false := rfl
    rw [nthN, this]; simpa using nthN_eq l i
theorem nibK_ok (c h : Nat) : nibK c h = nibN c h := by
  unfold nibK nibN stN
  rw [nthN_eq]; rfl
theorem crcK_ok : ∀ l c, crcK l c = (byteL l).foldl (fun c b => crcB c b.toNat) c
  | [], c => rfl
  | b :: l, c => by
    rw [crcK, crcK_ok l, nibK_ok, nibK_ok]
    show _ = (byteL l).foldl _ (crcB c (UInt8.ofNat b).toNat)
    congr 1
    unfold crcB
    rw [UInt8.toNat_ofNat']
    show nibN (nibN c (b % 256 / 16)) (b % 16) = nibN (nibN c (b % 2 ^ 8 / 16)) (b % 2 ^ 8 % 16)
    rw [show b % 2 ^ 8 % 16 = b % 16 by omega]
theorem cB_ok {V : Val} {r : Rope} {l : List Nat} (h : litR r = some l) : byteL (cB (crcK l 65535)) = [UInt8.ofNat (crcN (denR V r) / 256), UInt8.ofNat (crcN (denR V r) % 256)] := by
  rw [crcK_ok, ← litR_ok (V := V) h]; rfl
theorem sameDef_ok {a d : Def} (h : sameDef a d = true) : a = d := by
  unfold sameDef at h
  split at h
  · cases h
  · rw [sameLin_ok h]
  · rw [sameLin_ok h]
  · rw [sameLin_ok h]
  · rw [sameR_ok h]
  · rw [sameR_ok h]
  · cases h
theorem findA_ok {d : Def} : ∀ {T : Tab} {i j : Nat}, findA d i T = some j → i ≤ j ∧ ∃ a, T[j - i]? = some a ∧ a.d = d
  | [], i, j, h => by cases h
  | a :: T, i, j, h => by
    unfold findA at h
    cases hb : sameDef a.d d with
    | true => rw [hb] at h; cases h; exact ⟨Nat.le_refl _, a, by simp, sameDef_ok hb⟩
    | false =>
      rw [hb] at h
      obtain ⟨h1, b, h2, h3⟩ := findA_ok (show findA d (i + 1) T = some j from h)
      exact ⟨by omega, b, by rw [show j - i = (j - (i + 1)) + 1 by omega]; simpa using h2, h3⟩
theorem atomR_ok {d : Def} {q : Rope} (h : atomR T d = some q) : ∃ j a, q = [.a j] ∧ T[j]? = some a ∧ a.d = d := by
  unfold atomR at h
  split at h
  · rename_i j hj
    cases h
    obtain ⟨_, a, h1, h2⟩ := findA_ok hj
    exact ⟨j, a, rfl, h1, h2⟩
  · cases h
theorem den_nil {x : Lin} (h : isNilL x.l = true) (V : Val) : x.den V = x.c := by simp [Lin.den, isNilL_ok h, sumL]
theorem uOf_ok (hT : Tok T V) {x : Lin} {q : Rope} (h : uOf T x = some q) : ∃ n : Nat, x.den V = n ∧ n < 18446744073709551616 ∧ denR V q = uintL n := by
  unfold uOf at h
  split at h
  · rename_i h0
    split at h
    · rename_i n hn
      cases hb : Nat.blt n 18446744073709551616 with
      | false => rw [hb] at h; cases h
      | true =>
        rw [hb] at h
        cases h
        have hb : n < 18446744073709551616 := by simpa [Nat.blt_eq] using hb
        exact ⟨n, by rw [den_nil h0, hn]; rfl, hb, by rw [bOf, uBytes_ok 10 n (by omega)]⟩
    · cases h
  · obtain ⟨j, a, rfl, h1, h2⟩ := atomR_ok h
    obtain ⟨n, h3, h4, h5⟩ := hT.U j a x h1 h2
    exact ⟨n, h3, h4, by rw [aOf, h5]⟩
theorem iOf_ok (hT : Tok T V) {x : Lin} {q : Rope} (h : iOf T x = some q) : Go.Proofs.I64 (x.den V) ∧ denR V q = intL (x.den V) := by
  unfold iOf at h
  split at h
  · rename_i h0
    cases hb : fitI .i64 x.c with
    | false => rw [hb] at h; cases h
    | true =>
      rw [hb] at h
      cases h
      have := fitI64 hb
      rw [den_nil h0]
      refine ⟨this, ?_⟩
      rw [bOf, foldZ_ok]
      have := foldN_lt this
      exact uBytes_ok 10 _ (by omega)
  · obtain ⟨j, a, rfl, h1, h2⟩ := atomR_ok h
    obtain ⟨h3, h4⟩ := hT.I j a x h1 h2
    exact ⟨h3, by rw [aOf, h4]⟩
theorem dOf_ok (hT : Tok T V) {x : Lin} {q : Rope} (h : dOf T x = some q) : Go.Proofs.I64 (x.den V) ∧ denR V q = Lib.itoa (x.den V) := by
  unfold dOf at h
  split at h
  · rename_i h0
    cases hb : fitI .i64 x.c with
    | false => rw [hb] at h; cases h
    | true =>
      rw [hb] at h
      cases h
      have := fitI64 hb
      rw [den_nil h0]
      exact ⟨this, by rw [bOf, decB_ok this]⟩
  · obtain ⟨j, a, rfl, h1, h2⟩ := atomR_ok h
    obtain ⟨h3, h4⟩ := hT.D j a x h1 h2
    exact ⟨h3, by rw [aOf, h4]⟩
theorem cOf_ok (hT : Tok T V) {r q : Rope} (h : cOf T r = some q) : denR V q = [UInt8.ofNat (crcN (denR V r) / 256), UInt8.ofNat (crcN (denR V r) % 256)] := by
  unfold cOf at h
  split at h
  · rename_i l hl
    cases h
    rw [bOf, cB_ok hl]
  · obtain ⟨j, a, rfl, h1, h2⟩ := atomR_ok h
    rw [aOf, hT.C j a r h1 h2]
abbrev tx (V : Val) (r : Rope) : ByteArray := ⟨(denR V r).toArray⟩
theorem tx_bl (V : Val) (r : Rope) : bl (tx V r) = denR V r := by simp [tx, bl]
theorem tx_sz (V : Val) (r : Rope) : (tx V r).size = (denR V r).length := by rw [← bl_len, tx_bl]
theorem frOf_ok (hT : Tok T V) {r q : Rope} (h : frOf T r = some q) : denR V q = frameL (tx V r) := by
  unfold frOf at h
  split at h
  · rename_i z hz
    split at h
    · rename_i u c hu hc
      cases h
      obtain ⟨n, h1, h2, h3⟩ := uOf_ok hT hu
      have h4 := ropeSz_ok hT.toTokN hz
      rw [appR_den, appR_den, h3, cOf_ok hT hc]
      unfold frameL textL
      rw [tx_bl, tx_sz, show n = (denR V r).length by omega]
      simp
    · cases h
  · cases h
theorem getU1_ok : ∀ {f : Nat} {l : List Nat} {k n : Nat} {r : Nat × Nat}, getU1 f l (128 ^ k) n k = some r →
    ∃ ds c t, byteL l = ds ++ c :: t ∧ HighL ds ∧ c.toNat < 128 ∧ (ds ≠ [] ∨ k ≠ 0 → c.toNat ≠ 0) ∧ r.1 = n + 128 ^ k * valL (ds ++ [c]) ∧ r.2 = k + ds.length + 1 ∧ ds.length < f
  | 0, l, k, n, r, h => by cases l <;> cases h
  | f + 1, [], k, n, r, h => by cases h
  | f + 1, c :: l, k, n, r, h => by
    unfold getU1 at h
    cases h1 : Nat.blt c 128 with
    | true =>
      rw [h1] at h
      simp only [cond_true] at h
      have hc : c < 128 := by simpa [Nat.blt_eq] using h1
      have hcn : (UInt8.ofNat c).toNat = c := by rw [UInt8.toNat_ofNat']; omega
      refine ⟨[], UInt8.ofNat c, byteL l, rfl, (fun d hd => nomatch hd), (by rw [hcn]; exact hc), ?_, ?_⟩
      · intro hk e
        rw [hcn] at e
        subst e
        have hk : k ≠ 0 := by simpa using hk
        have : Nat.beq k 0 = false := by
          cases hb : Nat.beq k 0 with
          | false => rfl
          | true => exact absurd (Nat.eq_of_beq_eq_true hb) hk
        rw [show Nat.beq 0 0 = true from rfl, this] at h
        cases h
      · cases h2 : Nat.beq c 0 with
        | true =>
          rw [h2] at h
          have := Nat.eq_of_beq_eq_true h2
          subst this
          cases h3 : Nat.beq k 0 with
          | false => rw [h3] at h; cases h
          | true => rw [h3] at h; cases h; simp [valL]
        | false =>
          rw [h2] at h
          cases h
          refine ⟨?_, by simp, by simp⟩
          simp only [List.nil_append, valL]
          rw [hcn, Nat.mod_eq_of_lt hc]
          rfl
    | false =>
      rw [h1] at h
      simp only [cond_false] at h
      cases h2 : Nat.blt c 256 with
      | false => rw [h2] at h; cases h
      | true =>
        rw [h2] at h
        have hc : c < 256 := by simpa [Nat.blt_eq] using h2
        have hc1 : ¬ c < 128 := fun hh => by rw [show Nat.blt c 128 = true by simpa [Nat.blt_eq] using hh] at h1; cases h1
        have hcn : (UInt8.ofNat c).toNat = c := by rw [UInt8.toNat_ofNat']; omega
        have h : getU1 f l (128 ^ (k + 1)) (n + 128 ^ k * (c - 128)) (k + 1) = some r := h
        obtain ⟨ds, c', t, g1, g2, g3, g4, g5, g6, g7⟩ := getU1_ok h
        refine ⟨UInt8.ofNat c :: ds, c', t, by show UInt8.ofNat c :: byteL l = _; rw [g1]; rfl, ?_, g3, fun _ => g4 (.inr (by omega)), ?_, by rw [g6]; simp; omega, by simp; omega⟩
        · intro d hd
          rcases List.mem_cons.1 hd with rfl | hd
          · omega
          · exact g2 d hd
        · rw [g5, List.cons_append, valL, hcn, show c % 128 = c - 128 by omega, Nat.mul_add, Nat.pow_succ, Nat.mul_assoc]
          omega
theorem litU1_ok {l : List Nat} {r : Nat × Nat} (h : getU1 4 l 1 0 0 = some r) : r.1 < 18446744073709551616 ∧ ∃ t, byteL l = uintL r.1 ++ t ∧ (uintL r.1).length = r.2 := by
  obtain ⟨ds, c, t, g1, g2, g3, g4, g5, g6, g7⟩ := getU1_ok (k := 0) h
  have e := uintL_val ds c g2 g3 (fun hd => g4 (.inl hd))
  have hv := valL_lt (ds ++ [c])
  have hl : (ds ++ [c]).length ≤ 4 := by simp; omega
  have : 128 ^ (ds ++ [c]).length ≤ 128 ^ 4 := Nat.pow_le_pow_right (by decide) hl
  have e1 : r.1 = valL (ds ++ [c]) := by rw [g5]; simp
  rw [e1]
  refine ⟨by omega, t, by rw [e, g1]; simp, by rw [e, g6]; simp⟩
theorem defAt_ok {j : Nat} {d : Def} (h : defAt T j = some d) : ∃ a, T[j]? = some a ∧ a.d = d := by
  unfold defAt at h
  split at h
  · rename_i a ha
    cases h
    rw [nthA_eq] at ha
    exact ⟨a, ha, rfl⟩
  · cases h
theorem szA_ok (hT : TokN T V) {j : Nat} {z : Lin} (h : szA T j = some z) : z.den V = ((V.s j).length : Int) := by
  obtain ⟨a, h1, h2⟩ := ob_out h
  cases h2
  rw [nthA_eq] at h1
  exact hT.size j a h1
theorem getU_ok (hT : Tok T V) {q : Rope} {x : Lin × Lin} (h : getU T q = some x) : ∃ (n : Nat) (t : List UInt8), x.1.den V = n ∧ n < 18446744073709551616 ∧ denR V q = uintL n ++ t ∧ x.2.den V = ((uintL n).length : Int) := by
  unfold getU at h
  split at h
  · rename_i j q'
    split at h
    · rename_i y z h1 h2
      cases h
      obtain ⟨a, k1, k2⟩ := defAt_ok h1
      obtain ⟨n, k3, k4, k5⟩ := hT.U j a y k1 k2
      exact ⟨n, denR V q', k3, k4, by show V.s j ++ _ = _; rw [k5], by rw [szA_ok hT.toTokN h2, k5]⟩
    · cases h
  · rename_i l q'
    unfold litU at h
    split at h
    · rename_i r hr
      cases h
      obtain ⟨h1, t, h2, h3⟩ := litU1_ok hr
      exact ⟨r.1, t ++ denR V q', by simp, h1, by show byteL l ++ _ = _; rw [h2]; simp, by simp [h3]⟩
    · cases h
  · cases h
theorem getI_ok (hT : Tok T V) {q : Rope} {x : Lin × Lin} (h : getI T q = some x) : ∃ (n : Nat) (t : List UInt8), x.1.den V = unfoldN n ∧ n < 18446744073709551616 ∧ denR V q = uintL n ++ t ∧ x.2.den V = ((uintL n).length : Int) := by
  unfold getI at h
  split at h
  · rename_i j q'
    split at h
    · rename_i y z h1 h2
      cases h
      obtain ⟨a, k1, k2⟩ := defAt_ok h1
      obtain ⟨k3, k5⟩ := hT.I j a y k1 k2
      refine ⟨foldN (y.den V), denR V q', (unfold_fold _).symm, foldN_lt k3, by show V.s j ++ _ = _; rw [k5]; rfl, by rw [szA_ok hT.toTokN h2, k5]; rfl⟩
    · cases h
  · rename_i l q'
    unfold litI at h
    split at h
    · rename_i r hr
      cases h
      obtain ⟨h1, t, h2, h3⟩ := litU1_ok hr
      exact ⟨r.1, t ++ denR V q', by simp [unfoldZ_ok], h1, by show byteL l ++ _ = _; rw [h2]; simp, by simp [h3]⟩
    · cases h
  · cases h
theorem gate_ok (hT : TokN T V) {r : Rope} {o : Option Res} {outs : List (SV × St)} (h : gate T r o = some (some outs)) : o = some (some outs) ∧ (denR V r).length < 1000000 := by
  unfold gate at h
  split at h
  · rename_i z hz
    cases hs : smallZ T z with
    | false => rw [hs] at h; cases h
    | true =>
      rw [hs] at h
      refine ⟨h, ?_⟩
      unfold smallZ at hs
      split at hs
      · rename_i q hq
        have h1 := ltI_ok.1 hs
        have h2 := rng_ok hT hq
        have h3 := ropeSz_ok hT hz
        omega
      · cases hs
  · cases h
theorem cutC_ok (hT : Tok T V) {t q q' : Rope} (h : cutC T t q = some q') : denR V q = [UInt8.ofNat (crcN (denR V t) / 256), UInt8.ofNat (crcN (denR V t) % 256)] ++ denR V q' := by
  unfold cutC at h
  split at h
  · rename_i l hl
    split at h
    · rename_i p hp
      split at h
      · rename_i c hc
        cases hb : natsB c (cB (crcK l 65535)) with
        | false => rw [hb] at h; cases h
        | true =>
          rw [hb] at h
          cases h
          obtain ⟨k1, k2⟩ := cutR_ok hT.toTokN hp
          rw [k1, litR_ok hc, natsB_eq hb, cB_ok hl]
      · cases h
    · cases h
  · split at h
    · rename_i j q2
      split at h
      · rename_i t' hd
        cases hb : sameR t t' with
        | false => rw [hb] at h; cases h
        | true =>
          rw [hb] at h
          cases h
          obtain ⟨a, k1, k2⟩ := defAt_ok hd
          rw [show denR V (.a j :: q') = V.s j ++ denR V q' from rfl, hT.C j a t' k1 k2, sameR_ok hb]
      · cases h
    · cases h
def okTx (V : Val) : List SV → List ByteArray → Prop
  | [], M => M = []
  | x :: l, M => ∃ r M', x = .str r ∧ M = tx V r :: M' ∧ okTx V l M'
theorem gF_nil : gF [] = none := gF_none fun s x _ e => by
  have h1 := congrArg List.length e
  have h2 := frameL_pos s
  rw [List.length_append, List.length_nil] at h1
  omega
theorem scanF_ok (hT : Tok T V) : ∀ {f : Nat} {r : Rope} {at_ : Lin} {x : List SV × Lin}, Go.SX.scanF T f r at_ = some x → ∃ M, okTx V x.1 M ∧ x.2.den V = at_.den V + ((denR V r).length : Int) ∧ ∀ F, (denR V r).length < F → Go.Proofs.scanF F (denR V r) = (M, [])
  | 0, r, at_, x, h => by cases h
  | f + 1, r, at_, x, h => by
    unfold Go.SX.scanF at h
    split at h
    · cases h
      refine ⟨[], rfl, by simp [denR], fun F _ => ?_⟩
      exact scanF_none gF_nil F
    · split at h
      · cases h
      · rename_i y hy
        split at h
        · cases h
        · rename_i q hq
          split at h
          · cases h
          · rename_i t ht
            split at h
            · cases h
            · rename_i q' hq'
              split at h
              · rename_i l hl
                cases h
                obtain ⟨n, u, k1, k2, k3, k4⟩ := getU_ok hT hy
                obtain ⟨c1, c2⟩ := cutR_ok hT.toTokN hq
                obtain ⟨d1, d2⟩ := cutR_ok hT.toTokN ht
                have e1 : denR V q.1 = uintL n := by
                  have := c1.symm.trans k3
                  exact (List.append_inj this (by rw [k4] at c2; omega)).1
                have e2 := cutC_ok hT hq'
                obtain ⟨M, m1, m2, m3⟩ := scanF_ok hT hl
                have hn : (denR V t.1).length = n := by rw [k1] at d2; omega
                have hfr : denR V r = frameL (tx V t.1) ++ denR V q' := by
                  rw [c1, d1, e1, e2]
                  unfold frameL textL
                  rw [tx_bl, tx_sz, hn]
                  simp
                have hfl := congrArg List.length hfr
                rw [List.length_append] at hfl
                have hp := frameL_pos (tx V t.1)
                refine ⟨tx V t.1 :: M, ⟨t.1, M, rfl, rfl, m1⟩, ?_, fun F hF => ?_⟩
                · rw [m2, den_add, den_add, den_add, k4, k1, den_k, hfl, frameL_len]
                  unfold textL
                  rw [List.length_append, tx_bl, tx_sz, hn]
                  omega
                · obtain ⟨G, rfl⟩ : ∃ G, F = G + 1 := ⟨F - 1, by omega⟩
                  have hg : gF (denR V r) = some (tx V t.1, denR V q') := gF_of (by rw [tx_sz, hn]; exact k2) hfr
                  rw [scanF_some hg, m3 G (by omega)]
              · cases h
def IdxIs (l : List UInt8) (c : UInt8) : Option Nat → Prop
  | none => c ∉ l
  | some i => l[i]? = some c ∧ c ∉ l.take i
def orN : Option Nat → Int
  | none => -1
  | some i => i
theorem indexByte_is : ∀ {l : List UInt8} {c : UInt8} {o : Option Nat}, IdxIs l c o → Lib.indexByte l c = orN o
  | [], c, none, _ => rfl
  | [], c, some i, h => by simp [IdxIs] at h
  | b :: l, c, none, h => by
    have h : c ∉ b :: l := h
    rw [List.mem_cons, not_or] at h
    have h1 : (b == c) = false := by simpa using fun e => h.1 e.symm
    rw [Lib.indexByte, h1, indexByte_is (o := none) h.2]; rfl
  | b :: l, c, some 0, h => by
    have h1 : (b == c) = true := by have := h.1; simpa using this
    rw [Lib.indexByte, h1]; rfl
  | b :: l, c, some (i + 1), h => by
    obtain ⟨h1, h2⟩ := h
    rw [List.take_succ_cons, List.mem_cons, not_or] at h2
    have hb : (b == c) = false := by simpa using fun e => h2.1 e.symm
    rw [Lib.indexByte, hb, indexByte_is (o := some i) ⟨by simpa using h1, h2.2⟩]
    show (if ((i : Int) == -1) = true then _ else (i : Int) + 1) = ((i + 1 : Nat) : Int)
    rw [if_neg (by simp)]; omega
theorem IdxIs.left {l m : List UInt8} {c : UInt8} {i : Nat} (h : IdxIs l c (some i)) : IdxIs (l ++ m) c (some i) := by
  obtain ⟨h1, h2⟩ := h
  have hi := (List.getElem?_eq_some_iff.1 h1).1
  exact ⟨by rw [List.getElem?_append_left hi]; exact h1, by rw [List.take_append_of_le_length (by omega)]; exact h2⟩
theorem IdxIs.right {l m : List UInt8} {c : UInt8} {o : Option Nat} (h : IdxIs l c none) (h' : IdxIs m c o) : IdxIs (l ++ m) c (o.map (l.length + ·)) := by
  cases o with
  | none => exact fun hm => (List.mem_append.1 hm).elim h h'
  | some i =>
    show (l ++ m)[l.length + i]? = _ ∧ _ ∉ (l ++ m).take (l.length + i)
    refine ⟨by rw [List.getElem?_append_right (by omega), Nat.add_sub_cancel_left]; exact h'.1, ?_⟩
    rw [List.take_append, List.take_of_length_le (by omega), Nat.add_sub_cancel_left]
    exact fun hm => (List.mem_append.1 hm).elim h h'.2
theorem noW_lt : ∀ {l : List Nat}, noW l = true → ∀ x ∈ l, x < 256
  | [], _, x, hx => by simp at hx
  | a :: l, h, x, hx => by
    unfold noW at h
    cases hb : Nat.blt a 256 with
    | false => rw [hb] at h; cases h
    | true =>
      rw [hb] at h
      rcases List.mem_cons.1 hx with rfl | hx
      · simpa [Nat.blt_eq] using hb
      · exact noW_lt h x hx
theorem idxL_ok {c : Nat} (hc : c < 256) : ∀ {l : List Nat} {i : Nat}, (∀ x ∈ l, x < 256) → (∀ k, idxL c l i = some k → i ≤ k ∧ IdxIs (byteL l) (UInt8.ofNat c) (some (k - i))) ∧ (idxL c l i = none → IdxIs (byteL l) (UInt8.ofNat c) none)
  | [], i, _ => ⟨fun k h => by (cases h), fun _ => by simp [IdxIs, byteL]⟩
  | x :: l, i, hl => by
    have hx : x < 256 := hl x (by simp)
    have IH := idxL_ok hc (l := l) (i := i + 1) fun y hy => hl y (by simp [hy])
    unfold idxL
    cases hb : Nat.beq x c with
    | true =>
      have := Nat.eq_of_beq_eq_true hb
      subst this
      exact ⟨fun k h => by cases h; exact ⟨Nat.le_refl _, by simp [IdxIs, byteL]⟩, fun h => by cases h⟩
    | false =>
      have hne : UInt8.ofNat c ≠ UInt8.ofNat x := fun e => by
        have := byte_eq.1 e
        have : x = c := by omega
        subst this
        rw [Nat.beq_refl] at hb; cases hb
      refine ⟨fun k h => ?_, fun h => ?_⟩
      · obtain ⟨h1, h2, h3⟩ := IH.1 k h
        refine ⟨by omega, ?_⟩
        rw [show k - i = (k - (i + 1)) + 1 by omega]
        refine ⟨by simpa [byteL] using h2, ?_⟩
        rw [show byteL (x :: l) = UInt8.ofNat x :: byteL l from rfl, List.take_succ_cons, List.mem_cons, not_or]
        exact ⟨hne, h3⟩
      · have := IH.2 h
        show UInt8.ofNat c ∉ UInt8.ofNat x :: byteL l
        rw [List.mem_cons, not_or]
        exact ⟨hne, this⟩
theorem digits_mem {u : Nat} {b : UInt8} (h : b ∈ Lib.decDigits u) : 48 ≤ b.toNat ∧ b.toNat ≤ 57 := by
  rw [Lib.decDigits_eq] at h
  obtain ⟨t, _, rfl⟩ := List.mem_map.1 h
  unfold Lib.dg
  rw [UInt8.toNat_ofNat']
  omega
theorem itoa_mem {v : Int} {b : UInt8} (h : b ∈ Lib.itoa v) : b.toNat = 45 ∨ (48 ≤ b.toNat ∧ b.toNat ≤ 57) := by
  unfold Lib.itoa at h
  split at h
  · rcases List.mem_cons.1 h with rfl | h
    · exact .inl rfl
    · exact .inr (digits_mem h)
  · exact .inr (digits_mem h)
theorem noB_ok (hT : Tok T V) {c j : Nat} (h : noB T c j = true) : c < 256 ∧ UInt8.ofNat c ∉ V.s j := by
  unfold noB at h
  split at h
  · rename_i x hd
    obtain ⟨a, k1, k2⟩ := defAt_ok hd
    rw [(hT.D j a x k1 k2).2]
    cases h1 : digit c with
    | true => rw [h1] at h; cases h
    | false =>
      rw [h1] at h
      cases h2 : Nat.beq c 45 with
      | true => rw [h2] at h; cases h
      | false =>
        rw [h2] at h
        have hc : c < 256 := by have h : Nat.blt c 256 = true := h; simpa [Nat.blt_eq] using h
        refine ⟨hc, fun hm => ?_⟩
        have hcn : (UInt8.ofNat c).toNat = c := by rw [UInt8.toNat_ofNat']; omega
        rcases itoa_mem hm with e | ⟨e1, e2⟩
        · rw [hcn] at e; subst e; cases h2
        · rw [hcn] at e1 e2
          unfold digit at h1
          rw [Nat.ble_eq_true_of_le e1] at h1
          rw [show (bif true then Nat.ble c 57 else false) = Nat.ble c 57 from rfl, Nat.ble_eq_true_of_le e2] at h1
          cases h1
  · cases h
theorem idxB_ok (hT : Tok T V) {c : Nat} (hc : c < 256) : ∀ {r : Rope} {at_ : Lin} {x : Option Lin}, idxB T c r at_ = some x → ∃ o, IdxIs (denR V r) (UInt8.ofNat c) o ∧ (match x with | none => o = none | some y => ∃ i, o = some i ∧ y.den V = at_.den V + i)
  | [], at_, x, h => by cases h; exact ⟨none, by simp [IdxIs, denR], rfl⟩
  | .b l :: r, at_, x, h => by
    unfold idxB at h
    cases hw : noW l with
    | false => rw [hw] at h; cases h
    | true =>
      rw [hw] at h
      have hl := idxL_ok hc (l := l) (i := 0) (noW_lt hw)
      simp only [cond_true] at h
      split at h
      · rename_i i hi
        cases h
        obtain ⟨_, h2⟩ := hl.1 i hi
        exact ⟨some i, IdxIs.left (l := byteL l) (by simpa using h2), i, rfl, by rw [den_add]; simp⟩
      · rename_i hi
        obtain ⟨o, h1, h2⟩ := idxB_ok hT hc h
        refine ⟨_, IdxIs.right (l := byteL l) (hl.2 hi) h1, ?_⟩
        cases x with
        | none => have h2 : o = none := h2; subst h2; rfl
        | some y =>
          obtain ⟨i, rfl, h3⟩ := h2
          refine ⟨_, rfl, ?_⟩
          rw [h3, den_add, lenN_eq]
          simp [byteL]; omega
  | .a j :: r, at_, x, h => by
    unfold idxB at h
    cases hw : noB T c j with
    | false => rw [hw] at h; cases h
    | true =>
      rw [hw] at h
      simp only [cond_true] at h
      split at h
      · rename_i z hz
        obtain ⟨o, h1, h2⟩ := idxB_ok hT hc h
        refine ⟨_, IdxIs.right (l := V.s j) (o := o) (noB_ok hT hw).2 h1, ?_⟩
        have hz := szA_ok hT.toTokN hz
        cases x with
        | none => have h2 : o = none := h2; subst h2; rfl
        | some y =>
          obtain ⟨i, rfl, h3⟩ := h2
          refine ⟨_, rfl, ?_⟩
          rw [h3, den_add, hz]; show _ = _ + (((V.s j).length + i : Nat) : Int); omega
      · cases h
def LastIs (l : List UInt8) (c : UInt8) : Option Nat → Prop
  | none => c ∉ l
  | some i => l[i]? = some c ∧ c ∉ l.drop (i + 1)
def lastO (n : Nat) (o p : Option Nat) : Option Nat := match p with
  | some i => some (n + i)
  | none => o
theorem LastIs.app {l m : List UInt8} {c : UInt8} {o p : Option Nat} (h : LastIs l c o) (h' : LastIs m c p) : LastIs (l ++ m) c (lastO l.length o p) := by
  cases p with
  | some i =>
    refine ⟨by rw [List.getElem?_append_right (by omega), Nat.add_sub_cancel_left]; exact h'.1, ?_⟩
    rw [show l.length + i + 1 = l.length + (i + 1) by omega, List.drop_append, List.drop_of_length_le (by omega), Nat.add_sub_cancel_left]
    exact h'.2
  | none =>
    cases o with
    | none => exact fun hm => (List.mem_append.1 hm).elim h h'
    | some i =>
      have hi := (List.getElem?_eq_some_iff.1 h.1).1
      refine ⟨by rw [List.getElem?_append_left hi]; exact h.1, ?_⟩
      rw [List.drop_append_of_le_length (by omega)]
      exact fun hm => (List.mem_append.1 hm).elim h.2 h'
theorem lastL_ok {c : Nat} (hc : c < 256) : ∀ {l p : List Nat} {b : Option Nat}, (∀ x ∈ l, x < 256) → LastIs (byteL p) (UInt8.ofNat c) b → LastIs (byteL (p ++ l)) (UInt8.ofNat c) (lastL c l p.length b)
  | [], p, b, _, h => by simpa [lastL] using h
  | x :: l, p, b, hl, h => by
    have hx : x < 256 := hl x (by simp)
    have hl' : ∀ y ∈ l, y < 256 := fun y hy => hl y (by simp [hy])
    unfold lastL
    have e : p ++ x :: l = (p ++ [x]) ++ l := by simp
    have en : Nat.add p.length 1 = (p ++ [x]).length := by simp
    cases hb : Nat.beq x c with
    | true =>
      have := Nat.eq_of_beq_eq_true hb
      subst this
      rw [e, en]
      refine lastL_ok hc hl' ?_
      refine ⟨?_, ?_⟩
      · simp [byteL]
      · rw [List.drop_of_length_le (by simp [byteL])]; simp
    | false =>
      have hne : UInt8.ofNat c ≠ UInt8.ofNat x := fun e => by
        have := byte_eq.1 e
        have : x = c := by omega
        subst this
        rw [Nat.beq_refl] at hb; cases hb
      rw [e, en]
      refine lastL_ok hc hl' ?_
      have := LastIs.app (m := [UInt8.ofNat x]) (p := none) h (by simpa [LastIs] using hne)
      simpa [byteL, lastO] using this
theorem lastB_ok (hT : Tok T V) {c : Nat} (hc : c < 256) : ∀ {r : Rope} {at_ : Lin} {b : Option Lin} {x : Option Lin} {p : List UInt8} {o : Option Nat}, lastB T c r at_ b = some x → at_.den V = (p.length : Int) → LastIs p (UInt8.ofNat c) o → (match b with | none => o = none | some y => ∃ i, o = some i ∧ y.den V = i) →
    ∃ o', LastIs (p ++ denR V r) (UInt8.ofNat c) o' ∧ (match x with | none => o' = none | some y => ∃ i, o' = some i ∧ y.den V = (i : Int))
  | [], at_, b, x, p, o, h, ha, ho, hb => by cases h; exact ⟨o, by simpa [denR] using ho, hb⟩
  | .b l :: r, at_, b, x, p, o, h, ha, ho, hb => by
    unfold lastB at h
    cases hw : noW l with
    | false => rw [hw] at h; cases h
    | true =>
      rw [hw] at h
      simp only [cond_true] at h
      have hl : LastIs (byteL l) (UInt8.ofNat c) (lastL c l 0 none) := by
        have := lastL_ok hc (l := l) (p := []) (b := none) (noW_lt hw) (by simp [LastIs, byteL])
        simpa using this
      have := LastIs.app ho hl
      rw [denR, ← List.append_assoc]
      refine lastB_ok hT hc h ?_ this ?_
      · rw [den_add, ha, den_k, lenN_eq]; simp [Seg.den, byteL]
      · cases hll : lastL c l 0 none with
        | none => exact hb
        | some i =>
          exact ⟨_, rfl, by rw [den_add, ha]; simp⟩
  | .a j :: r, at_, b, x, p, o, h, ha, ho, hb => by
    unfold lastB at h
    cases hw : noB T c j with
    | false => rw [hw] at h; cases h
    | true =>
      rw [hw] at h
      simp only [cond_true] at h
      split at h
      · rename_i z hz
        have hz := szA_ok hT.toTokN hz
        have := LastIs.app (p := none) ho (show LastIs (V.s j) (UInt8.ofNat c) none from (noB_ok hT hw).2)
        rw [denR, ← List.append_assoc]
        refine lastB_ok hT hc h ?_ this hb
        rw [den_add, ha, hz]; simp [Seg.den]
      · cases h
theorem chunkB_cons {l : List UInt8} (h : l ≠ []) : chunkB l = l.take 64 :: chunkB (l.drop 64) := by
  have hl : 0 < l.length := List.length_pos_iff.2 h
  unfold chunkB nCh
  have e : (l.length + 63) / 64 = ((l.drop 64).length + 63) / 64 + 1 := by
    rw [List.length_drop]; omega
  rw [e, List.range_succ_eq_map, List.map_cons, List.map_map]
  congr 1
  · simp only [Nat.mul_zero, Nat.zero_add, List.drop_zero]
    rcases Nat.le_total 64 l.length with h1 | h1
    · rw [Nat.min_eq_left h1]
    · rw [Nat.min_eq_right h1, List.take_of_length_le (Nat.le_refl _), List.take_of_length_le h1]
  · refine List.map_congr_left fun i _ => ?_
    simp only [Function.comp]
    rw [List.take_drop, List.drop_drop, List.length_drop]
    rcases Nat.le_total 64 l.length with h1 | h1
    · congr 1
      · omega
      · congr 1; omega
    · rw [List.drop_of_length_le (by rw [List.length_take]; omega), List.drop_of_length_le (by rw [List.length_take]; omega)]
theorem split64_ok (hT : Tok T V) : ∀ {f : Nat} {r : Rope} {l : List SV}, split64 T f r = some l → okTx V l ((chunkB (denR V r)).map fun l => ⟨l.toArray⟩)
  | 0, r, l, h => by cases h
  | f + 1, r, l, h => by
    unfold split64 at h
    split at h
    · cases h
    · rename_i z hz
      have hz := ropeSz_ok hT.toTokN hz
      split at h
      · rename_i h1
        cases h
        have h1 := ltB_ok hT.toTokN h1
        have : denR V r = [] := by
          have h1 : ¬ (0 : Int) < z.den V := fun hh => by have := h1.2 (by simpa using hh); cases this
          exact List.length_eq_zero_iff.1 (by omega)
        rw [this]; rfl
      · rename_i h1
        have h1 := (ltB_ok hT.toTokN h1).1 rfl
        have hne : denR V r ≠ [] := fun e => by rw [e] at hz; simp at h1 hz; omega
        rw [chunkB_cons hne, List.map_cons]
        split at h
        · rename_i h2
          cases h
          have h2 := ltB_ok hT.toTokN h2
          have h2 : ¬ (64 : Int) < z.den V := fun hh => by have := h2.2 (by simpa using hh); cases this
          refine ⟨r, [], rfl, ?_, rfl⟩
          rw [List.take_of_length_le (by omega), List.drop_of_length_le (by omega)]
          rfl
        · split at h
          · rename_i q hq
            split at h
            · rename_i l' hl'
              cases h
              obtain ⟨k1, k2⟩ := cutR_ok hT.toTokN hq
              have k2 : (denR V q.1).length = 64 := by rw [den_k] at k2; omega
              have := split64_ok hT hl'
              have e1 : (denR V r).take 64 = denR V q.1 := by rw [k1, List.take_append_of_le_length (by omega), List.take_of_length_le (by omega)]
              have e2 : (denR V r).drop 64 = denR V q.2 := by rw [k1, List.drop_append_of_le_length (by omega), List.drop_of_length_le (by omega), List.nil_append]
              rw [e1, e2]
              exact ⟨q.1, _, rfl, rfl, this⟩
            · cases h
          · cases h
        · cases h
      · cases h
end
def Fre (V : Val) (s : St) (π : Pl) (x : Nat) : Prop := V.fr x = none ∧ ∀ i, i < s.m → (s.G.get i ≠ .dead → π.b i ≠ x) ∧ ∀ e ∈ exC (s.G.get i), π.b e ≠ x
section
variable {V : Val} {π : Pl} {s : St} {H H' : Heap}
theorem kill_get (s : St) (i j : Nat) : (setC s i .dead).G.get j = .dead ∨ (j ≠ i ∧ (setC s i .dead).G.get j = s.G.get j) := by
  rcases set_get s i .dead j with e | ⟨_, e⟩ | ⟨h, e⟩
  · exact .inl e
  · exact .inl e
  · exact .inr ⟨h, e⟩
theorem Fre.of_kill (h : Rel V s π H) {i : Nat} (hi : i < s.m) (hd : s.G.get i ≠ .dead) : Fre V (setC s i .dead) π (π.b i) := by
  refine ⟨?_, fun j hj => ⟨fun hl => ?_, fun e he => ?_⟩⟩
  · cases ho : V.fr (π.b i) with
    | none => rfl
    | some o => exact absurd rfl (((h.fr _ o ho).2 i hi).1 hd)
  · rcases kill_get s i j with e | ⟨hn, e⟩
    · exact absurd e hl
    · exact h.dj j i hj hi hn (by rw [← e]; exact hl) hd
  · rcases kill_get s i j with e' | ⟨hn, e'⟩
    · rw [e'] at he; simp [exC] at he
    · rw [e'] at he; exact ((h.ex j hj e he).2 i hi hd).symm
theorem Fre.kill {x : Nat} (h : Fre V s π x) (i : Nat) : Fre V (setC s i .dead) π x := by
  refine ⟨h.1, fun j hj => ⟨fun hl => ?_, fun e he => ?_⟩⟩
  · rcases kill_get s i j with e | ⟨hn, e⟩
    · exact absurd e hl
    · exact (h.2 j hj).1 (by rw [← e]; exact hl)
  · rcases kill_get s i j with e' | ⟨hn, e'⟩
    · rw [e'] at he; simp [exC] at he
    · rw [e'] at he; exact (h.2 j hj).2 e he
theorem Fre.new (h : Rel V s π H) {b : Nat} (hb : H.size ≤ b) : Fre V s π b := by
  refine ⟨?_, fun j hj => ⟨fun _ => ?_, fun e he => ?_⟩⟩
  · cases ho : V.fr b with
    | none => rfl
    | some o => have := lt_of_get (h.fr _ o ho).1; omega
  · have := h.lt j hj; omega
  · have := h.lt e (h.ex j hj e he).1; omega
theorem Rel.moreX (h : Rel V s π H) {X : List Nat} (hf : Go.GV.Fr X H H') (hX : ∀ x ∈ X, Fre V s π x) : Rel V s π H' := by
  have keep : ∀ i, i < s.m → s.G.get i ≠ .dead → H'[π.b i]? = H[π.b i]? := fun i hi hd => hf.2 _ (h.lt i hi) fun hm => ((hX _ hm).2 i hi).1 hd rfl
  refine ⟨fun i hi => ?_, fun i hi => Nat.lt_of_lt_of_le (h.lt i hi) hf.1, h.dj, h.ex, h.ex2, h.hi, fun x o ho => ⟨(hf.2 x (lt_of_get (h.fr x o ho).1) (fun hm => by rw [(hX x hm).1] at ho; cases ho)).trans (h.fr x o ho).1, (h.fr x o ho).2⟩⟩
  by_cases hd : s.G.get i = .dead
  · rw [hd]; trivial
  · exact okCh_mono (Ext.refl _ _) (Nat.le_refl _) hi (keep i hi hd) (fun e he => ⟨(h.ex i hi e he).1, hf.2 _ (h.lt e (h.ex i hi e he).1) fun hm => ((hX _ hm).2 i hi).2 e he rfl⟩) (h.ok i hi)
theorem Rel.revive (h : Rel V s π H) {i : Nat} (hi : i < s.m) (hx : Fre V s π (π.b i)) {c : Ch} (hc : okCh V π s.m H i c) (he : exC c = []) : Rel V (setC s i c) π H := by
  refine ⟨fun j hj => ?_, h.lt, fun j k hj hk hjk h1 h2 => ?_, fun j hj e hee => ?_, fun j k hj hk hjk e hee e' hee' => ?_, fun j hj => ?_, fun x o ho => ⟨(h.fr x o ho).1, fun j hj => ⟨fun hl => ?_, fun e hee => ?_⟩⟩⟩
  · rcases set_get s i c j with e | ⟨rfl, e⟩ | ⟨_, e⟩
    · rw [e]; trivial
    · rw [e]; exact hc
    · rw [e]; exact h.ok j hj
  · rcases set_get s i c j with e | ⟨rfl, e⟩ | ⟨_, e⟩
    · exact absurd e h1
    · rcases set_get s j c k with e' | ⟨rfl, e'⟩ | ⟨_, e'⟩
      · exact absurd e' h2
      · exact absurd rfl hjk
      · exact ((hx.2 k hk).1 (by rw [← e']; exact h2)).symm
    · rcases set_get s i c k with e' | ⟨rfl, e'⟩ | ⟨_, e'⟩
      · exact absurd e' h2
      · exact (hx.2 j hj).1 (by rw [← e]; exact h1)
      · exact h.dj j k hj hk hjk (by rw [← e]; exact h1) (by rw [← e']; exact h2)
  · rcases set_get s i c j with e0 | ⟨_, e0⟩ | ⟨_, e0⟩
    · rw [e0] at hee; simp [exC] at hee
    · rw [e0, he] at hee; simp at hee
    · rw [e0] at hee
      refine ⟨(h.ex j hj e hee).1, fun k hk hl => ?_⟩
      rcases set_get s i c k with e' | ⟨rfl, e'⟩ | ⟨_, e'⟩
      · exact absurd e' hl
      · exact ((hx.2 j hj).2 e hee).symm
      · exact (h.ex j hj e hee).2 k hk (by rw [← e']; exact hl)
  · rcases set_get s i c j with e0 | ⟨_, e0⟩ | ⟨_, e0⟩
    · rw [e0] at hee; simp [exC] at hee
    · rw [e0, he] at hee; simp at hee
    · rcases set_get s i c k with e1 | ⟨_, e1⟩ | ⟨_, e1⟩
      · rw [e1] at hee'; simp [exC] at hee'
      · rw [e1, he] at hee'; simp at hee'
      · rw [e0] at hee; rw [e1] at hee'
        exact h.ex2 j k hj hk hjk e hee e' hee'
  · rcases set_get s i c j with e | ⟨rfl, e⟩ | ⟨_, e⟩
    · exact e
    · have hj : s.m ≤ j := hj
      omega
    · exact e.trans (h.hi j hj)
  · rcases set_get s i c j with e | ⟨rfl, e⟩ | ⟨_, e⟩
    · exact absurd e hl
    · intro e2
      rw [e2] at hx
      rw [hx.1] at ho; cases ho
    · exact ((h.fr x o ho).2 j hj).1 (by rw [← e]; exact hl)
  · rcases set_get s i c j with e0 | ⟨_, e0⟩ | ⟨_, e0⟩
    · rw [e0] at hee; simp [exC] at hee
    · rw [e0, he] at hee; simp at hee
    · rw [e0] at hee; exact ((h.fr x o ho).2 j hj).2 e hee
theorem Rel.pushAt (h : Rel V s π H) {c : Ch} {b k n : Nat} (hb : b < H.size) (hx : Fre V s π b) (hc : okCh V (updPl π s.m b k n) (s.m + 1) H s.m c) (he : exC c = []) : Rel V (pushC s c) (updPl π s.m b k n) H := by
  have hx2 := updPl_ext π s.m b k n
  have hbs : (updPl π s.m b k n).b s.m = b := by simp [updPl]
  have hbo : ∀ i, i < s.m → (updPl π s.m b k n).b i = π.b i := fun i hi => (hx2 i hi).1
  refine ⟨fun i hi => ?_, fun i hi => ?_, fun i j hi hj hij h1 h2 => ?_, fun i hi e hee => ?_, fun i j hi hj hij e hee e' hee' => ?_, fun i hi => by
    have hi : s.m + 1 ≤ i := hi
    rcases get_set s.G s.m i c with e | e
    · exact e
    · rw [if_neg (by omega)] at e; exact e.trans (h.hi i (by omega)), fun x o ho => ⟨(h.fr x o ho).1, fun i hi => ⟨fun hl => ?_, fun e hee => ?_⟩⟩⟩
  · rcases push_get s c i hi with e | ⟨rfl, e⟩ | ⟨hlt, e⟩
    · rw [e]; trivial
    · rw [e]; exact hc
    · rw [e]
      exact okCh_mono hx2 (Nat.le_succ _) hlt rfl (fun e' he' => ⟨(h.ex i hlt e' he').1, rfl⟩) (h.ok i hlt)
  · have hi : i < s.m + 1 := hi
    by_cases hh : i = s.m
    · subst hh; rw [hbs]; exact hb
    · rw [hbo i (by omega)]; exact h.lt i (by omega)
  · rcases push_get s c i hi with e | ⟨rfl, e⟩ | ⟨hlt, e⟩
    · exact absurd e h1
    · rcases push_get s c j hj with e' | ⟨rfl, e'⟩ | ⟨hlt', e'⟩
      · exact absurd e' h2
      · exact absurd rfl hij
      · rw [hbs, hbo j hlt']; exact ((hx.2 j hlt').1 (by rw [← e']; exact h2)).symm
    · rcases push_get s c j hj with e' | ⟨rfl, e'⟩ | ⟨hlt', e'⟩
      · exact absurd e' h2
      · rw [hbs, hbo i hlt]; exact (hx.2 i hlt).1 (by rw [← e]; exact h1)
      · rw [hbo i hlt, hbo j hlt']; exact h.dj i j hlt hlt' hij (by rw [← e]; exact h1) (by rw [← e']; exact h2)
  · rcases push_get s c i hi with e0 | ⟨rfl, e0⟩ | ⟨hlt, e0⟩
    · rw [e0] at hee; simp [exC] at hee
    · rw [e0, he] at hee; simp at hee
    · rw [e0] at hee
      obtain ⟨k1, k2⟩ := h.ex i hlt e hee
      refine ⟨Nat.lt_succ_of_lt k1, fun j hj hl => ?_⟩
      rw [hbo e k1]
      rcases push_get s c j hj with e' | ⟨rfl, e'⟩ | ⟨hlt', e'⟩
      · exact absurd e' hl
      · rw [hbs]; exact ((hx.2 i hlt).2 e hee).symm
      · rw [hbo j hlt']; exact k2 j hlt' (by rw [← e']; exact hl)
  · rcases push_get s c i hi with e0 | ⟨rfl, e0⟩ | ⟨hlt, e0⟩
    · rw [e0] at hee; simp [exC] at hee
    · rw [e0, he] at hee; simp at hee
    · rcases push_get s c j hj with e1 | ⟨rfl, e1⟩ | ⟨hlt', e1⟩
      · rw [e1] at hee'; simp [exC] at hee'
      · rw [e1, he] at hee'; simp at hee'
      · rw [e0] at hee; rw [e1] at hee'
        rw [hbo e (h.ex i hlt e hee).1, hbo e' (h.ex j hlt' e' hee').1]
        exact h.ex2 i j hlt hlt' hij e hee e' hee'
  · rcases push_get s c i hi with e | ⟨rfl, e⟩ | ⟨hlt, e⟩
    · exact absurd e hl
    · rw [hbs]
      intro e2
      subst e2
      rw [hx.1] at ho; cases ho
    · rw [hbo i hlt]; exact ((h.fr x o ho).2 i hlt).1 (by rw [← e]; exact hl)
  · rcases push_get s c i hi with e0 | ⟨rfl, e0⟩ | ⟨hlt, e0⟩
    · rw [e0] at hee; simp [exC] at hee
    · rw [e0, he] at hee; simp at hee
    · rw [e0] at hee; rw [hbo e (h.ex i hlt e hee).1]; exact ((h.fr x o ho).2 i hlt).2 e hee
end
end Go.SX
namespace Go.Proofs
abbrev fn_ref22_Int : Nat := 4
theorem vc_ref22_Int (n : Int) (H : Heap) (R : Value → Heap → Prop) (h : brB (decide (n < 0)) (∃ (I : IV) (μ : MU), I [.int .i64 n, .string { data := #[] }] H ∧ ∀ (J : F) (n : Int) (s : ByteArray)
 (H' : Heap), I [.int .i64 n, .string s] H' → brB (decide (n < 0)) (chk (decide (0 ≤ IntKind.wrap .i64 (0 - Int.tmod n 10) ∧ IntKind.wrap .i64 (0 - Int.tmod n 10) ≤ IntKind.wrap .i64 (IntKind.wrap
 .i64 (0 - Int.tmod n 10) + 1) ∧ IntKind.wrap .i64 (IntKind.wrap .i64 (0 - Int.tmod n 10) + 1) ≤ (↑10 : Int))) (chk (decide (ByteArray.size (ByteArray.extract { data := #[(48 : UInt8), (49 : UInt8),
 (50 : UInt8), (51 : UInt8), (52 : UInt8), (53 : UInt8), (54 : UInt8), (55 : UInt8), (56 : UInt8), (57 : UInt8)] } (Int.toNat (IntKind.wrap .i64 (0 - Int.tmod n 10))) (Int.toNat (IntKind.wrap .i64
 (IntKind.wrap .i64 (0 - Int.tmod n 10) + 1)))) + ByteArray.size s ≤ 9223372036854775807)) (I [.int .i64 (IntKind.wrap .i64 (Int.tdiv n 10)), .string (ByteArray.extract { data := #[(48 : UInt8), (49
 : UInt8), (50 : UInt8), (51 : UInt8), (52 : UInt8), (53 : UInt8), (54 : UInt8), (55 : UInt8), (56 : UInt8), (57 : UInt8)] } (Int.toNat (IntKind.wrap .i64 (0 - Int.tmod n 10))) (Int.toNat
 (IntKind.wrap .i64 (IntKind.wrap .i64 (0 - Int.tmod n 10) + 1))) ++ s)] H' ∧ μ [.int .i64 (IntKind.wrap .i64 (Int.tdiv n 10)), .string (ByteArray.extract { data := #[(48 : UInt8), (49 : UInt8), (50
 : UInt8), (51 : UInt8), (52 : UInt8), (53 : UInt8), (54 : UInt8), (55 : UInt8), (56 : UInt8), (57 : UInt8)] } (Int.toNat (IntKind.wrap .i64 (0 - Int.tmod n 10))) (Int.toNat (IntKind.wrap .i64
 (IntKind.wrap .i64 (0 - Int.tmod n 10) + 1))) ++ s)] H' < μ [.int .i64 n, .string s] H'))) (chk (decide (1 + ByteArray.size s ≤ 9223372036854775807)) (R (.string ({ data := #[(45 : UInt8)] } ++ s))
 H'))) (chk (decide (0 ≤ Int.tmod n 10 ∧ Int.tmod n 10 ≤ IntKind.wrap .i64 (Int.tmod n 10 + 1) ∧ IntKind.wrap .i64 (Int.tmod n 10 + 1) ≤ (↑10 : Int))) (∃ (I : IV) (μ : MU), I [.int .i64 (IntKind.wrap
 .i64 (Int.tdiv n 10)), .string (ByteArray.extract { data := #[(48 : UInt8), (49 : UInt8), (50 : UInt8), (51 : UInt8), (52 : UInt8), (53 : UInt8), (54 : UInt8), (55 : UInt8), (56 : UInt8), (57 :
 UInt8)] } (Int.toNat (Int.tmod n 10)) (Int.toNat (IntKind.wrap .i64 (Int.tmod n 10 + 1))))] H ∧ ∀ (J : F) (n : Int) (s : ByteArray) (H' : Heap), I [.int .i64 n, .string s] H' → brB (decide (n > 0))
 (chk (decide (0 ≤ Int.tmod n 10 ∧ Int.tmod n 10 ≤ IntKind.wrap .i64 (Int.tmod n 10 + 1) ∧ IntKind.wrap .i64 (Int.tmod n 10 + 1) ≤ (↑10 : Int))) (chk (decide (ByteArray.size (ByteArray.extract { data
 := #[(48 : UInt8), (49 : UInt8), (50 : UInt8), (51 : UInt8), (52 : UInt8), (53 : UInt8), (54 : UInt8), (55 : UInt8), (56 : UInt8), (57 : UInt8)] } (Int.toNat (Int.tmod n 10)) (Int.toNat
 (IntKind.wrap .i64 (Int.tmod n 10 + 1)))) + ByteArray.size s ≤ 9223372036854775807)) (I [.int .i64 (IntKind.wrap .i64 (Int.tdiv n 10)), .string (ByteArray.extract { data := #[(48 : UInt8), (49 :
 UInt8), (50 : UInt8), (51 : UInt8), (52 : UInt8), (53 : UInt8), (54 : UInt8), (55 : UInt8), (56 : UInt8), (57 : UInt8)] } (Int.toNat (Int.tmod n 10)) (Int.toNat (IntKind.wrap .i64 (Int.tmod n 10 +
 1))) ++ s)] H' ∧ μ [.int .i64 (IntKind.wrap .i64 (Int.tdiv n 10)), .string (ByteArray.extract { data := #[(48 : UInt8), (49 : UInt8), (50 : UInt8), (51 : UInt8), (52 : UInt8), (53 : UInt8), (54 :
 UInt8), (55 : UInt8), (56 : UInt8), (57 : UInt8)] } (Int.toNat (Int.tmod n 10)) (Int.toNat (IntKind.wrap .i64 (Int.tmod n 10 + 1))) ++ s)] H' < μ [.int .i64 n, .string s] H'))) (R (.string s) H'))))
 : CallH Tryz.prog 4 (List.toArray [.int .i64 n]) H R := vc_call (annOf [([0, 0, 1, 0, 1, 0, 1], .cut [(0, .one (.int .i64)), (3, .one .str)]), ([0, 1, 0, 1, 1, 1], .cut [(0, .one (.int .i64)), (5,
 .one .str)])]) followsAll Tryz.func4 rfl Tryz.ntmps4 rfl rfl (Eq.mpr (by kernel_rfl) h)
theorem digS : ∀ d : Fin 10, bl (ByteArray.extract { data := #[(48 : UInt8), (49 : UInt8), (50 : UInt8), (51 : UInt8), (52 : UInt8), (53 : UInt8), (54 : UInt8), (55 : UInt8), (56 : UInt8), (57 : UInt8)] } d.val (d.val + 1)) = [UInt8.ofNat (48 + d.val)] := by decide +kernel
theorem digN {d : Nat} (h : d < 10) : bl (ByteArray.extract { data := #[(48 : UInt8), (49 : UInt8), (50 : UInt8), (51 : UInt8), (52 : UInt8), (53 : UInt8), (54 : UInt8), (55 : UInt8), (56 : UInt8), (57 : UInt8)] } d (d + 1)) = [UInt8.ofNat (48 + d)] := digS ⟨d, h⟩
def dgL (m : Nat) (s : ByteArray) : List UInt8 := if m = 0 then bl s else Lib.decDigits m ++ bl s
theorem dgL_step {m : Nat} {s e : ByteArray} (hm : m ≠ 0) (he : bl e = [UInt8.ofNat (48 + m % 10)]) : dgL (m / 10) (e ++ s) = dgL m s := by
  unfold dgL
  rw [if_neg hm, bl_app, he]
  by_cases h : m < 10
  · rw [if_pos (by omega), Lib.decDigits, dif_pos h, Nat.mod_eq_of_lt h]
  · rw [if_neg (by omega), Lib.decDigits.eq_def m, dif_neg h]
    simp
theorem dgL_len {m : Nat} {s : ByteArray} : s.size ≤ (dgL m s).length := by
  unfold dgL
  split
  · rw [bl_len]; omega
  · rw [List.length_append, bl_len]; omega
theorem refInt_ok {n : Int} {H : Heap} {K : ByteArray → Prop} (h1 : -1000000 ≤ n) (h2 : n ≤ 1000000) (hk : K ⟨(Lib.itoa n).toArray⟩) : CallH Tryz.prog fn_ref22_Int ⟨[.int .i64 n]⟩ H fun v H' => ∃ s, v = .string s ∧ H' = H ∧ K s := by
  apply vc_ref22_Int
  refine brB_of (fun hn => ?_) (fun hn => ?_)
  · have hn : n < 0 := by simpa using hn
    obtain ⟨u, rfl⟩ : ∃ u : Nat, n = -(u : Int) := ⟨n.natAbs, by omega⟩
    have hlen : (Lib.decDigits u).length ≤ 20 := by rw [Lib.decDigits_length]; exact Lib.nDigits_le20 u (by omega)
    refine ⟨fun vs H' => match vs with | [.int _ i, .string s] => ∃ m : Nat, i = -(m : Int) ∧ m ≤ 1000000 ∧ dgL m s = Lib.decDigits u ∧ H' = H | _ => False, fun vs _ => match vs with | [.int _ i, _] => i.natAbs | _ => 0, ⟨u, rfl, by omega, by unfold dgL; rw [if_neg (by omega)]; simp [bl], rfl⟩, ?_⟩
    rintro J i s H' ⟨m, rfl, hm, hd, rfl⟩
    have hsz : s.size ≤ 20 := by have := dgL_len (m := m) (s := s); rw [hd] at this; omega
    refine brB_of (fun h0 => ?_) (fun h0 => ?_)
    · have h0 : m ≠ 0 := by simp at h0; omega
      have e0 : Int.tmod (-(m : Int)) 10 = -((m % 10 : Nat) : Int) := by rw [Int.neg_tmod]; rfl
      have e1 : IntKind.wrap .i64 (0 - Int.tmod (-(m : Int)) 10) = ((m % 10 : Nat) : Int) := by rw [e0, wrap64_of (by omega) (by omega)]; omega
      have e2 : IntKind.wrap .i64 (((m % 10 : Nat) : Int) + 1) = ((m % 10 + 1 : Nat) : Int) := by rw [wrap64_of (by omega) (by omega)]; omega
      have e3 : IntKind.wrap .i64 (Int.tdiv (-(m : Int)) 10) = -((m / 10 : Nat) : Int) := by
        rw [Int.neg_tdiv, show Int.tdiv (m : Int) 10 = ((m / 10 : Nat) : Int) from rfl, wrap64_of (by omega) (by omega)]
      rw [e1, e2, e3]
      have hdg := digN (d := m % 10) (by omega)
      have hes : (ByteArray.extract { data := #[(48 : UInt8), (49 : UInt8), (50 : UInt8), (51 : UInt8), (52 : UInt8), (53 : UInt8), (54 : UInt8), (55 : UInt8), (56 : UInt8), (57 : UInt8)] } (m % 10) (m % 10 + 1)).size = 1 := by rw [← bl_len, hdg]; rfl
      refine chk_true (decide_eq_true ⟨by omega, by omega, by omega⟩) (chk_true (decide_eq_true ?_) ⟨⟨m / 10, rfl, by omega, ?_, rfl⟩, ?_⟩)
      · show (ByteArray.extract _ (m % 10) (m % 10 + 1)).size + s.size ≤ _
        rw [hes]; omega
      · exact (dgL_step h0 hdg).trans hd
      · show (-((m / 10 : Nat) : Int)).natAbs < (-(m : Int)).natAbs
        omega
    · have h0 : m = 0 := by simp at h0; omega
      subst h0
      refine chk_true (decide_eq_true (by omega)) ⟨_, rfl, rfl, ?_⟩
      have e : ({ data := #[(45 : UInt8)] } ++ s : ByteArray) = ⟨(Lib.itoa (-(u : Int))).toArray⟩ := by
        apply bl_inj
        rw [Lib.itoa_neg u (by omega), bl_app, ← hd]
        simp [dgL, bl]
      rw [e]; exact hk
  · have hn : ¬ n < 0 := by simpa using hn
    obtain ⟨u, rfl⟩ : ∃ u : Nat, n = (u : Int) := ⟨n.natAbs, by omega⟩
    have hlen : (Lib.decDigits u).length ≤ 20 := by rw [Lib.decDigits_length]; exact Lib.nDigits_le20 u (by omega)
    have g0 : ∀ m : Nat, Int.tmod (m : Int) 10 = ((m % 10 : Nat) : Int) := fun m => rfl
    have g2 : ∀ m : Nat, IntKind.wrap .i64 (((m % 10 : Nat) : Int) + 1) = ((m % 10 + 1 : Nat) : Int) := fun m => by rw [wrap64_of (by omega) (by omega)]; omega
    have g3 : ∀ m : Nat, m ≤ 1000000 → IntKind.wrap .i64 (Int.tdiv (m : Int) 10) = ((m / 10 : Nat) : Int) := fun m hm => by
      rw [show Int.tdiv (m : Int) 10 = ((m / 10 : Nat) : Int) from rfl, wrap64_of (by omega) (by omega)]
    rw [g0, g2, g3 u (by omega)]
    have hdg := digN (d := u % 10) (by omega)
    refine chk_true (decide_eq_true ⟨by omega, by omega, by omega⟩) ?_
    refine ⟨fun vs H' => match vs with | [.int _ i, .string s] => ∃ m : Nat, i = (m : Int) ∧ m ≤ 1000000 ∧ dgL m s = Lib.decDigits u ∧ H' = H | _ => False, fun vs _ => match vs with | [.int _ i, _] => i.natAbs | _ => 0, ⟨u / 10, rfl, by omega, ?_, rfl⟩, ?_⟩
    · show dgL (u / 10) (ByteArray.extract _ (u % 10) (u % 10 + 1)) = _
      unfold dgL
      rw [hdg]
      by_cases h : u < 10
      · rw [if_pos (by omega), Lib.decDigits, dif_pos h, Nat.mod_eq_of_lt h]
      · rw [if_neg (by omega), Lib.decDigits.eq_def u, dif_neg h]
    rintro J i s H' ⟨m, rfl, hm, hd, rfl⟩
    have hsz : s.size ≤ 20 := by have := dgL_len (m := m) (s := s); rw [hd] at this; omega
    refine brB_of (fun h0 => ?_) (fun h0 => ?_)
    · have h0 : m ≠ 0 := by simp at h0; omega
      rw [g0, g2, g3 m hm]
      have hdg := digN (d := m % 10) (by omega)
      have hes : (ByteArray.extract { data := #[(48 : UInt8), (49 : UInt8), (50 : UInt8), (51 : UInt8), (52 : UInt8), (53 : UInt8), (54 : UInt8), (55 : UInt8), (56 : UInt8), (57 : UInt8)] } (m % 10) (m % 10 + 1)).size = 1 := by rw [← bl_len, hdg]; rfl
      refine chk_true (decide_eq_true ⟨by omega, by omega, by omega⟩) (chk_true (decide_eq_true ?_) ⟨⟨m / 10, rfl, by omega, ?_, rfl⟩, ?_⟩)
      · show (ByteArray.extract _ (m % 10) (m % 10 + 1)).size + s.size ≤ _
        rw [hes]; omega
      · exact (dgL_step h0 hdg).trans hd
      · show (((m / 10 : Nat) : Int)).natAbs < ((m : Int)).natAbs
        omega
    · have h0 : m = 0 := by simp at h0; omega
      subst h0
      refine ⟨_, rfl, rfl, ?_⟩
      have e : s = ⟨(Lib.itoa (u : Int)).toArray⟩ := by
        apply bl_inj
        rw [Lib.itoa_nonneg u, ← hd]
        simp [dgL, bl]
      rw [e]; exact hk
open Go.Shelf
def Tryz.atoiI_ren : Go.Shelf.Ren := ⟨fun | 244 => 160 | 247 => 242 | 287 => 334 | 321 => 417 | 322 => 418 | n => n, fun | 9 => 9 | 3 => 3 | 75 => 173 | 4 => 4 | 5 => 5 | 167 => 351 | 37 => 273 | 0 => 0 | 85 => 352 | 2 => 2 | 53 => 43 | 175 => 445 | 46 => 184 | 21 => 21 | 80 => 183 | n => n, fun | n => n⟩
theorem Tryz.atoiI : Go.Proofs.LaysC.n244 Tryz.prog Tryz.atoiI_ren := {
  mixed := by kernel_rfl
  f244 := Tryz.func160.trans (congrArg some (by kernel_rfl))
  f247 := Tryz.func242.trans (congrArg some (by kernel_rfl))
  f287 := Tryz.func334.trans (congrArg some (by kernel_rfl))
  f321 := Tryz.func417.trans (congrArg some (by kernel_rfl))
  f322 := Tryz.func418.trans (congrArg some (by kernel_rfl))
  t0 := Tryz.underlying0
  a0 := Tryz.isAgg0
  z0 := Tryz.sizeOf0
  v0 := Tryz.zeroValue0
  t2 := Tryz.underlying2
  a2 := Tryz.isAgg2
  z2 := Tryz.sizeOf2
  v2 := Tryz.zeroValue2
  t3 := Tryz.underlying3
  a3 := Tryz.isAgg3
  z3 := Tryz.sizeOf3
  v3 := Tryz.zeroValue3
  t4 := Tryz.underlying4
  a4 := Tryz.isAgg4
  z4 := Tryz.sizeOf4
  v4 := Tryz.zeroValue4
  t5 := Tryz.underlying5
  a5 := Tryz.isAgg5
  z5 := Tryz.sizeOf5
  v5 := Tryz.zeroValue5
  t9 := Tryz.underlying9
  a9 := Tryz.isAgg9
  z9 := Tryz.sizeOf9
  v9 := Tryz.zeroValue9
  t21 := Tryz.underlying21
  a21 := Tryz.isAgg21
  z21 := Tryz.sizeOf21
  v21 := Tryz.zeroValue21
  t37 := Tryz.underlying273
  a37 := Tryz.isAgg273
  z37 := Tryz.sizeOf273
  v37 := Tryz.zeroValue273
  t46 := Tryz.underlying184
  a46 := Tryz.isAgg184
  z46 := Tryz.sizeOf184
  v46 := Tryz.zeroValue184
  t53 := Tryz.underlying43
  a53 := Tryz.isAgg43
  z53 := Tryz.sizeOf43
  v53 := Tryz.zeroValue43
  t75 := Tryz.underlying173
  a75 := Tryz.isAgg173
  z75 := Tryz.sizeOf173
  v75 := Tryz.zeroValue173
  t85 := Tryz.underlying352
  a85 := Tryz.isAgg352
  z85 := Tryz.sizeOf352
  v85 := Tryz.zeroValue352
  t167 := Tryz.underlying351
  a167 := Tryz.isAgg351
  z167 := Tryz.sizeOf351
  v167 := Tryz.zeroValue351
  t175 := Tryz.underlying445
  a175 := Tryz.isAgg445
  z175 := Tryz.sizeOf445
  v175 := Tryz.zeroValue445
  t80 := Tryz.underlying183
  a80 := Tryz.isAgg183
  z80 := Tryz.sizeOf183
  v80 := Tryz.zeroValue183
  i0 := by kernel_rfl
  i2 := by kernel_rfl
  i3 := by kernel_rfl
  i4 := by kernel_rfl
  i5 := by kernel_rfl
  i9 := by kernel_rfl
  i21 := by kernel_rfl
  i37 := by kernel_rfl
  i46 := by kernel_rfl
  i53 := by kernel_rfl
  i75 := by kernel_rfl
  i80 := by kernel_rfl
  i85 := by kernel_rfl
  i167 := by kernel_rfl
  i175 := by kernel_rfl
  c0 := by kernel_rfl
  c2 := by kernel_rfl
  c3 := by kernel_rfl
  c4 := by kernel_rfl
  c5 := by kernel_rfl
  c9 := by kernel_rfl
  c21 := by kernel_rfl
  c37 := by kernel_rfl
  c46 := by kernel_rfl
  c53 := by kernel_rfl
  c75 := by kernel_rfl
  c80 := by kernel_rfl
  c85 := by kernel_rfl
  c167 := by kernel_rfl
  c175 := by kernel_rfl }
def Tryz.itoa_ren : Go.Shelf.Ren := ⟨fun | 171 => 89 | 243 => 165 | 246 => 247 | 283 => 337 | 284 => 338 | 285 => 339 | 286 => 340 | 129 => 264 | 317 => 419 | 318 => 420 | 319 => 421 | 320 => 422 | 337 => 448 | 338 => 449 | n => n, fun | 3 => 3 | 9 => 9 | 2 => 2 | 4 => 4 | 171 => 450 | 0 => 0 | 53 => 43 | 37 => 273 | 5 => 5 | 173 => 452 | 212 => 512 | 51 => 372 | 20 => 20 | 213 => 513 | 46 => 184 | 232 => 560 | 233 => 561 | n => n, fun | 17 => 4 | 18 => 5 | 19 => 6 | n => n⟩
theorem Tryz.itoa : Go.Proofs.LaysM.n171 Tryz.prog Tryz.itoa_ren := {
  mixed := by kernel_rfl
  f129 := Tryz.func264.trans (congrArg some (by kernel_rfl))
  f171 := Tryz.func89.trans (congrArg some (by kernel_rfl))
  f243 := Tryz.func165.trans (congrArg some (by kernel_rfl))
  f246 := Tryz.func247.trans (congrArg some (by kernel_rfl))
  f283 := Tryz.func337.trans (congrArg some (by kernel_rfl))
  f284 := Tryz.func338.trans (congrArg some (by kernel_rfl))
  f285 := Tryz.func339.trans (congrArg some (by kernel_rfl))
  f286 := Tryz.func340.trans (congrArg some (by kernel_rfl))
  f317 := Tryz.func419.trans (congrArg some (by kernel_rfl))
  f318 := Tryz.func420.trans (congrArg some (by kernel_rfl))
  f319 := Tryz.func421.trans (congrArg some (by kernel_rfl))
  f320 := Tryz.func422.trans (congrArg some (by kernel_rfl))
  f337 := Tryz.func448.trans (congrArg some (by kernel_rfl))
  f338 := Tryz.func449.trans (congrArg some (by kernel_rfl))
  t0 := Tryz.underlying0
  a0 := Tryz.isAgg0
  z0 := Tryz.sizeOf0
  v0 := Tryz.zeroValue0
  t2 := Tryz.underlying2
  a2 := Tryz.isAgg2
  z2 := Tryz.sizeOf2
  v2 := Tryz.zeroValue2
  t3 := Tryz.underlying3
  a3 := Tryz.isAgg3
  z3 := Tryz.sizeOf3
  v3 := Tryz.zeroValue3
  t4 := Tryz.underlying4
  a4 := Tryz.isAgg4
  z4 := Tryz.sizeOf4
  v4 := Tryz.zeroValue4
  t5 := Tryz.underlying5
  a5 := Tryz.isAgg5
  z5 := Tryz.sizeOf5
  v5 := Tryz.zeroValue5
  t9 := Tryz.underlying9
  a9 := Tryz.isAgg9
  z9 := Tryz.sizeOf9
  v9 := Tryz.zeroValue9
  t20 := Tryz.underlying20
  a20 := Tryz.isAgg20
  z20 := Tryz.sizeOf20
  v20 := Tryz.zeroValue20
  t37 := Tryz.underlying273
  a37 := Tryz.isAgg273
  z37 := Tryz.sizeOf273
  v37 := Tryz.zeroValue273
  t46 := Tryz.underlying184
  a46 := Tryz.isAgg184
  z46 := Tryz.sizeOf184
  v46 := Tryz.zeroValue184
  t51 := Tryz.underlying372
  a51 := Tryz.isAgg372
  z51 := Tryz.sizeOf372
  v51 := Tryz.zeroValue372
  t53 := Tryz.underlying43
  a53 := Tryz.isAgg43
  z53 := Tryz.sizeOf43
  v53 := Tryz.zeroValue43
  t171 := Tryz.underlying450
  a171 := Tryz.isAgg450
  z171 := Tryz.sizeOf450
  v171 := Tryz.zeroValue450
  t173 := Tryz.underlying452
  a173 := Tryz.isAgg452
  z173 := Tryz.sizeOf452
  v173 := Tryz.zeroValue452
  t212 := Tryz.underlying512
  a212 := Tryz.isAgg512
  z212 := Tryz.sizeOf512
  v212 := Tryz.zeroValue512
  t213 := Tryz.underlying513
  a213 := Tryz.isAgg513
  z213 := Tryz.sizeOf513
  t232 := Tryz.underlying560
  a232 := Tryz.isAgg560
  z232 := Tryz.sizeOf560
  v232 := Tryz.zeroValue560
  t233 := Tryz.underlying561
  a233 := Tryz.isAgg561
  z233 := Tryz.sizeOf561
  v233 := Tryz.zeroValue561
  g17 := by kernel_rfl
  g18 := by kernel_rfl
  g19 := by kernel_rfl
  i0 := by kernel_rfl
  i2 := by kernel_rfl
  i3 := by kernel_rfl
  i4 := by kernel_rfl
  i5 := by kernel_rfl
  i9 := by kernel_rfl
  i20 := by kernel_rfl
  i37 := by kernel_rfl
  i46 := by kernel_rfl
  i51 := by kernel_rfl
  i53 := by kernel_rfl
  i171 := by kernel_rfl
  i173 := by kernel_rfl
  i212 := by kernel_rfl
  i232 := by kernel_rfl
  i233 := by kernel_rfl
  m17 := by kernel_rfl
  m18 := by kernel_rfl
  m19 := by kernel_rfl }
def Tryz.lastIB_ren : Go.Shelf.Ren := ⟨fun | 149 => 26 | 222 => 81 | n => n, fun | 9 => 9 | 5 => 5 | 3 => 3 | 4 => 4 | n => n, fun | n => n⟩
theorem Tryz.lastIB : Go.Proofs.Lays.n149 Tryz.prog Tryz.lastIB_ren := {
  mixed := by kernel_rfl
  f149 := Tryz.func26.trans (congrArg some (by kernel_rfl))
  f222 := Tryz.func81.trans (congrArg some (by kernel_rfl))
  t3 := Tryz.underlying3
  a3 := Tryz.isAgg3
  z3 := Tryz.sizeOf3
  v3 := Tryz.zeroValue3
  t4 := Tryz.underlying4
  a4 := Tryz.isAgg4
  z4 := Tryz.sizeOf4
  v4 := Tryz.zeroValue4
  t5 := Tryz.underlying5
  a5 := Tryz.isAgg5
  z5 := Tryz.sizeOf5
  v5 := Tryz.zeroValue5
  t9 := Tryz.underlying9
  a9 := Tryz.isAgg9
  z9 := Tryz.sizeOf9
  v9 := Tryz.zeroValue9 }
end Go.Proofs
section
open Go.Proofs Go.Shelf Go.RowKit
namespace Go.GV
theorem callH_same {P : Program} {k : FuncId} {args : Array Value} {v : Value} {H : Heap} {K : Value → Heap → Prop} (h : ∀ w, Calls P k args w fun e w' => e = .returned v ∧ w' = w) (hk : K v H) : CallH P k args H K :=
  fun E d => (h _).mono fun e w' ⟨h1, h2⟩ => ⟨v, H, d, h1, h2, hk⟩
theorem callH_below {P : Program} {k : FuncId} {args : Array Value} {H : Heap} {K : Value → Heap → Prop} (h : ∀ w, w.heap = H → Calls P k args w fun e w' => ∃ v, e = .returned v ∧ Below w.heap.size w w' ∧ w.drawn ≤ w'.drawn ∧ K v w'.heap) : CallH P k args H K :=
  fun E d => (h (mkW E H d) rfl).mono fun e w' ⟨v, h1, hb, hd, hk⟩ => ⟨v, w'.heap, ⟨w'.drawn, Nat.le_trans d.2 hd⟩, h1, by
    cases w'; obtain ⟨q1, q2, q3, _, _⟩ := hb; simp only at q1 q2 q3; subst q1 q2 q3; rfl, hk⟩
theorem Below.frH {w w' : World} (h : Below w.heap.size w w') : Fr [] w.heap w'.heap := ⟨h.size, fun k hk _ => h.block k hk⟩
variable {P : Program} {ρ : Ren} {H : Heap} {k : FuncId}
theorem itoa_ok {K : ByteArray → Heap → Prop} (L : LaysM.n171 P ρ) (hkf : ρ.f 171 = k) {n : Int} (hn : I64 n) (ht : ∀ w : World, w.heap = H → Lib.TabIs P w "internal/strconv.uint64pow10" .u64 Lib.pow10Tab) (hk : ∀ H', Fr [] H H' → K ⟨(Lib.itoa n).toArray⟩ H') :
    CallH P k ⟨[.int .i64 n]⟩ H fun v H' => ∃ s, v = .string s ∧ K s H' := by
  subst hkf
  intro E d
  refine (Any.strconv_Itoa L n hn.1 hn.2 (mkW E H d) (ht _ rfl)).mono ?_
  rintro e w' ⟨rfl, m, os, rfl⟩
  refine ⟨_, (Go.Sort.grow ((mkW E H d).drewN m) os).heap, ⟨d.1 + m, Nat.le_trans d.2 (Nat.le_add_right _ _)⟩, rfl, rfl, _, rfl, hk _ ⟨by simp [Go.Sort.grow, World.drewN, mkW], fun j hj _ => ?_⟩⟩
  show (H ++ os)[j]? = H[j]?
  rw [Array.getElem?_append_left hj]
theorem lastIB_ok {K : Int → Heap → Prop} (L : Lays.n149 P ρ) (hkf : ρ.f 149 = k) {s : ByteArray} {c : Int} (hs : s.size ≤ 1000000000) (hk : K (Lib.lastIndexByte s c) H) : CallH P k ⟨[.string s, .int .u8 c]⟩ H fun v H' => ∃ n, v = .int .i64 n ∧ K n H' := by
  subst hkf; exact callH_same (fun w => Any.strings_LastIndexByte L s c (by omega) w) ⟨_, rfl, hk⟩
end Go.GV
end
namespace Go.SX
open Go.Proofs Go.Proofs.Fs
def PrOk (k : Nat) (p : Pk) : Prop := ∀ (T : Tab) (V : Val), Tok T V → ∀ (a : List SV) (s : St) (outs : List (SV × St)), prim T p a s = some (some outs) → ∀ (π : Pl) (H : Heap) (vs : List Value), Rel V s π H → okSL V π s.m a vs → CallX Tryz.prog k ⟨vs⟩ H (Out V s.m π outs)
section
variable {V : Val} {T : Tab} {π : Pl} {s : St} {H H' : Heap} {outs : List (SV × St)} {vs : List Value}
theorem ok1 {m : Nat} {x : SV} (h : okSL V π m [x] vs) : ∃ v, vs = [v] ∧ okS V π m x v := by
  obtain ⟨c, cs, e, h1, h2⟩ := h
  exact ⟨c, by rw [e, show cs = [] from h2], h1⟩
theorem ok2 {m : Nat} {x y : SV} (h : okSL V π m [x, y] vs) : ∃ u v, vs = [u, v] ∧ okS V π m x u ∧ okS V π m y v := by
  obtain ⟨c, cs, e, h1, h2⟩ := h
  obtain ⟨v, e2, h3⟩ := ok1 h2
  exact ⟨c, v, by rw [e, e2], h1, h3⟩
theorem one1_out {x : SV} {s' : St} (h : one1 x s' = some (some outs)) : outs = [(x, s')] := by
  have h : some (some [(x, s')]) = some (some outs) := h
  simpa using h.symm
theorem oneR_out {r : Option Rope} (h : oneR r s = some (some outs)) : ∃ q, r = some q ∧ outs = [(.str q, s)] := by
  unfold oneR at h
  split at h
  · rename_i q; exact ⟨q, rfl, one1_out h⟩
  · cases h
theorem out_one (hR : Rel V s π H) (hf : Go.GV.Fr [] H H') {x : SV} {v : Value} (hx : okS V π s.m x v) : Out V s.m π [(x, s)] v H' := ⟨(x, s), by simp, Nat.le_refl _, π, Ext.refl _ _, hR.more hf, hx⟩
theorem str_ok {m : Nat} {q : Rope} {l : List UInt8} (h : denR V q = l) : okS V π m (.str q) (.string ⟨l.toArray⟩) := by
  show Value.string _ = Value.string ⟨(denR V q).toArray⟩
  rw [h]
theorem cx {k : Nat} {args : Array Value} {K : Value → Heap → Prop} (h : okFn Tryz.prog k = true) (h2 : CallH Tryz.prog k args H K) : CallX Tryz.prog k args H K := .inl ⟨h, h2⟩
theorem mstr {k : Nat} {args : Array Value} {K : Value → Heap → Prop} (h : CallH Tryz.prog k args H fun v H' => ∃ s, v = .string s ∧ K (.string s) H') : CallH Tryz.prog k args H K := h.mono fun v H' ⟨s, e, k⟩ => by rw [e]; exact k
theorem tabH (hT : Tok T V) (hR : Rel V s π H) : TabH H := by
  obtain ⟨cs, te, fz, h1, h2⟩ := hT.st
  intro k hk
  rw [cell_of_blk (hR.fr 1 _ h1).1]
  exact h2 k hk
theorem tabIs (hT : Tok T V) (hR : Rel V s π H) : ∀ w : World, w.heap = H → Lib.TabIs Tryz.prog w "internal/strconv.uint64pow10" .u64 Lib.pow10Tab := fun w hw => by
  obtain ⟨t, f, h3⟩ := hT.p10
  unfold Lib.TabIs World.var?
  have e : Tryz.prog.globalNamed "internal/strconv.uint64pow10" = some 4 := by kernel_rfl
  rw [e, Option.bind_some, hw, (hR.fr 4 _ h3).1]
theorem pr_uint : PrOk 215 .uint := by
  intro T V hT a s outs h π H vs hR ha
  replace h : qUint T a s = some (some outs) := h
  unfold qUint at h
  split at h
  · rename_i x
    obtain ⟨v, rfl, e⟩ := ok1 ha
    replace e : v = .int .u64 (x.den V) := e
    obtain ⟨q, hq, rfl⟩ := oneR_out h
    obtain ⟨n, h1, h2, h3⟩ := uOf_ok hT hq
    rw [e, h1]
    exact cx (by kernel_rfl) (mstr (Uint_ok (K := fun b H' => Out V s.m π [(.str q, s)] (.string b) H') h2 fun H' hf => out_one hR hf (str_ok h3)))
  · cases h
theorem pr_int : PrOk 176 .int := by
  intro T V hT a s outs h π H vs hR ha
  replace h : qInt T a s = some (some outs) := h
  unfold qInt at h
  split at h
  · rename_i x
    obtain ⟨v, rfl, e⟩ := ok1 ha
    replace e : v = .int .i64 (x.den V) := e
    obtain ⟨q, hq, rfl⟩ := oneR_out h
    obtain ⟨h1, h2⟩ := iOf_ok hT hq
    rw [e]
    exact cx (by kernel_rfl) (mstr (Int_ok (K := fun b H' => Out V s.m π [(.str q, s)] (.string b) H') h1 fun H' hf => out_one hR hf (str_ok h2)))
  · cases h
theorem drop_cut (hT : Tok T V) {r : Rope} {x : Lin} {q : Rope × Rope} (h : cutR T r x = some q) : ∃ a : Nat, x.den V = a ∧ a ≤ (tx V r).size ∧ (bl (tx V r)).drop a = denR V q.2 := by
  obtain ⟨h1, h2⟩ := cutR_ok hT.toTokN h
  have hl := congrArg List.length h1
  rw [List.length_append] at hl
  refine ⟨(denR V q.1).length, h2.symm, by rw [tx_sz]; omega, ?_⟩
  rw [tx_bl, h1, List.drop_append_of_le_length (Nat.le_refl _), List.drop_of_length_le (Nat.le_refl _), List.nil_append]
theorem pr_getU : PrOk 33 .getU := by
  intro T V hT a s outs h π H vs hR ha
  replace h : qGetU T a s = some (some outs) := h
  unfold qGetU at h
  split at h
  · rename_i r x
    obtain ⟨u, v, rfl, e1, e2⟩ := ok2 ha
    replace e1 : u = .string (tx V r) := e1
    replace e2 : v = .int .i64 (x.den V) := e2
    obtain ⟨h, hs⟩ := gate_ok hT.toTokN h
    unfold pGetU at h
    split at h
    · rename_i q hq
      split at h
      · rename_i y hy
        have := one1_out h
        subst this
        obtain ⟨n, t, k1, k2, k3, k4⟩ := getU_ok hT hy
        obtain ⟨a, ea, hle, hd⟩ := drop_cut hT hq
        rw [e1, e2]
        refine cx (by kernel_rfl) ((GetUint_ok (K := fun n m e H' => Out V s.m π [(.tup [.int .u64 y.1, .int .i64 (x.add y.2), okE0], s)] (.tuple ⟨[.int .u64 n, .int .i64 m, .int .i64 e]⟩) H') (by rw [tx_sz]; omega) (fun hb => absurd ⟨by omega, by omega⟩ hb) fun a' ea' ha' v n' e hg => ?_).mono fun v H' ⟨n, m, e, h1, h2⟩ => by rw [h1]; exact h2)
        have : a' = a := by omega
        subst this
        rw [hd] at hg
        obtain ⟨rfl, rfl, rfl⟩ := hg.of k2 k3
        refine out_one hR (Fr.refl _ _) ⟨_, rfl, _, _, rfl, ?_, _, _, rfl, ?_, _, _, rfl, ?_, rfl⟩
        · show Value.int _ _ = Value.int _ _; rw [k1]
        · show Value.int _ _ = Value.int _ _; rw [den_add, ea, k4]; congr 1
        · show Value.int _ _ = Value.int _ _; rw [den_k]
      · cases h
    · cases h
  · cases h
theorem pr_getI : PrOk 252 .getI := by
  intro T V hT a s outs h π H vs hR ha
  replace h : qGetI T a s = some (some outs) := h
  unfold qGetI at h
  split at h
  · rename_i r x
    obtain ⟨u, v, rfl, e1, e2⟩ := ok2 ha
    replace e1 : u = .string (tx V r) := e1
    replace e2 : v = .int .i64 (x.den V) := e2
    obtain ⟨h, hs⟩ := gate_ok hT.toTokN h
    unfold pGetI at h
    split at h
    · rename_i q hq
      split at h
      · rename_i y hy
        have := one1_out h
        subst this
        obtain ⟨n, t, k1, k2, k3, k4⟩ := getI_ok hT hy
        obtain ⟨a, ea, hle, hd⟩ := drop_cut hT hq
        rw [e1, e2]
        refine cx (by kernel_rfl) ((Sr.GetInt_ok (K := fun n m e H' => Out V s.m π [(.tup [.int .i64 y.1, .int .i64 (x.add y.2), okE0], s)] (.tuple ⟨[.int .i64 n, .int .i64 m, .int .i64 e]⟩) H') (by rw [tx_sz]; omega) (fun hb => absurd ⟨by omega, by omega⟩ hb) fun a' ea' ha' v n' e hg hv => ?_).mono fun v H' ⟨n, m, e, h1, h2⟩ => by rw [h1]; exact h2)
        have : a' = a := by omega
        subst this
        rw [hd] at hg
        obtain ⟨e3, rfl, rfl⟩ := hg.of k2 k3
        have : v = n := by omega
        subst this
        refine out_one hR (Fr.refl _ _) ⟨_, rfl, _, _, rfl, ?_, _, _, rfl, ?_, _, _, rfl, ?_, rfl⟩
        · show Value.int _ _ = Value.int _ _; rw [k1]
        · show Value.int _ _ = Value.int _ _; rw [den_add, ea, k4]; congr 1
        · show Value.int _ _ = Value.int _ _; rw [den_k]
      · cases h
    · cases h
  · cases h
theorem pr_crc : PrOk 97 .crc := by
  intro T V hT a s outs h π H vs hR ha
  replace h : qCrc T a s = some (some outs) := h
  unfold qCrc at h
  split at h
  · rename_i r
    obtain ⟨v, rfl, e⟩ := ok1 ha
    replace e : v = .string (tx V r) := e
    obtain ⟨h, hs⟩ := gate_ok hT.toTokN h
    unfold pCrc at h
    split at h
    · rename_i l hl
      have := one1_out h
      subst this
      rw [e]
      refine cx (by kernel_rfl) ((Crc_ok (K := fun n H' => Out V s.m π [(.int .i64 (Lin.k (Int.ofNat (crcK l 65535))), s)] (.int .i64 n) H') (tabH hT hR) (by rw [tx_sz]; omega) fun H' hf => out_one hR hf ?_).mono fun v H' ⟨n, h1, h2⟩ => by rw [h1]; exact h2)
      show Value.int _ _ = Value.int _ _
      rw [den_k, crcK_ok, tx_bl, litR_ok hl]; rfl
    · cases h
  · cases h
theorem pr_frame : PrOk 214 .frame := by
  intro T V hT a s outs h π H vs hR ha
  replace h : qFrame T a s = some (some outs) := h
  unfold qFrame at h
  split at h
  · rename_i r
    obtain ⟨v, rfl, e⟩ := ok1 ha
    replace e : v = .string (tx V r) := e
    obtain ⟨h, hs⟩ := gate_ok hT.toTokN h
    obtain ⟨q, hq, rfl⟩ := oneR_out h
    rw [e]
    exact cx (by kernel_rfl) (mstr (Frame_ok (K := fun b H' => Out V s.m π [(.str q, s)] (.string b) H') (tabH hT hR) (by rw [tx_sz]; omega) fun H' hf => out_one hR hf (str_ok (frOf_ok hT hq))))
  · cases h
theorem pr_itoa : PrOk 89 .itoa := by
  intro T V hT a s outs h π H vs hR ha
  replace h : qItoa T a s = some (some outs) := h
  unfold qItoa at h
  split at h
  · rename_i x
    obtain ⟨v, rfl, e⟩ := ok1 ha
    replace e : v = .int .i64 (x.den V) := e
    obtain ⟨q, hq, rfl⟩ := oneR_out h
    obtain ⟨h1, h2⟩ := dOf_ok hT hq
    rw [e]
    exact cx (by kernel_rfl) (mstr (itoa_ok (K := fun b H' => Out V s.m π [(.str q, s)] (.string b) H') Tryz.itoa rfl h1 (tabIs hT hR) fun H' hf => out_one hR hf (str_ok h2)))
  · cases h
theorem pr_refI : PrOk 4 .refI := by
  intro T V hT a s outs h π H vs hR ha
  replace h : qRefI T a s = some (some outs) := h
  unfold qRefI at h
  split at h
  · rename_i x
    obtain ⟨v, rfl, e⟩ := ok1 ha
    replace e : v = .int .i64 (x.den V) := e
    split at h
    · rename_i y hy
      cases hb : ltI (-1000000) y.1 with
      | false => rw [hb] at h; cases h
      | true =>
        cases hb2 : ltI y.2 1000000 with
        | false => rw [hb, hb2] at h; cases h
        | true =>
          rw [hb, hb2] at h
          have g := rng_ok hT.toTokN hy
          have g1 := ltI_ok.1 hb
          have g2 := ltI_ok.1 hb2
          obtain ⟨q, hq, rfl⟩ := oneR_out (show oneR (dOf T x) s = some (some outs) from h)
          obtain ⟨h1, h2⟩ := dOf_ok hT hq
          rw [e]
          exact cx (by kernel_rfl) (mstr ((refInt_ok (H := H) (K := fun b => b = ⟨(Lib.itoa (x.den V)).toArray⟩) (by omega) (by omega) rfl).mono fun v H' ⟨b, k1, k2, k3⟩ => ⟨b, k1, by rw [k2, k3]; exact out_one hR (Fr.refl _ _) (str_ok h2)⟩))
    · cases h
  · cases h
theorem decFrom_app : ∀ (l : List UInt8) (acc : Nat) (b : UInt8) (n d : Nat), Lib.decFrom acc l = some n → Lib.digitVal b = some d → Lib.decFrom acc (l ++ [b]) = some (n * 10 + d)
  | [], acc, b, n, d, h, hd => by
    simp only [Lib.decFrom, Option.some.injEq] at h
    subst h
    simp [Lib.decFrom, hd]
  | a :: l, acc, b, n, d, h, hd => by
    simp only [Lib.decFrom, List.cons_append] at h ⊢
    cases ha : Lib.digitVal a with
    | none => rw [ha] at h; cases h
    | some e =>
      rw [ha] at h
      exact decFrom_app l _ b n d h hd
theorem digitVal_ok {d : Nat} (h : d < 10) : Lib.digitVal (UInt8.ofNat (48 + d)) = some d := by
  unfold Lib.digitVal
  have : (UInt8.ofNat (48 + d)).toNat = 48 + d := by rw [UInt8.toNat_ofNat']; omega
  rw [this, if_pos (by omega)]
  congr 1; omega
theorem decFrom_digits (u : Nat) : Lib.decFrom 0 (Lib.decDigits u) = some u := by
  induction u using Nat.strongRecOn with
  | _ u ih =>
    by_cases h : u < 10
    · rw [Lib.decDigits, dif_pos h]
      show (match Lib.digitVal (UInt8.ofNat (48 + u)) with | some d => Lib.decFrom (0 * 10 + d) [] | none => none) = _
      rw [digitVal_ok h]
      simp [Lib.decFrom]
    · rw [Lib.decDigits, dif_neg h, decFrom_app _ 0 _ (u / 10) (u % 10) (ih _ (by omega)) (digitVal_ok (by omega))]
      congr 1; omega
theorem digits_ne (u : Nat) : Lib.decDigits u ≠ [] := fun e => by
  have := Lib.decDigits_length u
  have := Lib.nDigits_pos u
  rw [e] at *; simp at *; omega
theorem atoi_itoa (n : Int) : Lib.atoi (Lib.itoa n) = some n := by
  have key : ∀ u : Nat, Lib.decNat (Lib.decDigits u) = some u := fun u => by
    unfold Lib.decNat
    rw [if_neg (by simpa using digits_ne u), decFrom_digits]
  by_cases h : n < 0
  · obtain ⟨u, rfl⟩ : ∃ u : Nat, n = -(u : Int) := ⟨n.natAbs, by omega⟩
    rw [Lib.itoa_neg u (by omega)]
    simp [Lib.atoi, key]
  · obtain ⟨u, rfl⟩ : ∃ u : Nat, n = (u : Int) := ⟨n.natAbs, by omega⟩
    rw [Lib.itoa_nonneg]
    cases hd : Lib.decDigits u with
    | nil => exact absurd hd (digits_ne u)
    | cons b l =>
      have hb := digits_mem (u := u) (b := b) (by rw [hd]; simp)
      have h1 : (b == 45) = false := by
        cases hh : b == 45 with
        | false => rfl
        | true => have := eq_of_beq hh; subst this; simp at hb
      have h2 : (b == 43) = false := by
        cases hh : b == 43 with
        | false => rfl
        | true => have := eq_of_beq hh; subst this; simp at hb
      show (if (b == 45) = true then _ else if (b == 43) = true then _ else (Lib.decNat (b :: l)).map fun (m : Nat) => (m : Int)) = _
      rw [h1, h2, ← hd, key]
      rfl
theorem atoiV_ok {sb : ByteArray} {n : Int} {K : Value → Heap → Prop} (hs : sb.size ≤ 18) (ha : Lib.atoi sb.data.toList = some n) (hk : ∀ H', Go.GV.Fr [] H H' → K (.tuple ⟨[.int .i64 n, .nilIface]⟩) H') : CallH Tryz.prog 160 ⟨[.string sb]⟩ H K := by
  refine callH_below fun w hw => ?_
  subst hw
  refine (Any.internal_strconv_Atoi { Tryz.atoiI with } sb n hs ha w).mono ?_
  rintro e w' ⟨rfl, t, rfl⟩
  have hb : RowKit.Below w.heap.size w (Lib.bytesWorld w (Tryz.atoiI_ren.t 5) t) := Lib.bytesWorld_below _ _ _
  exact ⟨_, rfl, hb, Nat.le_succ _, hk _ (Below.frH hb)⟩
theorem neqNilI {xo : Operand} : RdA Tryz.prog (eqSem .neq 173 xo (.const .nilIface) .nilIface .nilIface) (.bool false) :=
  eqSem_neq (r := true) (by simp [eqGuard]) rfl fun d w => by simp [Op.equalIn, run_underlying' Tryz.underlying173]
theorem pr_atoi : PrOk 82 .atoi := by
  intro T V hT a s outs h π H vs hR ha
  replace h : qAtoi T a s = some (some outs) := h
  unfold qAtoi at h
  split at h
  · rename_i r
    obtain ⟨v, rfl, e⟩ := ok1 ha
    replace e : v = .string (tx V r) := e
    unfold pAtoi at h
    split at h
    · rename_i j
      split at h
      · rename_i x z hd hz
        split at h
        · rename_i y hy
          cases hb : ltI y.2 19 with
          | false => rw [hb] at h; cases h
          | true =>
            rw [hb] at h
            have := one1_out (show one1 _ s = some (some outs) from h)
            subst this
            obtain ⟨a, k1, k2⟩ := defAt_ok hd
            obtain ⟨k3, k4⟩ := hT.D j a x k1 k2
            have hzz := szA_ok hT.toTokN hz
            have g := (rng_ok hT.toTokN hy).2
            have g1 := ltI_ok.1 hb
            rw [e]
            have hbl : (tx V [.a j]).data.toList = Lib.itoa (x.den V) := by
              show (denR V [.a j]).toArray.toList = _
              rw [aOf, k4]
            have hsz : (tx V [.a j]).size ≤ 18 := by
              rw [tx_sz, aOf]; omega
            refine cx (by kernel_rfl) ?_
            apply vc_strconv_Atoi
            refine atoiV_ok hsz (by rw [hbl]; exact atoi_itoa _) fun H' hf => ⟨_, _, rfl, false, neqNilI, brB_of (fun c => by simp at c) fun _ => ?_⟩
            exact out_one hR hf ⟨_, rfl, _, _, rfl, rfl, _, _, rfl, rfl, rfl⟩
        · cases h
      · cases h
    · cases h
  · cases h
end
end Go.SX
namespace Go.Proofs.Fs
def okN (x : Int) : Prop := (97 ≤ x ∧ x ≤ 122) ∨ (48 ≤ x ∧ x ≤ 57) ∨ x = 46 ∨ x = 45
instance (x : Int) : Decidable (okN x) := by unfold okN; infer_instance
def rightP (s : ByteArray) : Prop := (∀ b ∈ bl s, okN (b.toNat : Int)) ∧ s.size ≠ 0 ∧ s.size ≤ 16
instance (s : ByteArray) : Decidable (rightP s) := by unfold rightP; infer_instance
end Go.Proofs.Fs
namespace Go.SX
open Go.Proofs Go.Proofs.Fs
section
variable {V : Val} {T : Tab} {π : Pl} {s : St} {H H' : Heap} {outs : List (SV × St)} {vs : List Value}
theorem out_sl {α : Type} {E : Enc α} (hz : E.sz = 1) {t : TypeId} {M : List α} {xs : List SV} {o : Option Addr} {n c : Nat} (hR : Rel V s π H) (hf : Go.GV.Fr [] H H') (ho : Own E t H.size H' o n c M) (hx : okSL V π s.m xs (M.flatMap E.cells)) (h1 : ∀ v ∈ M.flatMap E.cells, v.oneCell' = true) (hne : xs ≠ []) :
    ∃ π', Ext s.m π π' ∧ Rel V (pushC s (.cells xs)) π' H' ∧ okS V π' (pushC s (.cells xs)).m (.sv s.m 0 (lenN xs) none 1) (.slice o n c) := by
  have hl := okSL_len hx
  rw [flatMap_len, hz, Nat.mul_one] at hl
  have hxl : 0 < xs.length := List.length_pos_iff.2 hne
  obtain ⟨hn, ⟨_, h2, _⟩ | ⟨b, cur, rfl, hb, hg, hnc, hc, hcs, htk⟩⟩ := ho
  · omega
  rw [hz, Nat.mul_one] at hcs htk
  have hcur : cur = ⟨M.flatMap E.cells ++ cur.toList.drop n⟩ := by
    apply Array.ext'
    rw [← htk]
    simp
  have hlen : (M.flatMap E.cells).length + (cur.toList.drop n).length = c := by
    have : cur.toList.length = c := by simpa using hcs
    rw [flatMap_len, hz, List.length_drop]; omega
  rw [hcur] at hg
  refine ⟨_, updPl_ext _ _ _ _ _, hR.newCells hf hb hg hx h1, Nat.lt_succ_self _, c, ?_, ?_, by decide, ?_⟩
  · have : lenN xs = n := by rw [lenN_eq]; omega
    rw [this]
    simp [updPl]
  · rw [lenN_eq]; omega
  · simp only [updPl, if_true]
    rw [hlen]; omega
theorem strs_flat (M : List ByteArray) : M.flatMap GV.encStr.cells = M.map Value.string := by
  induction M with
  | nil => rfl
  | cons a l ih => rw [List.flatMap_cons, ih]; rfl
theorem okTx_ok {m : Nat} : ∀ {xs : List SV} {M : List ByteArray}, okTx V xs M → okSL V π m xs (M.flatMap GV.encStr.cells)
  | [], M, h => by rw [show M = [] from h]; rfl
  | x :: l, M, h => by
    obtain ⟨r, M', rfl, rfl, h2⟩ := h
    exact ⟨_, _, rfl, rfl, okTx_ok h2⟩
theorem strs_one (M : List ByteArray) : ∀ v ∈ M.flatMap GV.encStr.cells, v.oneCell' = true := by
  rw [strs_flat]
  intro v hv
  obtain ⟨x, _, rfl⟩ := List.mem_map.1 hv
  rfl
theorem newL_out {l : List SV} (h : newL l s = some (some outs)) : l ≠ [] ∧ outs = [(.sv s.m 0 (lenN l) none 1, pushC s (.cells l))] := by
  unfold newL at h
  split at h
  · cases h
  · rename_i hne
    exact ⟨fun e => hne e, one1_out h⟩
theorem newL2_out {l : List SV} {x : Lin} (h : newL2 l x s = some (some outs)) : l ≠ [] ∧ outs = [(.tup [.sv s.m 0 (lenN l) none 1, .int .i64 x], pushC s (.cells l))] := by
  unfold newL2 at h
  split at h
  · cases h
  · rename_i hne
    exact ⟨fun e => hne e, one1_out h⟩
theorem pr_scan : PrOk 40 .scan := by
  intro T V hT a s outs h π H vs hR ha
  replace h : qScan T a s = some (some outs) := h
  unfold qScan at h
  split at h
  · rename_i r
    obtain ⟨v, rfl, e⟩ := ok1 ha
    replace e : v = .string (tx V r) := e
    obtain ⟨h, hs⟩ := gate_ok hT.toTokN h
    unfold pScan at h
    split at h
    · rename_i l hl
      obtain ⟨hne, rfl⟩ := newL2_out h
      obtain ⟨M, m1, m2, m3⟩ := scanF_ok hT hl
      rw [e]
      refine cx (by kernel_rfl) ((Scan_ok (K := fun o n c i H' => Out V s.m π [(.tup [.sv s.m 0 (lenN l.1) none 1, .int .i64 l.2], pushC s (.cells l.1))] (.tuple ⟨[.slice o n c, .int .i64 i]⟩) H') (tabH hT hR) (by rw [tx_sz]; omega) fun M' a o n c H' hle hsc _ ho hf => ?_).mono fun v H' ⟨o, n, c, i, h1, h2⟩ => by rw [h1]; exact h2)
      have hsc2 : scanA (bl (tx V r)) = (M, []) := by rw [tx_bl]; exact m3 _ (by omega)
      rw [hsc2] at hsc
      simp only [Prod.mk.injEq] at hsc
      obtain ⟨rfl, hd⟩ := hsc
      have ha2 : a = (denR V r).length := by
        have := congrArg List.length hd
        rw [List.length_drop, tx_bl] at this
        rw [tx_sz] at hle
        simp at this
        omega
      obtain ⟨π', p1, p2, p3⟩ := out_sl (E := GV.encStr) rfl hR hf ho (okTx_ok m1) (strs_one _) hne
      refine ⟨_, List.mem_singleton.2 rfl, Nat.le_succ _, π', p1, p2, _, rfl, _, _, rfl, p3, _, _, rfl, ?_, rfl⟩
      show Value.int _ _ = Value.int _ _
      rw [m2, ha2, den_k]; congr 1; omega
    · cases h
  · cases h
theorem pr_chunks : PrOk 312 .chunks := by
  intro T V hT a s outs h π H vs hR ha
  replace h : qChunks T a s = some (some outs) := h
  unfold qChunks at h
  split at h
  · rename_i r
    obtain ⟨v, rfl, e⟩ := ok1 ha
    replace e : v = .string (tx V r) := e
    obtain ⟨h, hs⟩ := gate_ok hT.toTokN h
    unfold pChunks at h
    split at h
    · rename_i l hl
      obtain ⟨hne, rfl⟩ := newL_out h
      have m1 := split64_ok hT hl
      rw [e]
      refine cx (by kernel_rfl) ((chunks_ok (K := fun o n c H' => Out V s.m π [(.sv s.m 0 (lenN l) none 1, pushC s (.cells l))] (.slice o n c) H') (by rw [tx_sz]; omega) fun o n c H' ho hf => ?_).mono fun v H' ⟨o, n, c, h1, h2⟩ => by rw [h1]; exact h2)
      unfold chunksS at ho
      rw [tx_bl] at ho
      obtain ⟨π', p1, p2, p3⟩ := out_sl (E := GV.encStr) rfl hR hf ho (okTx_ok m1) (strs_one _) hne
      exact ⟨_, List.mem_singleton.2 rfl, Nat.le_succ _, π', p1, p2, p3⟩
    · cases h
  · cases h
theorem natC_lt {x : Lin} {c : Nat} (h : natC x = some c) (hc : c < 256) : (x.den V).toNat.toUInt8 = UInt8.ofNat c := by
  rw [natC_ok h]; rfl
theorem pr_idx : PrOk 129 .idx := by
  intro T V hT a s outs h π H vs hR ha
  replace h : qIdx T a s = some (some outs) := h
  unfold qIdx at h
  split at h
  · rename_i r x
    obtain ⟨u, v, rfl, e1, e2⟩ := ok2 ha
    replace e1 : u = .string (tx V r) := e1
    replace e2 : v = .int .u8 (x.den V) := e2
    obtain ⟨h, hs⟩ := gate_ok hT.toTokN h
    unfold pIdx at h
    split at h
    · rename_i c hc
      cases hb : Nat.blt c 256 with
      | false => rw [hb] at h; cases h
      | true =>
        rw [hb] at h
        have hc2 : c < 256 := by simpa [Nat.blt_eq] using hb
        simp only [cond_true] at h
        split at h
        · rename_i y hy
          have := one1_out h
          subst this
          obtain ⟨o, k1, k2⟩ := idxB_ok hT hc2 hy
          rw [e1, e2]
          refine .inr ⟨by kernel_rfl, ext_ok (fn := Tryz.f129) Tryz.func129 (by kernel_rfl) (by kernel_rfl) (by kernel_rfl) (e := Extern.BytealgIndexByte.indexByte) (by kernel_rfl) (fun w => Lib.run_indexByteString (tx V r) (x.den V) w) (out_one hR (Fr.refl _ _) ?_)⟩
          show Value.int _ _ = Value.int _ _
          rw [natC_lt hc hc2, show (tx V r).data.toList = denR V r by simp [tx], indexByte_is k1]
          cases y with
          | none => have k2 : o = none := k2; subst k2; simp [orNeg, orN]
          | some y => obtain ⟨i, rfl, k3⟩ := k2; simp [orNeg, orN, k3]
        · cases h
    · cases h
  · cases h
theorem lastIdx_is {l : List UInt8} {c : Nat} (hc : c < 256) {o : Option Nat} (h : LastIs l (UInt8.ofNat c) o) : Lib.lastIndexByte ⟨l.toArray⟩ (c : Int) = orN o := by
  have hget : ∀ j, j < l.length → ((((⟨l.toArray⟩ : ByteArray).data[j]!).toNat : Int) = c ↔ l[j]? = some (UInt8.ofNat c)) := fun j hj => by
    have e : (⟨l.toArray⟩ : ByteArray).data[j]! = l[j] := by simp [hj]
    rw [e, List.getElem?_eq_getElem hj]
    constructor
    · intro h
      congr 1
      apply UInt8.toNat_inj.1
      rw [UInt8.toNat_ofNat']; omega
    · intro h
      have := Option.some.inj h
      rw [this, UInt8.toNat_ofNat']
      omega
  unfold Lib.lastIndexByte
  have hsz : (⟨l.toArray⟩ : ByteArray).size = l.length := by simp [ByteArray.size]
  rw [hsz]
  rcases Lib.lastIdx_spec ⟨l.toArray⟩ (c : Int) l.length with ⟨e, hn⟩ | ⟨i, hi, e, hic, hn⟩
  · rw [e]
    cases o with
    | none => rfl
    | some k =>
      have hk := (List.getElem?_eq_some_iff.1 h.1).1
      exact absurd ((hget k hk).2 h.1) (hn k hk)
  · rw [e]
    have hi2 := (hget i hi).1 hic
    cases o with
    | none => exact absurd (List.mem_of_getElem? hi2) h
    | some k =>
      obtain ⟨h1, h2⟩ := h
      have hk := (List.getElem?_eq_some_iff.1 h1).1
      have : i = k := by
        rcases Nat.lt_trichotomy i k with hlt | rfl | hlt
        · exact absurd ((hget k hk).2 h1) (hn k hlt hk)
        · rfl
        · exfalso
          apply h2
          rw [List.mem_iff_getElem?]
          refine ⟨i - (k + 1), ?_⟩
          rw [List.getElem?_drop, show k + 1 + (i - (k + 1)) = i by omega]
          exact hi2
      rw [this]; rfl
theorem pr_last : PrOk 26 .last := by
  intro T V hT a s outs h π H vs hR ha
  replace h : qLast T a s = some (some outs) := h
  unfold qLast at h
  split at h
  · rename_i r x
    obtain ⟨u, v, rfl, e1, e2⟩ := ok2 ha
    replace e1 : u = .string (tx V r) := e1
    replace e2 : v = .int .u8 (x.den V) := e2
    obtain ⟨h, hs⟩ := gate_ok hT.toTokN h
    unfold pLast at h
    split at h
    · rename_i c hc
      cases hb : Nat.blt c 256 with
      | false => rw [hb] at h; cases h
      | true =>
        rw [hb] at h
        have hc2 : c < 256 := by simpa [Nat.blt_eq] using hb
        simp only [cond_true] at h
        split at h
        · rename_i y hy
          have := one1_out h
          subst this
          obtain ⟨o, k1, k2⟩ := lastB_ok hT hc2 (p := []) (o := none) hy (by simp) (by simp [LastIs]) rfl
          rw [e1, e2, natC_ok hc]
          refine cx (by kernel_rfl) ((lastIB_ok (K := fun n H' => Out V s.m π [(.int .i64 (orNeg y), s)] (.int .i64 n) H') Tryz.lastIB rfl (by rw [tx_sz]; omega) (out_one hR (Fr.refl _ _) ?_)).mono fun v H' ⟨n, h1, h2⟩ => by rw [h1]; exact h2)
          show Value.int _ _ = Value.int _ _
          rw [show tx V r = ⟨(denR V r).toArray⟩ from rfl, lastIdx_is hc2 (by simpa using k1)]
          cases y with
          | none => have k2 : o = none := k2; subst k2; simp [orNeg, orN]
          | some y => obtain ⟨i, rfl, k3⟩ := k2; simp [orNeg, orN, k3]
        · cases h
    · cases h
  · cases h
theorem ropesL_ok : ∀ {l : List SV} {q : List Rope}, ropesL l = some q → ∀ {m : Nat} {cs : List Value}, okSL V π m l cs → cs = q.map fun r => Value.string (tx V r)
  | [], q, h, m, cs, hk => by cases h; exact hk
  | x :: l, q, h, m, cs, hk => by
    unfold ropesL at h
    split at h
    · cases h; rename_i e; cases e
    · rename_i r l' e
      cases e
      split at h
      · rename_i q' hq
        cases h
        obtain ⟨c, cs', rfl, h1, h2⟩ := hk
        rw [ropesL_ok hq h2, show c = Value.string (tx V r) from h1]
        rfl
      · cases h
    · cases h
theorem joinR_ok (sep : Rope) : ∀ q : List Rope, denR V (joinR sep q) = joinL (denR V sep) (q.map (tx V))
  | [] => rfl
  | [r] => by simp [joinR, joinL, bl, tx]
  | r :: r' :: l => by
    rw [joinR, appR_den, appR_den, joinR_ok sep (r' :: l)]
    simp [joinL, bl, tx]
    intro h; cases h
theorem sum_join (sep : List UInt8) : ∀ l : List ByteArray, sumS l ≤ (joinL sep l).length
  | [] => by simp [sumS]
  | x :: l => by
    unfold joinL
    rw [List.length_append, bl_len, flat_len]
    unfold sumS
    simp only [List.map_cons, List.sum_cons]
    omega
theorem pr_join : PrOk 80 .join := by
  intro T V hT a s outs h π H vs hR ha
  replace h : qJoin T a s = some (some outs) := h
  unfold qJoin at h
  split at h
  · rename_i i o n c z sep
    obtain ⟨u, v, rfl, e1, e2⟩ := ok2 ha
    obtain ⟨hi, c', rfl, hnc, hcap⟩ := e1
    replace e2 : v = .string (tx V sep) := e2
    cases hz : Nat.beq z 1 with
    | false => rw [hz] at h; cases h
    | true =>
      rw [hz] at h
      have hz := Nat.eq_of_beq_eq_true hz
      subst hz
      replace h : pJoin T i o n sep s = some (some outs) := h
      unfold pJoin at h
      split at h
      · rename_i l hG
        have hch := hR.ok i hi
        rw [hG] at hch
        obtain ⟨cs, rs, te, k1, k2, k3, k4⟩ := hch
        split at h
        · rename_i q hq
          cases hb : Nat.blt 1 n with
          | false => rw [hb] at h; cases h
          | true =>
            rw [hb] at h
            simp only [cond_true] at h
            cases hb2 : Nat.beq (lenN q) n with
            | false => rw [hb2] at h; cases h
            | true =>
              rw [hb2] at h
              simp only [cond_true] at h
              have hlq : q.length = n := by rw [← lenN_eq]; exact Nat.eq_of_beq_eq_true hb2
              have hn1 : 1 < n := by simpa [Nat.blt_eq] using hb
              cases hb3 : oneB sep with
              | false => rw [hb3] at h; cases h
              | true =>
              rw [hb3] at h
              obtain ⟨h, hs⟩ := gate_ok hT.toTokN h
              have := one1_out h
              subst this
              have hrow := ropesL_ok hq (okSL_take n (okSL_drop o k2))
              have hsep : (tx V sep).size = 1 := by
                rw [tx_sz]
                unfold oneB at hb3
                split at hb3
                · simp [denR, Seg.den, byteL]
                · cases hb3
              have hsl : Sl GV.encStr H (some ⟨π.b i, o, none⟩) n c' (q.map (tx V)) := by
                refine ⟨by simpa using hlq.symm, hnc, .inr ⟨π.b i, o, rfl, fun j x hj k v hv => ?_⟩⟩
                have hk0 : k = 0 ∧ v = .string x := by
                  cases k with
                  | zero => simp [GV.encStr] at hv; exact ⟨rfl, hv.symm⟩
                  | succ k => simp [GV.encStr] at hv
                obtain ⟨rfl, rfl⟩ := hk0
                have hjn : j < n := by
                  have := (List.getElem?_eq_some_iff.1 hj).1
                  simpa [hlq] using this
                rw [cell_of_blk k1]
                have : ((cs.drop o).take n)[j]? = some (.string x) := by
                  rw [hrow]
                  rw [List.getElem?_map] at hj ⊢
                  cases hqj : q[j]? with
                  | none => rw [hqj] at hj; cases hj
                  | some r => rw [hqj] at hj; cases hj; rfl
                rw [List.getElem?_take_of_lt hjn, List.getElem?_drop] at this
                show (cs ++ rs).toArray[o + j * 1 + 0]? = _
                have hlt := (List.getElem?_eq_some_iff.1 this).1
                simp only [Nat.mul_one, Nat.add_zero, List.getElem?_toArray]
                rw [List.getElem?_append_left hlt]
                exact this
              rw [e2]
              refine cx (by kernel_rfl) (mstr (Join_ok (K := fun b H' => Out V s.m π [(.str (joinR sep q), s)] (.string b) H') hsl ?_ hsep ?_ fun H' hf => out_one hR hf (str_ok ?_)))
              · have h1 := sum_join (denR V sep) (q.map (tx V))
                have : (q.map (tx V)).length ≤ (joinL (denR V sep) (q.map (tx V))).length + 1 := by
                  cases hqq : q.map (tx V) with
                  | nil => simp
                  | cons y l =>
                    unfold joinL
                    rw [List.length_append, flat_len, ← tx_bl V sep, bl_len, bl_len, hsep]
                    simp only [List.length_cons]; omega
                rw [joinR_ok] at hs
                rw [List.length_map] at this
                omega
              · have h1 := sum_join (denR V sep) (q.map (tx V))
                rw [joinR_ok] at hs
                omega
              · rw [joinR_ok, tx_bl]
        · cases h
      · cases h
  · cases h
end
theorem WriteS_ok {H : Heap} {b : Nat} {S : List Nat} {xs : List UInt8} {s : ByteArray} {K : Int → Value → Heap → Prop} (h : BldH H b S xs) (hlen : xs.length + s.size ≤ 140737488355328)
    (hk : ∀ H' o n c te, H'[b]? = some (.cells ⟨[.pointer (some ⟨b, 0, none⟩), .slice o n c]⟩ te (0, 0)) → Own encByte 5 0 H' o n c (xs ++ bl s) → b ∉ blkL o → Go.GV.Fr S H H' → Grow H S (b :: blkL o) → K s.size .nilIface H') :
    CallH Tryz.prog fn_strings_Builder_WriteString ⟨[.pointer (some ⟨b, 0, none⟩), .string s]⟩ H fun v H' => ∃ n w, v = .tuple ⟨[.int .i64 n, w]⟩ ∧ K n w H' := by
  apply vc_strings_Builder_WriteString
  refine copyCheck_ok h fun H1 o n c te h1 h2 hS h3 hf1 => ?_
  have hb : Blk H1 ⟨b, 0, none⟩ [.pointer (some ⟨b, 0, none⟩), .slice o n c] := ⟨b, _, rfl, h1⟩
  refine ⟨o, n, c, hb.ld Go.Proofs.bT.ab (j := 1) rfl, ap_str Go.Proofs.bT.sl Go.Proofs.bT.str Go.Proofs.bT.byte h2 (Nat.zero_le _) (by rw [h2.1]; exact hlen) fun a' n' c' H2 h4 hf2 hg2 => ?_⟩
  have hb2 := hb.fr hf2 h3
  refine hb2.st (j := 1) (v := .slice a' n' c') Go.Proofs.bT.s1 Go.Proofs.bT.si (fun x hx => by simp [Value.cells] at hx; subst hx; rfl) (by simp [Value.cells]) fun H3 hb3 hf3 => ⟨_, _, rfl, ?_⟩
  obtain ⟨b', te', e, hg⟩ := hb3
  cases e
  have hlt : b < H1.size := lt_of_get h1
  have hnb : b ∉ blkL a' := fun hk => by
    rcases hg2 b hk with h5 | h5
    · exact h3 h5
    · omega
  refine hk H3 a' n' c' te' hg (h4.fr hf3 (fun ad e hh => hnb (by
      have : ad.block = b := by simpa using hh
      simp [e, blkL, this]))) hnb ?_ ?_
  · rw [hS]
    exact (hf1.trans' hf2 (T := b :: blkL o) (by simp) (fun k hk _ => by simp [hk])).trans' hf3 (fun k hk _ => hk) (by simp)
  · rw [hS]
    intro k hk
    rcases List.mem_cons.1 hk with rfl | hk
    · exact .inl (by simp)
    · rcases hg2 k hk with h5 | h5
      · exact .inl (by simp [h5])
      · exact .inr (Nat.le_trans hf1.size h5)
theorem WriteC_ok {H : Heap} {b : Nat} {S : List Nat} {xs : List UInt8} {x : UInt8} {n : Int} {K : Value → Heap → Prop} (h : BldH H b S xs) (hx : n = x.toNat) (hlen : xs.length + 1 ≤ 140737488355328)
    (hk : ∀ H' o n c te, H'[b]? = some (.cells ⟨[.pointer (some ⟨b, 0, none⟩), .slice o n c]⟩ te (0, 0)) → Own encByte 5 0 H' o n c (xs ++ [x]) → b ∉ blkL o → Go.GV.Fr S H H' → Grow H S (b :: blkL o) → K .nilIface H') :
    CallH Tryz.prog fn_strings_Builder_WriteByte ⟨[.pointer (some ⟨b, 0, none⟩), .int .u8 n]⟩ H fun v H' => ∃ w, v = w ∧ K w H' := by
  subst hx
  apply vc_strings_Builder_WriteByte
  refine copyCheck_ok h fun H1 o n c te h1 h2 hS h3 hf1 => ?_
  have hb : Blk H1 ⟨b, 0, none⟩ [.pointer (some ⟨b, 0, none⟩), .slice o n c] := ⟨b, _, rfl, h1⟩
  refine ⟨o, n, c, hb.ld Go.Proofs.bT.ab (j := 1) rfl, ?_⟩
  intro b1 H2 hn1
  have hs1 : Sl encByte H2 (some ⟨b1, 0, none⟩) 1 1 [x] := sl_one encByte x hn1 rfl
  have h2' := h2.keep hn1.fr
  refine ap_grow (E := encByte) (bytes := 1) Go.Proofs.bT.sl (by kernel_rfl) h2' hs1 (Nat.zero_le _) (by rw [h2.1]; omega) fun a' n' c' H3 h4 hf2 hg2 => ?_
  have hb2 := (hb.keep hn1.fr).fr hf2 h3
  refine hb2.st (j := 1) (v := .slice a' n' c') Go.Proofs.bT.s1 Go.Proofs.bT.si (fun x hx => by simp [Value.cells] at hx; subst hx; rfl) (by simp [Value.cells]) fun H4 hb3 hf3 => ⟨_, rfl, ?_⟩
  obtain ⟨b', te', e, hg⟩ := hb3
  cases e
  have hlt : b < H1.size := lt_of_get h1
  have hsz := hn1.size
  have hnb : b ∉ blkL a' := fun hk => by
    rcases hg2 b hk with h5 | h5
    · exact h3 h5
    · omega
  refine hk H4 a' n' c' te' hg (h4.fr hf3 (fun ad e hh => hnb (by
      have : ad.block = b := by simpa using hh
      simp [e, blkL, this]))) hnb ?_ ?_
  · rw [hS]
    exact ((hf1.trans' hn1.fr (T := b :: blkL o) (by simp) (by simp)).trans' hf2 (T := b :: blkL o) (fun k hk _ => hk) (fun k hk _ => by simp [hk])).trans' hf3 (fun k hk _ => hk) (by simp)
  · rw [hS]
    intro k hk
    rcases List.mem_cons.1 hk with rfl | hk
    · exact .inl (by simp)
    · rcases hg2 k hk with h5 | h5
      · exact .inl (by simp [h5])
      · exact .inr (by have := hf1.size; omega)
section
variable {V : Val} {T : Tab} {π : Pl} {s : St} {H H' : Heap} {outs : List (SV × St)} {vs : List Value}
theorem bytes_flat (l : List UInt8) : l.flatMap encByte.cells = l.map byteV := by
  induction l with
  | nil => rfl
  | cons a l ih => rw [List.flatMap_cons, ih]; rfl
def bldS (π : Pl) (j : Nat) : Option Nat → List Nat
  | some i => [π.b j, π.b i]
  | none => [π.b j]
theorem buf_ok (hR : Rel V s π H) {j : Nat} {q : Rope × Option Nat} (hj : j < s.m) (h : buf1 s j = some q) : BldH H (π.b j) (bldS π j q.2) (denR V q.1) ∧ s.G.get j ≠ .dead ∧ ∀ i, q.2 = some i → i < s.m ∧ i ≠ j ∧ s.G.get i ≠ .dead := by
  unfold buf1 at h
  have hc := hR.ok j hj
  split at h
  · rename_i t hG
    rw [hG] at hc
    cases hb : Nat.beq t tBld with
    | false => rw [hb] at h; cases h
    | true =>
      rw [hb] at h
      cases h
      have ht := Nat.eq_of_beq_eq_true hb
      obtain ⟨cs, te, k1, ⟨c1, cs1, rfl, e1, c2, cs2, rfl, e2, e3⟩, k3⟩ := hc
      rw [show c1 = _ from e1, show c2 = _ from e2, show cs2 = [] from e3] at k1
      refine ⟨⟨none, none, 0, 0, te, k1, .inl ⟨rfl, by rw [k3 t rfl, ht]; rfl⟩, Own.nil _ _ _ _, rfl, by simp [blkL]⟩, (by rw [hG]; exact fun h => nomatch h), fun i h => by cases h⟩
  · rename_i t k o i hG
    rw [hG] at hc
    cases hb : Nat.beq k j with
    | false => rw [hb] at h; cases h
    | true =>
      rw [hb] at h
      cases hb2 : Nat.beq o 0 with
      | false => rw [hb2] at h; cases h
      | true =>
        rw [hb2] at h
        have := Nat.eq_of_beq_eq_true hb
        subst this
        have := Nat.eq_of_beq_eq_true hb2
        subst this
        replace h : buf2 s i = some q := h
        unfold buf2 at h
        split at h
        · rename_i r hGi
          cases h
          obtain ⟨cs, te, k1, ⟨c1, cs1, rfl, ⟨_, e1⟩, c2, cs2, rfl, ⟨hi, e2, e4⟩, e3⟩, k3⟩ := hc
          rw [e1, e2, show cs2 = [] from e3] at k1
          have hci := hR.ok i hi
          rw [hGi] at hci
          obtain ⟨rs, g1, g2, g3, g4⟩ := hci
          have hne : i ≠ k := fun e => by subst e; rw [hG] at hGi; cases hGi
          have hki : π.b k ≠ π.b i := hR.dj k i hj hi (Ne.symm hne) (by rw [hG]; exact fun h => nomatch h) (by rw [hGi]; exact fun h => nomatch h)
          refine ⟨⟨_, _, _, _, te, k1, .inr rfl, ⟨g2.symm, .inr ⟨π.b i, _, rfl, Nat.zero_le _, g1, e4, g4, ?_, ?_⟩⟩, rfl, by simpa [blkL] using hki⟩, (by rw [hG]; exact fun h => nomatch h), fun i' h => ?_⟩
          · have : encByte.sz = 1 := rfl
            rw [this]
            simp
            omega
          · have : encByte.sz = 1 := rfl
            rw [this, bytes_flat, ← g2, Nat.mul_one]
            show (List.map byteV (denR V r) ++ rs).take _ = _
            rw [List.take_append_of_le_length (by simp), List.take_of_length_le (by simp)]
          · cases h
            exact ⟨hi, hne, by rw [hGi]; exact fun h => nomatch h⟩
        · cases h
  · cases h
theorem Fre.push {x b k n : Nat} {c : Ch} (h : Fre V s π x) (hb : b ≠ x) (he : exC c = []) (hR : Rel V s π H) : Fre V (pushC s c) (updPl π s.m b k n) x := by
  have hx := updPl_ext π s.m b k n
  refine ⟨h.1, fun i hi => ⟨fun hl => ?_, fun e hee => ?_⟩⟩
  · rcases push_get s c i hi with e | ⟨rfl, e⟩ | ⟨hlt, e⟩
    · exact absurd e hl
    · simpa [updPl] using hb
    · rw [(hx i hlt).1]; exact (h.2 i hlt).1 (by rw [← e]; exact hl)
  · rcases push_get s c i hi with e0 | ⟨rfl, e0⟩ | ⟨hlt, e0⟩
    · rw [e0] at hee; simp [exC] at hee
    · rw [e0, he] at hee; simp at hee
    · rw [e0] at hee; rw [(hx e (hR.ex i hlt e hee).1).1]; exact (h.2 i hlt).2 e hee
theorem killO_ok (hR : Rel V s π H) {j : Nat} {oi : Option Nat} (hj : j < s.m) (hd : s.G.get j ≠ .dead) (hi : ∀ i, oi = some i → i < s.m ∧ i ≠ j ∧ s.G.get i ≠ .dead) :
    Rel V (killO (setC s j .dead) oi) π H ∧ (killO (setC s j .dead) oi).m = s.m ∧ ∀ x ∈ bldS π j oi, Fre V (killO (setC s j .dead) oi) π x := by
  have h1 := hR.kill j
  cases oi with
  | none => exact ⟨h1, rfl, fun x hx => by simp [bldS] at hx; subst hx; exact Fre.of_kill hR hj hd⟩
  | some i =>
    obtain ⟨g1, g2, g3⟩ := hi i rfl
    refine ⟨h1.kill i, rfl, fun x hx => ?_⟩
    simp only [bldS, List.mem_cons, List.mem_nil_iff, or_false] at hx
    rcases hx with rfl | rfl
    · exact (Fre.of_kill hR hj hd).kill i
    · by_cases hdi : (setC s j .dead).G.get i = .dead
      · have := Fre.of_kill hR g1 g3
        have := this.kill j
        have e : ∀ k, (setC (setC s i .dead) j .dead).G.get k ≠ .dead ∨ exC ((setC (setC s i .dead) j .dead).G.get k) = [] ∨ True := fun _ => .inr (.inr trivial)
        refine ⟨this.1, fun k hk => ⟨fun hl => ?_, fun e he => ?_⟩⟩
        · rcases kill_get (setC s j .dead) i k with e | ⟨n1, e⟩
          · exact absurd e hl
          · rcases kill_get s j k with e' | ⟨n2, e'⟩
            · exact absurd (e.trans e') hl
            · exact hR.dj k i hk g1 n1 (by rw [← e', ← e]; exact hl) g3
        · rcases kill_get (setC s j .dead) i k with e1 | ⟨n1, e1⟩
          · rw [show (killO (setC s j .dead) (some i)).G.get k = .dead from e1] at he; simp [exC] at he
          · rcases kill_get s j k with e' | ⟨n2, e'⟩
            · rw [show (killO (setC s j .dead) (some i)).G.get k = .dead from e1.trans e'] at he; simp [exC] at he
            · rw [show (killO (setC s j .dead) (some i)).G.get k = s.G.get k from e1.trans e'] at he
              exact ((hR.ex k hk e he).2 i g1 g3).symm
      · exact Fre.of_kill h1 g1 hdi
theorem wr_ok (hR : Rel V s π H) {j : Nat} {q : Rope × Option Nat} (hj : j < s.m) (h : buf1 s j = some q) {r : Rope} (hne : denR V r ≠ []) {o : Option Addr} {n c : Nat} {te : TypeId}
    (h1 : H'[π.b j]? = some (.cells ⟨[.pointer (some ⟨π.b j, 0, none⟩), .slice o n c]⟩ te (0, 0))) (h2 : Own encByte 5 0 H' o n c (denR V r)) (h3 : π.b j ∉ blkL o) (h4 : Go.GV.Fr (bldS π j q.2) H H') (h5 : Grow H (bldS π j q.2) (π.b j :: blkL o)) :
    (wrB s j r q.2).m = s.m + 1 ∧ ∃ π', Ext s.m π π' ∧ Rel V (wrB s j r q.2) π' H' := by
  obtain ⟨_, hd, hi⟩ := buf_ok hR hj h
  obtain ⟨r1, r2, r3⟩ := killO_ok hR hj hd hi
  obtain ⟨hn, ⟨_, e0, _⟩ | ⟨b', cur, rfl, _, hg, hnc, hc, hcs, htk⟩⟩ := h2
  · exact absurd (List.length_eq_zero_iff.1 (by omega)) hne
  have hbj : π.b j ≠ b' := by simpa [blkL] using h3
  have hfre : Fre V (killO (setC s j .dead) q.2) π b' := by
    rcases h5 b' (by simp [blkL]) with hm | hm
    · exact r3 b' hm
    · exact Fre.new r1 hm
  have r4 := r1.moreX h4 r3
  have hz : encByte.sz = 1 := rfl
  rw [hz, bytes_flat, Nat.mul_one] at htk
  rw [hz, Nat.mul_one] at hcs
  have hcur : cur = ⟨(denR V r).map byteV ++ cur.toList.drop n⟩ := by
    apply Array.ext'
    rw [← htk]
    simp
  have hlen : (denR V r).length + (cur.toList.drop n).length = c := by
    have : cur.toList.length = c := by simpa using hcs
    rw [List.length_drop]; omega
  rw [hcur] at hg
  have hx := updPl_ext π (killO (setC s j .dead) q.2).m b' c n
  have hbs : (updPl π s.m b' c n).b s.m = b' ∧ (updPl π s.m b' c n).cap s.m = c ∧ (updPl π s.m b' c n).len s.m = n := by simp [updPl]
  have hbo : (updPl π s.m b' c n).b j = π.b j := by
    have : ¬ j = s.m := by omega
    simp [updPl, this]
  have r5 : Rel V (pushC (killO (setC s j .dead) q.2) (.bytes r)) (updPl π (killO (setC s j .dead) q.2).m b' c n) H' := by
    refine r4.pushAt (lt_of_get hg) hfre ?_ rfl
    rw [r2]
    exact ⟨_, by rw [hbs.1]; exact hg, by rw [hbs.2.2]; exact hn.symm, by rw [hbs.2.1]; exact hlen, by rw [hbs.2.1]; exact hc⟩
  rw [r2] at r5
  have hm : (pushC (killO (setC s j .dead) q.2) (.bytes r)).m = s.m + 1 := by rw [pushC_m, r2]
  refine ⟨hm, updPl π s.m b' c n, updPl_ext _ _ _ _ _, ?_⟩
  refine Rel.revive r5 (by rw [hm]; omega) ?_ ?_ rfl
  · rw [hbo]
    have := Fre.push (b := b') (k := c) (n := n) (c := .bytes r) (r3 (π.b j) (by cases q.2 <;> simp [bldS])) (Ne.symm hbj) rfl r1
    rw [r2] at this
    exact this
  · rw [hm]
    refine ⟨_, te, by rw [hbo]; exact h1, ⟨_, _, rfl, ⟨by omega, by rw [hbo]⟩, _, _, rfl, ⟨Nat.lt_succ_self _, by rw [hbs.1, hbs.2.1, hbs.2.2], by rw [hbs.2.1, hbs.2.2]; exact hnc⟩, rfl⟩, fun t0 h => by cases h⟩
theorem posZ_ok (hT : TokN T V) {r : Rope} {z : Lin} (hz : ropeSz T r = some z) (h : posZ T z = true) : denR V r ≠ [] ∧ (denR V r).length < 1000000 := by
  unfold posZ at h
  split at h
  · rename_i q hq
    cases hb : ltI 0 q.1 with
    | false => rw [hb] at h; cases h
    | true =>
      rw [hb] at h
      have h1 := ltI_ok.1 hb
      have h2 := ltI_ok.1 (show ltI q.2 1000000 = true from h)
      have h3 := rng_ok hT hq
      have h4 := ropeSz_ok hT hz
      exact ⟨fun e => by rw [e] at h4; simp at h4; omega, by omega⟩
  · cases h
theorem pWr_out {b : SV} {r : Rope} {x : SV} (h : pWr T b r x s = some (some outs)) : ∃ j q z, b = .ptr j 0 ∧ buf1 s j = some q ∧ ropeSz T (appR q.1 r) = some z ∧ posZ T z = true ∧ outs = [(x, wrB s j (appR q.1 r) q.2)] := by
  unfold pWr at h
  split at h
  · rename_i j
    split at h
    · rename_i q hq
      split at h
      · rename_i z hz
        cases hp : posZ T z with
        | false => rw [hp] at h; cases h
        | true =>
          rw [hp] at h
          exact ⟨j, q, z, rfl, hq, hz, hp, one1_out h⟩
      · cases h
    · cases h
  · cases h
theorem pr_wrS : PrOk 158 .wrS := by
  intro T V hT a s outs h π H vs hR ha
  replace h : qWrS T a s = some (some outs) := h
  unfold qWrS at h
  split at h
  · rename_i b r
    obtain ⟨u, v, rfl, e1, e2⟩ := ok2 ha
    replace e2 : v = .string (tx V r) := e2
    unfold pWrS at h
    split at h
    · rename_i z hz
      obtain ⟨j, q, y, rfl, hq, hy, hp, rfl⟩ := pWr_out h
      obtain ⟨hj, e1⟩ := e1
      obtain ⟨hB, _, _⟩ := buf_ok hR hj hq
      obtain ⟨p1, p2⟩ := posZ_ok hT.toTokN hy hp
      have hzz := ropeSz_ok hT.toTokN hz
      rw [e1, e2]
      have hap : denR V (appR q.1 r) = denR V q.1 ++ bl (tx V r) := by rw [appR_den, tx_bl]
      have hl := congrArg List.length hap
      rw [List.length_append, bl_len] at hl
      refine cx (by kernel_rfl) ((WriteS_ok (K := fun n w H' => Out V s.m π [(.tup [.int .i64 z, .lit .nilIface], wrB s j (appR q.1 r) q.2)] (.tuple ⟨[.int .i64 n, w]⟩) H') hB (by omega) fun H' o n c te g1 g2 g3 g4 g5 => ?_).mono fun v H' ⟨n, w, h1, h2⟩ => by rw [h1]; exact h2)
      rw [← hap] at g2
      obtain ⟨m1, π', m2, m3⟩ := wr_ok hR hj hq p1 g1 g2 g3 g4 g5
      refine ⟨_, List.mem_singleton.2 rfl, by show s.m ≤ (wrB s j (appR q.1 r) q.2).m; omega, π', m2, m3, _, rfl, _, _, rfl, ?_, _, _, rfl, rfl, rfl⟩
      show Value.int _ _ = Value.int _ _
      rw [hzz, tx_sz]
    · cases h
  · cases h
theorem pr_wrC : PrOk 167 .wrC := by
  intro T V hT a s outs h π H vs hR ha
  replace h : qWrC T a s = some (some outs) := h
  unfold qWrC at h
  split at h
  · rename_i b x
    obtain ⟨u, v, rfl, e1, e2⟩ := ok2 ha
    replace e2 : v = .int .u8 (x.den V) := e2
    unfold pWrC at h
    split at h
    · rename_i c hc
      cases hb : Nat.blt c 256 with
      | false => rw [hb] at h; cases h
      | true =>
        rw [hb] at h
        have hc2 : c < 256 := by simpa [Nat.blt_eq] using hb
        obtain ⟨j, q, y, rfl, hq, hy, hp, rfl⟩ := pWr_out (show pWr T b [.b [c]] (.lit .nilIface) s = some (some outs) from h)
        obtain ⟨hj, e1⟩ := e1
        obtain ⟨hB, _, _⟩ := buf_ok hR hj hq
        obtain ⟨p1, p2⟩ := posZ_ok hT.toTokN hy hp
        rw [e1, e2, natC_ok hc]
        have hap : denR V (appR q.1 [.b [c]]) = denR V q.1 ++ [UInt8.ofNat c] := by rw [appR_den]; simp [denR, Seg.den, byteL]
        have hl := congrArg List.length hap
        rw [List.length_append] at hl
        simp at hl
        refine cx (by kernel_rfl) ((WriteC_ok (x := UInt8.ofNat c) (K := fun w H' => Out V s.m π [(.lit .nilIface, wrB s j (appR q.1 [.b [c]]) q.2)] w H') hB (by rw [UInt8.toNat_ofNat']; omega) (by omega) fun H' o n c' te g1 g2 g3 g4 g5 => ?_).mono fun v H' ⟨w, h1, h2⟩ => by rw [h1]; exact h2)
        rw [← hap] at g2
        obtain ⟨m1, π', m2, m3⟩ := wr_ok hR hj hq p1 g1 g2 g3 g4 g5
        exact ⟨_, List.mem_singleton.2 rfl, by show s.m ≤ (wrB s j (appR q.1 [.b [c]]) q.2).m; omega, π', m2, m3, rfl⟩
    · cases h
  · cases h
theorem pr_bStr : PrOk 159 .bStr := by
  intro T V hT a s outs h π H vs hR ha
  replace h : qBStr T a s = some (some outs) := h
  unfold qBStr at h
  split at h
  · rename_i b
    obtain ⟨v, rfl, e⟩ := ok1 ha
    unfold pBStr at h
    split at h
    · rename_i j
      split at h
      · rename_i q hq
        obtain ⟨h, hs⟩ := gate_ok hT.toTokN h
        have := one1_out h
        subst this
        obtain ⟨hj, e⟩ := e
        obtain ⟨hB, hd, hi⟩ := buf_ok hR hj hq
        obtain ⟨r1, r2, r3⟩ := killO_ok hR hj hd hi
        rw [e]
        refine cx (by kernel_rfl) (mstr (BString_ok (K := fun b H' => Out V s.m π [(.str q.1, killO (setC s j .dead) q.2)] (.string b) H') hB (by omega) fun H' hf => ?_))
        exact ⟨_, List.mem_singleton.2 rfl, by show s.m ≤ (killO (setC s j .dead) q.2).m; omega, π, Ext.refl _ _, r1.moreX hf r3, str_ok rfl⟩
      · cases h
    · cases h
  · cases h
theorem run_clone {P : Program} {t : TypeId} {r : Nat} {es : Array MapEntry} {ck : Nat} {E : Env} {d : Dr E} (h : H[r]? = some (.map es ck)) : (Extern.MapsClone.clone ⟨[.iface t (.map (some r))]⟩).run P (mkW E H d) = .ok (.iface t (.map (some H.size))) (mkW E (H.push (.map es ck)) d) := by
  have h1 := getObj_any (P := P) h (by simp) (mkW E H d) rfl
  have hc : Extern.MapsClone.clone ⟨[.iface t (.map (some r))]⟩ = (do
      let .map entries clock ← getObj r | stuck "maps.clone: a map expected"
      pure (.iface t (.map (some (← newObj (.map entries clock)))))) := rfl
  rw [hc]
  simp only [Sem.run_bind, h1, Result.andThen_ok, run_newObj_alloc]
  rfl
theorem pr_clone : PrOk 469 .clone := by
  intro T V hT a s outs h π H vs hR ha
  replace h : qClone T a s = some (some outs) := h
  unfold qClone at h
  split at h
  · rename_i t x
    obtain ⟨v, rfl, ⟨w, e, hx⟩⟩ := ok1 ha
    unfold pClone at h
    split at h
    · rename_i i
      obtain ⟨hi, e2⟩ := hx
      split at h
      · rename_i b l hG
        have := one1_out h
        subst this
        have hc := hR.ok i hi
        rw [hG] at hc
        rw [e, e2]
        have key : ∀ {κ : Type} {ek : κ → Value}, okMp ek V π s.m H (π.b i) l → (∀ (π' : Pl) (H' : Heap), okMp ek V π' (s.m + 1) H' (π'.b s.m) l → okCh V π' (s.m + 1) H' s.m (.map b l)) → CallX Tryz.prog 469 ⟨[.iface t (.map (some (π.b i)))]⟩ H (Out V s.m π [(.ifc t (.mp s.m), pushC s (.map b l))]) := by
          intro κ ek hm hch
          obtain ⟨ck, L, L', h1, h2, h3, h4⟩ := hm
          refine .inr ⟨by kernel_rfl, fun E d => ⟨.iface t (.map (some H.size)), H.push (.map ⟨L.map (entG ek)⟩ ck), d, ?_, ?_⟩⟩
          · rw [run_callFunc_extern (e := Extern.MapsClone.clone) Tryz.func469 (by kernel_rfl) (by kernel_rfl) (by kernel_rfl) (by kernel_rfl), run_clone h1]
            rfl
          · have hn : New H H.size (.map ⟨L.map (entG ek)⟩ ck) (H.push (.map ⟨L.map (entG ek)⟩ ck)) := ⟨rfl, rfl⟩
            have hx := updPl_ext π s.m H.size 0 0
            refine ⟨_, List.mem_singleton.2 rfl, Nat.le_succ _, updPl π s.m H.size 0 0, hx, hR.push hn.fr (Nat.le_refl _) (lt_of_get hn.get) (hch _ _ ⟨ck, L, L', by simp [updPl], h2, h3, okEs_mono hx (Nat.le_succ _) h4⟩) rfl, _, rfl, Nat.lt_succ_self _, by simp [updPl]⟩
        cases b with
        | true => exact key hc fun π' H' h => h
        | false => exact key hc fun π' H' h => h
      · cases h
    · cases h
  · cases h
end
section
variable {V : Val} {T : Tab} {π : Pl} {s : St} {H H' : Heap} {outs : List (SV × St)} {vs : List Value}
theorem varH_of (hR : Rel V s π H) {i : Nat} (hi : i < s.m) {x : SV} {l : List SV} (hG : s.G.get i = .cells (x :: l)) : ∃ v, VarH H ⟨π.b i, 0, none⟩ v ∧ okS V π s.m x v := by
  have hc := hR.ok i hi
  rw [hG] at hc
  obtain ⟨cs, rs, te, k1, ⟨c, cs', rfl, k2, _⟩, _⟩ := hc
  exact ⟨c, VarH.of ⟨π.b i, te, rfl, k1⟩ rfl, k2⟩
abbrev kB (k : List Nat) : ByteArray := ⟨(byteL k).toArray⟩
theorem kB_bl (k : List Nat) : bl (kB k) = byteL k := by simp [bl]
theorem litK_ok : ∀ {l : List (SV × SV)} {q : List (List Nat)}, litK l = some q → ∀ {m : Nat} {L : List (Ent ByteArray)}, okEs ekS V π m l L → L.map (·.1) = q.map kB
  | [], q, h, m, L, hk => by cases h; rw [show L = [] from hk]; rfl
  | x :: l, q, h, m, L, hk => by
    unfold litK at h
    split at h
    · rename_i e; cases e
    · rename_i r y l' e
      cases e
      split at h
      · rename_i k q' h1 h2
        cases h
        obtain ⟨e, L', rfl, k1, k2, k3⟩ := hk
        have k1 : Value.string e.1 = Value.string (tx V r) := k1
        have : e.1 = kB k := by
          have := Value.string.inj k1
          rw [this]
          show (⟨(denR V r).toArray⟩ : ByteArray) = _
          rw [litR_ok h1]
        rw [List.map_cons, litK_ok h2 k3, this]; rfl
      · cases h
    · cases h
theorem insK_perm (x : List Nat) : ∀ l, (insK x l).Perm (x :: l)
  | [] => List.Perm.refl _
  | y :: l => by
    unfold insK
    cases lessN x y with
    | true => exact List.Perm.refl _
    | false => exact ((insK_perm x l).cons y).trans (List.Perm.swap x y l)
theorem sortK_perm : ∀ l, (sortK l).Perm l
  | [] => List.Perm.refl _
  | x :: l => (insK_perm x _).trans ((sortK_perm l).cons x)
theorem lessN_ok : ∀ {x y : List Nat}, noW x = true → noW y = true → lessN x y = true → byteL x < byteL y
  | [], [], _, _, h => by cases h
  | [], b :: y, _, _, _ => List.nil_lt_cons _ _
  | _ :: _, [], _, _, h => by cases h
  | a :: x, b :: y, hx, hy, h => by
    have ha := noW_lt hx a (by simp)
    have hb := noW_lt hy b (by simp)
    have hx' : noW x = true := by
      unfold noW at hx
      rw [show Nat.blt a 256 = true by simpa [Nat.blt_eq] using ha] at hx; exact hx
    have hy' : noW y = true := by
      unfold noW at hy
      rw [show Nat.blt b 256 = true by simpa [Nat.blt_eq] using hb] at hy; exact hy
    unfold lessN at h
    show UInt8.ofNat a :: byteL x < UInt8.ofNat b :: byteL y
    rw [List.cons_lt_cons_iff]
    cases h1 : Nat.blt a b with
    | true =>
      left
      rw [UInt8.lt_iff_toNat_lt, UInt8.toNat_ofNat', UInt8.toNat_ofNat']
      have : a < b := by simpa [Nat.blt_eq] using h1
      omega
    | false =>
      rw [h1] at h
      obtain ⟨h2, h3⟩ := andB (show (bif Nat.beq a b then lessN x y else false) = true from h)
      have := Nat.eq_of_beq_eq_true h2
      exact .inr ⟨by rw [this], lessN_ok hx' hy' h3⟩
theorem risesK_ok : ∀ {l : List (List Nat)}, risesK l = true → (l.map byteL).Pairwise (· < ·) ∧ ∀ x ∈ l, noW x = true
  | [], _ => ⟨by simp, by simp⟩
  | x :: l, h => by
    unfold risesK at h
    obtain ⟨h1, h2⟩ := andB h
    cases l with
    | nil => exact ⟨by simp, fun y hy => by simp at hy; subst hy; exact h1⟩
    | cons y l =>
      obtain ⟨h3, h4⟩ := andB (show (bif lessN x y then risesK (y :: l) else false) = true from h2)
      obtain ⟨k1, k2⟩ := risesK_ok h4
      have hxy := lessN_ok h1 (k2 y (by simp)) h3
      refine ⟨?_, fun z hz => ?_⟩
      · rw [List.map_cons, List.pairwise_cons]
        refine ⟨fun z hz => ?_, k1⟩
        rw [List.map_cons] at hz k1
        rcases List.mem_cons.1 hz with rfl | hz
        · exact hxy
        · exact List.lt_trans hxy ((List.pairwise_cons.1 k1).1 z hz)
      · rcases List.mem_cons.1 hz with rfl | hz
        · exact h1
        · exact k2 z hz
theorem sort_eq : ∀ {l m : List (List UInt8)}, l.Pairwise (· < ·) → m.Pairwise (· < ·) → (∀ x, x ∈ l ↔ x ∈ m) → l = m
  | [], [], _, _, _ => rfl
  | [], b :: m, _, _, h => by have := (h b).2 (by simp); simp at this
  | a :: l, [], _, _, h => by have := (h a).1 (by simp); simp at this
  | a :: l, b :: m, h1, h2, h => by
    rw [List.pairwise_cons] at h1 h2
    have hab : a = b := by
      rcases List.mem_cons.1 ((h a).1 (by simp)) with e | e
      · exact e
      · rcases List.mem_cons.1 ((h b).2 (by simp)) with e' | e'
        · exact e'.symm
        · exact absurd (List.lt_trans (h2.1 a e) (h1.1 b e')) (List.lt_irrefl _)
    subst hab
    congr 1
    refine sort_eq h1.2 h2.2 fun x => ?_
    constructor
    · intro hx
      rcases List.mem_cons.1 ((h x).1 (by simp [hx])) with e | e
      · subst e; exact absurd (h1.1 x hx) (List.lt_irrefl _)
      · exact e
    · intro hx
      rcases List.mem_cons.1 ((h x).2 (by simp [hx])) with e | e
      · subst e; exact absurd (h2.1 x hx) (List.lt_irrefl _)
      · exact e
theorem strsK_ok : ∀ l : List (List Nat), okTx V (strsK l) (l.map kB)
  | [] => rfl
  | x :: l => ⟨[.b x], _, rfl, by rw [List.map_cons]; congr 1; show kB x = ⟨(denR V [.b x]).toArray⟩; rw [bOf], strsK_ok l⟩
theorem pr_keys : PrOk 307 (.keys 392) := by
  intro T V hT a s outs h π H vs hR ha
  replace h : qKeys T 392 a s = some (some outs) := h
  unfold qKeys at h
  split at h
  · rename_i k' i
    obtain ⟨v, rfl, ⟨fs, cs, e, h1, h2⟩⟩ := ok1 ha
    obtain ⟨c, rfl, ⟨hi, rfl⟩⟩ := ok1 h2
    have h1 : fs = [] := h1
    subst h1
    cases hk : Nat.beq 392 k' with
    | false => rw [hk] at h; cases h
    | true =>
      rw [hk] at h
      have := Nat.eq_of_beq_eq_true hk
      subst this
      replace h : pKeys i s = some (some outs) := h
      unfold pKeys at h
      split at h
      · rename_i t l0 hGi
        split at h
        · rename_i l hGt
          split at h
          · rename_i q hq
            cases hqs : Nat.ble (lenN q) 1000000 with
            | false => rw [hqs] at h; cases h
            | true =>
            rw [hqs] at h
            simp only [cond_true] at h
            have hq6 : q.length ≤ 1000000 := by rw [← lenN_eq]; exact Nat.le_of_ble_eq_true hqs
            cases hr : risesK (sortK q) with
            | false => rw [hr] at h; cases h
            | true =>
              rw [hr] at h
              obtain ⟨hne, rfl⟩ := newL_out (show newL (strsK (sortK q)) s = some (some outs) from h)
              obtain ⟨v, hv, hvt⟩ := varH_of hR hi hGi
              obtain ⟨ht, e3⟩ := hvt
              have hct := hR.ok t ht
              rw [hGt] at hct
              obtain ⟨ck, L, L', g1, g2, g3, g4⟩ := hct
              have hM : MapR Fs.SM H (π.b t) ck L := ⟨g1, g2⟩
              have hL : L.map (·.1) |>.Perm (q.map kB) := by rw [← litK_ok hq g4]; exact (g3.map _).symm
              obtain ⟨r1, r2⟩ := risesK_ok hr
              rw [e]
              rw [e3] at hv
              have hLs : L.length = q.length := by have := hL.length_eq; simpa using this
              refine cx (by kernel_rfl) ((sortedS_ok (K := fun a n c H' => Out V s.m π [(.sv s.m 0 (lenN (strsK (sortK q))) none 1, pushC s (.cells (strsK (sortK q))))] (.slice a n c) H') (keys_seq (b := π.b i) (r := π.b t) (ck := ck) (L := L)) (fun ys h => by have := keysA_len h; omega) (fun ys h => by have := keysA_len (L := L) ⟨h.1, fun y hy => (h.2 y).1 hy⟩; omega) (fun H' hf => ⟨hv.keep hf, hM.keep Fs.SM hf⟩) (fun k hk => ?_) fun xs ys a n c H' hx hy ho hf => ?_).mono fun v H' ⟨o, n, c, h1, h2⟩ => by rw [h1]; exact h2)
              · simp at hk
                rcases hk with rfl | rfl
                · exact hR.lt i hi
                · exact hR.lt t ht
              · have hs := keys_sorted hx hy
                have hyz : ys.map bl = (sortK q).map byteL := by
                  refine sort_eq hs.1 r1 fun x => ?_
                  rw [List.mem_map, List.mem_map]
                  constructor
                  · rintro ⟨y, hy, rfl⟩
                    obtain ⟨z, hz, rfl⟩ := (hs.2 y).1 hy
                    have := hL.mem_iff.1 (List.mem_map.2 ⟨z, hz, rfl⟩)
                    obtain ⟨k, hk, e⟩ := List.mem_map.1 this
                    exact ⟨k, (sortK_perm q).mem_iff.2 hk, by rw [← e, kB_bl]⟩
                  · rintro ⟨k, hk, rfl⟩
                    have := hL.mem_iff.2 (List.mem_map.2 ⟨k, (sortK_perm q).mem_iff.1 hk, rfl⟩)
                    obtain ⟨z, hz, e⟩ := List.mem_map.1 this
                    exact ⟨kB k, (hs.2 _).2 ⟨z, hz, e⟩, kB_bl k⟩
                have hyk : ys = (sortK q).map kB := by
                  have h2 : ys.map bl = ((sortK q).map kB).map bl := by rw [hyz, List.map_map]; exact List.map_congr_left fun k _ => (kB_bl k).symm
                  exact (List.map_inj_right (fun _ _ h => bl_inj h)).1 h2
                rw [hyk] at ho
                obtain ⟨π', p1, p2, p3⟩ := out_sl (E := GV.encStr) rfl hR hf ho (okTx_ok (strsK_ok _)) (strs_one _) hne
                exact ⟨_, List.mem_singleton.2 rfl, Nat.le_succ _, π', p1, p2, p3⟩
          · cases h
        · cases h
      · cases h
  · cases h
theorem flat1 {α β : Type} (f : α → β) (l : List α) : l.flatMap (fun x => [f x]) = l.map f := by
  induction l with
  | nil => rfl
  | cons a l ih => rw [List.flatMap_cons, ih]; rfl
theorem bit_zero (n : Nat) : bitB 0 n = false := by
  unfold bitB
  show Nat.beq (0 / Nat.pow 2 n % 2) 1 = false
  rw [Nat.zero_div]; rfl
theorem takenM_ok : ∀ {l : List (SV × SV)} {k0 k : Nat}, takenM l k0 = some k → ∀ {m : Nat} {L : List (Ent Int)}, okEs ekI V π m l L → (∀ n, bitB k n = true ↔ bitB k0 n = true ∨ ∃ x ∈ L, x.1 = (n : Int)) ∧ ∀ x ∈ L, (∃ n : Nat, x.1 = (n : Int)) ∧ x.2.1 = .bool true
  | [], k0, k, h, m, L, hk => by cases h; rw [show L = [] from hk]; simp
  | y :: l, k0, k, h, m, L, hk => by
    unfold takenM at h
    split at h
    · rename_i e; cases e
    · rename_i x0 n l' e
      cases e
      obtain ⟨e, L', rfl, k1, k2, k3⟩ := hk
      obtain ⟨g1, g2⟩ := takenM_ok h k3
      have he : e.1 = (n : Int) := by
        have : Value.int .i64 e.1 = Value.int .i64 (Lin.den V ⟨Int.ofNat n, []⟩) := k1
        have := (Value.int.inj this).2
        rw [this]; simp [Lin.den, sumL]
      have k2 : e.2.1 = .bool true := k2
      refine ⟨fun i => ?_, fun x hx => ?_⟩
      · rw [g1, bitB_mrk, Bool.or_eq_true, decide_eq_true_eq]
        constructor
        · rintro (h | ⟨x, hx, e'⟩)
          · rcases h with h | h
            · exact .inl h
            · exact .inr ⟨e, by simp, by rw [he, h]⟩
          · exact .inr ⟨x, by simp [hx], e'⟩
        · rintro (h | ⟨x, hx, e'⟩)
          · exact .inl (.inl h)
          · rcases List.mem_cons.1 hx with rfl | hx
            · rw [he] at e'
              exact .inl (.inr (by omega))
            · exact .inr ⟨x, hx, e'⟩
      · rcases List.mem_cons.1 hx with rfl | hx
        · exact ⟨⟨n, he⟩, k2⟩
        · exact g2 x hx
    · cases h
theorem freeL_ok (k : Nat) {m : Nat} : ∀ f j, okSL V π m (freeL k j f) (((List.range' j f).filter fun n => !bitB k n).map fun n : Nat => Value.int .i64 (n : Int))
  | 0, j => rfl
  | f + 1, j => by
    unfold freeL
    rw [List.range'_succ]
    cases hb : bitB k j with
    | true => rw [List.filter_cons_of_neg (by simp [hb])]; exact freeL_ok k f (j + 1)
    | false =>
      rw [List.filter_cons_of_pos (by simp [hb])]
      exact ⟨_, _, rfl, by show Value.int _ _ = Value.int _ _; rw [den_k]; rfl, freeL_ok k f (j + 1)⟩
theorem freeN_eq {k n : Nat} (hn : 2 ≤ n) : Fs.freeN (fun x => ∃ i : Nat, x = (i : Int) ∧ bitB k i = true) n = ((List.range' 2 (n - 2)).filter fun i => !bitB k i).map fun i : Nat => (i : Int) := by
  unfold Fs.freeN
  congr 1
  have e : List.range n = List.range' 0 2 ++ List.range' 2 (n - 2) := by
    rw [List.range_eq_range', List.range'_append]
    congr 1; omega
  rw [e, List.filter_append]
  have h0 : (List.range' 0 2).filter (fun i : Nat => (open Classical in decide (2 ≤ i ∧ ¬ ∃ j : Nat, (i : Int) = (j : Int) ∧ bitB k j = true))) = [] := by
    rw [List.filter_eq_nil_iff]
    intro a ha
    rw [List.mem_range'_1] at ha
    simp; omega
  rw [h0, List.nil_append]
  refine List.filter_congr fun i hi => ?_
  rw [List.mem_range'_1] at hi
  cases hb : bitB k i with
  | true =>
    simp only [Bool.not_true, decide_eq_false_iff_not]
    rintro ⟨_, h⟩
    exact h ⟨i, rfl, hb⟩
  | false =>
    simp only [Bool.not_false, decide_eq_true_eq]
    refine ⟨hi.1, fun ⟨j, hj, hbj⟩ => ?_⟩
    have : i = j := by omega
    subst this
    rw [hb] at hbj; cases hbj
theorem pr_free : PrOk 309 (.free 395) := by
  intro T V hT a s outs h π H vs hR ha
  replace h : qFree T 395 a s = some (some outs) := h
  unfold qFree at h
  split at h
  · rename_i k' i j
    obtain ⟨v, rfl, ⟨fs, cs, e, h1, h2⟩⟩ := ok1 ha
    obtain ⟨c1, c2, rfl, ⟨hi, rfl⟩, ⟨hj, rfl⟩⟩ := ok2 h2
    have h1 : fs = [] := h1
    subst h1
    cases hk : Nat.beq 395 k' with
    | false => rw [hk] at h; cases h
    | true =>
      rw [hk] at h
      have := Nat.eq_of_beq_eq_true hk
      subst this
      replace h : pFree i j s = some (some outs) := h
      unfold pFree at h
      split at h
      · rename_i sz k hn hk
        obtain ⟨hne, rfl⟩ := newL_out h
        rw [e]
        unfold fStore at hn
        split at hn
        · rename_i st l0 hGi
          obtain ⟨v1, w1, ⟨hst, w2⟩⟩ := varH_of hR hi hGi
          rw [w2] at w1
          unfold fSize at hn
          split at hn
          · rename_i d l1 hGs
            obtain ⟨v2, w3, ⟨hd, w4⟩⟩ := varH_of hR hst hGs
            rw [w4] at w3
            split at hn
            · rename_i nn l2 hGd
              obtain ⟨v3, w5, w6⟩ := varH_of hR hd hGd
              have w6 : v3 = .int .i64 (Lin.den V ⟨Int.ofNat nn, []⟩) := w6
              rw [w6, show Lin.den V ⟨Int.ofNat nn, []⟩ = (nn : Int) by simp [Lin.den, sumL]] at w5
              obtain ⟨b1, hn⟩ := bleD hn
              obtain ⟨b2, hn⟩ := bleD hn
              cases hn
              unfold fTaken at hk
              split at hk
              · rename_i t l3 hGj
                obtain ⟨v4, w7, ⟨ht, w8⟩⟩ := varH_of hR hj hGj
                rw [w8] at w7
                split at hk
                · rename_i l hGt
                  have hct := hR.ok t ht
                  rw [hGt] at hct
                  obtain ⟨ck, L, L', g1, g2, g3, g4⟩ := hct
                  obtain ⟨q1, q2⟩ := takenM_ok hk g4
                  have hset : Fs.SetI H (π.b t) (fun x => ∃ i : Nat, x = (i : Int) ∧ bitB k i = true) := by
                    refine ⟨ck, L, ⟨g1, g2⟩, fun x => ?_⟩
                    by_cases hx : ∃ e ∈ L, e.1 = x
                    · obtain ⟨e, he, rfl⟩ := hx
                      obtain ⟨⟨n, hn⟩, hv⟩ := q2 e (g3.mem_iff.2 he)
                      refine .inl ⟨⟨n, hn, (q1 n).2 (.inr ⟨e, g3.mem_iff.2 he, hn⟩)⟩, ?_⟩
                      have := getL_mem (k := e.1) (v := e.2.1) (b := e.2.2) g2 he
                      rw [hv] at this; exact this
                    · refine .inr ⟨?_, getL_none_iff.2 fun hm => ?_⟩
                      · rintro ⟨n, rfl, hb⟩
                        rcases (q1 n).1 hb with h | ⟨y, hy, e⟩
                        · rw [bit_zero] at h; cases h
                        · exact hx ⟨y, g3.mem_iff.1 hy, e⟩
                      · obtain ⟨y, hy, e⟩ := List.mem_map.1 hm
                        exact hx ⟨y, hy, e⟩
                  refine cx (by kernel_rfl) ((Fs.collectI_ok (K := fun a n' c H' => Out V s.m π [(.sv s.m 0 (lenN (freeL k 2 (Nat.sub sz 2))) none 1, pushC s (.cells (freeL k 2 (Nat.sub sz 2))))] (.slice a n' c) H') (Fs.free_seq (b := π.b i) (b1 := π.b j) (rt := π.b t) (s := ⟨π.b st, 0, none⟩) (d := ⟨π.b d, 0, none⟩) (T := fun x => ∃ i : Nat, x = (i : Int) ∧ bitB k i = true) (sz := sz) b1 b2) (fun ys h => ?_) (fun H' hf => ⟨w1.keep hf, w7.keep hf, hset.fr hf (by simp), w3.keep hf, w5.keep hf⟩) (fun x hx => ?_) fun xs a n' c H' hF ho hf => ?_).mono fun v H' ⟨o, n, c, h1, h2⟩ => by rw [h1]; exact h2)
                  · have h1 := h.length_le
                    have h2 := Fs.freeN_len (fun x => ∃ i : Nat, x = (i : Int) ∧ bitB k i = true) sz
                    omega
                  · simp only [List.mem_cons, List.mem_nil_iff, or_false] at hx
                    rcases hx with rfl | rfl | rfl | rfl | rfl
                    · exact hR.lt i hi
                    · exact hR.lt j hj
                    · exact hR.lt t ht
                    · exact hR.lt st hst
                    · exact hR.lt d hd
                  · subst hF
                    have hfl : (Fs.freeN (fun x => ∃ i : Nat, x = (i : Int) ∧ bitB k i = true) sz).flatMap encInt.cells = ((List.range' 2 (sz - 2)).filter fun i => !bitB k i).map fun i : Nat => Value.int .i64 (i : Int) := by
                      rw [freeN_eq b2, List.flatMap_map]
                      show List.flatMap (fun i : Nat => [Value.int .i64 (i : Int)]) _ = _
                      exact flat1 _ _
                    obtain ⟨π', p1, p2, p3⟩ := out_sl (E := encInt) rfl hR hf ho (by rw [hfl]; exact freeL_ok k _ 2) (fun v hv => by rw [hfl] at hv; obtain ⟨x, _, rfl⟩ := List.mem_map.1 hv; rfl) hne
                    exact ⟨_, List.mem_singleton.2 rfl, Nat.le_succ _, π', p1, p2, p3⟩
                · cases hk
              · cases hk
            · cases hn
          · cases hn
        · cases hn
      · cases h
  · cases h
end
theorem pks_ok : ∀ x ∈ pks, PrOk x.1 x.2 := by
  intro x hx
  simp only [pks, List.mem_cons, List.mem_nil_iff, or_false] at hx
  rcases hx with rfl | rfl | rfl | rfl | rfl | rfl | rfl | rfl | rfl | rfl | rfl | rfl | rfl | rfl | rfl | rfl | rfl | rfl | rfl | rfl
  · exact pr_uint
  · exact pr_int
  · exact pr_getU
  · exact pr_getI
  · exact pr_crc
  · exact pr_frame
  · exact pr_scan
  · exact pr_itoa
  · exact pr_atoi
  · exact pr_idx
  · exact pr_last
  · exact pr_refI
  · exact pr_chunks
  · exact pr_wrS
  · exact pr_wrC
  · exact pr_bStr
  · exact pr_join
  · exact pr_keys
  · exact pr_free
  · exact pr_clone
theorem findPk_mem : ∀ {l : List (Nat × Pk)} {k : Nat} {p : Pk}, findPk l k = some p → (k, p) ∈ l
  | [], k, p, h => by cases h
  | x :: l, k, p, h => by
    unfold findPk at h
    cases hb : Nat.beq x.1 k with
    | true =>
      rw [hb] at h
      cases h
      rw [← Nat.eq_of_beq_eq_true hb]
      simp
    | false => rw [hb] at h; exact List.mem_cons_of_mem _ (findPk_mem h)
theorem px0_ok {V : Val} (hT : Tok tab V) : PxOk Tryz.prog V px0 := by
  intro k args s outs h π H vs hR ha
  unfold px0 at h
  split at h
  · rename_i p hp
    exact pks_ok _ (findPk_mem hp) tab V hT args s outs h π H vs hR ha
  · cases h
theorem follows' : Tryz.prog.follows .mixedOrders = true := by kernel_rfl
structure Lfact where
  a : List SV
  s : St
  o : List (SV × St)
def canonC (args : List SV) (s : St) (q : List Nat) : Option (List SV × St) :=
  bif ndB 1 s.m q 0 then (bif plainQ s.G q then (bif isDead (s.G.get 0) then (bif Nat.blt 0 s.m then (match rnQ 1 q (.tup args) s with
    | some (.tup a0, s0) => some (a0, s0)
    | _ => none) else none) else none) else none) else none
def findF : List Lfact → List SV → St → Option (List (SV × St))
  | [], _, _ => none
  | f :: l, a, s => bif sameL a f.a then (bif Nat.beq f.s.m s.m then (bif sameT s.G f.s.G then some f.o else findF l a s) else findF l a s) else findF l a s
def pFact2 (fs : List Lfact) (q : List Nat) (args : List SV) (s : St) : Option Res := match canonC args s q with
  | some c => (match findF fs c.1 c.2 with
    | some o => (match backL q s o with | some l => some (some l) | none => some none)
    | none => some none)
  | none => some none
def pFact (fs : List Lfact) (args : List SV) (s : St) : Option Res := pFact2 fs (reachQ (.tup args) s) args s
def px1 (fs : List Lfact) : Px := fun k a s => bif Nat.beq k 9 then pFact fs a s else px0 k a s
def fuel : Nat := 100000000
def sameO1 (x y : SV × St) : Bool := bif sameSV x.1 y.1 then (bif sameT x.2.G y.2.G then Nat.beq y.2.m x.2.m else false) else false
def sameOs : List (SV × St) → List (SV × St) → Bool
  | [], [] => true
  | x :: l, y :: m => bif sameO1 x y then sameOs l m else false
  | _, _ => false
noncomputable def runF (f : Lfact) : Bool := match (rnAt Tryz.prog tab px0 df0 fuel).call 9 f.a f.s with
  | some l => sameOs (gcAll f.s.m l) f.o
  | none => false
theorem noNum : NoNum Tryz.prog := by
  have h : ∀ fn ∈ Tryz.prog.funcs.toList, fn.name ≠ "runtime.NumGoroutine" := by
    have : (Tryz.prog.funcs.toList.all fun fn => !(fn.name == "runtime.NumGoroutine")) = true := by kernel_rfl
    intro fn hf
    have := List.all_eq_true.1 this fn hf
    simpa using this
  intro k fn hk
  exact h fn (by rw [Array.mem_toList_iff]; exact Array.mem_of_getElem? hk)
section
variable {V : Val} {π : Pl} {s : St} {H : Heap}
theorem sameOs_mem {m : Nat} {v : Value} : ∀ {l l' : List (SV × St)}, sameOs l l' = true → ∀ {r}, r ∈ l → Hol V m π v H r → ∃ r', r' ∈ l' ∧ Hol V m π v H r'
  | [], [], _, r, hr, _ => by simp at hr
  | x :: l, y :: l', h, r, hr, hh => by
    obtain ⟨h1, h2⟩ := andB (show (bif sameO1 x y then sameOs l l' else false) = true from h)
    rcases List.mem_cons.1 hr with rfl | hr
    · obtain ⟨g1, g2⟩ := andB (show (bif sameSV r.1 y.1 then (bif sameT r.2.G y.2.G then Nat.beq y.2.m r.2.m else false) else false) = true from h1)
      obtain ⟨g2, g3⟩ := andB g2
      exact ⟨y, by simp, hh.cov ⟨(sameSV_ok g1).symm, fun i => .inl (sameT_get g2 i), .inl (Nat.eq_of_beq_eq_true g3)⟩⟩
    · obtain ⟨r', k1, k2⟩ := sameOs_mem h2 hr hh
      exact ⟨r', by simp [k1], k2⟩
  | [], _ :: _, h, _, _, _ => by cases h
  | _ :: _, [], h, _, _, _ => by cases h
def FactOk (f : Lfact) : Prop := ∀ V, Tok tab V → ∀ π H vs, Rel V f.s π H → okSL V π f.s.m f.a vs → CallX Tryz.prog 9 ⟨vs⟩ H (Out V f.s.m π f.o)
theorem Tok.sim2 (h : Tok tab V) {V' : Val} (hV : Sim2 V V') : Tok tab V' := h.mono hV.1 fun x o hx => by rw [hV.2]; exact hx
theorem rn_call {px : Px} (hp : ∀ V, Tok tab V → PxOk Tryz.prog V px) (hT : Tok tab V) (hK : Kts Tryz.prog) : CallsOk Tryz.prog V (rnAt Tryz.prog tab px df0 fuel).call :=
  (rnAt_ok noNum follows' hK fuel fuel (Nat.le_refl _) V hT.toTokN fun V' hV => hp V' (hT.sim2 hV)).call
theorem runF_ok (hK : Kts Tryz.prog) {f : Lfact} (h : runF f = true) : FactOk f := by
  intro V hT π H vs hR ha
  unfold runF at h
  split at h
  · rename_i l hl
    refine (rn_call (fun V hT => px0_ok hT) hT hK 9 f.a f.s l hl π H vs hR ha).mono fun v H' => ?_
    rintro ⟨r, hr, k1, π', k2, k3, k4⟩
    have hh : Hol V f.s.m π v H' r := ⟨k1, π', k2, k3, k4⟩
    obtain ⟨r', g1, g2, π2, g3, g4, g5⟩ := sameOs_mem h (gcAll_mem f.s.m hr) hh.gc
    exact ⟨r', g1, g2, π2, g3, g4, g5⟩
  · cases h
theorem findF_ok : ∀ {l : List Lfact} {a : List SV} {s : St} {o : List (SV × St)}, findF l a s = some o → ∃ f ∈ l, a = f.a ∧ f.s.m = s.m ∧ sameT s.G f.s.G = true ∧ o = f.o
  | [], a, s, o, h => by cases h
  | f :: l, a, s, o, h => by
    have rest : findF l a s = some o → ∃ g ∈ f :: l, a = g.a ∧ g.s.m = s.m ∧ sameT s.G g.s.G = true ∧ o = g.o := fun h => by
      obtain ⟨g, h1, h2⟩ := findF_ok h
      exact ⟨g, by simp [h1], h2⟩
    unfold findF at h
    cases h1 : sameL a f.a with
    | false => rw [h1] at h; exact rest h
    | true =>
      cases h2 : Nat.beq f.s.m s.m with
      | false => rw [h1, h2] at h; exact rest h
      | true =>
        cases h3 : sameT s.G f.s.G with
        | false => rw [h1, h2, h3] at h; exact rest h
        | true =>
          rw [h1, h2, h3] at h
          cases h
          exact ⟨f, by simp, sameL_ok h1, Nat.eq_of_beq_eq_true h2, h3, rfl⟩
theorem pFact_ok {fs : List Lfact} (hf : ∀ f ∈ fs, FactOk f) (hT : Tok tab V) {args : List SV} {outs : List (SV × St)} {vs : List Value} (h : pFact fs args s = some (some outs)) (hR : Rel V s π H) (ha : okSL V π s.m args vs) :
    CallX Tryz.prog 9 ⟨vs⟩ H (Out V s.m π outs) := by
  unfold pFact pFact2 at h
  generalize reachQ (.tup args) s = q at h
  split at h
  · rename_i c hc
    split at h
    · rename_i o ho
      split at h
      · rename_i l hb
        cases h
        obtain ⟨f, f1, f2, f3, f4, rfl⟩ := findF_ok ho
        unfold canonC at hc
        cases h1 : ndB 1 s.m q 0 with
        | false => rw [h1] at hc; cases hc
        | true =>
          cases h2 : plainQ s.G q with
          | false => rw [h1, h2] at hc; cases hc
          | true =>
            cases h3 : isDead (s.G.get 0) with
            | false => rw [h1, h2, h3] at hc; cases hc
            | true =>
              cases h4 : Nat.blt 0 s.m with
              | false => rw [h1, h2, h3, h4] at hc; cases hc
              | true =>
                rw [h1, h2, h3, h4] at hc
                simp only [cond_true] at hc
                split at hc
                · rename_i a0 s0 hq
                  cases hc
                  obtain ⟨n1, n2⟩ := ndB_ok h1
                  refine frame_ok (args0 := f.a) (s0 := f.s) (s1 := s0) (q := q) (outs0 := f.o) (fun V' hV hfr π H hR ha => hf f f1 V' (hT.mono hV hfr) π H vs hR ha) hR ha (fun i hi => ⟨(n1 i hi).1, (n1 i hi).2.1⟩) n2 (plainQ_ok h2) (isDead_ok h3) (by simpa [Nat.blt_eq] using h4) (by rw [hq]; exact congrArg some (Prod.ext (congrArg SV.tup f2) rfl)) (sameT_get f4) f3 hb
                · cases hc
      · cases h
    · cases h
  · cases h
theorem px1_ok {fs : List Lfact} (hf : ∀ f ∈ fs, FactOk f) (hT : Tok tab V) : PxOk Tryz.prog V (px1 fs) := by
  intro k args s outs h π H vs hR ha
  unfold px1 at h
  cases hk : Nat.beq k 9 with
  | true =>
    rw [hk] at h
    have := Nat.eq_of_beq_eq_true hk
    subst this
    exact pFact_ok hf hT h hR ha
  | false =>
    rw [hk] at h
    exact px0_ok hT k args s outs h π H vs hR ha
def trueO : List (SV × St) → Bool
  | [] => true
  | (.lit (.bool true), _) :: l => trueO l
  | _ => false
noncomputable def runT (fs : List Lfact) (args : List SV) : Bool := match (rnAt Tryz.prog tab (px1 fs) df0 fuel).call 3 args ⟨.n .dead .e .e, 1⟩ with
  | some l => trueO l
  | none => false
end
def mkT : List Ch → Nat → Tr → Tr
  | [], _, t => t
  | c :: l, i, t => mkT l (Nat.add i 1) (t.set i c)
def stL (l : List Ch) : St := ⟨mkT l 0 .e, lenN l⟩
abbrev kk (n : Int) : Lin := ⟨n, []⟩
abbrev i (n : Int) : SV := .int .i64 ⟨n, []⟩
abbrev v (x : Value) : SV := .lit x
abbrev e : SV := .str []
abbrev b (l : List Nat) : SV := .str [.b l]
abbrev p (j : Nat) : SV := .ptr j 0
abbrev l (j n : Nat) : SV := .sv j 0 n none 1
abbrev d : Ch := .dead
def rp : Nat → SV → List SV → List SV
  | 0, _, l => l
  | n + 1, x, l => x :: rp n x l
end Go.SX
