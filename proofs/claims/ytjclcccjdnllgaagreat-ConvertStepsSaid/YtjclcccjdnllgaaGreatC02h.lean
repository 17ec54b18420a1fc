/- Turned by a program of mine (portall.py) out of the same text of another seat. -/
import Derived.Test.YtjclcccjdnllgaaGreatL02
import Derived.Test.YtjclcccjdnllgaaGreatC11a
import Derived.Test.YtjclcccjdnllgaaGreatGvOpen
import Derived.Test.YtjclcccjdnllgaaGreatVcC
import Derived.Test.YtjclcccjdnllgaaGreatRange
set_option linter.unusedVariables false
set_option maxRecDepth 100000
open Go Go.GV
namespace Go.Proofs

theorem low_unary (q : Nat) : lowB ((2 ^ q - 1) * 2) (q + 1) = List.replicate q true ++ [false] := by
  rw [low_app, show (2 ^ q - 1) * 2 / 2 ^ 1 = 2 ^ q - 1 by omega, low_ones]
  have : lowB ((2 ^ q - 1) * 2) 1 = [false] := by
    show [((2 ^ q - 1) * 2 / 2 ^ 0 % 2 == 1)] = [false]
    rw [Nat.pow_zero, Nat.div_one, Nat.mul_mod_left]; rfl
  rw [this]
theorem WRice_ok {H : Heap} {w : Nat} {S : List Nat} {bs : List Bool} {nn kk : Int} {n k : Nat} {K : Int → Heap → Prop} (h : WrH H w S bs) (en : nn = n) (ek : kk = k) (hk40 : k ≤ 40) (hn : n < 18446744073709551616) (hlen : bs.length ≤ 800000000000)
    (hk : ∀ H' S', WrH H' w S' (bs ++ codeB n k) → Fr S H H' → Grow H S S' → K 0 H') :
    CallH Tryz.prog fn_rice_Writer_Rice ⟨[.pointer (some ⟨w, 0, none⟩), .int .u64 nn, .int .i64 kk]⟩ H fun v H' => ∃ e, v = .int .i64 e ∧ K e H' := by
  subst en; subst ek
  apply vc_rice_Writer_Rice
  refine ⟨fun _ H' => H' = H, brB_of (fun h => by simp at h; omega) fun _ => brB_of (fun h => by simp at h; omega) fun _ => rfl, ?_⟩
  rintro J H1 rfl
  refine chk_true (decide_eq_true (by rw [nat_wrapU (by omega)]; omega)) ?_
  have eb : IntKind.bits .u64 = 64 := rfl
  rw [eb, fdivU _ (by omega)]
  generalize hq : n / 2 ^ k = q at *
  refine brB_of (fun h0 => ?_) (fun h0 => ?_)
  · have h24 : 24 ≤ q := by simp at h0; omega
    refine all_ok (n := 16777215) (m := 24) h rfl rfl (by omega) (by omega) (by omega) fun H2 S2 h2 f2 g2 => ?_
    have e1 : lowB 16777215 24 = List.replicate 24 true := low_ones 24
    rw [e1] at h2
    refine all_ok (m := 64) h2 rfl rfl (by omega) hn (by rw [List.length_append, List.length_replicate]; omega) fun H3 S3 h3 f3 g3 => ⟨_, rfl, hk H3 S3 ?_ (fr_grow f2 g2 f3) (g2.trans f2.size g3)⟩
    have ec : codeB n k = List.replicate 24 true ++ lowB n 64 := if_pos (by rw [hq]; exact h24)
    rw [ec, ← List.append_assoc]; exact h3
  · have h24 : q < 24 := by simp at h0; omega
    have hp : 2 ^ q ≤ 2 ^ 24 := Nat.pow_le_pow_right (by decide) (by omega)
    have e24 : (2 : Nat) ^ 24 = 16777216 := by decide
    have hp0 : 0 < 2 ^ q := Nat.pow_pos (by decide)
    have ev : IntKind.u64.wrap (IntKind.u64.wrap (IntKind.u64.wrap (1 * 2 ^ min (Int.toNat ((q : Nat) : Int)) 64) - 1) * 2 ^ 1) = (((2 ^ q - 1) * 2 : Nat) : Int) := by
      rw [Int.toNat_natCast, show min q 64 = q by omega, pow_cast, Int.one_mul, nat_wrapU (by omega), wrapU64 (n := ((2 ^ q : Nat) : Int) - 1) (by omega) (by omega), wrapU64 (by omega) (by omega)]
      omega
    have em : IntKind.i64.wrap (IntKind.i64.wrap ((q : Nat) : Int) + 1) = ((q + 1 : Nat) : Int) := by
      rw [wrap64_of (n := ((q : Nat) : Int)) (by omega) (by omega), wrap64_of (by omega) (by omega)]; rfl
    rw [ev, em]
    refine chk_true (decide_eq_true (by omega)) ?_
    refine all_ok (m := q + 1) h rfl rfl (by omega) (by omega) (by omega) fun H2 S2 h2 f2 g2 => ?_
    rw [low_unary] at h2
    refine chk_true (decide_eq_true (by rw [nat_wrapU (by omega)]; omega)) ?_
    rw [maskU (by omega), andU hn (by omega), nat_wrapU (n := n % 2 ^ k) (Nat.lt_of_le_of_lt (Nat.mod_le _ _) hn)]
    refine all_ok (m := k) h2 rfl rfl (by omega) (Nat.lt_of_le_of_lt (Nat.mod_le _ _) hn) (by rw [List.length_append, List.length_append, List.length_replicate]; simp; omega) fun H3 S3 h3 f3 g3 => ⟨_, rfl, hk H3 S3 ?_ (fr_grow f2 g2 f3) (g2.trans f2.size g3)⟩
    have ec : codeB n k = List.replicate q true ++ false :: lowB n k := by
      unfold codeB; rw [hq, if_neg (by omega)]
    rw [low_mod] at h3
    rw [ec]
    have e3 : bs ++ (List.replicate q true ++ [false]) ++ lowB n k = bs ++ (List.replicate q true ++ false :: lowB n k) := by simp
    rw [e3] at h3
    exact h3
theorem New02_ok {H : Heap} {K : Option Addr → Heap → Prop} (hk : ∀ w H', H.size ≤ w → WrH H' w [w] [] → Fr [] H H' → K (some ⟨w, 0, none⟩) H') :
    CallH Tryz.prog fn_rice_New ⟨[]⟩ H fun v H' => ∃ a, v = .pointer a ∧ K a H' := by
  apply vc_rice_New
  intro b H1 hn
  refine ⟨_, rfl, hk b H1 (by have := hn.eq; omega) ⟨[], [], rfl, rfl, by decide, none, none, 0, 0, 179, hn.get, .inl ⟨rfl, rfl⟩, Own.nil _ _ _ _, rfl, by simp [blkL]⟩ hn.fr⟩

theorem fr_pre0 {S : List Nat} {H H1 H2 : Heap} (h1 : Fr [] H H1) (h2 : Fr S H1 H2) : Fr S H H2 := (h1.mono (by simp)).trans' h2 (fun k hk _ => hk) fun k hk _ => hk
theorem one_str {x : Nat} {b : Nat} {H2 H3 : Heap} {K : ByteArray → Heap → Prop} (hx : x < 256) (hn : New H2 b (.cells ⟨[.int .u8 (x : Int)]⟩ 5) H3) (hk : K ⟨#[UInt8.ofNat x]⟩ H3) : SemWp Tryz.prog (convert 81 9 (.slice (some ⟨b, 0, none⟩) 1 1)) H3 fun v H' => ∃ s, v = .string s ∧ K s H' := by
  have hs1 : Sl encByte H3 (some ⟨b, 0, none⟩) 1 1 [UInt8.ofNat x] := sl_one encByte _ hn (by rw [byteN x hx]; rfl)
  exact cv_bs (e := 5) bT.sl bT.str (by kernel_rfl) hs1 hk
theorem Bytes_ok {H : Heap} {w : Nat} {S : List Nat} {bs : List Bool} {K : ByteArray → Heap → Prop} (h : WrH H w S bs) (hlen : bs.length ≤ 1000000000000) (hk : ∀ H', Fr S H H' → K ⟨(pack bs).toArray⟩ H') :
    CallH Tryz.prog fn_rice_Writer_Bytes ⟨[.pointer (some ⟨w, 0, none⟩)]⟩ H fun v H' => ∃ s, v = .string s ∧ K s H' := by
  apply vc_rice_Writer_Bytes
  obtain ⟨full, rem, rfl, hf8, hr8, hb⟩ := h.it
  have hfl := pack_len full
  have hlS : ∀ k ∈ S, k < H.size := by
    obtain ⟨p, o, n, c, te, h1, h3, h4, rfl, h6⟩ := hb.it
    intro k hk
    rcases List.mem_cons.1 hk with e | e
    · rw [e]; exact lt_of_get h1
    · exact (h4.ge k e).2
  rw [List.length_append] at hlen
  have hv := valB_lt rem
  refine ⟨_, hb.ldm, brB_of (fun h0 => ?_) (fun h0 => ?_)⟩
  · have : rem = [] := List.eq_nil_of_length_eq_zero (by simpa using h0)
    subst this
    refine StringW hb (by omega) fun H' hf _ _ => ⟨_, rfl, ?_⟩
    rw [List.append_nil] at hk
    exact hk H' hf
  · have hpos : 0 < rem.length := by
      have : ¬ ((rem.length : Nat) : Int) = 0 := by simpa using h0
      omega
    have hne : rem ≠ [] := List.length_pos_iff.1 hpos
    have e8 : IntKind.i64.wrap (8 - ((rem.length : Nat) : Int)) = ((8 - rem.length : Nat) : Int) := by rw [wrap64_of (by omega) (by omega)]; omega
    have hp : 2 ^ rem.length * 2 ^ (8 - rem.length) = 256 := by rw [← Nat.pow_add, show rem.length + (8 - rem.length) = 8 by omega]
    have hlt : valB rem * 2 ^ (8 - rem.length) < 256 := by
      rw [← hp]; exact Nat.mul_lt_mul_of_pos_right hv (Nat.pow_pos (by decide))
    have ex : IntKind.u8.wrap (IntKind.u64.wrap (((valB rem : Nat) : Int) * 2 ^ min (Int.toNat (IntKind.u64.wrap ((8 - rem.length : Nat) : Int))) 64)) = ((valB rem * 2 ^ (8 - rem.length) : Nat) : Int) := by
      rw [shlU (by omega) (by omega), wrapU8 (Int.natCast_nonneg _)]
      omega
    have epk : (⟨(pack full).toArray⟩ : ByteArray) ++ ⟨#[UInt8.ofNat (valB rem * 2 ^ (8 - rem.length))]⟩ = ⟨(pack (full ++ rem)).toArray⟩ := bl_inj (by
      rw [bl_app, bl_mk, bl_mk, pack_full _ _ hf8, pack_small hne (by omega)]
      rfl)
    have hsz : (⟨(pack full).toArray⟩ : ByteArray).size + (⟨#[UInt8.ofNat (valB rem * 2 ^ (8 - rem.length))]⟩ : ByteArray).size ≤ 9223372036854775807 := by
      show (pack full).toArray.size + 1 ≤ _
      rw [List.size_toArray]; omega
    refine ⟨_, hb.ldl, _, hb.ldm, ?_⟩
    rw [e8, ex]
    refine chk_true (decide_eq_true (by rw [nat_wrapU (by omega)]; omega)) ⟨?_, fun b H1 hn1 => ⟨?_, ?_⟩⟩
    · refine StringW hb (by omega) fun H1 hf1 l2 l3 => ⟨l3, l2, fun b H2 hn2 => ?_⟩
      refine one_str hlt hn2 (chk_true (decide_eq_true hsz) ⟨_, rfl, ?_⟩)
      rw [epk]
      exact hk H2 (hf1.trans' hn2.fr (fun k hk _ => hk) (by simp))
    · refine StringW (hb.keep hn1.fr) (by omega) fun H2 hf2 _ _ => ?_
      have hs1 : Sl encByte H1 (some ⟨b, 0, none⟩) 1 1 [UInt8.ofNat (valB rem * 2 ^ (8 - rem.length))] := sl_one encByte _ hn1 (by rw [byteN _ hlt]; rfl)
      have hs2 := hs1.fr hf2 fun ad e hm => by
        cases e
        have := hlS b hm
        have := hn1.eq
        omega
      refine cv_bs (e := 5) bT.sl bT.str (by kernel_rfl) hs2 (chk_true (decide_eq_true hsz) ⟨_, rfl, ?_⟩)
      rw [epk]
      exact hk H2 (fr_pre0 hn1.fr hf2)
    · refine one_str hlt hn1 ?_
      refine StringW (hb.keep hn1.fr) (by omega) fun H2 hf2 _ _ => chk_true (decide_eq_true hsz) ⟨_, rfl, ?_⟩
      rw [epk]
      exact hk H2 (fr_pre0 hn1.fr hf2)

theorem slice191 : sliceB Tryz.prog 191 4 = true := by kernel_rfl
theorem elem4 : elemB Tryz.prog 4 encBool.sz 1 = true := by kernel_rfl
theorem rlow_ok {H : Heap} {nn mm : Int} {n m : Nat} {K : Option Addr → Nat → Nat → Heap → Prop} (en : nn = n) (em : mm = m) (hm : m ≤ 64) (hn : n < 18446744073709551616)
    (hk : ∀ o l c H', Own encBool 4 H.size H' o l c (lowB n m) → Fr [] H H' → K o l c H') :
    CallH Tryz.prog fn_ref02_low ⟨[.int .u64 nn, .int .i64 mm]⟩ H fun v H' => ∃ o l c, v = .slice o l c ∧ K o l c H' := by
  subst en; subst em
  apply vc_ref02_low
  intro b H1 hn1
  refine ⟨fun vs H' => match vs with | [.slice o l c, .int _ i] => ∃ j : Nat, i = (j : Int) - 1 ∧ j ≤ m ∧ Own encBool 4 H.size H' o l c (lowB (n / 2 ^ j) (m - j)) ∧ Fr [] H H' | _ => False, fun vs _ => match vs with | [_, .int _ i] => (i + 1).toNat | _ => 0,
    ⟨m, by rw [wrap64_of (by omega) (by omega)], Nat.le_refl _, by rw [Nat.sub_self]; exact Own.made encBool 4 hn1 (Nat.le_refl _), hn1.fr⟩, ?_⟩
  rintro J o l c i H2 ⟨j, rfl, hj, ho, hf⟩
  refine brB_of (fun h0 => ?_) (fun h0 => ?_)
  · have hj1 : 1 ≤ j := by simp at h0; omega
    have e1 : ((j : Int) - 1) = ((j - 1 : Nat) : Int) := by omega
    rw [e1, fdivU _ (by omega), nat_wrapU (n := j - 1) (by omega)]
    have hl := ho.1
    rw [lowB_len] at hl
    refine chk_true (decide_eq_true (by omega)) ?_
    have e2 : Int.tmod ((n / 2 ^ (j - 1) : Nat) : Int) 2 = ((n / 2 ^ (j - 1) % 2 : Nat) : Int) := (Int.ofNat_tmod _ 2).symm
    rw [e2]
    refine ap_one (E := encBool) (n / 2 ^ (j - 1) % 2 == 1) slice191 elem4 ho hf ?_ (by omega) fun b2 a' n' c' H3 h3 f3 _ => ⟨⟨j - 1, ?_, by omega, ?_, f3⟩, ?_⟩
    · have : (((n / 2 ^ (j - 1) % 2 : Nat) : Int) == 1) = (n / 2 ^ (j - 1) % 2 == 1) := by
        have : n / 2 ^ (j - 1) % 2 = 0 ∨ n / 2 ^ (j - 1) % 2 = 1 := by omega
        rcases this with e | e <;> rw [e] <;> rfl
      rw [this]; rfl
    · rw [wrap64_of (by omega) (by omega)]
    · have e3 : lowB (n / 2 ^ (j - 1)) (m - (j - 1)) = lowB (n / 2 ^ j) (m - j) ++ [n / 2 ^ (j - 1) % 2 == 1] := by
        rw [show m - (j - 1) = (m - j) + 1 by omega, low_app, Nat.div_div_eq_div_mul, ← Nat.pow_add, show j - 1 + 1 = j by omega]
        simp [lowB]
      rw [e3]; exact h3
    · show (IntKind.i64.wrap (((j - 1 : Nat) : Int) - 1) + 1).toNat < (((j - 1 : Nat) : Int) + 1).toNat
      rw [wrap64_of (by omega) (by omega)]; omega
  · have : j = 0 := by simp at h0; omega
    subst this
    rw [Nat.pow_zero, Nat.div_one, Nat.sub_zero] at ho
    exact ⟨_, _, _, rfl, hk _ _ _ _ ho hf⟩

theorem rCode_ok {H : Heap} {nn kk : Int} {n k : Nat} {K : Option Addr → Nat → Nat → Heap → Prop} (en : nn = n) (ek : kk = k) (hk40 : k ≤ 40) (hn : n < 18446744073709551616)
    (hk : ∀ o l c H', Own encBool 4 H.size H' o l c (codeB n k) → Fr [] H H' → K o l c H') :
    CallH Tryz.prog fn_ref02_Code ⟨[.int .u64 nn, .int .i64 kk]⟩ H fun v H' => ∃ o l c, v = .slice o l c ∧ K o l c H' := by
  subst en; subst ek
  apply vc_ref02_Code
  intro b H1 hn1
  have eb : IntKind.bits .u64 = 64 := rfl
  refine chk_true (decide_eq_true (by rw [nat_wrapU (by omega)]; omega)) ?_
  rw [eb, fdivU _ (by omega)]
  generalize hq : n / 2 ^ k = q at *
  have hqn : q < 18446744073709551616 := by rw [← hq]; exact Nat.lt_of_le_of_lt (Nat.div_le_self _ _) hn
  refine brB_of (fun h0 => ?_) (fun h0 => ?_)
  · have h24 : 24 ≤ q := by simp at h0; omega
    refine ⟨fun vs H' => match vs with | [.slice o l c, .int _ i] => ∃ j : Nat, i = j ∧ j ≤ 24 ∧ Own encBool 4 H.size H' o l c (List.replicate j true) ∧ Fr [] H H' | _ => False, fun vs _ => match vs with | [_, .int _ i] => 24 - i.toNat | _ => 0,
      ⟨0, rfl, by omega, Own.made encBool 4 hn1 (Nat.le_refl _), hn1.fr⟩, ?_⟩
    rintro J o l c i H2 ⟨j, rfl, hj, ho, hf⟩
    have hl := ho.1
    rw [List.length_replicate] at hl
    refine brB_of (fun h1 => ?_) (fun h1 => ?_)
    · have hlt : j < 24 := by simp at h1; omega
      refine ap_one (E := encBool) true slice191 elem4 ho hf rfl (by omega) fun b2 a' n' c' H3 h3 f3 _ => ⟨⟨j + 1, succ64 (by omega), by omega, by rw [List.replicate_succ']; exact h3, f3⟩, ?_⟩
      show 24 - (IntKind.i64.wrap ((j : Int) + 1)).toNat < 24 - ((j : Nat) : Int).toNat
      rw [succ64 (by omega)]
      exact mu_lt hlt
    · have hj24 : j = 24 := by simp at h1; omega
      subst hj24
      refine rlow_ok (m := 64) rfl rfl (by omega) hn fun o2 l2 c2 H3 h3 f3 => ?_
      have hl2 := h3.1
      rw [lowB_len] at hl2
      refine ap_own slice191 elem4 (ho.keep f3) (hf.keep0 f3) h3.sl (by omega) fun a' n' c' H4 h4 f4 _ => ⟨_, _, _, rfl, hk _ _ _ _ ?_ f4⟩
      have ec : codeB n k = List.replicate 24 true ++ lowB n 64 := if_pos (by rw [hq]; exact h24)
      rw [ec]; exact h4
  · have h24 : q < 24 := by simp at h0; omega
    refine ⟨fun vs H' => match vs with | [.slice o l c, .int _ i] => ∃ j : Nat, i = j ∧ j ≤ q ∧ Own encBool 4 H.size H' o l c (List.replicate j true) ∧ Fr [] H H' | _ => False, fun vs _ => match vs with | [_, .int _ i] => q - i.toNat | _ => 0,
      ⟨0, rfl, by omega, Own.made encBool 4 hn1 (Nat.le_refl _), hn1.fr⟩, ?_⟩
    rintro J o l c i H2 ⟨j, rfl, hj, ho, hf⟩
    have hl := ho.1
    rw [List.length_replicate] at hl
    refine brB_of (fun h1 => ?_) (fun h1 => ?_)
    · have hlt : j < q := by simp at h1; omega
      have e1 : IntKind.u64.wrap ((j : Int) + 1) = ((j + 1 : Nat) : Int) := nat_wrapU (n := j + 1) (by omega)
      refine ap_one (E := encBool) true slice191 elem4 ho hf rfl (by omega) fun b2 a' n' c' H3 h3 f3 _ => ⟨⟨j + 1, e1, by omega, by rw [List.replicate_succ']; exact h3, f3⟩, ?_⟩
      show q - (IntKind.u64.wrap ((j : Int) + 1)).toNat < q - ((j : Nat) : Int).toNat
      rw [e1]; omega
    · have hjq : j = q := by simp at h1; omega
      subst hjq
      refine ap_one (E := encBool) false slice191 elem4 ho hf rfl (by omega) fun b2 a' n' c' H3 h3 f3 _ => ?_
      refine rlow_ok (m := k) rfl rfl (by omega) hn fun o2 l2 c2 H4 h4 f4 => ?_
      have hl2 := h4.1
      rw [lowB_len] at hl2
      have hl3 := h3.1
      rw [List.length_append, List.length_replicate] at hl3
      simp only [List.length_cons, List.length_nil] at hl3
      refine ap_own slice191 elem4 (h3.keep f4) (f3.keep0 f4) h4.sl (by omega) fun a' n' c' H5 h5 f5 _ => ⟨_, _, _, rfl, hk _ _ _ _ ?_ f5⟩
      have ec : codeB n k = List.replicate j true ++ [false] ++ lowB n k := by
        unfold codeB; rw [hq, if_neg (by omega)]; simp
      rw [ec]; exact h5

structure RwH (H : Heap) (w : Nat) (S : List Nat) (bs : List Bool) : Prop where
  it : ∃ o l c, Blk H ⟨w, 0, none⟩ [.slice o l c] ∧ Own encBool 4 0 H o l c bs ∧ S = w :: blkL o ∧ w ∉ blkL o
theorem rNew02_ok {H : Heap} {K : Option Addr → Heap → Prop} (hk : ∀ w H', H.size ≤ w → RwH H' w [w] [] → Fr [] H H' → K (some ⟨w, 0, none⟩) H') :
    CallH Tryz.prog fn_ref02_New ⟨[]⟩ H fun v H' => ∃ a, v = .pointer a ∧ K a H' := by
  apply vc_ref02_New
  intro b H1 hn
  exact ⟨_, rfl, hk b H1 (by have := hn.eq; omega) ⟨none, 0, 0, hn.blk, Own.nil _ _ _ _, rfl, by simp [blkL]⟩ hn.fr⟩
theorem rWRice_ok {H : Heap} {w : Nat} {S : List Nat} {bs : List Bool} {nn kk : Int} {n k : Nat} {K : Int → Heap → Prop} (h : RwH H w S bs) (en : nn = n) (ek : kk = k) (hk40 : k ≤ 40) (hn : n < 18446744073709551616) (hlen : bs.length ≤ 800000000000)
    (hk : ∀ H' S', RwH H' w S' (bs ++ codeB n k) → Fr S H H' → Grow H S S' → K 0 H') :
    CallH Tryz.prog fn_ref02_Writer_Rice ⟨[.pointer (some ⟨w, 0, none⟩), .int .u64 nn, .int .i64 kk]⟩ H fun v H' => ∃ e, v = .int .i64 e ∧ K e H' := by
  subst en; subst ek
  apply vc_ref02_Writer_Rice
  obtain ⟨o, l, c, hb, ho, rfl, hw⟩ := h.it
  have hl := ho.1
  refine brB_of (fun h => by simp at h; omega) fun _ => brB_of (fun h => by simp at h; omega) fun _ => ⟨o, l, c, hb.ld0 (by kernel_rfl) rfl, ?_⟩
  refine rCode_ok rfl rfl hk40 hn fun o1 l1 c1 H1 h1 f1 => ⟨(hb.keep f1).ld0 (by kernel_rfl) rfl, ?_⟩
  have hl1 := h1.1
  have hcl : (codeB n k).length ≤ 88 := by
    rw [codeB_len]
    split <;> omega
  refine ap_grow slice191 elem4 (ho.keep f1) h1.sl (Nat.zero_le _) (by omega) fun a' n' c' H2 h2 f2 g2 => ?_
  have hb2 := (hb.keep f1).fr f2 hw
  have hlt := hb.lt
  have hsz := f1.size
  have hnb : w ∉ blkL a' := fun hm => (g2 w hm).elim hw fun h => by
    have : w < H.size := hlt
    omega
  refine hb2.st0 (v := .slice a' n' c') (by kernel_rfl) (by kernel_rfl) (fun x hx => by simp [Value.cells] at hx; subst hx; rfl) (by simp [Value.cells]) fun H3 hb3 hf3 => ⟨_, rfl, hk H3 (w :: blkL a') ⟨a', n', c', hb3, h2.fr hf3 (fun ad e hh => hnb (by
    have : ad.block = w := by simpa using hh
    simp [e, blkL, this])), rfl, hnb⟩ ?_ ?_⟩
  · have f12 : Fr (w :: blkL o) H H2 := (f1.mono (by simp)).trans' f2 (fun k hk _ => hk) fun k hk _ => by simp [hk]
    exact f12.trans' hf3 (fun k hk _ => hk) fun k hk _ => by simp at hk; simp [hk]
  · intro k hk
    rcases List.mem_cons.1 hk with e | e
    · exact .inl (by simp [e])
    · rcases g2 k e with h5 | h5
      · exact .inl (by simp [h5])
      · exact .inr (by omega)

theorem _root_.Go.GV.Sl.at' {α : Type} {E : Enc α} {H : Heap} {a : Option Addr} {n c : Nat} {xs : List α} (h : Sl E H a n c xs) {k : Nat} (hk : k < n) : ∃ x, xs[k]? = some x := getElem_ex (by rw [← h.len]; exact hk)
theorem _root_.Go.GV.Own.idx {α : Type} {E : Enc α} {t base : Nat} {H : Heap} {a : Option Addr} {n c : Nat} {xs : List α} (h : Own E t base H a n c xs) {i : Int} {k : Nat} {x : α} {b : Bool} (hi : i = k) (hx : xs[k]? = some x) (hb : b = true) {X : Addr → Prop}
    (hk : ∀ ad, a = some ad → CellsAt H (ad.add (i.toNat * E.sz)) (E.cells x) → X ad) : exSome a fun ad => chk b (X ad) := h.sl.get hi hx hb hk

theorem slice81 : sliceB Tryz.prog 81 5 = true := by kernel_rfl
theorem elem5 : elemB Tryz.prog 5 encByte.sz 1 = true := by kernel_rfl
theorem pow_u8 {r : Nat} (h : r < 8) : Int.fdiv 128 (2 ^ min (Int.toNat (IntKind.wrap .u64 ((r : Nat) : Int))) 8) = ((2 ^ (7 - r) : Nat) : Int) := by
  have : r = 0 ∨ r = 1 ∨ r = 2 ∨ r = 3 ∨ r = 4 ∨ r = 5 ∨ r = 6 ∨ r = 7 := by omega
  rcases this with e | e | e | e | e | e | e | e <;> subst e <;> rfl
theorem rBytes_ok {H : Heap} {w : Nat} {S : List Nat} {bs : List Bool} {K : ByteArray → Heap → Prop} (h : RwH H w S bs) (hlen : bs.length ≤ 1000000000000) (hk : ∀ H', Fr [] H H' → K ⟨(pack bs).toArray⟩ H') :
    CallH Tryz.prog fn_ref02_Writer_Bytes ⟨[.pointer (some ⟨w, 0, none⟩)]⟩ H fun v H' => ∃ s, v = .string s ∧ K s H' := by
  apply vc_ref02_Writer_Bytes
  obtain ⟨o, l, c, hb, ho, rfl, hw⟩ := h.it
  have hl := ho.1
  have ldb : ∀ {H' : Heap}, Fr [] H H' → Ld Tryz.prog 191 H' ⟨w, 0, none⟩ (.slice o l c) := fun hf => (hb.keep hf).ld0 (by kernel_rfl) rfl
  refine ⟨_, _, _, ldb (Fr.refl _ _), ?_⟩
  have en : IntKind.wrap .i64 (Int.tdiv (IntKind.wrap .i64 ((l : Int) + 7)) 8) = (((l + 7) / 8 : Nat) : Int) := by
    have : Int.tdiv ((l + 7 : Nat) : Int) 8 = (((l + 7) / 8 : Nat) : Int) := (Int.ofNat_tdiv (l + 7) 8).symm
    rw [wrap64_of (n := (l : Int) + 7) (by omega) (by omega), show (l : Int) + 7 = ((l + 7 : Nat) : Int) by omega, this, wrap64_of (by omega) (by omega)]
  rw [en]
  generalize hn : (l + 7) / 8 = n at *
  refine mk_full (E := encByte) (u := .int .u8 0) (0 : UInt8) slice81 elem5 rfl rfl rfl rfl (by omega) fun b H1 hb1 h1 f1 => ?_
  refine ⟨fun vs H' => match vs with | [.int _ i] => ∃ j : Nat, i = j ∧ j ≤ l ∧ Own encByte 5 H.size H' (some ⟨b, 0, none⟩) n n (bufB bs j n) ∧ Fr [] H H' | _ => False, fun vs _ => match vs with | [.int _ i] => l - i.toNat | _ => 0,
    ⟨0, rfl, by omega, by rw [bufB_zero]; exact h1, f1⟩, ?_⟩
  rintro J i H2 ⟨j, rfl, hj, h2, f2⟩
  refine ⟨_, _, _, ldb f2, brB_of (fun h0 => ?_) (fun h0 => ?_)⟩
  · have hlt : j < l := by simp at h0; omega
    obtain ⟨bt, hbt⟩ := ho.sl.at' hlt
    refine ⟨_, _, _, ldb f2, ((ho.keep f2).idx rfl hbt (decide_eq_true (by omega)) fun ad ea hc => ⟨_, ld_one (by kernel_rfl) hc, ?_⟩)⟩
    have e8 : IntKind.wrap .i64 (Int.tdiv ((j : Nat) : Int) 8) = ((j / 8 : Nat) : Int) := by
      have : Int.tdiv ((j : Nat) : Int) 8 = ((j / 8 : Nat) : Int) := (Int.ofNat_tdiv j 8).symm
      rw [this, wrap64_of (by omega) (by omega)]
    have em : Int.tmod ((j : Nat) : Int) 8 = ((j % 8 : Nat) : Int) := (Int.ofNat_tmod j 8).symm
    obtain ⟨x, hx, hx2⟩ := bufB_at (l := bs) (i := j) (n := n) (by omega) (by omega)
    rw [e8, em, succ64 (by omega)]
    have hmu : l - ((j + 1 : Nat) : Int).toNat < l - ((j : Nat) : Int).toNat := by omega
    refine brB_of (fun ht => ?_) (fun ht => ?_)
    · subst ht
      refine h2.idx rfl hx (decide_eq_true (by omega)) fun ad2 ea2 hc2 => ⟨_, ld_one (by kernel_rfl) hc2, ?_⟩
      refine chk_true (decide_eq_true (by rw [nat_wrapU (by omega)]; omega)) ?_
      rw [pow_u8 (by omega)]
      have hs := bufB_step hbt (n := n) (by omega) hx
      have ev : IntKind.wrap .u8 ((x.toNat : Int) + ((2 ^ (7 - j % 8) : Nat) : Int)) = ((UInt8.ofNat (x.toNat + true.toNat * 2 ^ (7 - j % 8))).toNat : Int) := by
        have e1 : (UInt8.ofNat (x.toNat + true.toNat * 2 ^ (7 - j % 8))).toNat = x.toNat + 2 ^ (7 - j % 8) := by
          rw [UInt8.toNat_ofNat']; simp; omega
        rw [e1, wrapU8 (by omega)]; omega
      rw [ev]
      refine own_put (E := encByte) (UInt8.ofNat (x.toNat + true.toNat * 2 ^ (7 - j % 8))) h2 rfl (by omega) (decide_eq_true (by omega)) rfl (by kernel_rfl) (by kernel_rfl) fun H3 h3 f3 => ⟨⟨j + 1, rfl, by omega, by rw [hs]; exact h3, f2.keep f3 fun k hk => (h2.ge k hk).1⟩, hmu⟩
    · subst ht
      refine ⟨⟨j + 1, rfl, by omega, by rw [bufB_next hbt (by omega)]; exact h2, f2⟩, hmu⟩
  · have : j = bs.length := by simp at h0; omega
    subst this
    rw [bufB_pack n bs (by omega)] at h2
    exact cv_bs (e := 5) slice81 bT.str (by kernel_rfl) h2.sl ⟨_, rfl, hk H2 f2⟩

def encN : Enc Nat := ⟨fun n => [.int .u64 (n : Int)], 1, fun _ => rfl, by decide, fun _ v h => by simp at h; subst h; rfl⟩
theorem Cost_ok {H : Heap} {a : Option Addr} {n c : Nat} {l : List Nat} {kk : Int} {k : Nat} {K : Int → Heap → Prop} (hl : Sl encN H a n c l) (hlt : ∀ x ∈ l, x < 18446744073709551616) (hn : n ≤ 1000000) (ek : kk = k) (hk40 : k ≤ 40) (hk : K (costN l k : Nat) H) :
    CallH Tryz.prog fn_rice_Cost ⟨[.slice a n c, .int .i64 kk]⟩ H fun v H' => ∃ n, v = .int .i64 n ∧ K n H' := by
  subst ek
  apply vc_rice_Cost
  refine ⟨fun _ H' => H' = H, brB_of (fun h => by simp at h; omega) fun _ => brB_of (fun h => by simp at h; omega) fun _ => rfl, ?_⟩
  rintro J H1 rfl
  refine ⟨fun vs H' => match vs with | [.int _ s, .int _ i] => ∃ j : Nat, i = j ∧ j ≤ n ∧ s = (costN (l.take j) k : Nat) ∧ H' = H1 | _ => False, fun vs _ => match vs with | [_, .int _ i] => n - i.toNat | _ => 0, ⟨0, rfl, by omega, rfl, rfl⟩, ?_⟩
  rintro J s i H2 ⟨j, rfl, hj, rfl, rfl⟩
  refine brB_of (fun h0 => ?_) (fun h0 => ?_)
  · have hjn : j < n := by simp at h0; omega
    obtain ⟨x, hx⟩ := hl.at' hjn
    have hx64 := hlt x (List.mem_of_getElem? hx)
    refine hl.get rfl hx (decide_eq_true (by omega)) fun ad ea hc => ⟨_, ld_one (by kernel_rfl) hc, chk_true (decide_eq_true (by rw [nat_wrapU (by omega)]; omega)) ?_⟩
    have eb : IntKind.bits .u64 = 64 := rfl
    rw [eb, fdivU _ (by omega), succ64 (by omega)]
    have hmu : n - ((j + 1 : Nat) : Int).toNat < n - ((j : Nat) : Int).toNat := by omega
    have hct := costN_take (k := k) hx
    have hcl := costN_le (l.take j) hk40
    rw [List.length_take] at hcl
    have hcl2 := codeB_len x k
    generalize hq : x / 2 ^ k = q at *
    refine brB_of (fun h1 => ?_) (fun h1 => ?_)
    · have h24 : q < 24 := by simp at h1; omega
      rw [if_neg (by omega)] at hcl2
      refine ⟨⟨j + 1, rfl, by omega, ?_, rfl⟩, hmu⟩
      rw [wrap64_of (n := (q : Int)) (by omega) (by omega), wrap64_of (n := (q : Int) + 1) (by omega) (by omega), wrap64_of (n := (q : Int) + 1 + k) (by omega) (by omega), wrap64_of (by omega) (by omega)]
      omega
    · have h24 : 24 ≤ q := by simp at h1; omega
      rw [if_pos h24] at hcl2
      refine ⟨⟨j + 1, rfl, by omega, ?_, rfl⟩, hmu⟩
      rw [wrap64_of (by omega) (by omega)]
      omega
  · have : j = n := by simp at h0; omega
    subst this
    rw [List.take_of_length_le (by rw [hl.len]; exact Nat.le_refl _)]
    exact ⟨_, rfl, hk⟩
theorem rCost_ok {H : Heap} {a : Option Addr} {n c : Nat} {l : List Nat} {kk : Int} {k : Nat} {K : Int → Heap → Prop} (hl : Sl encN H a n c l) (hlt : ∀ x ∈ l, x < 18446744073709551616) (hn : n ≤ 1000000) (ek : kk = k) (hk40 : k ≤ 40) (hk : ∀ H', Fr [] H H' → K (costN l k : Nat) H') :
    CallH Tryz.prog fn_ref02_Cost ⟨[.slice a n c, .int .i64 kk]⟩ H fun v H' => ∃ n, v = .int .i64 n ∧ K n H' := by
  subst ek
  apply vc_ref02_Cost
  refine ⟨fun _ H' => H' = H, brB_of (fun h => by simp at h; omega) fun _ => brB_of (fun h => by simp at h; omega) fun _ => rfl, ?_⟩
  rintro J H1 rfl
  refine ⟨fun vs H' => match vs with | [.int _ s, .int _ i] => ∃ j : Nat, i = j ∧ j ≤ n ∧ s = (costN (l.take j) k : Nat) ∧ Fr [] H1 H' | _ => False, fun vs _ => match vs with | [_, .int _ i] => n - i.toNat | _ => 0, ⟨0, rfl, by omega, rfl, Fr.refl _ _⟩, ?_⟩
  rintro J s i H2 ⟨j, rfl, hj, rfl, f2⟩
  refine brB_of (fun h0 => ?_) (fun h0 => ?_)
  · have hjn : j < n := by simp at h0; omega
    obtain ⟨x, hx⟩ := hl.at' hjn
    have hx64 := hlt x (List.mem_of_getElem? hx)
    refine (hl.keep f2).get rfl hx (decide_eq_true (by omega)) fun ad ea hc => ⟨_, ld_one (by kernel_rfl) hc, ?_⟩
    have hct := costN_take (k := k) hx
    have hcl := costN_le (l.take j) hk40
    rw [List.length_take] at hcl
    refine rCode_ok rfl rfl hk40 hx64 fun o m d H3 h3 f3 => ?_
    have hm := h3.1
    have hcb := codeB_len x k
    rw [succ64 (by omega), wrap64_of (by split at hcb <;> omega) (by split at hcb <;> omega)]
    have hmu : n - ((j + 1 : Nat) : Int).toNat < n - ((j : Nat) : Int).toNat := by omega
    refine ⟨⟨j + 1, rfl, by omega, by omega, f2.keep0 f3⟩, hmu⟩
  · have : j = n := by simp at h0; omega
    subst this
    rw [List.take_of_length_le (by rw [hl.len]; exact Nat.le_refl _)]
    exact ⟨_, rfl, hk _ f2⟩
theorem Best_ok {H : Heap} {a : Option Addr} {n c : Nat} {l : List Nat} {K : Int → Heap → Prop} (hl : Sl encN H a n c l) (hlt : ∀ x ∈ l, x < 18446744073709551616) (hn : n ≤ 1000000) (hk : ∀ H', Fr [] H H' → K (bestN l : Nat) H') :
    CallH Tryz.prog fn_rice_Best ⟨[.slice a n c]⟩ H fun v H' => ∃ n, v = .int .i64 n ∧ K n H' := by
  apply vc_rice_Best
  intro b H1 hn1
  refine ⟨_, _, _, hn1.blk.ld0 (by kernel_rfl) rfl, ?_⟩
  refine Cost_ok (k := 0) (hl.keep hn1.fr) hlt hn rfl (by omega) fun b1 H2 hn2 b2 H3 hn3 => ?_
  have e0 := hn1.eq
  have e1 := hn2.eq
  have e2 := hn3.eq
  have s0 := hn1.size
  have s1 := hn2.size
  have b01 := (hn1.blk.keep hn2.fr).keep hn3.fr
  have b11 := hn2.blk.keep hn3.fr
  refine b11.st0 (v := .int .i64 0) (by kernel_rfl) (by kernel_rfl) (fun x hx => by simp [Value.cells] at hx; subst hx; rfl) (by simp [Value.cells]) fun H4 hb4 hf4 => ?_
  have b22 := hn3.blk.fr hf4 (by simp; omega)
  refine b22.st0 (v := .int .i64 ((costN l 0 : Nat) : Int)) (by kernel_rfl) (by kernel_rfl) (fun x hx => by simp [Value.cells] at hx; subst hx; rfl) (by simp [Value.cells]) fun H5 hb5 hf5 => ?_
  have f3 : Fr [] H H3 := (hn1.fr.keep0 hn2.fr).keep0 hn3.fr
  have f4 : Fr [] H H4 := f3.keep hf4 fun k hk => by simp at hk; omega
  have f5 : Fr [] H H5 := f4.keep hf5 fun k hk => by simp at hk; omega
  have b05 := (b01.fr hf4 (by simp; omega)).fr hf5 (by simp; omega)
  have b15 := hb4.fr hf5 (by simp; omega)
  refine ⟨fun vs H' => match vs with | [.int _ i] => ∃ j : Nat, i = ((j + 1 : Nat) : Int) ∧ j ≤ 40 ∧ Blk H' ⟨b, 0, none⟩ [.slice a n c] ∧ Blk H' ⟨b1, 0, none⟩ [.int .i64 (bestTo l j : Nat)] ∧ Blk H' ⟨b2, 0, none⟩ [.int .i64 (costN l (bestTo l j) : Nat)] ∧ Fr [] H H' | _ => False, fun vs _ => match vs with | [.int _ i] => 41 - i.toNat | _ => 0,
    ⟨0, rfl, by omega, b05, b15, hb5, f5⟩, ?_⟩
  rintro J i H6 ⟨j, rfl, hj, h0, h1, h2, f6⟩
  refine brB_of (fun hle => ?_) (fun hle => ?_)
  · have hj40 : j + 1 ≤ 40 := by simp at hle; omega
    refine ⟨118, ⟨[]⟩, _, rfl, by kernel_rfl, ?_⟩
    apply vc_rice_Best_1
    refine ⟨_, _, _, h0.ld0 (by kernel_rfl) rfl, ?_⟩
    refine Cost_ok (k := j + 1) (hl.keep f6) hlt hn rfl hj40 ⟨_, h2.ld0 (by kernel_rfl) rfl, ?_⟩
    rw [succ64 (by omega)]
    have hmu : 41 - ((j + 1 + 1 : Nat) : Int).toNat < 41 - ((j + 1 : Nat) : Int).toNat := by omega
    refine brB_of (fun h3 => ?_) (fun h3 => ?_)
    · have h3 : costN l (j + 1) < costN l (bestTo l j) := by simp at h3; omega
      refine h1.st0 (v := .int .i64 ((j + 1 : Nat) : Int)) (by kernel_rfl) (by kernel_rfl) (fun x hx => by simp [Value.cells] at hx; subst hx; rfl) (by simp [Value.cells]) fun H7 hb7 hf7 => ?_
      refine (h2.fr hf7 (by simp; omega)).st0 (v := .int .i64 ((costN l (j + 1) : Nat) : Int)) (by kernel_rfl) (by kernel_rfl) (fun x hx => by simp [Value.cells] at hx; subst hx; rfl) (by simp [Value.cells]) fun H8 hb8 hf8 => ?_
      have e : bestTo l (j + 1) = j + 1 := by rw [bestTo, if_pos h3]
      refine ⟨rfl, ⟨j + 1, rfl, hj40, (h0.fr hf7 (by simp; omega)).fr hf8 (by simp; omega), ?_, ?_, ?_⟩, hmu⟩
      · rw [e]; exact hb7.fr hf8 (by simp; omega)
      · rw [e]; exact hb8
      · exact (f6.keep hf7 fun k hk => by simp at hk; omega).keep hf8 fun k hk => by simp at hk; omega
    · have h3 : ¬ costN l (j + 1) < costN l (bestTo l j) := by simp at h3; omega
      have e : bestTo l (j + 1) = bestTo l j := by rw [bestTo, if_neg h3]
      exact ⟨rfl, ⟨j + 1, rfl, hj40, h0, by rw [e]; exact h1, by rw [e]; exact h2, f6⟩, hmu⟩
  · have : j = 40 := by simp at hle; omega
    subst this
    exact ⟨_, h1.ld0 (by kernel_rfl) rfl, _, rfl, hk _ f6⟩
theorem rBest_ok {H : Heap} {a : Option Addr} {n c : Nat} {l : List Nat} {K : Int → Heap → Prop} (hl : Sl encN H a n c l) (hlt : ∀ x ∈ l, x < 18446744073709551616) (hn : n ≤ 1000000) (hk : ∀ H', Fr [] H H' → K (bestN l : Nat) H') :
    CallH Tryz.prog fn_ref02_Best ⟨[.slice a n c]⟩ H fun v H' => ∃ n, v = .int .i64 n ∧ K n H' := by
  apply vc_ref02_Best
  refine ⟨fun vs H' => match vs with | [.int _ m, .int _ i] => ∃ j : Nat, i = ((j + 1 : Nat) : Int) ∧ j ≤ 40 ∧ m = (bestTo l j : Nat) ∧ Fr [] H H' | _ => False, fun vs _ => match vs with | [_, .int _ i] => 41 - i.toNat | _ => 0, ⟨0, rfl, by omega, rfl, Fr.refl _ _⟩, ?_⟩
  rintro J m i H1 ⟨j, rfl, hj, rfl, f1⟩
  refine brB_of (fun hle => ?_) (fun hle => ?_)
  · have hj40 : j + 1 ≤ 40 := by simp at hle; omega
    have hb := bestTo_le l j
    refine rCost_ok (k := j + 1) (hl.keep f1) hlt hn rfl hj40 fun H2 f2 => ?_
    refine rCost_ok (k := bestTo l j) (hl.keep (f1.keep0 f2)) hlt hn rfl (by omega) fun H3 f3 => ?_
    rw [succ64 (by omega)]
    have hmu : 41 - ((j + 1 + 1 : Nat) : Int).toNat < 41 - ((j + 1 : Nat) : Int).toNat := by omega
    refine brB_of (fun h3 => ?_) (fun h3 => ?_)
    · have h3 : costN l (j + 1) < costN l (bestTo l j) := by simp at h3; omega
      exact ⟨⟨j + 1, rfl, hj40, by rw [bestTo, if_pos h3], (f1.keep0 f2).keep0 f3⟩, hmu⟩
    · have h3 : ¬ costN l (j + 1) < costN l (bestTo l j) := by simp at h3; omega
      exact ⟨⟨j + 1, rfl, hj40, by rw [bestTo, if_neg h3], (f1.keep0 f2).keep0 f3⟩, hmu⟩
  · have : j = 40 := by simp at hle; omega
    subst this
    exact ⟨_, rfl, hk _ f1⟩
end Go.Proofs
set_option linter.unusedVariables false
open Go Go.GV
namespace Go.Proofs

def encS : Enc Smp := ⟨fun x => [.int .i64 x.1, .int .i64 x.2], 2, fun _ => rfl, by decide, fun _ v h => by simp at h; rcases h with rfl | rfl <;> rfl⟩
theorem elem26 : elemB Tryz.prog 107 2 16 = true := by kernel_rfl
theorem slice22 : sliceB Tryz.prog 90 107 = true := by kernel_rfl
abbrev vS (x : Smp) : Value := .agg ⟨[.int .i64 x.1, .int .i64 x.2]⟩
theorem ldS {H : Heap} {ad : Addr} {x : Smp} (h : CellsAt H ad (encS.cells x)) : Ld Tryz.prog 107 H ad (vS x) := ld_many (by kernel_rfl) (by kernel_rfl) h
theorem ldT {H : Heap} {ad : Addr} {x : Smp} (h : CellsAt H ad (encS.cells x)) : Ld Tryz.prog 3 H ad (.int .i64 x.1) := ld_cell (by kernel_rfl) (by have := h 0 _ rfl; simpa [Addr.add] using this)

def cmpI (x y : Int) : Int := if x < y then -1 else if x > y then 1 else 0
theorem Compare_ok {x y : Int} {H : Heap} {K : Int → Heap → Prop} (hk : K (cmpI x y) H) : CallH Tryz.prog fn_cmp_Compare_int_ ⟨[.int .i64 x, .int .i64 y]⟩ H fun v H' => ∃ n, v = .int .i64 n ∧ K n H' := by
  apply vc_cmp_Compare_int_
  apply vc_cmp_isNaN_int_
  refine ⟨_, rfl, ?_⟩
  apply vc_cmp_isNaN_int_
  refine ⟨_, rfl, ?_⟩
  refine brB_of (fun h => by simp at h) (fun _ => brB_of (fun h => by simp at h) (fun _ => ?_))
  unfold cmpI at hk
  refine brB_of (fun h => ⟨_, rfl, ?_⟩) (fun h => brB_of (fun h1 => ⟨_, rfl, ?_⟩) (fun h1 => ⟨_, rfl, ?_⟩))
  · rwa [if_pos (by simpa using h)] at hk
  · rwa [if_neg (by simpa using h), if_pos (by simpa using h1)] at hk
  · rwa [if_neg (by simpa using h), if_neg (by simpa using h1)] at hk

theorem byTime_ok {x y : Smp} {H : Heap} {K : Int → Heap → Prop} (hk : ∀ H', Fr [] H H' → K (cmpI x.1 y.1) H') : CallH Tryz.prog fn_series_byTime ⟨[vS x, vS y]⟩ H fun v H' => ∃ n, v = .int .i64 n ∧ K n H' := by
  apply vc_series_byTime
  intro b H1 hn b1 H2 hn2
  refine ⟨_, (hn.blk.keep hn2.fr).ld0 (by kernel_rfl) rfl, _, hn2.blk.ld0 (by kernel_rfl) rfl, ?_⟩
  exact Compare_ok ⟨_, rfl, hk _ (hn.fr.keep0 hn2.fr)⟩

def ByT (order : Value) : Prop := ∀ (x y : Smp) (H : Heap) (K : Int → Heap → Prop), (∀ H', Fr [] H H' → K (cmpI x.1 y.1) H') → CallV Tryz.prog order [vS x, vS y] H fun v H' => ∃ n, v = .int .i64 n ∧ K n H'
theorem byT : ByT (.func (.func 72) #[] #[]) := fun x y H K hk => ⟨72, #[], #[], rfl, by kernel_rfl, byTime_ok hk⟩

theorem merge_ok {order : Value} {a b : Option Addr} {n c m d : Nat} {xs ys : List Smp} {H : Heap} {K : Option Addr → Nat → Nat → Heap → Prop} (ho : ByT order) (hx : Sl encS H a n c xs) (hy : Sl encS H b m d ys)
    (hlen : n + m ≤ 1000000000) (hk : ∀ a' n' c' H', Own encS 107 H.size H' a' n' c' (mrg xs ys) → Fr [] H H' → K a' n' c' H') :
    CallH Tryz.prog fn_series_merge_api_Sample_ ⟨[.slice a n c, .slice b m d, order]⟩ H fun v H' => ∃ a n c, v = .slice a n c ∧ K a n c H' := by
  apply vc_series_merge_api_Sample_
  rw [wrap64_of (by omega) (by omega)]
  refine mk_own (E := encS) slice22 elem26 (by omega) (by omega) fun b0 H1 ho1 hf1 => ?_
  refine ⟨fun vs H' => match vs with
      | [.slice a n c, .slice b m d, .slice o p q] => ∃ zs us ws, Sl encS H a n c zs ∧ Sl encS H b m d us ∧ Own encS 107 H.size H' o p q ws ∧ ws ++ mrg zs us = mrg xs ys ∧ p + n + m ≤ 1000000000 ∧ Fr [] H H'
      | _ => False,
    fun vs _ => match vs with | [.slice _ n _, .slice _ m _, _] => n + m | _ => 0, ⟨xs, ys, [], hx, hy, ho1, rfl, by omega, hf1⟩, ?_⟩
  rintro J a n c b m d o p q H2 ⟨zs, us, ws, hz, hu, hw, he, hsz, hf⟩
  have hn := hz.len
  have hm := hu.len
  have hp := hw.1
  have hcz := hz.cap
  have hcu := hu.cap
  have last : (zs = [] ∨ us = []) → SemWp Tryz.prog (Builtin.append_ ⟨[90, 90]⟩ 90 ⟨[.slice o p q, .slice a n c]⟩) H2 fun v H' => ∃ a n c, v = .slice a n c ∧ SemWp Tryz.prog (Builtin.append_ ⟨[90, 90]⟩ 90 ⟨[.slice a n c, .slice b m d]⟩) H' fun v H' => ∃ a n c, v = .slice a n c ∧ (∃ a_1 n_1 c_1, Value.slice a n c = .slice a_1 n_1 c_1 ∧ K a_1 n_1 c_1 H') := by
    intro he0
    refine ap_own (E := encS) slice22 elem26 hw hf (hz.keep hf) (by omega) fun o2 p2 q2 H3 hw2 hf2 _ => ?_
    have hb2 := hw2.1
    refine ap_own (E := encS) slice22 elem26 hw2 hf2 (hu.keep hf2) (by simp at hb2; omega) fun o3 p3 q3 H4 hw3 hf3 _ => ⟨_, _, _, rfl, hk _ _ _ _ ?_ hf3⟩
    rw [List.append_assoc] at hw3
    have : zs ++ us = mrg zs us := by
      rcases he0 with rfl | rfl
      · rw [mrg_nil]; rfl
      · rw [mrg_nil']; simp
    rwa [this, he] at hw3
  refine brB_of (fun h0 => brB_of (fun h1 => ?_) (fun h1 => last (.inr ?_))) (fun h0 => last (.inl ?_))
  · cases zs with
    | nil => simp at hn h0; omega
    | cons x zs =>
    cases us with
    | nil => simp at hm h1; omega
    | cons y us =>
    simp only [List.length_cons] at hn hm
    have hz1 : Sl encS H (slA c 1 2 a) ((n : Int).toNat - 1) (c - 1) zs := by
      have := hz.drop (k := 1) (by omega)
      rwa [Int.toNat_natCast]
    have hu1 : Sl encS H (slA d 1 2 b) ((m : Int).toNat - 1) (d - 1) us := by
      have := hu.drop (k := 1) (by omega)
      rwa [Int.toNat_natCast]
    refine (hz.keep hf).head (decide_eq_true (by omega)) fun ad ea hc => ⟨_, _, ldS hc, ?_⟩
    refine (hu.keep hf).head (decide_eq_true (by omega)) fun bd eb hd => ⟨_, _, ldS hd, ?_⟩
    refine ho x y H2 _ fun H3 hf3 => ?_
    have hf' := hf.keep0 hf3
    have hw' := hw.keep hf3
    rw [mrg_cons] at he
    unfold cmpI
    refine brB_of (fun h2 => ?_) (fun h2 => brB_of (fun h3 => ?_) (fun h3 => ?_))
    · have hlt : x.1 < y.1 := by
        simp only [decide_eq_true_eq] at h2
        split at h2
        · assumption
        · split at h2 <;> omega
      rw [if_pos hlt] at he
      refine (hz.keep hf').head (decide_eq_true (by omega)) fun ad ea hc => ⟨_, _, ldS hc, chk_of ⟨by omega, by omega, by omega⟩ ?_⟩
      refine ap_one (E := encS) x slice22 elem26 hw' hf' rfl (by omega) fun _ o2 p2 q2 H4 hw2 hf2 _ => ?_
      have hb2 := hw2.1
      simp at hb2
      exact ⟨⟨zs, y :: us, ws ++ [x], hz1, hu, hw2, by rw [← he]; simp, by omega, hf2⟩, by show (n : Int).toNat - 1 + m < n + m; omega⟩
    · have hge : ¬ x.1 < y.1 ∧ x.1 = y.1 := by
        simp only [beq_iff_eq] at h3
        split at h3
        · cases h3
        · split at h3
          · cases h3
          · omega
      rw [if_neg hge.1, if_pos hge.2] at he
      refine chk_of ⟨by omega, by omega, by omega⟩ ?_
      refine (hu.keep hf').head (decide_eq_true (by omega)) fun ad ea hc => ⟨_, _, ldS hc, chk_of ⟨by omega, by omega, by omega⟩ ?_⟩
      refine ap_one (E := encS) y slice22 elem26 hw' hf' rfl (by omega) fun _ o2 p2 q2 H4 hw2 hf2 _ => ?_
      have hb2 := hw2.1
      simp at hb2
      exact ⟨⟨zs, us, ws ++ [y], hz1, hu1, hw2, by rw [← he]; simp, by omega, hf2⟩, by show (n : Int).toNat - 1 + ((m : Int).toNat - 1) < n + m; omega⟩
    · have hge : ¬ x.1 < y.1 ∧ ¬ x.1 = y.1 := by
        simp only [decide_eq_false_iff_not, beq_eq_false_iff_ne, ne_eq] at h2 h3
        split at h2
        · omega
        · rename_i h4
          rw [if_neg h4] at h3
          split at h3
          · omega
          · omega
      rw [if_neg hge.1, if_neg hge.2] at he
      refine (hu.keep hf').head (decide_eq_true (by omega)) fun ad ea hc => ⟨_, _, ldS hc, chk_of ⟨by omega, by omega, by omega⟩ ?_⟩
      refine ap_one (E := encS) y slice22 elem26 hw' hf' rfl (by omega) fun _ o2 p2 q2 H4 hw2 hf2 _ => ?_
      have hb2 := hw2.1
      simp at hb2
      exact ⟨⟨x :: zs, us, ws ++ [y], hz, hu1, hw2, by rw [← he]; simp, by omega, hf2⟩, by show n + ((m : Int).toNat - 1) < n + m; omega⟩
  · cases us with
    | nil => rfl
    | cons y us => simp at hm h1; omega
  · cases zs with
    | nil => rfl
    | cons y us => simp at hn h0; omega

theorem Merge_ok {a b : Option Addr} {n c m d : Nat} {xs ys : List Smp} {H : Heap} {K : Option Addr → Nat → Nat → Heap → Prop} (hx : Sl encS H a n c xs) (hy : Sl encS H b m d ys)
    (hlen : n + m ≤ 1000000000) (hk : ∀ a' n' c' H', Own encS 107 H.size H' a' n' c' (mrg xs ys) → Fr [] H H' → K a' n' c' H') :
    CallH Tryz.prog fn_series_Merge ⟨[.slice a n c, .slice b m d]⟩ H fun v H' => ∃ a n c, v = .slice a n c ∧ K a n c H' := by
  apply vc_series_Merge
  exact merge_ok byT hx hy hlen fun a' n' c' H' h1 h2 => ⟨_, _, _, rfl, hk _ _ _ _ h1 h2⟩

theorem rRises_ok {a : Option Addr} {n c : Nat} {xs : List Smp} {H : Heap} {K : Bool → Heap → Prop} (hx : Sl encS H a n c xs) (hn : n ≤ 1000000000) (hk : K (decide (Ris xs)) H) :
    CallH Tryz.prog fn_ref13_Rises ⟨[.slice a n c]⟩ H fun v H' => ∃ r, v = .bool r ∧ K r H' := by
  apply vc_ref13_Rises
  have hlx := hx.len
  refine ⟨fun vs H' => match vs with | [.int _ i] => ∃ k : Nat, i = k ∧ 1 ≤ k ∧ (∀ j x y, j + 1 < k → xs[j]? = some x → xs[j + 1]? = some y → x.1 < y.1) ∧ H' = H | _ => False,
    fun vs _ => match vs with | [.int _ i] => n - i.toNat | _ => 0, ⟨1, rfl, by omega, fun _ _ _ h => by omega, rfl⟩, ?_⟩
  rintro J i H' ⟨k, rfl, hle, ht, rfl⟩
  refine brB_of (fun h0 => ?_) (fun h0 => ⟨_, rfl, ?_⟩)
  · have h0' : k < n := by simpa using h0
    rw [succ64 (by omega), pred64 (by omega) (by omega)]
    have hx1 : xs[k - 1]? = some (xs[k - 1]'(by omega)) := by simp
    have hx2 : xs[k]? = some (xs[k]'(by omega)) := by simp
    refine hx.get rfl hx2 (decide_eq_true (by omega)) fun ad ea hc => ⟨_, ldT hc, ?_⟩
    refine hx.get rfl hx1 (decide_eq_true (by omega)) fun bd eb hd => ⟨_, ldT hd, ?_⟩
    refine brB_of (fun h2 => ⟨_, rfl, ?_⟩) (fun h2 => ?_)
    · have : ¬ Ris xs := fun hr => by
        have := ris_next hr (i := k - 1) hx1 (by rw [show k - 1 + 1 = k by omega]; exact hx2)
        simp at h2; omega
      rwa [decide_eq_false this] at hk
    · refine ⟨⟨k + 1, rfl, by omega, fun j x y hj hjx hjy => ?_, rfl⟩, mu_lt h0'⟩
      by_cases hj2 : j + 1 < k
      · exact ht j x y hj2 hjx hjy
      · have : j = k - 1 := by omega
        subst this
        rw [show k - 1 + 1 = k by omega, hx2] at hjy
        rw [hx1] at hjx
        cases hjx
        cases hjy
        simpa using h2
  · have : Ris xs := ris_of_next fun j x y hjx hjy => ht j x y (by
      have := (List.getElem?_eq_some_iff.1 hjy).1
      simp at h0; omega) hjx hjy
    rwa [decide_eq_true this] at hk

end Go.Proofs
set_option linter.unusedVariables false
open Go Go.GV
namespace Go.GV

theorem Lp.fr {H H' : Heap} {l : Nat} {R0 : Loop} {st : LoopState} {j : Option Code} {T : List Nat} (h : Lp H l R0 st j) (hf : Fr T H H') (hn : l ∉ T) : Lp H' l R0 st j := hf.get h hn
theorem Lp.lt {H : Heap} {l : Nat} {R0 : Loop} {st : LoopState} {j : Option Code} (h : Lp H l R0 st j) : l < H.size := lt_of_get h
theorem setLp_fr (H : Heap) (l : Nat) (R0 : Loop) (st : LoopState) (j : Option Code) : Fr [l] H (setLp H l R0 st j) := set_fr H l _
theorem setLp_get {H : Heap} {l : Nat} {R0 : Loop} {st : LoopState} {j : Option Code} (h : l < H.size) : Lp (setLp H l R0 st j) l R0 st j := by
  simp [Lp, setLp, h]
theorem setLp_size (H : Heap) (l : Nat) (R0 : Loop) (st : LoopState) (j : Option Code) : (setLp H l R0 st j).size = H.size := by simp [setLp]
theorem Dq.fr {H H' : Heap} {D : Nat} {T : List Nat} (h : Dq H D) (hf : Fr T H H') (hn : D ∉ T) : Dq H' D := hf.get h hn
theorem shutD_fr (H : Heap) (D : Nat) : Fr [D] H (shutD H D) := set_fr H D _
theorem NewL.out {H H' : Heap} {D l : Nat} {R0 : Loop} (h : NewL H D l R0 H') : Fr [] H H' ∧ Lp H' l R0 .ready none ∧ Dq H' D ∧ D = H.size ∧ l = H.size + 1 ∧ H'.size = H.size + 2 := by
  obtain ⟨rfl, rfl, rfl⟩ := h
  refine ⟨(push_fr _ _).keep0 (push_fr _ _), ?_, ?_, rfl, rfl, by simp⟩
  · unfold Lp
    rw [show H.size + 1 = (H.push (.deferred (some []))).size by simp]
    exact Array.getElem?_push_size
  · simp [Dq, Array.getElem?_push]

end Go.GV
set_option linter.unusedVariables false
set_option maxRecDepth 100000
open Go Go.GV
namespace Go.Proofs

theorem pair_one {x y : Int} : ∀ v ∈ (Value.agg ⟨[.int .i64 x, .int .i64 y]⟩).cells.toList, v.oneCell' = true := fun v h => by
  simp [Value.cells] at h; rcases h with rfl | rfl <;> rfl
structure NumI (l n : Nat) (xs : List Smp) (I : Nat → List Nat → Heap → Prop) : Prop where
  stab : ∀ i S H1 H2, I i S H1 → Fr [] H1 H2 → I i S H2
  step : ∀ i S H1, i + 1 < n → In H1 S → I i S H1 → YieldH Tryz.prog l [.int .u64 (tN xs i : Nat), .int .u64 (vN xs i : Nat)] H1 fun v H2 => v = .bool true ∧ ∃ S2, I (i + 1) S2 H2 ∧ Fr S H1 H2 ∧ Grow H1 S S2 ∧ In H2 S2
theorem numbers_ok {H : Heap} {a : Option Addr} {n c l b : Nat} {xs : List Smp} {I : Nat → List Nat → Heap → Prop} {K : Heap → Prop} {S : List Nat} (hb : Blk H ⟨b, 0, none⟩ [.slice a n c]) (hx : Sl encS H a n c xs) (hP : SmpP xs) (h1 : 1 ≤ n)
    (hin : In H S) (hd : b ∉ S ∧ ∀ k ∈ blkL a, k ∉ S) (h0 : I 0 S H) (hI : NumI l n xs I) (fin : ∀ S1 H1, I (n - 1) S1 H1 → In H1 S1 → Fr S H H1 → Grow H S S1 → K H1) :
    CallV Tryz.prog (.func (.func 116) ⟨[]⟩ ⟨[.pointer (some ⟨b, 0, none⟩)]⟩) [.func (.yield l) ⟨[]⟩ ⟨[]⟩] H fun v H' => v = .tuple ⟨[]⟩ ∧ K H' := by
  refine ⟨116, ⟨[]⟩, _, rfl, by kernel_rfl, ?_⟩
  apply vc_delta_numbers_1
  have hlen := hx.len
  have hcap := hx.cap
  have hPl := hP.len
  refine ⟨_, _, _, hb.ld0 (by kernel_rfl) rfl, chk_true (decide_eq_true ⟨by omega, by omega, by omega⟩) ?_⟩
  refine ⟨fun vs H' => match vs with | [.int _ ah, .int _ i] => ∃ (j : Nat) (S2 : List Nat), i = j ∧ j + 1 ≤ n ∧ ah = aAt xs j ∧ I j S2 H' ∧ Fr S H H' ∧ Grow H S S2 ∧ In H' S2 | _ => False, fun vs _ => match vs with | [_, .int _ i] => n - i.toNat | _ => 0,
    ⟨0, S, rfl, by omega, rfl, h0, Fr.refl _ _, Grow.refl _ _, hin⟩, ?_⟩
  rintro J ah i H1 ⟨j, S2, rfl, hj, rfl, hIj, hf, hg, hin2⟩
  have hb1 := hb.fr hf hd.1
  have hx1 := hx.fr hf fun ad e => hd.2 _ (by simp [blkL, e])
  refine brB_of (fun hlt => ?_) (fun hge => ⟨rfl, ?_⟩)
  · have hlt : j + 1 < n := by simp at hlt; omega
    have hs := smp_at (l := xs) (i := j) (by omega)
    have hs1 := smp_at (l := xs) (i := j + 1) (by omega)
    refine (hx1.drop (k := 1) (by omega)).get (k := j) (x := (tAt xs (j + 1), vAt xs (j + 1))) rfl (by rw [List.getElem?_drop, Nat.add_comm]; exact hs1) (decide_eq_true (by simp; omega)) fun ad ea hc => ⟨_, _, ldS hc, ?_⟩
    refine var_blk (by kernel_rfl) (by kernel_rfl) pair_one (by rfl) fun v H2 hvl hv fv => ⟨_, hv.ld0 (by kernel_rfl) rfl, _, _, _, (hb1.keep fv).ld0 (by kernel_rfl) rfl, ?_⟩
    have hx2 := hx1.keep fv
    refine hx2.get rfl hs (decide_eq_true (by omega)) fun ad2 ea2 hc2 => ⟨_, ldT hc2, _, hv.ldK (j := 1) (by kernel_rfl) rfl, _, _, _, (hb1.keep fv).ld0 (by kernel_rfl) rfl, ?_⟩
    refine hx2.get rfl hs (decide_eq_true (by omega)) fun ad3 ea3 hc3 => ⟨_, ld_part (by kernel_rfl) hc3 (j := 1) rfl, ?_⟩
    have hdi := hP.dist (i := j) (by omega)
    have hah := hP.ahead (i := j) (by omega)
    have e1 : IntKind.wrap .i64 (tAt xs (j + 1) - tAt xs j) = dAt xs j := wrap64_of (n := dAt xs j) (by omega) (by omega)
    have e2 : IntKind.wrap .i64 (dAt xs j - aAt xs j) = dAt xs j - aAt xs j := wrap64_of (by omega) (by omega)
    rw [e1, e2]
    refine Fold_ok ⟨by omega, by omega⟩ ⟨ld_part (by kernel_rfl) hc3 (j := 1) rfl, (hb1.keep fv).ld0 (by kernel_rfl) rfl, hv.ldK (j := 1) (by kernel_rfl) rfl, ?_⟩
    refine Fold_ok (wrap_I64 _) (.inr ⟨l, rfl, ?_⟩)
    refine (hI.step j S2 H2 hlt (hin2.le fv.size) (hI.stab _ _ _ _ hIj fv)).mono fun v H3 => ?_
    rintro ⟨rfl, S3, hI3, hf3, hg3, hin3⟩
    refine ⟨true, rfl, brB_of (fun h => by simp at h) fun _ => ⟨⟨j + 1, S3, succ64 (by omega), by omega, ?_, hI3, ?_, ?_, hin3⟩, ?_⟩⟩
    · unfold aAt; rw [if_neg (by omega)]; rfl
    · have hfv : Fr S H H2 := hf.trans' fv (fun k hk _ => hk) (by simp)
      exact hfv.trans' hf3 (fun k hk _ => hk) fun k hk hl => (hg k hk).elim id fun h => by omega
    · exact hg.trans hf.size fun k hk => (hg3 k hk).imp id fun h => by have := fv.size; omega
    · show n - (IntKind.wrap .i64 ((j : Int) + 1)).toNat < n - ((j : Nat) : Int).toNat
      rw [succ64 (by omega)]; omega
  · have : j = n - 1 := by simp at hge; omega
    subst this
    exact fin S2 H1 hIj hin2 hf hg

theorem slice138 : sliceB Tryz.prog 138 89 = true := by kernel_rfl
theorem elem89 : elemB Tryz.prog 89 encN.sz 8 = true := by kernel_rfl
theorem one_slice {a : Option Addr} {n c : Nat} : ∀ x ∈ (Value.slice a n c).cells.toList, x.oneCell' = true := fun x hx => by simp [Value.cells] at hx; subst hx; rfl
theorem blk_of_ne {a : Option Addr} {S : List Nat} (h : ∀ k ∈ blkL a, k ∉ S) : ∀ ad, a = some ad → ad.block ∉ S := fun ad e => h _ (by simp [blkL, e])
structure Two (xs : List Smp) (b b1 l D : Nat) (R0 : Loop) (H0 : Heap) (i : Nat) (S : List Nat) (H : Heap) : Prop where
  fr : Fr [] H0 H
  lp : Lp H l R0 .ready none
  dq : Dq H D
  it : ∃ a n c a' n' c', Blk H ⟨b, 0, none⟩ [.slice a n c] ∧ Blk H ⟨b1, 0, none⟩ [.slice a' n' c'] ∧ Own encN 89 H0.size H a n c ((tsL xs).take i) ∧ Own encN 89 H0.size H a' n' c' ((vsL xs).take i) ∧ S = b :: b1 :: l :: D :: (blkL a ++ blkL a') ∧ S.Nodup
  lo : ∀ k ∈ S, H0.size ≤ k
theorem Two.stab {xs : List Smp} {b b1 l D : Nat} {R0 : Loop} {H0 : Heap} (i : Nat) (S : List Nat) (H1 H2 : Heap) (h : Two xs b b1 l D R0 H0 i S H1) (hf : Fr [] H1 H2) : Two xs b b1 l D R0 H0 i S H2 := by
  obtain ⟨h1, h2, h3, ⟨a, n, c, a', n', c', q1, q2, q3, q4, q5, q6⟩, h5⟩ := h
  exact ⟨h1.keep0 hf, h2.fr hf (by simp), h3.fr hf (by simp), ⟨a, n, c, a', n', c', q1.keep hf, q2.keep hf, q3.keep hf, q4.keep hf, q5, q6⟩, h5⟩
theorem grown_nodup {H : Heap} {X A B A2 B2 : List Nat} (h : (X ++ (A ++ B)).Nodup) (hX : In H X) (hA : ∀ k ∈ A2, k ∈ A ∨ H.size ≤ k) (hB : ∀ k ∈ B2, k ∈ B ∨ H.size ≤ k) (hAB : ∀ k ∈ A2, k ∈ B2 → H.size ≤ k → False) (nA : A2.Nodup) (nB : B2.Nodup) (hiA : In H A) (hiB : In H B) : (X ++ (A2 ++ B2)).Nodup := by
  rw [List.nodup_append] at h ⊢
  obtain ⟨hx, hab, hd⟩ := h
  rw [List.nodup_append] at hab ⊢
  obtain ⟨ha, hb, hd2⟩ := hab
  refine ⟨hx, ⟨nA, nB, fun p hp q hq e => ?_⟩, fun p hp q hq e => ?_⟩
  · subst e
    rcases hA p hp with h1 | h1
    · rcases hB p hq with h2 | h2
      · exact hd2 p h1 p h2 rfl
      · have := hiA p h1; omega
    · exact hAB p hp hq h1
  · subst e
    have hlt := hX p hp
    rcases List.mem_append.1 hq with h1 | h1
    · rcases hA p h1 with h2 | h2
      · exact hd p hp p (List.mem_append_left _ h2) rfl
      · omega
    · rcases hB p h1 with h2 | h2
      · exact hd p hp p (List.mem_append_right _ h2) rfl
      · omega
theorem blkL_nodup (a : Option Addr) : (blkL a).Nodup := by cases a <;> simp [blkL]
theorem two_done {xs : List Smp} {b b1 l D i : Nat} {R0 : Loop} {H0 H2 H3 : Heap} {S : List Nat} {a : Option Addr} {n c : Nat} {a' : Option Addr} {n' c' : Nat} {p : Option Addr} {m d : Nat} {p' : Option Addr} {m' d' : Nat} {K2 : Value → Heap → Prop} (h : Two xs b b1 l D R0 H0 i S H2) (hin : In H2 S)
    (hS : S = b :: b1 :: l :: D :: (blkL a ++ blkL a')) (hb : Blk H2 ⟨b, 0, none⟩ [.slice a n c]) (hb1 : Blk H2 ⟨b1, 0, none⟩ [.slice a' n' c'])
    (h3 : Own encN 89 H0.size H3 p m d ((tsL xs).take (i + 1))) (h3' : Own encN 89 H0.size H3 p' m' d' ((vsL xs).take (i + 1)))
    (f3 : Fr (blkL a ++ blkL a') (setLp H2 l R0 .busy none) H3) (g : ∀ k ∈ blkL p, k ∈ blkL a ∨ H2.size ≤ k) (g' : ∀ k ∈ blkL p', k ∈ blkL a' ∨ H2.size ≤ k) (gg : ∀ k ∈ blkL p, k ∈ blkL p' → H2.size ≤ k → False)
    (hk : ∀ H4, (∃ S2, Two xs b b1 l D R0 H0 (i + 1) S2 H4 ∧ Fr S H2 H4 ∧ Grow H2 S S2 ∧ In H4 S2) → K2 (.bool true) H4) :
    ∃ H4, sT 138 H3 ⟨b, 0, none⟩ (.slice p m d) H4 ∧ ∃ H5, sT 138 H4 ⟨b1, 0, none⟩ (.slice p' m' d') H5 ∧ Lp H5 l R0 .busy none ∧ K2 (.bool true) (setLp H5 l R0 .ready none) := by
  obtain ⟨h1, h2, hdq, ⟨_, _, _, _, _, _, q1, q2, q3, q4, q5, q6⟩, h5⟩ := h
  subst hS
  have ninS : ∀ k, k ∈ [b, b1, l, D] → k ∉ blkL a ++ blkL a' := by
    have := (List.nodup_append (l₁ := [b, b1, l, D]) (l₂ := blkL a ++ blkL a')).1 q6
    exact fun k hk hk2 => this.2.2 k hk k hk2 rfl
  have q6' := q6
  simp only [List.nodup_cons, List.mem_cons, not_or] at q6'
  obtain ⟨⟨nbb1, nbl, nbD, nb⟩, ⟨nb1l, nb1D, nb1⟩, ⟨nlD, nl⟩, nD, _⟩ := q6'
  have hlt := h2.lt
  have fL := setLp_fr H2 l R0 .busy none
  have sL := setLp_size H2 l R0 .busy none
  have f23 : Fr (b :: b1 :: l :: D :: (blkL a ++ blkL a')) H2 H3 := fL.trans' f3 (fun k hk _ => by simp at hk; simp [hk]) fun k hk _ => by simp only [List.mem_cons]; simp [hk]
  have hbH3 : Blk H3 ⟨b, 0, none⟩ [.slice a n c] := (hb.fr fL (by simpa using nbl)).fr f3 nb
  have hb1H3 : Blk H3 ⟨b1, 0, none⟩ [.slice a' n' c'] := (hb1.fr fL (by simpa using nb1l)).fr f3 nb1
  have lp3 : Lp H3 l R0 .busy none := (setLp_get hlt).fr f3 nl
  have dq3 : Dq H3 D := (hdq.fr fL (by simpa using fun e => nlD e.symm)).fr f3 nD
  have hX : In H2 [b, b1, l, D] := fun k hk => hin k (List.mem_append_left (blkL a ++ blkL a') hk)
  have hiA : In H2 (blkL a) := fun k hk => hin k (by simp [hk])
  have hiB : In H2 (blkL a') := fun k hk => hin k (by simp [hk])
  have nd : (b :: b1 :: l :: D :: (blkL p ++ blkL p')).Nodup := grown_nodup (X := [b, b1, l, D]) q6 hX g g' gg (blkL_nodup _) (blkL_nodup _) hiA hiB
  have nd' := nd
  simp only [List.nodup_cons, List.mem_cons, not_or, List.mem_append] at nd'
  obtain ⟨⟨_, _, _, npb, npb'⟩, ⟨_, _, npb1, npb1'⟩, ⟨_, npl, npl'⟩, ⟨npD, npD'⟩, _⟩ := nd'
  refine hbH3.st0 (v := .slice p m d) (by kernel_rfl) (by kernel_rfl) one_slice (by simp [Value.cells]) fun H4 hb4 f4 => ?_
  have hb14 := hb1H3.fr f4 (by simpa using fun e => nbb1 e.symm)
  refine hb14.st0 (v := .slice p' m' d') (by kernel_rfl) (by kernel_rfl) one_slice (by simp [Value.cells]) fun H5 hb5 f5 => ?_
  have hbb5 := hb4.fr f5 (by simpa using nbb1)
  have lp5 : Lp H5 l R0 .busy none := (lp3.fr f4 (by simpa using fun e => nbl e.symm)).fr f5 (by simpa using fun e => nb1l e.symm)
  have dq5 : Dq H5 D := (dq3.fr f4 (by simpa using fun e => nbD e.symm)).fr f5 (by simpa using fun e => nb1D e.symm)
  have fE := setLp_fr H5 l R0 .ready none
  have sE := setLp_size H5 l R0 .ready none
  have f24 : Fr (b :: b1 :: l :: D :: (blkL a ++ blkL a')) H2 H4 := f23.trans' f4 (fun k hk _ => hk) fun k hk _ => by simp at hk; simp [hk]
  have f25 : Fr (b :: b1 :: l :: D :: (blkL a ++ blkL a')) H2 H5 := f24.trans' f5 (fun k hk _ => hk) fun k hk _ => by simp at hk; simp [hk]
  have f26 : Fr (b :: b1 :: l :: D :: (blkL a ++ blkL a')) H2 (setLp H5 l R0 .ready none) := f25.trans' fE (fun k hk _ => hk) fun k hk _ => by simp at hk; simp [hk]
  refine ⟨lp5, hk _ ⟨b :: b1 :: l :: D :: (blkL p ++ blkL p'), ⟨h1.keep f26 h5, setLp_get lp5.lt, dq5.fr fE (by simpa using fun e => nlD e.symm), ⟨p, m, d, p', m', d', ?_, ?_, ?_, ?_, rfl, nd⟩, ?_⟩, f26, ?_, ?_⟩⟩
  · simpa [Value.cells] using hbb5.fr fE (by simpa using nbl)
  · simpa [Value.cells] using hb5.fr fE (by simpa using nb1l)
  · exact ((h3.fr f4 (blk_of_ne fun k kk hm => npb (by simp at hm; subst hm; exact kk))).fr f5 (blk_of_ne fun k kk hm => npb1 (by simp at hm; subst hm; exact kk))).fr fE (blk_of_ne fun k kk hm => npl (by simp at hm; subst hm; exact kk))
  · exact ((h3'.fr f4 (blk_of_ne fun k kk hm => npb' (by simp at hm; subst hm; exact kk))).fr f5 (blk_of_ne fun k kk hm => npb1' (by simp at hm; subst hm; exact kk))).fr fE (blk_of_ne fun k kk hm => npl' (by simp at hm; subst hm; exact kk))
  · intro k hk
    have : k ∈ [b, b1, l, D] ∨ k ∈ blkL p ∨ k ∈ blkL p' := by simpa [or_assoc] using hk
    rcases this with h | h | h
    · exact h5 k (List.mem_append_left (blkL a ++ blkL a') h)
    · exact (h3.ge k h).1
    · exact (h3'.ge k h).1
  · intro k hk
    have : k ∈ [b, b1, l, D] ∨ k ∈ blkL p ∨ k ∈ blkL p' := by simpa [or_assoc] using hk
    rcases this with h | h | h
    · exact .inl (List.mem_append_left (blkL a ++ blkL a') h)
    · exact (g k h).imp (fun h => by simp [h]) id
    · exact (g' k h).imp (fun h => by simp [h]) id
  · intro k hk
    have e5 := f25.size
    have e35 := Nat.le_trans f4.size f5.size
    have : k ∈ [b, b1, l, D] ∨ k ∈ blkL p ∨ k ∈ blkL p' := by simpa [or_assoc] using hk
    rcases this with h | h | h
    · have := hX k h; omega
    · have := (h3.ge k h).2; omega
    · have := (h3'.ge k h).2; omega

section
variable {xs : List Smp} {b b1 l D i : Nat} {R0 : Loop} {H0 H2 Hx : Heap} {S : List Nat} {a : Option Addr} {n c : Nat} {a' : Option Addr} {n' c' : Nat} {K2 : Value → Heap → Prop}
theorem two_keep (hS : S = b :: b1 :: l :: D :: (blkL a ++ blkL a')) (nd : S.Nodup) (ho : Own encN 89 H0.size H2 a n c ((tsL xs).take i)) (ho' : Own encN 89 H0.size H2 a' n' c' ((vsL xs).take i)) (hb1 : Blk H2 ⟨b1, 0, none⟩ [.slice a' n' c']) (hb : Blk H2 ⟨b, 0, none⟩ [.slice a n c])
    (hx : Fr [] (setLp H2 l R0 .busy none) Hx) : Own encN 89 H0.size Hx a n c ((tsL xs).take i) ∧ Own encN 89 H0.size Hx a' n' c' ((vsL xs).take i) ∧ Blk Hx ⟨b1, 0, none⟩ [.slice a' n' c'] ∧ Blk Hx ⟨b, 0, none⟩ [.slice a n c] ∧ (∀ k ∈ blkL a, k ∉ blkL a') ∧ b1 ∉ blkL a ∧ b1 ∉ blkL a' := by
  subst hS
  have fL := setLp_fr H2 l R0 .busy none
  have q := nd
  simp only [List.nodup_cons, List.mem_cons, not_or, List.mem_append] at q
  obtain ⟨⟨nbb1, nbl, nbD, nb, nb'⟩, ⟨nb1l, nb1D, nb1, nb1'⟩, ⟨nlD, nl, nl'⟩, _, q5⟩ := q
  refine ⟨(ho.fr fL (blk_of_ne fun k kk hm => nl (by simp at hm; subst hm; exact kk))).keep hx, (ho'.fr fL (blk_of_ne fun k kk hm => nl' (by simp at hm; subst hm; exact kk))).keep hx, (hb1.fr fL (by simpa using nb1l)).keep hx, (hb.fr fL (by simpa using nbl)).keep hx, fun k h1 h2 => ?_, nb1, nb1'⟩
  exact (List.nodup_append.1 q5).2.2 k h1 k h2 rfl
theorem two_app (h : Two xs b b1 l D R0 H0 i S H2) (hin : In H2 S) (hS : S = b :: b1 :: l :: D :: (blkL a ++ blkL a')) (nd : S.Nodup) (ho : Own encN 89 H0.size H2 a n c ((tsL xs).take i)) (ho' : Own encN 89 H0.size H2 a' n' c' ((vsL xs).take i)) (hb : Blk H2 ⟨b, 0, none⟩ [.slice a n c]) (hb1 : Blk H2 ⟨b1, 0, none⟩ [.slice a' n' c'])
    (hi : i + 1 < xs.length) (hP : SmpP xs) (hx : Fr [] (setLp H2 l R0 .busy none) Hx) {p1 p2 : Nat} (s1 : Sl encN Hx (some ⟨p1, 0, none⟩) 1 1 [tN xs i]) (s2 : Sl encN Hx (some ⟨p2, 0, none⟩) 1 1 [vN xs i]) (hp2 : H2.size ≤ p2)
    (hk : ∀ H4, (∃ S2, Two xs b b1 l D R0 H0 (i + 1) S2 H4 ∧ Fr S H2 H4 ∧ Grow H2 S S2 ∧ In H4 S2) → K2 (.bool true) H4) :
    SemWp Tryz.prog (Builtin.append_ ⟨[138, 138]⟩ 138 ⟨[.slice a n c, .slice (some ⟨p1, 0, none⟩) 1 1]⟩) Hx fun v H' => ∃ p m d, v = .slice p m d ∧ lD 138 H' ⟨b1, 0, none⟩ (.slice a' n' c') ∧
      SemWp Tryz.prog (Builtin.append_ ⟨[138, 138]⟩ 138 ⟨[.slice a' n' c', .slice (some ⟨p2, 0, none⟩) 1 1]⟩) H' fun v H' => ∃ p' m' d', v = .slice p' m' d' ∧
        ∃ H4, sT 138 H' ⟨b, 0, none⟩ (.slice p m d) H4 ∧ ∃ H5, sT 138 H4 ⟨b1, 0, none⟩ (.slice p' m' d') H5 ∧ Lp H5 l R0 .busy none ∧ K2 (.bool true) (setLp H5 l R0 .ready none) := by
  obtain ⟨k1, k2, k3, _, k5, k6, k7⟩ := two_keep hS nd ho ho' hb1 hb hx
  have sL := setLp_size H2 l R0 .busy none
  have sx := hx.size
  have hlen := hP.len
  have l1 := ho.1
  have l2 := ho'.1
  rw [List.length_take] at l1 l2
  have hbase : H0.size ≤ Hx.size := by have := h.fr.size; omega
  refine ap_grow slice138 elem89 k1 s1 hbase (by omega) fun p m d H3 h3 f3 g3 => ⟨(k3.fr f3 k6).ld0 (by kernel_rfl) rfl, ?_⟩
  have k2' := k2.fr f3 (blk_of_ne fun k kk hm => k5 k hm kk)
  have hinA : In H2 (blkL a) := fun k hk => hin k (by rw [hS]; simp [hk])
  have hinB : In H2 (blkL a') := fun k hk => hin k (by rw [hS]; simp [hk])
  have s2' := s2.fr f3 fun ad e hm => by cases e; have := hinA _ hm; simp at this; omega
  refine ap_grow slice138 elem89 k2' s2' (by have := f3.size; omega) (by omega) fun p' m' d' H4 h4 f4 g4 => ?_
  have gA : ∀ k ∈ blkL p, k ∈ blkL a ∨ H2.size ≤ k := fun k hk => (g3 k hk).imp id fun h => by omega
  have gB : ∀ k ∈ blkL p', k ∈ blkL a' ∨ H2.size ≤ k := fun k hk => (g4 k hk).imp id fun h => by have := f3.size; omega
  have pA : ∀ k ∈ blkL p, k ∉ blkL a' := fun k hk hk2 => (gA k hk).elim (fun h => k5 k h hk2) fun h => by have := hinB k hk2; omega
  have t1 := tsL_get hi
  have t2 := vsL_get hi
  refine two_done h hin hS hb hb1 (p := p) (m := m) (d := d) (p' := p') (m' := m') (d' := d') ?_ ?_ ?_ gA gB (fun k hk hk2 hge => ?_) hk
  · have := h3.fr f4 (blk_of_ne pA)
    rw [List.take_add_one, t1]; exact this
  · rw [List.take_add_one, t2]; exact h4
  · have f13 : Fr (blkL a ++ blkL a') (setLp H2 l R0 .busy none) H3 := hx.trans' f3 (by simp) fun k hk _ => List.mem_append_left _ hk
    exact f13.trans' f4 (fun k hk _ => hk) fun k hk _ => List.mem_append_right _ hk
  · rcases g4 k hk2 with h5 | h5
    · have := hinB k h5; omega
    · have := (h3.ge k hk).2; omega
theorem two_app1 (h : Two xs b b1 l D R0 H0 i S H2) (hin : In H2 S) (hS : S = b :: b1 :: l :: D :: (blkL a ++ blkL a')) (nd : S.Nodup) (ho : Own encN 89 H0.size H2 a n c ((tsL xs).take i)) (ho' : Own encN 89 H0.size H2 a' n' c' ((vsL xs).take i)) (hb : Blk H2 ⟨b, 0, none⟩ [.slice a n c]) (hb1 : Blk H2 ⟨b1, 0, none⟩ [.slice a' n' c'])
    (hi : i + 1 < xs.length) (hP : SmpP xs) (hx : Fr [] (setLp H2 l R0 .busy none) Hx) {p1 : Nat} (s1 : Sl encN Hx (some ⟨p1, 0, none⟩) 1 1 [tN xs i])
    (hk : ∀ H4, (∃ S2, Two xs b b1 l D R0 H0 (i + 1) S2 H4 ∧ Fr S H2 H4 ∧ Grow H2 S S2 ∧ In H4 S2) → K2 (.bool true) H4) :
    SemWp Tryz.prog (Builtin.append_ ⟨[138, 138]⟩ 138 ⟨[.slice a n c, .slice (some ⟨p1, 0, none⟩) 1 1]⟩) Hx fun v H' => ∃ p m d, v = .slice p m d ∧ lD 138 H' ⟨b1, 0, none⟩ (.slice a' n' c') ∧
      ∀ (b3 : Nat) (H'_2 : Heap), New H' b3 (.cells ⟨[.int .u64 (vN xs i : Nat)]⟩ 89) H'_2 → lD 138 H'_2 ⟨b1, 0, none⟩ (.slice a' n' c') ∧
      SemWp Tryz.prog (Builtin.append_ ⟨[138, 138]⟩ 138 ⟨[.slice a' n' c', .slice (some ⟨b3, 0, none⟩) 1 1]⟩) H'_2 fun v H' => ∃ p' m' d', v = .slice p' m' d' ∧
        ∃ H4, sT 138 H' ⟨b, 0, none⟩ (.slice p m d) H4 ∧ ∃ H5, sT 138 H4 ⟨b1, 0, none⟩ (.slice p' m' d') H5 ∧ Lp H5 l R0 .busy none ∧ K2 (.bool true) (setLp H5 l R0 .ready none) := by
  obtain ⟨k1, k2, k3, _, k5, k6, k7⟩ := two_keep hS nd ho ho' hb1 hb hx
  have sL := setLp_size H2 l R0 .busy none
  have sx := hx.size
  have hlen := hP.len
  have l1 := ho.1
  have l2 := ho'.1
  rw [List.length_take] at l1 l2
  have hbase : H0.size ≤ Hx.size := by have := h.fr.size; omega
  refine ap_grow slice138 elem89 k1 s1 hbase (by omega) fun p m d H3 h3 f3 g3 => ⟨(k3.fr f3 k6).ld0 (by kernel_rfl) rfl, fun b3 H3' hn3 => ⟨((k3.fr f3 k6).keep hn3.fr).ld0 (by kernel_rfl) rfl, ?_⟩⟩
  have k2' := (k2.fr f3 (blk_of_ne fun k kk hm => k5 k hm kk)).keep hn3.fr
  have h3' := h3.keep hn3.fr
  have sn := hn3.size
  have hinA : In H2 (blkL a) := fun k hk => hin k (by rw [hS]; simp [hk])
  have hinB : In H2 (blkL a') := fun k hk => hin k (by rw [hS]; simp [hk])
  refine ap_grow slice138 elem89 k2' (sl_one encN (vN xs i) hn3 rfl) (by have := f3.size; omega) (by omega) fun p' m' d' H4 h4 f4 g4 => ?_
  have gA : ∀ k ∈ blkL p, k ∈ blkL a ∨ H2.size ≤ k := fun k hk => (g3 k hk).imp id fun h => by omega
  have gB : ∀ k ∈ blkL p', k ∈ blkL a' ∨ H2.size ≤ k := fun k hk => (g4 k hk).imp id fun h => by have := f3.size; omega
  have pA : ∀ k ∈ blkL p, k ∉ blkL a' := fun k hk hk2 => (gA k hk).elim (fun h => k5 k h hk2) fun h => by have := hinB k hk2; omega
  have t1 := tsL_get hi
  have t2 := vsL_get hi
  refine two_done h hin hS hb hb1 (p := p) (m := m) (d := d) (p' := p') (m' := m') (d' := d') ?_ ?_ ?_ gA gB (fun k hk hk2 hge => ?_) hk
  · have := h3'.fr f4 (blk_of_ne pA)
    rw [List.take_add_one, t1]; exact this
  · rw [List.take_add_one, t2]; exact h4
  · have f13 : Fr (blkL a ++ blkL a') (setLp H2 l R0 .busy none) H3 := hx.trans' f3 (by simp) fun k hk _ => List.mem_append_left _ hk
    exact (f13.trans' hn3.fr (fun k hk _ => hk) (by simp)).trans' f4 (fun k hk _ => hk) fun k hk _ => List.mem_append_right _ hk
  · rcases g4 k hk2 with h5 | h5
    · have := hinB k h5; omega
    · have := (h3.ge k hk).2; omega
end

theorem str_app {s t : ByteArray} {x y : List UInt8} (hs : bl s = x) (ht : bl t = y) : s ++ t = ⟨(x ++ y).toArray⟩ := bl_inj (by rw [bl_app, hs, ht, bl_mk])
theorem mk_app (x y : List UInt8) : (⟨x.toArray⟩ : ByteArray) ++ ⟨y.toArray⟩ = ⟨(x ++ y).toArray⟩ := str_app (bl_mk x) (bl_mk y)
theorem tN_all {xs : List Smp} (h : SmpP xs) : ∀ x ∈ tsL xs, x < 18446744073709551616 := fun x hx => by
  unfold tsL at hx
  obtain ⟨i, hi, rfl⟩ := List.mem_map.1 hx
  exact h.tN (by have := List.mem_range.1 hi; omega)
theorem vN_all (xs : List Smp) : ∀ x ∈ vsL xs, x < 18446744073709551616 := fun x hx => by
  unfold vsL at hx
  obtain ⟨i, hi, rfl⟩ := List.mem_map.1 hx
  exact vN_lt _ _
theorem pack_le (l : List Bool) : (pack l).length ≤ l.length := pack_len l
theorem headL_len {xs : List Smp} (h : SmpP xs) : (headL xs).length ≤ 20 := by
  cases xs with
  | nil => simp [headL]
  | cons x l =>
    unfold headL
    rw [List.length_append]
    have h1 := (h.lo x (by simp))
    have h2 := uintL_len10 (n := x.1.toNat) (by omega)
    have h3 := uintL_len10 (foldN_lt (h.v x (by simp)))
    unfold intL; omega
theorem byteOf {k : Nat} (h : k ≤ 40) : IntKind.wrap .u8 ((k : Nat) : Int) = ((UInt8.ofNat k).toNat : Int) := by
  rw [wrapU8 (Int.natCast_nonneg _), UInt8.toNat_ofNat']; omega
theorem ab_str {A B b : Nat} {H H' H2 : Heap} {K : ByteArray → Heap → Prop} (hA : A ≤ 40) (hB : B ≤ 40) (hn : New H b (.cells ⟨[.int .u8 (IntKind.wrap .u8 ((A : Nat) : Int)), .int .u8 (IntKind.wrap .u8 ((B : Nat) : Int))]⟩ 5) H') {S : List Nat} (hf : Fr S H' H2) (hS : In H S) (hk : K ⟨[UInt8.ofNat A, UInt8.ofNat B].toArray⟩ H2) :
    SemWp Tryz.prog (convert 81 9 (.slice (some ⟨b, 0, none⟩) 2 2)) H2 fun v H' => ∃ s, v = .string s ∧ K s H' := by
  rw [byteOf hA, byteOf hB] at hn
  have hs : Sl encByte H' (some ⟨b, 0, none⟩) 2 2 [UInt8.ofNat A, UInt8.ofNat B] := by
    refine ⟨rfl, Nat.le_refl _, .inr ⟨b, 0, rfl, fun i x hx j v hv => ?_⟩⟩
    rw [cell_of_blk hn.get]
    match i, hx with
    | 0, hx => cases hx; match j, hv with | 0, hv => cases hv; rfl
    | 1, hx => cases hx; match j, hv with | 0, hv => cases hv; rfl
  refine cv_bs (e := 5) slice81 bT.str (by kernel_rfl) (hs.fr hf fun ad e hm => ?_) hk
  cases e
  have := hS _ hm
  have := hn.eq
  simp at *
  omega
def TwoK (xs : List Smp) (b b1 l D : Nat) (R0 : Loop) (H0 : Heap) (i : Nat) (S : List Nat) (H : Heap) (v : Value) (H' : Heap) : Prop := v = .bool true ∧ ∃ S2, Two xs b b1 l D R0 H0 (i + 1) S2 H' ∧ Fr S H H' ∧ Grow H S S2 ∧ In H' S2
theorem Encode_ok {H : Heap} {a : Option Addr} {n c : Nat} {xs : List Smp} {K : ByteArray → Int → Heap → Prop} (hx : Sl encS H a n c xs) (hv : ∀ x ∈ xs, I64 x.2) (hn : n ≤ 1000000000)
    (hbig : 5000 < n → K ⟨#[]⟩ 1 H) (hbad : n ≤ 5000 → ¬ SmpP xs → ∀ H', Fr [] H H' → K ⟨#[]⟩ 30 H') (hok : SmpP xs → ∀ H', Fr [] H H' → K ⟨(encD xs).toArray⟩ 0 H') :
    CallH Tryz.prog fn_delta_Encode ⟨[.slice a n c]⟩ H fun v H' => ∃ s e, v = .tuple ⟨[.string s, .int .i64 e]⟩ ∧ K s e H' := by
  apply vc_delta_Encode
  have hlen := hx.len
  refine brB_of (fun h => ⟨_, _, rfl, hbig (by simp at h; omega)⟩) (fun h => ?_)
  have hn5 : n ≤ 5000 := by simp at h; omega
  clear h
  refine ⟨fun vs H' => match vs with | [.int _ last, .int _ i] => ∃ j : Nat, i = j ∧ j ≤ n ∧ last = (if j = 0 then -1 else tAt xs (j - 1)) ∧ okTo xs j ∧ Fr [] H H' | _ => False, fun vs _ => match vs with | [_, .int _ i] => n - i.toNat | _ => 0,
    ⟨0, rfl, by omega, rfl, okTo_zero _, Fr.refl _ _⟩, ?_⟩
  rintro J last i H1 ⟨j, rfl, hj, rfl, hok1, f1⟩
  refine brB_of (fun hlt => ?_) (fun hge => ?_)
  · have hlt : j < n := by simp at hlt; omega
    have hs := smp_at (l := xs) (i := j) (by omega)
    refine (hx.keep f1).get rfl hs (decide_eq_true (by omega)) fun ad ea hc => ⟨_, _, ldS hc, ?_⟩
    refine var_blk (by kernel_rfl) (by kernel_rfl) pair_one (by rfl) fun v H2 hvl hvb fv => ⟨_, hvb.ld0 (by kernel_rfl) rfl, ?_⟩
    have f2 := f1.keep0 fv
    have hlast : -1 ≤ (if j = 0 then (-1 : Int) else tAt xs (j - 1)) := by
      split
      · omega
      · have := (hok1 (j - 1) (by omega)).1; omega
    refine brB_of (fun h => ⟨_, _, rfl, hbad hn5 (fun hP => ?_) H2 f2⟩) (fun h => ⟨_, hvb.ld0 (by kernel_rfl) rfl, brB_of (fun h2 => ⟨_, _, rfl, hbad hn5 (fun hP => ?_) H2 f2⟩) fun h2 => ⟨_, hvb.ld0 (by kernel_rfl) rfl, ?_⟩⟩)
    · have h := of_decide_eq_true h
      have h3 := hP.okTo j (by omega)
      split at h
      · simp only at h; omega
      · have := h3.2 (by omega); simp only at h; omega
    · have h2 := of_decide_eq_true h2
      have h3 := hP.okTo j (by omega)
      simp only at h2; omega
    · have h := of_decide_eq_false h
      have h2 := of_decide_eq_false h2
      simp only at h h2
      rw [succ64 (by omega)]
      have hmu : n - ((j + 1 : Nat) : Int).toNat < n - ((j : Nat) : Int).toNat := by omega
      refine ⟨⟨j + 1, rfl, by omega, by rw [if_neg (by omega)]; rfl, okTo_succ hok1 ⟨by omega, by omega⟩ (fun h0 => ?_), f2⟩, hmu⟩
      rw [if_neg (by omega)] at h
      omega
  · have : j = n := by simp at hge; omega
    subst this
    have hP : SmpP xs := smpP_of (by omega) (by rw [← hlen]; exact hok1) hv
    have hok := hok hP
    rw [nat_wrapU (n := j) (by omega)]
    refine Uint_ok (by omega) fun H2 g2 => ?_
    have f2 := f1.keep0 g2
    refine brB_of (fun hpos => ?_) (fun hz => ?_)
    · have hpos : 0 < j := by simp at hpos; omega
      have hs := smp_at (l := xs) (i := 0) (by omega)
      have h0 := hP.at (i := 0) (by omega)
      refine (hx.keep f2).get (k := 0) rfl hs (decide_eq_true (by omega)) fun ad ea hc => ⟨tAt xs 0, by have := ldT hc; simpa [Addr.add] using this, ?_⟩
      refine (hx.keep f2).get (k := 0) rfl hs (decide_eq_true (by omega)) fun ad2 ea2 hc2 => ⟨vAt xs 0, by have := ld_part (P := Tryz.prog) (t := 3) (by kernel_rfl) hc2 (j := 1) rfl; simpa [Addr.add] using this, ?_⟩
      have eT : tAt xs 0 = (((tAt xs 0).toNat : Nat) : Int) := by omega
      rw [show IntKind.wrap .u64 (tAt xs 0) = IntKind.wrap .u64 (((tAt xs 0).toNat : Nat) : Int) by rw [← eT], nat_wrapU (n := (tAt xs 0).toNat) (by omega)]
      refine Uint_ok (by omega) fun H3 g3 => ⟨by have := ld_part (P := Tryz.prog) (t := 3) (by kernel_rfl) (hc2.keep g3) (j := 1) rfl; simpa [Addr.add] using this, ?_⟩
      have f3 := f2.keep0 g3
      refine Int_ok h0.2 fun H4 g4 => ?_
      have f4 := f3.keep0 g4
      have z1 := uintL_len10 (n := j) (by omega)
      have z2 := uintL_len10 (n := (tAt xs 0).toNat) (by omega)
      have z3 := uintL_len10 (foldN_lt h0.2)
      have ehd : headL xs = uintL (tAt xs 0).toNat ++ intL (vAt xs 0) := by
        cases xs with
        | nil => simp at hs
        | cons x l => rfl
      have ej : uintL j = uintL xs.length := by rw [← hlen]
      rw [mk_app, mk_app, ← ehd, ej]
      rw [ej] at z1
      have zh := headL_len hP
      refine chk_true (decide_eq_true (by rw [size_mk, size_mk]; unfold intL; omega)) (chk_true (decide_eq_true (by rw [size_mk, size_mk]; omega)) (brB_of (fun h1 => ⟨_, _, rfl, ?_⟩) (fun h1 => ?_)))
      · have : tailL xs = [] := by unfold tailL; rw [if_pos (by simp at h1; omega)]
        have e : encD xs = uintL xs.length ++ headL xs := by unfold encD; rw [this, List.append_nil]
        rw [← e]
        exact hok _ f4
      · have h2 : 2 ≤ xs.length := by simp at h1; omega
        intro b H5 hn5' b1 H6 hn6
        apply vc_delta_numbers
        intro b2 H7 hn7
        refine ⟨_, rfl, fun D l R0 H8 hnl hY => ?_⟩
        obtain ⟨f78, lp8, dq8, eD, el, s8⟩ := hnl.out
        have eb := hn5'.eq
        have eb1 := hn6.eq
        have eb2 := hn7.eq
        have s5 := hn5'.size
        have s6 := hn6.size
        have s7 := hn7.size
        have g48 : Fr [] H4 H8 := ((hn5'.fr.keep0 hn6.fr).keep0 hn7.fr).keep0 f78
        have f8 := f4.keep0 g48
        have hbk := ((hn5'.blk.keep hn6.fr).keep hn7.fr).keep f78
        have hbk1 := (hn6.blk.keep hn7.fr).keep f78
        have hbk2 := hn7.blk.keep f78
        have nd0 : (b :: b1 :: l :: D :: (blkL (none : Option Addr) ++ blkL (none : Option Addr))).Nodup := by
          simp only [List.nodup_cons, List.mem_cons, blkL, List.append_nil, List.not_mem_nil, or_false, not_or]
          refine ⟨⟨by omega, by omega, by omega⟩, ⟨by omega, by omega⟩, by omega, by simp, List.nodup_nil⟩
        have hlo : ∀ k ∈ [b, b1, l, D], H4.size ≤ k ∧ k < H8.size ∧ k ≠ b2 := fun k hk => by
          simp only [List.mem_cons, List.mem_nil_iff, or_false] at hk
          omega
        have hxa : ∀ k ∈ blkL a, k < H.size := fun k hk => by
          cases a with
          | none => simp [blkL] at hk
          | some ad =>
            simp [blkL] at hk
            obtain ⟨bb, off, e1, e2⟩ := hx.arr.lt (by intro e; rw [e] at h2; simp at h2)
            cases e1
            simp at hk
            omega
        have s4 := f4.size
        refine CallV.mono (numbers_ok (K := fun H9 => ∃ S1, Two xs b b1 l D R0 H4 (j - 1) S1 H9 ∧ In H9 S1 ∧ Fr [] H4 H9) hbk2 (hx.keep f8) hP (by omega) (S := [b, b1, l, D]) (fun k hk => (hlo k hk).2.1) ⟨fun hk => (hlo b2 hk).2.2 rfl, fun k hk hk2 => by
            have := hxa k hk
            have := (hlo k hk2).1
            omega⟩ (I := Two xs b b1 l D R0 H4) ?_ ⟨Two.stab, ?_⟩ (fun S1 H9 hT hin hf hg => ⟨S1, hT, hin, g48.keep hf fun k hk => (hlo k hk).1⟩)) fun v H9 => ?_
        · exact ⟨g48, lp8, dq8, ⟨none, 0, 0, none, 0, 0, hbk, hbk1, Own.nil .., Own.nil .., rfl, nd0⟩, fun k hk => (hlo k hk).1⟩
        · intro i S H9 hi hin hT
          have hT' := hT
          obtain ⟨t1, t2, t3, ⟨p, m, d, p', m', d', q1, q2, q3, q4, q5, q6⟩, t5⟩ := hT'
          have nbl : b ≠ l := by rw [q5] at q6; simp only [List.nodup_cons, List.mem_cons, not_or] at q6; exact q6.1.2.1
          have nb1l : b1 ≠ l := by rw [q5] at q6; simp only [List.nodup_cons, List.mem_cons, not_or] at q6; exact q6.2.1.1
          have fL := setLp_fr H9 l R0 .busy none
          have sL := setLp_size H9 l R0 .busy none
          have hbL := q1.fr fL (by simpa using nbl)
          have hb1L := q2.fr fL (by simpa using nb1l)
          have ld := fun {H' : Heap} (hf : Fr [] (setLp H9 l R0 .busy none) H') => (hbL.keep hf).ld0 (P := Tryz.prog) (t := 138) (by kernel_rfl) rfl
          have ld1 := fun {H' : Heap} (hf : Fr [] (setLp H9 l R0 .busy none) H') => (hb1L.keep hf).ld0 (P := Tryz.prog) (t := 138) (by kernel_rfl) rfl
          have hk : ∀ H4', (∃ S2, Two xs b b1 l D R0 H4 (i + 1) S2 H4' ∧ Fr S H9 H4' ∧ Grow H9 S S2 ∧ In H4' S2) → TwoK xs b b1 l D R0 H4 i S H9 (.bool true) H4' := fun H4' h => ⟨rfl, h⟩
          refine hY _ _ H9 (TwoK xs b b1 l D R0 H4 i S H9) t2 ⟨t2, p, m, d, ld (Fr.refl _ _), p', m', d', ld1 (Fr.refl _ _), ?_, ?_⟩
          · intro b3 H10 hn10
            have f10 := hn10.fr
            refine ⟨ld1 f10, ld f10, ?_, ?_⟩
            · exact two_app1 hT hin q5 q6 q3 q4 q1 q2 (by omega) hP f10 (sl_one encN (tN xs i) hn10 rfl) hk
            · intro b4 H11 hn11
              have f11 := f10.keep0 hn11.fr
              exact ⟨ld1 f11, ld f11, two_app hT hin q5 q6 q3 q4 q1 q2 (by omega) hP f11 ((sl_one encN (tN xs i) hn10 rfl).keep hn11.fr) (sl_one encN (vN xs i) hn11 rfl) (by have := hn11.eq; have := hn10.size; omega) hk⟩
          · intro b3 H10 hn10
            have f10 := hn10.fr
            refine ⟨ld1 f10, ld f10, ?_⟩
            intro b4 H11 hn11
            have f11 := f10.keep0 hn11.fr
            exact ⟨ld1 f11, ld f11, two_app hT hin q5 q6 q3 q4 q1 q2 (by omega) hP f11 (sl_one encN (tN xs i) hn11 rfl) ((sl_one encN (vN xs i) hn10 rfl).keep hn11.fr) (by have := hn10.eq; omega) hk⟩
        · rintro ⟨rfl, S1, hT, hin9, f9⟩
          obtain ⟨t1, t2, t3, ⟨p, m, d, p', m', d', q1, q2, q3, q4, q5, q6⟩, t5⟩ := hT
          have hj1 : j - 1 = (tsL xs).length := by rw [tsL_len]; omega
          have hj2 : j - 1 = (vsL xs).length := by rw [vsL_len]; omega
          rw [List.take_of_length_le (by omega)] at q3 q4
          have q7 := q6
          rw [q5] at q7
          simp only [List.nodup_cons, List.mem_cons, not_or, List.mem_append] at q7
          obtain ⟨⟨nbb1, nbl, nbD, nb, nb'⟩, ⟨nb1l, nb1D, nb1, nb1'⟩, ⟨nlD, nl, nl'⟩, _, _⟩ := q7
          have fE := setLp_fr H9 l R0 .exhausted none
          generalize hHx : setLp H9 l R0 .exhausted none = Hx at *
          have hbX := q1.fr fE (by simpa using nbl)
          have hb1X := q2.fr fE (by simpa using nb1l)
          have dqX := t3.fr fE (by simpa using fun e => nlD e.symm)
          have oX := q3.fr fE (blk_of_ne fun k kk hm => nl (by simp at hm; subst hm; exact kk))
          have oX' := q4.fr fE (blk_of_ne fun k kk hm => nl' (by simp at hm; subst hm; exact kk))
          have fX : Fr [] H4 Hx := f9.keep fE fun k hk => by simp at hk; subst hk; exact t5 _ (by rw [q5]; simp)
          have hm := oX.1
          have hm' := oX'.1
          rw [tsL_len] at hm
          rw [vsL_len] at hm'
          refine .inl ⟨t2, p, m, d, hbX.ld0 (by kernel_rfl) rfl, p', m', d', hb1X.ld0 (by kernel_rfl) rfl, ?_⟩
          refine Best_ok oX.sl (tN_all hP) (by omega) fun H10 f10 => ⟨(hb1X.keep f10).ld0 (by kernel_rfl) rfl, ?_⟩
          refine Best_ok (oX'.keep f10).sl (vN_all xs) (by omega) fun H11 f11 => ?_
          refine New02_ok fun w H12 hw hW f12 => ?_
          have fX12 : Fr [] Hx H12 := (f10.keep0 f11).keep0 f12
          refine ⟨p, m, d, (hbX.keep fX12).ld0 (by kernel_rfl) rfl, ?_⟩
          have hA := bestN_le (tsL xs)
          have hB := bestN_le (vsL xs)
          have sX11 := (f10.keep0 f11).size
          refine ⟨fun vs H' => match vs with | [.int _ i] => ∃ (q : Nat) (S' : List Nat), i = q ∧ q ≤ j - 1 ∧ WrH H' w S' (bitsTo xs (bestN (tsL xs)) (bestN (vsL xs)) q) ∧ Fr [] Hx H' ∧ (∀ k ∈ S', Hx.size ≤ k) ∧ In H' S' | _ => False, fun vs _ => match vs with | [.int _ i] => j - i.toNat | _ => 0,
            ⟨0, [w], rfl, by omega, hW, fX12, fun k hk => by simp at hk; omega, fun k hk => by
              simp at hk; subst hk
              obtain ⟨_, _, _, _, _, hh⟩ := hW.it
              obtain ⟨_, _, _, _, _, hh, _⟩ := hh.it
              exact lt_of_get hh⟩, ?_⟩
          rintro J2 i H13 ⟨q, S', rfl, hq, hWq, fq, hSq, hiq⟩
          have hbl := bitsTo_len xs hA hB q
          refine brB_of (fun hlt => ?_) (fun hge => ?_)
          · have hqm : q < m := by simp at hlt; omega
            refine (oX.keep fq).idx rfl (tsL_get (l := xs) (i := q) (by omega)) (decide_eq_true (by omega)) fun ad3 ea3 hc3 => ⟨_, ld_one (by kernel_rfl) hc3, ?_⟩
            refine WRice_ok hWq rfl rfl hA (hP.tN (by omega)) (by omega) fun H14 S14 hW14 f14 g14 => ?_
            have fq14 : Fr [] Hx H14 := fq.keep f14 hSq
            refine ⟨p', m', d', (hb1X.keep fq14).ld0 (by kernel_rfl) rfl, ?_⟩
            refine (oX'.keep fq14).idx rfl (vsL_get (l := xs) (i := q) (by omega)) (decide_eq_true (by omega)) fun ad4 ea4 hc4 => ⟨_, ld_one (by kernel_rfl) hc4, ?_⟩
            have hcl := codeB_le (n := tN xs q) hA
            have hs14 : ∀ k ∈ S14, Hx.size ≤ k := fun k hk => (g14 k hk).elim (hSq k) fun h => by have := fq.size; omega
            refine WRice_ok hW14 rfl rfl hB (vN_lt _ _) (by rw [List.length_append]; omega) fun H15 S15 hW15 f15 g15 => ?_
            rw [succ64 (by omega)]
            have hmu : j - ((q + 1 : Nat) : Int).toNat < j - ((q : Nat) : Int).toNat := by omega
            refine ⟨⟨q + 1, S15, rfl, by omega, by rw [bitsTo_succ, ← List.append_assoc]; exact hW15, fq14.keep f15 hs14, fun k hk => (g15 k hk).elim (hs14 k) fun h => by have := fq14.size; omega, ?_⟩, hmu⟩
            obtain ⟨_, _, _, _, _, hB15⟩ := hW15.it
            obtain ⟨_, _, _, _, _, hg15, _, ho, eS, _⟩ := hB15.it
            intro k hk
            rw [eS] at hk
            rcases List.mem_cons.1 hk with e | hk
            · rw [e]; exact lt_of_get hg15
            · exact (ho.ge k hk).2
          · have : q = j - 1 := by simp at hge; omega
            subst this
            have zt : tailL xs = UInt8.ofNat (bestN (tsL xs)) :: UInt8.ofNat (bestN (vsL xs)) :: pack (bitsTo xs (bestN (tsL xs)) (bestN (vsL xs)) (j - 1)) := by
              unfold tailL; rw [if_neg (by omega), hlen]
            have ze : (⟨(uintL xs.length ++ headL xs).toArray⟩ : ByteArray) ++ ⟨[UInt8.ofNat (bestN (tsL xs)), UInt8.ofNat (bestN (vsL xs))].toArray⟩ ++ ⟨(pack (bitsTo xs (bestN (tsL xs)) (bestN (vsL xs)) (j - 1))).toArray⟩ = ⟨(encD xs).toArray⟩ := by
              rw [mk_app, mk_app]
              unfold encD
              rw [zt]; simp
            have zp := pack_le (bitsTo xs (bestN (tsL xs)) (bestN (vsL xs)) (j - 1))
            have zz : (uintL xs.length ++ headL xs).length ≤ 30 := by rw [List.length_append]; omega
            have zs1 : (⟨(uintL xs.length ++ headL xs).toArray⟩ : ByteArray).size + (⟨[UInt8.ofNat (bestN (tsL xs)), UInt8.ofNat (bestN (vsL xs))].toArray⟩ : ByteArray).size ≤ 9223372036854775807 := by
              rw [size_mk, size_mk]; simp only [List.length_cons, List.length_nil]; omega
            have zs2 : ((⟨(uintL xs.length ++ headL xs).toArray⟩ : ByteArray) ++ ⟨[UInt8.ofNat (bestN (tsL xs)), UInt8.ofNat (bestN (vsL xs))].toArray⟩).size + (⟨(pack (bitsTo xs (bestN (tsL xs)) (bestN (vsL xs)) (j - 1))).toArray⟩ : ByteArray).size ≤ 9223372036854775807 := by
              rw [mk_app, size_mk, size_mk, List.length_append]; simp only [List.length_cons, List.length_nil]; omega
            have fin : ∀ H', Fr [] Hx H' → Dq H' D ∧ ∃ s e, Value.tuple ⟨[.string (⟨(uintL xs.length ++ headL xs).toArray⟩ ++ ⟨[UInt8.ofNat (bestN (tsL xs)), UInt8.ofNat (bestN (vsL xs))].toArray⟩ ++ ⟨(pack (bitsTo xs (bestN (tsL xs)) (bestN (vsL xs)) (j - 1))).toArray⟩), .int .i64 0]⟩ = .tuple ⟨[.string s, .int .i64 e]⟩ ∧ K s e (shutD H' D) := fun H' hf => by
              refine ⟨dqX.fr hf (by simp), _, _, rfl, ?_⟩
              rw [ze]
              exact hok _ ((f4.keep0 (fX.keep0 hf)).keep (shutD_fr H' D) fun k hk => by simp at hk; omega)
            refine ⟨fun b5 H14 hn14 => ⟨?_, ?_⟩, ?_⟩
            · refine ab_str hA hB hn14 (S := []) (Fr.refl _ _) (fun k hk => by simp at hk) (chk_true (decide_eq_true zs1) ?_)
              refine Bytes_ok ⟨hWq.it.imp fun _ h => h.imp fun _ h => ⟨h.1, h.2.1, h.2.2.1, h.2.2.2.keep hn14.fr⟩⟩ (by omega) fun H15 f15 => chk_true (decide_eq_true zs2) (fin H15 ((fq.keep0 hn14.fr).keep f15 hSq))
            · refine Bytes_ok ⟨hWq.it.imp fun _ h => h.imp fun _ h => ⟨h.1, h.2.1, h.2.2.1, h.2.2.2.keep hn14.fr⟩⟩ (by omega) fun H15 f15 => ?_
              exact ab_str hA hB hn14 f15 hiq (chk_true (decide_eq_true zs1) (chk_true (decide_eq_true zs2) (fin H15 ((fq.keep0 hn14.fr).keep f15 hSq))))
            · refine Bytes_ok hWq (by omega) fun H15 f15 b5 H16 hn16 => ?_
              exact ab_str hA hB hn16 (S := []) (Fr.refl _ _) (fun k hk => by simp at hk) (chk_true (decide_eq_true zs1) (chk_true (decide_eq_true zs2) (fin H16 ((fq.keep f15 hSq).keep0 hn16.fr))))
    · have hj0 : j = 0 := by simp at hz; omega
      subst hj0
      have e : xs = [] := List.eq_nil_of_length_eq_zero (by omega)
      subst e
      refine brB_of (fun _ => ⟨_, _, rfl, ?_⟩) (fun h => by simp at h)
      have e : encD [] = uintL 0 := by simp [encD, headL, tailL]
      rw [← e]
      exact hok _ f2
end Go.Proofs
