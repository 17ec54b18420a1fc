/- Turned by a program of mine (portall.py) out of the same text of another seat. -/
import Derived.Test.YtijedkfekmopnaaGreatDoorGvStr
import Derived.Test.YtijedkfekmopnaaGreatDoorL07c
import Derived.Test.YtijedkfekmopnaaGreatDoorVcZD
import Derived.Test.YtijedkfekmopnaaGreatDoorL07f
import Derived.Lib.Bytealg
set_option linter.unusedVariables false
set_option maxRecDepth 100000
open Go Go.GV
namespace Go.Proofs

theorem bT : BldT Tryz.prog 67 64 171 65 9 136 := ⟨by kernel_rfl, by kernel_rfl, by kernel_rfl, by kernel_rfl, by kernel_rfl, by kernel_rfl, by kernel_rfl, by kernel_rfl, by kernel_rfl, by kernel_rfl, by kernel_rfl, by kernel_rfl, by kernel_rfl, by kernel_rfl, by kernel_rfl, by kernel_rfl⟩
abbrev BldH (H : Heap) (b : Nat) (S : List Nat) (xs : List UInt8) : Prop := Bld 67 H b S xs
theorem noEscape_ok {H : Heap} {v : Value} {K : Value → Heap → Prop} (hk : K v H) : ExtH Tryz.prog 93 ⟨[v]⟩ H fun w H' => ∃ u, w = u ∧ K u H' :=
  ext_ok (fn := Tryz.f93) Tryz.func93 (by kernel_rfl) (by kernel_rfl) (by kernel_rfl) (e := Extern.AbiNoEscape.same) (by kernel_rfl) (fun w => Lib.run_noEscape w v) ⟨_, rfl, hk⟩

theorem copyCheck_ok {H : Heap} {b : Nat} {S : List Nat} {xs : List UInt8} {K : Heap → Prop} (h : BldH H b S xs)
    (hk : ∀ H' o n c te, H'[b]? = some (.cells ⟨[.pointer (some ⟨b, 0, none⟩), .slice o n c]⟩ te (0, 0)) → Own encByte 5 0 H' o n c xs → S = b :: blkL o → b ∉ blkL o → Fr [b] H H' → K H') :
    CallH Tryz.prog fn_strings_Builder_copyCheck ⟨[.pointer (some ⟨b, 0, none⟩)]⟩ H fun v H' => v = .tuple ⟨[]⟩ ∧ K H' := by
  apply vc_strings_Builder_copyCheck
  obtain ⟨p, o, n, c, te, h1, h3, h4, rfl, h6⟩ := h
  have hb : Blk H ⟨b, 0, none⟩ [.pointer p, .slice o n c] := ⟨b, _, rfl, h1⟩
  refine ⟨_, hb.ld0 bT.ap rfl, ?_⟩
  rcases h3 with ⟨rfl, rfl⟩ | rfl
  · refine to_unsafe bT h1 rfl ⟨_, rfl, noEscape_ok ?_⟩
    refine from_unsafe bT h1 rfl ?_
    refine hb.st0 (v := .pointer (some ⟨b, 0, none⟩)) bT.p1 bT.pi (fun x hx => by simp [Value.cells] at hx; subst hx; rfl) (by simp [Value.cells]) fun H' h' hf => ⟨rfl, ?_⟩
    obtain ⟨b', te', e, hg⟩ := h'
    cases e
    exact hk H' o n c te' hg (h4.fr hf (fun ad e hh => by
      have : ad.block = b := by simpa using hh
      exact h6 (by simp [e, blkL, this]))) rfl h6 hf
  · exact ⟨_, hb.ld0 bT.ap rfl, false, neq_self bT _ _ _, rfl, hk H o n c te h1 h4 rfl h6 (Fr.refl _ _)⟩

theorem WriteString_ok {H : Heap} {b : Nat} {S : List Nat} {xs : List UInt8} {s : ByteArray} {K : Int → Value → Heap → Prop} (h : BldH H b S xs) (hlen : xs.length + s.size ≤ 140737488355328)
    (hk : ∀ H' S', BldH H' b S' (xs ++ bl s) → Fr S H H' → Grow H S S' → K s.size .nilIface H') :
    CallH Tryz.prog fn_strings_Builder_WriteString ⟨[.pointer (some ⟨b, 0, none⟩), .string s]⟩ H fun v H' => ∃ n w, v = .tuple ⟨[.int .i64 n, w]⟩ ∧ K n w H' := by
  apply vc_strings_Builder_WriteString
  refine copyCheck_ok h fun H1 o n c te h1 h2 hS h3 hf1 => ?_
  have hb : Blk H1 ⟨b, 0, none⟩ [.pointer (some ⟨b, 0, none⟩), .slice o n c] := ⟨b, _, rfl, h1⟩
  refine ⟨o, n, c, hb.ld bT.ab (j := 1) rfl, ap_str bT.sl bT.str bT.byte h2 (Nat.zero_le _) (by rw [h2.1]; exact hlen) fun a' n' c' H2 h4 hf2 hg2 => ?_⟩
  have hb2 := hb.fr hf2 h3
  refine hb2.st (j := 1) (v := .slice a' n' c') bT.s1 bT.si (fun x hx => by simp [Value.cells] at hx; subst hx; rfl) (by simp [Value.cells]) fun H3 hb3 hf3 => ⟨_, _, rfl, ?_⟩
  obtain ⟨b', te', e, hg⟩ := hb3
  cases e
  have hlt : b < H1.size := lt_of_get h1
  have hnb : b ∉ blkL a' := fun hk => by
    rcases hg2 b hk with h5 | h5
    · exact h3 h5
    · omega
  refine hk H3 (b :: blkL a') ⟨_, a', n', c', te', hg, .inr rfl, h4.fr hf3 (fun ad e hh => hnb (by
      have : ad.block = b := by simpa using hh
      simp [e, blkL, this])), rfl, hnb⟩ ?_ ?_
  · rw [hS]
    exact (hf1.trans' hf2 (T := b :: blkL o) (by simp) (fun k hk _ => by simp [hk])).trans' hf3 (fun k hk _ => hk) (by simp)
  · rw [hS]
    intro k hk
    rcases List.mem_cons.1 hk with rfl | hk
    · exact .inl (by simp)
    · rcases hg2 k hk with h5 | h5
      · exact .inl (by simp [h5])
      · exact .inr (Nat.le_trans hf1.size h5)

theorem WriteByte_ok {H : Heap} {b : Nat} {S : List Nat} {xs : List UInt8} {x : UInt8} {n : Int} {K : Value → Heap → Prop} (h : BldH H b S xs) (hx : n = x.toNat) (hlen : xs.length + 1 ≤ 140737488355328)
    (hk : ∀ H' S', BldH H' b S' (xs ++ [x]) → Fr S H H' → Grow H S S' → K .nilIface H') :
    CallH Tryz.prog fn_strings_Builder_WriteByte ⟨[.pointer (some ⟨b, 0, none⟩), .int .u8 n]⟩ H fun v H' => ∃ w, v = w ∧ K w H' := by
  subst hx
  apply vc_strings_Builder_WriteByte
  refine copyCheck_ok h fun H1 o n c te h1 h2 hS h3 hf1 => ?_
  have hb : Blk H1 ⟨b, 0, none⟩ [.pointer (some ⟨b, 0, none⟩), .slice o n c] := ⟨b, _, rfl, h1⟩
  refine ⟨o, n, c, hb.ld bT.ab (j := 1) rfl, ?_⟩
  intro b1 H2 hn1
  have hs1 : Sl encByte H2 (some ⟨b1, 0, none⟩) 1 1 [x] := sl_one encByte x hn1 rfl
  have h2' := h2.keep hn1.fr
  refine ap_grow (E := encByte) (bytes := 1) bT.sl (by kernel_rfl) h2' hs1 (Nat.zero_le _) (by rw [h2.1]; omega) fun a' n' c' H3 h4 hf2 hg2 => ?_
  have hb2 := (hb.keep hn1.fr).fr hf2 h3
  refine hb2.st (j := 1) (v := .slice a' n' c') bT.s1 bT.si (fun x hx => by simp [Value.cells] at hx; subst hx; rfl) (by simp [Value.cells]) fun H4 hb3 hf3 => ⟨_, rfl, ?_⟩
  obtain ⟨b', te', e, hg⟩ := hb3
  cases e
  have hlt : b < H1.size := lt_of_get h1
  have hsz := hn1.size
  have hnb : b ∉ blkL a' := fun hk => by
    rcases hg2 b hk with h5 | h5
    · exact h3 h5
    · omega
  refine hk H4 (b :: blkL a') ⟨_, a', n', c', te', hg, .inr rfl, h4.fr hf3 (fun ad e hh => hnb (by
      have : ad.block = b := by simpa using hh
      simp [e, blkL, this])), rfl, hnb⟩ ?_ ?_
  · rw [hS]
    exact ((hf1.trans' hn1.fr (T := b :: blkL o) (by simp) (by simp)).trans' hf2 (T := b :: blkL o) (fun k hk _ => hk) (fun k hk _ => by simp [hk])).trans' hf3 (fun k hk _ => hk) (by simp)
  · rw [hS]
    intro k hk
    rcases List.mem_cons.1 hk with rfl | hk
    · exact .inl (by simp)
    · rcases hg2 k hk with h5 | h5
      · exact .inl (by simp [h5])
      · exact .inr (by have := hf1.size; omega)

theorem BString_ok {H : Heap} {b : Nat} {S : List Nat} {xs : List UInt8} {K : ByteArray → Heap → Prop} (h : BldH H b S xs) (hlen : xs.length ≤ 140737488355328)
    (hk : ∀ H', Fr S H H' → K ⟨xs.toArray⟩ H') :
    CallH Tryz.prog fn_strings_Builder_String ⟨[.pointer (some ⟨b, 0, none⟩)]⟩ H fun v H' => ∃ s, v = .string s ∧ K s H' := by
  apply vc_strings_Builder_String
  obtain ⟨p, o, n, c, te, h1, h3, h4, rfl, h6⟩ := h
  have hb : Blk H ⟨b, 0, none⟩ [.pointer p, .slice o n c] := ⟨b, _, rfl, h1⟩
  refine ⟨o, n, c, hb.ld bT.ab (j := 1) rfl, o, n, c, hb.ld bT.ab (j := 1) rfl, ?_⟩
  have hs := sl_data bT (it := 3) (sty := 9) (ts := ⟨[65]⟩) (K := fun H' => K ⟨xs.toArray⟩ H') (L := fun H' => Ld Tryz.prog 65 H' (Addr.add ⟨b, 0, none⟩ 1) (.slice o n c)) h4 (by rw [h4.1]; exact hlen) (fun H' hf => (hb.keep hf).ld bT.ab (j := 1) rfl)
    (fun H' hf => hk H' (hf.mono (fun k hk => by simp [hk])))
  refine hs.mono fun v H' h => ?_
  obtain ⟨a, rfl, h5, h7⟩ := h
  refine ⟨a, rfl, h5, h7.mono fun v H' h => ?_⟩
  obtain ⟨s, rfl, rfl, h⟩ := h
  exact ⟨_, rfl, _, rfl, h⟩
end Go.Proofs
set_option linter.unusedVariables false
set_option maxRecDepth 100000
open Go Go.GV
namespace Go.Proofs

theorem succ64 {i : Nat} (h : i ≤ 1000000000000) : IntKind.i64.wrap ((i : Int) + 1) = ((i + 1 : Nat) : Int) := by
  rw [wrap64_of (by omega) (by omega)]; omega
theorem pred64 {i : Nat} (h : i ≤ 1000000000000) (h0 : 0 < i) : IntKind.i64.wrap ((i : Int) - 1) = ((i - 1 : Nat) : Int) := by
  rw [wrap64_of (by omega) (by omega)]; omega
theorem mu_lt {n i : Nat} (h : i < n) : n - ((i + 1 : Nat) : Int).toNat < n - ((i : Nat) : Int).toNat := by omega
theorem wrapU8 {n : Int} (h : 0 ≤ n) : IntKind.u8.wrap n = n % 256 := by
  unfold IntKind.wrap
  simp [IntKind.bits, IntKind.signed]
theorem wrapU64 {n : Int} (h : 0 ≤ n) (h2 : n < 18446744073709551616) : IntKind.u64.wrap n = n := by
  unfold IntKind.wrap
  simp [IntKind.bits, IntKind.signed]
  omega
theorem or128 : ∀ m : Nat, m < 256 → (BitVec.ofNat 8 m ||| BitVec.ofNat 8 128).toNat = m % 128 + 128 := by decide +kernel
theorem byteN (n : Nat) (h : n < 256) : (n : Int) = ((UInt8.ofNat n).toNat : Int) := by
  rw [UInt8.toNat_ofNat']
  omega

theorem Uint_ok {n : Nat} {H : Heap} {K : ByteArray → Heap → Prop} (hn : n < 18446744073709551616) (hk : ∀ H', Fr [] H H' → K ⟨(uintL n).toArray⟩ H') :
    CallH Tryz.prog fn_zig_Uint ⟨[.int .u64 n]⟩ H fun v H' => ∃ s, v = .string s ∧ K s H' := by
  apply vc_zig_Uint
  have e5 : elemB Tryz.prog 5 1 1 = true := by kernel_rfl
  refine mk_own (E := encByte) bT.sl e5 (by omega) (by decide) fun b0 H1 ho1 hf1 => ?_
  refine ⟨fun vs H' => match vs with
      | [.int _ m, .slice o p q] => ∃ (k : Nat) (xs : List UInt8) (j : Nat), m = k ∧ Own encByte 5 H.size H' o p q xs ∧ xs.length = j ∧ k < 128 ^ (10 - j) ∧ j < 10 ∧ xs ++ uintL k = uintL n ∧ Fr [] H H'
      | _ => False,
    fun vs _ => match vs with | [.int _ m, _] => m.toNat | _ => 0, ⟨n, [], 0, rfl, ho1, rfl, by omega, by omega, rfl, hf1⟩, ?_⟩
  rintro J m o p q H2 ⟨k, xs, j, rfl, ho, hj, hk2, hj9, he, hf⟩
  have hp := ho.1
  refine brB_of (fun h0 => ?_) (fun h0 => ?_)
  · have h0' : ¬ k < 128 := by simp at h0; omega
    have hb : IntKind.u8.wrap ((BitVec.toNat (BitVec.ofInt 8 (IntKind.u8.wrap (k : Int)) ||| BitVec.ofInt 8 128) : Nat) : Int) = ((UInt8.ofNat (k % 128 + 128)).toNat : Int) := by
      rw [wrapU8 (n := (k : Int)) (by omega)]
      have e1 : BitVec.ofInt 8 ((k : Int) % 256) = BitVec.ofNat 8 (k % 256) := by
        rw [show (k : Int) % 256 = ((k % 256 : Nat) : Int) by omega]; rfl
      have e2 : BitVec.ofInt 8 128 = BitVec.ofNat 8 128 := rfl
      rw [e1, e2, or128 _ (Nat.mod_lt _ (by omega)), wrapU8 (by omega), UInt8.toNat_ofNat']
      omega
    rw [hb]
    have hj8 : j < 9 := by
      rcases Nat.lt_or_ge j 9 with h | h
      · exact h
      · have : j = 9 := by omega
        subst this
        simp at hk2
        omega
    refine ap_one (E := encByte) (bytes := 1) (UInt8.ofNat (k % 128 + 128)) bT.sl e5 ho hf rfl (by omega) fun _ o2 p2 q2 H4 hw2 hf2 _ => ?_
    have hdiv : Int.fdiv (k : Int) (2 ^ 7) = ((k / 128 : Nat) : Int) := by
      rw [Int.fdiv_eq_ediv_of_nonneg _ (by decide)]
      omega
    rw [hdiv]
    refine ⟨⟨k / 128, _, j + 1, rfl, hw2, by simp [hj], ?_, by omega, ?_, hf2⟩, ?_⟩
    · rw [Nat.div_lt_iff_lt_mul (by omega), ← Nat.pow_succ]
      rw [show (10 - (j + 1)).succ = 10 - j by omega]
      exact hk2
    · rw [uintL_big h0'] at he
      rw [← he]; simp
    · show ((k / 128 : Nat) : Int).toNat < ((k : Nat) : Int).toNat
      omega
  · have h0' : k < 128 := by simp at h0; omega
    have hb : IntKind.u8.wrap (k : Int) = ((UInt8.ofNat k).toNat : Int) := by
      rw [wrapU8 (by omega), UInt8.toNat_ofNat']
      omega
    rw [hb]
    refine ap_one (E := encByte) (bytes := 1) (UInt8.ofNat k) bT.sl e5 ho hf rfl (by omega) fun _ o2 p2 q2 H4 hw2 hf2 _ => ?_
    rw [uintL_small h0'] at he
    rw [he] at hw2
    exact cv_bs (e := 5) bT.sl bT.str (by kernel_rfl) hw2.sl ⟨_, rfl, hk H4 hf2⟩

theorem uintL_len10 {n : Nat} (hn : n < 18446744073709551616) : (uintL n).length ≤ 10 := uintL_len 9 n (by omega)
theorem Text_ok {s : ByteArray} {H : Heap} {K : ByteArray → Heap → Prop} (hs : s.size ≤ 140737488355328) (hk : ∀ H', Fr [] H H' → K ⟨(textL s).toArray⟩ H') :
    CallH Tryz.prog fn_zig_Text ⟨[.string s]⟩ H fun v H' => ∃ s, v = .string s ∧ K s H' := by
  apply vc_zig_Text
  rw [wrapU64 (by omega) (by omega)]
  refine Uint_ok (n := s.size) (by omega) fun H' hf => ?_
  have := uintL_len10 (n := s.size) (by omega)
  refine chk_true (decide_eq_true (by show (uintL s.size).length + s.size ≤ _; omega)) ⟨_, rfl, ?_⟩
  have e : (⟨(uintL s.size).toArray⟩ ++ s : ByteArray) = ⟨(textL s).toArray⟩ := by apply bl_inj; simp [bl, textL]
  rw [e]
  exact hk H' hf

theorem rUint_ok {n : Nat} {H : Heap} {K : ByteArray → Heap → Prop} (hn : n < 18446744073709551616) (hk : ∀ H', Fr [] H H' → K ⟨(uintL n).toArray⟩ H') :
    CallH Tryz.prog fn_ref01_Uint ⟨[.int .u64 n]⟩ H fun v H' => ∃ s, v = .string s ∧ K s H' := by
  apply vc_ref01_Uint
  refine ⟨fun vs H' => match vs with
      | [.int _ m, .string s] => ∃ (k : Nat), m = k ∧ k < 18446744073709551616 ∧ k < 128 ^ (10 - s.size) ∧ s.size < 10 ∧ bl s ++ uintL k = uintL n ∧ Fr [] H H'
      | _ => False,
    fun vs _ => match vs with | [.int _ m, _] => m.toNat | _ => 0, ⟨n, rfl, hn, by show n < 128 ^ (10 - 0); omega, by show 0 < 10; omega, rfl, Fr.refl _ _⟩, ?_⟩
  rintro J m s H2 ⟨k, rfl, hk64, hk2, hj9, he, hf⟩
  have one : ∀ (x : Nat) (b : Nat) (H3 : Heap) (K' : ByteArray → Heap → Prop), x < 256 → New H2 b (.cells ⟨[.int .u8 x]⟩ 5) H3 → K' ⟨#[UInt8.ofNat x]⟩ H3 → SemWp Tryz.prog (convert 65 9 (.slice (some ⟨b, 0, none⟩) 1 1)) H3 fun v H' => ∃ s, v = .string s ∧ K' s H' := by
    intro x b H3 K' hx hn1 hK
    have hs1 : Sl encByte H3 (some ⟨b, 0, none⟩) 1 1 [UInt8.ofNat x] := sl_one encByte _ hn1 (by rw [byteN x hx]; rfl)
    exact cv_bs (e := 5) bT.sl bT.str (by kernel_rfl) hs1 hK
  have hsz : ∀ x : Nat, (s ++ ⟨#[UInt8.ofNat x]⟩ : ByteArray).size = s.size + 1 := fun x => by rw [← bl_len, bl_app, List.length_append, bl_len]; rfl
  refine brB_of (fun h0 => ?_) (fun h0 => ?_)
  · have h0' : ¬ k < 128 := by simp at h0; omega
    intro b H3 hn1
    have e1 : IntKind.u8.wrap (IntKind.u64.wrap (Int.tmod (k : Int) 128 + 128)) = ((k % 128 + 128 : Nat) : Int) := by
      have : Int.tmod (k : Int) 128 = ((k % 128 : Nat) : Int) := by rw [Int.tmod_eq_emod_of_nonneg (by omega)]; omega
      rw [this, wrapU64 (by omega) (by omega), wrapU8 (by omega)]
      omega
    rw [e1] at hn1
    have e2 : IntKind.u64.wrap (Int.tdiv (k : Int) 128) = ((k / 128 : Nat) : Int) := by
      have : Int.tdiv (k : Int) 128 = ((k / 128 : Nat) : Int) := by rw [Int.tdiv_eq_ediv_of_nonneg (by omega)]; omega
      rw [this, wrapU64 (by omega) (by omega)]
    rw [e2]
    have hj8 : s.size < 9 := by
      rcases Nat.lt_or_ge s.size 9 with h | h
      · exact h
      · have : s.size = 9 := by omega
        rw [this] at hk2
        simp at hk2
        omega
    refine one _ b H3 _ (by omega) hn1 (chk_true (decide_eq_true (by show s.size + 1 ≤ _; omega)) ⟨⟨k / 128, rfl, by omega, ?_, by rw [hsz]; omega, ?_, hf.keep0 hn1.fr⟩, ?_⟩)
    · rw [hsz, Nat.div_lt_iff_lt_mul (by omega), ← Nat.pow_succ, show (10 - (s.size + 1)).succ = 10 - s.size by omega]
      exact hk2
    · rw [uintL_big h0'] at he
      rw [← he, bl_app]; simp [bl]
    · show ((k / 128 : Nat) : Int).toNat < ((k : Nat) : Int).toNat
      omega
  · have h0' : k < 128 := by simp at h0; omega
    intro b H3 hn1
    rw [wrapU8 (by omega), show (k : Int) % 256 = k by omega] at hn1
    refine one _ b H3 _ (by omega) hn1 (chk_true (decide_eq_true (by show s.size + 1 ≤ _; omega)) ⟨_, rfl, ?_⟩)
    rw [uintL_small h0'] at he
    have e : (s ++ ⟨#[UInt8.ofNat k]⟩ : ByteArray) = ⟨(uintL n).toArray⟩ := by apply bl_inj; rw [bl_app]; simpa [bl] using he
    rw [e]
    exact hk H3 (hf.keep0 hn1.fr)
theorem rText_ok {s : ByteArray} {H : Heap} {K : ByteArray → Heap → Prop} (hs : s.size ≤ 140737488355328) (hk : ∀ H', Fr [] H H' → K ⟨(textL s).toArray⟩ H') :
    CallH Tryz.prog fn_ref01_Text ⟨[.string s]⟩ H fun v H' => ∃ s, v = .string s ∧ K s H' := by
  apply vc_ref01_Text
  rw [wrapU64 (by omega) (by omega)]
  refine rUint_ok (n := s.size) (by omega) fun H' hf => ?_
  have := uintL_len10 (n := s.size) (by omega)
  refine chk_true (decide_eq_true (by show (uintL s.size).length + s.size ≤ _; omega)) ⟨_, rfl, ?_⟩
  have e : (⟨(uintL s.size).toArray⟩ ++ s : ByteArray) = ⟨(textL s).toArray⟩ := by apply bl_inj; simp [bl, textL]
  rw [e]
  exact hk H' hf

def runeLenI (c : Int) : Int := if c < 0 then -1 else if c ≤ 127 then 1 else if c ≤ 2047 then 2 else if 55296 ≤ c ∧ c ≤ 57343 then -1 else if c ≤ 65535 then 3 else if c ≤ 1114111 then 4 else -1
theorem RuneLen_ok {c : Int} {H : Heap} {K : Int → Heap → Prop} (hk : K (runeLenI c) H) : CallH Tryz.prog fn_unicode_utf8_RuneLen ⟨[.int .i32 c]⟩ H fun v H' => ∃ n, v = .int .i64 n ∧ K n H' := by
  apply vc_unicode_utf8_RuneLen
  unfold runeLenI at hk
  refine brB_of (fun h => ⟨_, rfl, ?_⟩) (fun h => ?_)
  · rwa [if_pos (by simpa using h)] at hk
  rw [if_neg (by simpa using h)] at hk
  refine brB_of (fun h => ⟨_, rfl, ?_⟩) (fun h => ?_)
  · rwa [if_pos (by simpa using h)] at hk
  rw [if_neg (by simpa using h)] at hk
  refine brB_of (fun h => ⟨_, rfl, ?_⟩) (fun h => ?_)
  · rwa [if_pos (by simpa using h)] at hk
  rw [if_neg (by simpa using h)] at hk
  have rest : ¬ (55296 ≤ c ∧ c ≤ 57343) → brB (decide (c ≤ 65535)) (∃ n, Value.int .i64 3 = .int .i64 n ∧ K n H) (brB (decide (c ≤ 1114111)) (∃ n, Value.int .i64 4 = .int .i64 n ∧ K n H) (∃ n, Value.int .i64 (-1) = .int .i64 n ∧ K n H)) := fun h5 => by
    rw [if_neg h5] at hk
    refine brB_of (fun h => ⟨_, rfl, ?_⟩) (fun h => ?_)
    · rwa [if_pos (by simpa using h)] at hk
    rw [if_neg (by simpa using h)] at hk
    refine brB_of (fun h => ⟨_, rfl, ?_⟩) (fun h => ⟨_, rfl, ?_⟩)
    · rwa [if_pos (by simpa using h)] at hk
    · rwa [if_neg (by simpa using h)] at hk
  refine brB_of (fun h3 => brB_of (fun h4 => ⟨_, rfl, ?_⟩) (fun h4 => rest ?_)) (fun h3 => rest ?_)
  · rwa [if_pos ⟨by simpa using h3, by simpa using h4⟩] at hk
  · simp at h4; omega
  · simp at h3; omega
theorem runeLenI_N (c : Nat) (h : ¬ (55296 ≤ c ∧ c ≤ 57343)) (h2 : c ≤ 1114111) : runeLenI c = runeLenN c := by
  unfold runeLenI runeLenN
  repeat' split
  all_goals omega

def itMu (r : Nat) (s : ByteArray) (H : Heap) : Nat := match H[r]? with | some (.stringIter _ p) => s.size - p | _ => 0
theorem itMu_of {r p : Nat} {s t : ByteArray} {H : Heap} (h : H[r]? = some (.stringIter t p)) : itMu r s H = s.size - p := by unfold itMu; rw [h]

theorem Name_ok {s : ByteArray} {H : Heap} {K : Bool → Heap → Prop} (hk : ∀ H', Fr [] H H' → K (decide (NameP s)) H') :
    CallH Tryz.prog fn_label_Name ⟨[.string s]⟩ H fun v H' => ∃ b, v = .bool b ∧ K b H' := by
  apply vc_label_Name
  have no : ∀ H', Fr [] H H' → ¬ NameP s → ∃ b, Value.bool false = .bool b ∧ K b H' := fun H' hf h => ⟨_, rfl, by have := hk H' hf; rwa [decide_eq_false h] at this⟩
  refine ⟨fun vs H' => H' = H ∧ 1 ≤ s.size ∧ s.size ≤ 16, ?_, ?_⟩
  · rw [beqS]
    refine brB_of (fun h => no H (Fr.refl _ _) fun h' => ?_) (fun h => brB_of (fun h2 => no H (Fr.refl _ _) fun h' => ?_) (fun h2 => ⟨rfl, ?_, ?_⟩))
    · have := of_decide_eq_true h; subst this; have := h'.1; simp [ByteArray.size] at this
    · have := h'.2.1; simp at h2; omega
    · have : s.size ≠ 0 := fun e => by
        have h3 : s = ⟨#[]⟩ := by apply bl_inj; show bl s = []; exact List.eq_nil_of_length_eq_zero (by rw [bl_len]; exact e)
        rw [decide_eq_true h3] at h; cases h
      omega
    · simp at h2; omega
  rintro J H1 ⟨rfl, g1, g2⟩
  refine rg_str bT.str fun r H2 hr h2 hf2 => ?_
  refine ⟨fun _ H' => ∃ p, H'[r]? = some (.stringIter s p) ∧ p ≤ s.size ∧ (∀ i, i < p → nchN (atB s i)) ∧ (0 < p → lowN (atB s 0)) ∧ Fr [] H1 H', fun _ H' => itMu r s H', ⟨0, h2, by omega, fun i h => by omega, fun h => by omega, hf2⟩, ?_⟩
  rintro J H3 ⟨p, h3, hp, hall, hlow, hf3⟩
  refine nx_str h3 (fun hend => .inl ⟨rfl, _, rfl, ?_⟩) (fun hlt H4 h4 hf4 => .inr ⟨_, _, rfl, _, rfl, _, rfl, ?_⟩)
  · have : NameP s := ⟨g1, g2, hlow (by omega), fun i hi => hall i (by omega)⟩
    have := hk H3 hf3
    rwa [decide_eq_true ‹NameP s›] at this
  have hf4' : Fr [] H1 H4 := hf3.keep hf4 (fun k hk => by simp at hk; omega)
  have hd := decode_ok s p hlt
  have hatb := atB_lt s p
  generalize Utf8.decode s p = d at hd h4 ⊢
  obtain ⟨c, w⟩ := d
  obtain ⟨_, _, hd3, hd4, hd5⟩ := hd
  simp only at hd3 hd4 hd5 h4 ⊢
  have hcb : (c < 128 ∧ c = atB s p ∧ w = 1) ∨ (128 ≤ c ∧ 128 ≤ atB s p) := by
    rcases Nat.lt_or_ge c 128 with h | h
    · exact .inl ⟨h, hd3 h⟩
    · refine .inr ⟨h, ?_⟩
      rcases Nat.lt_or_ge (atB s p) 128 with h' | h'
      · have := hd4 h'; omega
      · exact h'
  refine ⟨fun vs H' => vs = [.bool (decide (lowN c))] ∧ H' = H4, ?_, ?_⟩
  · refine brB_of (fun h => ⟨?_, rfl⟩) (fun h => ⟨?_, rfl⟩)
    · simp at h; congr 2; exact decide_eq_decide.2 (by unfold lowN; omega)
    · simp at h; congr 2; exact (decide_eq_false (by unfold lowN; omega)).symm
  rintro J b H5 ⟨hb, rfl⟩
  simp only [List.cons.injEq, Value.bool.injEq, and_true] at hb
  subst hb
  have go : nchN c → (p = 0 → lowN c) → (∃ p, H5[r]? = some (.stringIter s p) ∧ p ≤ s.size ∧ (∀ i, i < p → nchN (atB s i)) ∧ (0 < p → lowN (atB s 0)) ∧ Fr [] H1 H5) ∧ itMu r s H5 < itMu r s H3 := by
    intro hn hl
    have hc : c < 128 := by unfold nchN at hn; omega
    rcases hcb with ⟨_, e1, e2⟩ | ⟨h, _⟩
    · subst e2
      refine ⟨⟨p + 1, h4, by omega, fun i hi => ?_, fun _ => ?_, hf4'⟩, by rw [itMu_of h4, itMu_of h3]; omega⟩
      · rcases Nat.lt_or_ge i p with h | h
        · exact hall i h
        · have : i = p := by omega
          subst this; rw [← e1]; exact hn
      · rcases Nat.eq_zero_or_pos p with h | h
        · subst h; rw [← e1]; exact hl rfl
        · exact hlow h
    · omega
  have bad : ¬ nchN c → ∃ b, Value.bool false = .bool b ∧ K b H5 := fun h => no H5 hf4' fun hN => h (by
    have := hN.2.2.2 p hlt
    rcases hcb with ⟨_, e1, _⟩ | ⟨_, h'⟩
    · rwa [e1]
    · unfold nchN at this; omega)
  refine brB_of (fun h => ?_) (fun h => go ?_ ?_)
  · have hl : ¬ lowN c := by simpa using h
    refine brB_of (fun h2 => no H5 hf4' fun hN => ?_) (fun h2 => ?_)
    · have hp0 : p = 0 := by have h2 : (p : Int) = 0 := by simpa using h2
                             omega
      subst hp0
      have := hN.2.2.1
      rcases hcb with ⟨_, e1, _⟩ | ⟨_, h'⟩
      · exact hl (by rwa [e1])
      · unfold lowN at this; omega
    have hp0 : p ≠ 0 := fun e => by subst e; simp at h2
    refine brB_of (fun h3 => ?_) (fun h3 => go ?_ (fun e => absurd e hp0))
    · have h3 : (c : Int) ≠ 95 := by simpa using h3
      refine brB_of (fun h4 => bad ?_) (fun h4 => brB_of (fun h5 => bad ?_) (fun h5 => go ?_ (fun e => absurd e hp0)))
      · simp at h4; unfold nchN; unfold lowN at hl; omega
      · simp at h5; unfold nchN; unfold lowN at hl; omega
      · simp at h4 h5; unfold nchN; omega
    · have h3 : (c : Int) = 95 := by simpa using h3
      unfold nchN; omega
  · have : lowN c := by simpa using h
    unfold nchN; unfold lowN at this; omega
  · intro _; simpa using h

theorem Value_ok {s : ByteArray} {H : Heap} {K : Bool → Heap → Prop} (hk : ∀ H', Fr [] H H' → K (decide (ValP s)) H') :
    CallH Tryz.prog fn_label_Value ⟨[.string s]⟩ H fun v H' => ∃ b, v = .bool b ∧ K b H' := by
  apply vc_label_Value
  refine brB_of (fun h => ⟨_, rfl, ?_⟩) (fun h => ?_)
  · have : ¬ ValP s := fun h' => by have := h'.1; simp at h; omega
    have h2 := hk H (Fr.refl _ _)
    rwa [decide_eq_false this] at h2
  have hsz : s.size ≤ 32 := by simp at h; omega
  refine rg_str bT.str fun r H2 hr h2 hf2 => ?_
  refine ⟨fun vs H' => match vs with
      | [.int _ n] => ∃ (p m : Nat), n = m ∧ H'[r]? = some (.stringIter s p) ∧ p ≤ s.size ∧ m ≤ 4 * p ∧ ((m = p ∧ okRunes s 0 = okRunes s p) ∨ (p < m ∧ okRunes s 0 = false)) ∧ Fr [] H H'
      | _ => False, fun _ H' => itMu r s H', ⟨0, 0, rfl, h2, by omega, by omega, .inl ⟨rfl, rfl⟩, hf2⟩, ?_⟩
  rintro J n H3 ⟨p, m, rfl, h3, hp, hm4, hm, hf3⟩
  refine nx_str h3 (fun hend => .inl ⟨rfl, _, rfl, ?_⟩) (fun hlt H4 h4 hf4 => .inr ⟨_, _, rfl, _, rfl, ?_⟩)
  · have hpe : p = s.size := by omega
    have e : ((m : Int) == (s.size : Int)) = decide (ValP s) := by
      rcases hm with ⟨h1, h2⟩ | ⟨h1, h2⟩
      · have : ValP s := ⟨hsz, by rw [h2]; exact okRunes_end (by omega)⟩
        rw [decide_eq_true this]; simp; omega
      · have : ¬ ValP s := fun h => by rw [h.2] at h2; cases h2
        rw [decide_eq_false this]; simp; omega
    rw [e]; exact hk H3 hf3
  have hf4' : Fr [] H H4 := hf3.keep hf4 (fun k hk => by simp at hk; omega)
  have hd := decode_ok s p hlt
  generalize Utf8.decode s p = d at hd h4 ⊢
  obtain ⟨c, w⟩ := d
  obtain ⟨hd1, hd2, hd3, hd4, hd5⟩ := hd
  simp only at hd1 hd2 hd3 hd4 hd5 h4 ⊢
  refine RuneLen_ok ?_
  have key : ∃ q : Nat, runeLenI c = q ∧ q ≤ 4 ∧ p + w ≤ s.size ∧ ((q = w ∧ okRunes s p = okRunes s (p + w)) ∨ (w < q ∧ okRunes s p = false)) := by
    by_cases hw : wideR s p = 0
    · obtain ⟨rfl, rfl⟩ := hd2 hw
      exact ⟨3, by decide, by omega, by omega, .inr ⟨by omega, okRunes_bad hlt hw⟩⟩
    · obtain ⟨h5, h6⟩ := hd1 hw
      refine ⟨w, ?_, ?_, by rw [h5]; exact wideR_le hlt, .inl ⟨rfl, by rw [h5]; exact okRunes_next hlt hw⟩⟩
      · have hc : ¬ (55296 ≤ c ∧ c ≤ 57343) ∧ c ≤ 1114111 := by
          unfold runeLenN at h6
          refine ⟨fun h => ?_, ?_⟩
          · rw [if_neg (by omega), if_neg (by omega), if_pos (by omega)] at h6; omega
          · by_cases hb : c ≤ 1114111
            · exact hb
            · rw [if_neg (by omega), if_neg (by omega), if_neg (by omega), if_neg (by omega), if_neg (by omega)] at h6; omega
        rw [runeLenI_N c hc.1 hc.2, h6]
      · rw [← h6]; unfold runeLenN; repeat' split
        all_goals omega
  obtain ⟨q, hq, hq4, hpw, hqw⟩ := key
  rw [hq, wrap64_of (by omega) (by omega)]
  refine ⟨⟨p + w, m + q, by omega, h4, hpw, by omega, ?_, hf4'⟩, ?_⟩
  · rcases hm with ⟨h1, h2⟩ | ⟨h1, h2⟩
    · rcases hqw with ⟨h3, h5⟩ | ⟨h3, h5⟩
      · exact .inl ⟨by omega, by rw [h2, h5]⟩
      · exact .inr ⟨by omega, by rw [h2, h5]⟩
    · refine .inr ⟨?_, h2⟩
      rcases hqw with ⟨h3, h5⟩ | ⟨h3, h5⟩ <;> omega
  · rw [itMu_of h4, itMu_of h3]; omega
end Go.Proofs
set_option linter.unusedVariables false
set_option maxRecDepth 100000
open Go Go.GV
namespace Go.Proofs

theorem and127 : ∀ m : Nat, m < 256 → (BitVec.ofNat 8 m &&& BitVec.ofNat 8 127).toNat = m % 128 := by decide +kernel
theorem bvN {m : Nat} (h : m < 18446744073709551616) : (BitVec.ofInt 64 (m : Int)).toNat = m := by
  rw [BitVec.toNat_ofInt]; omega
theorem pow7 (k : Nat) : 2 ^ (7 * k) = 128 ^ k := by rw [Nat.pow_mul]
theorem shl_fit {k c : Nat} (hk : k ≤ 9) (hc : c < 256) (h9 : k = 9 → c ≤ 1) : 128 ^ k * (c % 128) < 9223372036854775808 + 1 := by
  by_cases h : k = 9
  · subst h
    have := h9 rfl
    omega
  · have h1 : 128 ^ k ≤ 128 ^ 8 := Nat.pow_le_pow_right (by omega) (by omega)
    have h2 : 128 ^ k * (c % 128) ≤ 128 ^ 8 * 127 := Nat.mul_le_mul h1 (by omega)
    omega
theorem or_shift {n k c : Nat} (hk : k ≤ 9) (hc : c < 256) (h9 : k = 9 → c ≤ 1) (hn : n < 128 ^ k) :
    IntKind.u64.wrap ((BitVec.toNat (BitVec.ofInt 64 (n : Int) ||| BitVec.ofInt 64 (IntKind.u64.wrap (IntKind.u64.wrap (IntKind.u8.wrap ((BitVec.toNat (BitVec.ofInt 8 (c : Int) &&& BitVec.ofInt 8 127) : Nat) : Int)) * 2 ^ min (Int.toNat (IntKind.u64.wrap (IntKind.i64.wrap (7 * (k : Int))))) 64))) : Nat) : Int) = ((n + 128 ^ k * (c % 128) : Nat) : Int) := by
  have e1 : (BitVec.ofInt 8 (c : Int) &&& BitVec.ofInt 8 127).toNat = c % 128 := and127 c hc
  have e2 : Int.toNat (IntKind.u64.wrap (IntKind.i64.wrap (7 * (k : Int)))) = 7 * k := by
    rw [wrap64_of (by omega) (by omega), wrapU64 (by omega) (by omega)]; omega
  have hf := shl_fit hk hc h9
  have h128 : 128 ^ k ≤ 128 ^ 9 := Nat.pow_le_pow_right (by omega) hk
  rw [e1, e2, wrapU8 (by omega), show ((c % 128 : Nat) : Int) % 256 = ((c % 128 : Nat) : Int) by omega, wrapU64 (n := ((c % 128 : Nat) : Int)) (by omega) (by omega), Nat.min_eq_left (by omega)]
  have e3 : ((c % 128 : Nat) : Int) * 2 ^ (7 * k) = ((128 ^ k * (c % 128) : Nat) : Int) := by
    rw [← pow7]
    push_cast
    rw [Int.mul_comm]
  rw [e3, wrapU64 (n := ((128 ^ k * (c % 128) : Nat) : Int)) (by omega) (by omega), BitVec.toNat_or, bvN (by omega), bvN (by omega)]
  have e4 : n ||| 128 ^ k * (c % 128) = n + 128 ^ k * (c % 128) := by
    rw [Nat.or_comm, Nat.add_comm, ← pow7]
    rw [← pow7] at hn
    exact (Nat.two_pow_add_eq_or_of_lt hn _).symm
  rw [e4, wrapU64 (by omega) (by omega)]

theorem noU_nine {ds t : List UInt8} {c : UInt8} (hd : HighL ds) (hl : ds.length = 9) (hc : 1 < c.toNat) : ¬ ShortU (ds ++ c :: t) ∧ NoU (ds ++ c :: t) := by
  refine ⟨fun h => by have := h.1; simp at this; omega, fun n hn t' e => ?_⟩
  by_cases h : c.toNat < 128
  · obtain ⟨_, _, h3, _⟩ := low_pre hd h e
    rw [valL_app, hl] at h3
    simp only [valL] at h3
    omega
  · refine high_pre hn (fun d hd' => ?_) e
    rw [show ds ++ c :: t = (ds ++ [c]) ++ t by simp, List.take_append, List.take_of_length_le (by simp; omega)] at hd'
    rw [show 10 - (ds ++ [c]).length = 0 by simp; omega] at hd'
    simp at hd'
    rcases hd' with h | h
    · exact hd d h
    · subst h; omega
theorem noU_zero {ds t : List UInt8} {c : UInt8} (hd : HighL ds) (hl : ds ≠ []) (hc : c.toNat = 0) : ¬ ShortU (ds ++ c :: t) ∧ NoU (ds ++ c :: t) := by
  refine ⟨fun h => ?_, fun n hn t' e => ?_⟩
  · have := h.2 c (by simp); omega
  · obtain ⟨_, _, _, h4⟩ := low_pre hd (by omega) e
    exact h4 hl hc
theorem gu_ok {ds t : List UInt8} {c : UInt8} {a : Nat} (hd : HighL ds) (hc : c.toNat < 128) (hz : ds ≠ [] → c.toNat ≠ 0) (hv : valL (ds ++ [c]) < 18446744073709551616) : GU (ds ++ c :: t) a (valL (ds ++ [c]) : Nat) ((a + ds.length + 1 : Nat) : Int) 0 := by
  have e := uintL_val ds c hd hc hz
  refine .inl ⟨valL (ds ++ [c]), rfl, hv, ?_, ?_, ?_, rfl⟩
  · rw [e]; simp
  · rw [e]; simp
  · rw [e]; simp; omega
theorem drop_at {s : ByteArray} {a k : Nat} (h : a + k < s.size) : ∃ c : UInt8, (bl s).drop a = ((bl s).drop a).take k ++ c :: ((bl s).drop a).drop (k + 1) ∧ c.toNat = atB s (a + k) ∧ ((bl s).drop a)[k]? = some c := by
  obtain ⟨c, h1, h2⟩ := atB_get h
  rw [bl_get] at h1
  have h3 : ((bl s).drop a)[k]? = some c := by rw [List.getElem?_drop]; exact h1
  refine ⟨c, ?_, h2, h3⟩
  obtain ⟨hk, e⟩ := List.getElem?_eq_some_iff.1 h3
  rw [← e, List.getElem_cons_drop, List.take_append_drop]

theorem GetUint_ok {s : ByteArray} {at' : Int} {H : Heap} {K : Int → Int → Int → Heap → Prop} (hs : s.size ≤ 100000000000) (hbad : ¬ (0 ≤ at' ∧ at' ≤ s.size) → K 0 0 1 H)
    (hk : ∀ a : Nat, at' = a → a ≤ s.size → ∀ v n e, GU ((bl s).drop a) a v n e → K v n e H) :
    CallH Tryz.prog fn_zig_GetUint ⟨[.string s, .int .i64 at']⟩ H fun v H' => ∃ n m e, v = .tuple ⟨[.int .u64 n, .int .i64 m, .int .i64 e]⟩ ∧ K n m e H' := by
  apply vc_zig_GetUint
  refine ⟨fun vs H' => vs = [.int .u64 0] ∧ H' = H ∧ 0 ≤ at' ∧ at' ≤ s.size, ?_, ?_⟩
  · refine brB_of (fun h => ⟨_, _, _, rfl, hbad ?_⟩) (fun h => brB_of (fun h2 => ⟨_, _, _, rfl, hbad ?_⟩) (fun h2 => ⟨rfl, rfl, ?_, ?_⟩))
    · simp at h; omega
    · simp at h2; omega
    · simp at h; omega
    · simp at h2; omega
  rintro J m0 H1 ⟨e0, rfl, h0, h01⟩
  simp only [List.cons.injEq, Value.int.injEq, true_and, and_true] at e0
  subst e0
  obtain ⟨a, rfl⟩ : ∃ a : Nat, at' = a := ⟨at'.toNat, by omega⟩
  have hk := hk a rfl (by omega)
  have hrl : ((bl s).drop a).length = s.size - a := by rw [List.length_drop, bl_len]
  generalize hr : (bl s).drop a = r at hk hrl
  refine ⟨fun vs H' => match vs with
      | [.int _ m, .int _ i] => ∃ k : Nat, i = k ∧ k ≤ 9 ∧ k ≤ r.length ∧ m = ((valL (r.take k) : Nat) : Int) ∧ HighL (r.take k) ∧ H' = H1
      | _ => False,
    fun vs _ => match vs with | [_, .int _ i] => 10 - i.toNat | _ => 0, ⟨0, rfl, by omega, by omega, by simp [valL], fun d hd => by simp at hd, rfl⟩, ?_⟩
  rintro J m i H2 ⟨k, rfl, hk9, hkl, rfl, hh, rfl⟩
  have ew : IntKind.i64.wrap ((a : Int) + k) = ((a + k : Nat) : Int) := by rw [wrap64_of (by omega) (by omega)]; omega
  rw [ew]
  refine brB_of (fun _ => ?_) (fun h => by simp at h; omega)
  refine brB_of (fun h1 => ⟨_, _, _, rfl, hk _ _ _ (.inr (.inl ⟨rfl, rfl, rfl, ?_, ?_⟩))⟩) (fun h1 => ?_)
  · have : a + k = s.size := by simp at h1; omega
    omega
  · have : a + k = s.size := by simp at h1; omega
    rwa [List.take_of_length_le (by omega)] at hh
  have hlt : a + k < s.size := by simp at h1; omega
  obtain ⟨c, hc1, hc2, hc3⟩ := drop_at hlt
  rw [hr] at hc1 hc3
  refine chk_true (decide_eq_true (by omega)) ?_
  rw [Int.toNat_natCast, ← hc2]
  have htl : (r.take k).length = k := by rw [List.length_take]; omega
  have hne : 0 < k → r.take k ≠ [] := fun h e => by rw [e] at htl; simp at htl; omega
  have hcl := c.toNat_lt
  refine ⟨fun vs H' => vs = [.int .u64 ((valL (r.take k) : Nat) : Int)] ∧ H' = H2 ∧ (k = 9 → c.toNat ≤ 1) ∧ (0 < k → c.toNat ≠ 0), ?_, ?_⟩
  · have zero : ¬ (k = 9 ∧ 1 < c.toNat) → brB (((c.toNat : Int)) == 0) (brB (decide ((k : Int) > 0)) (∃ n m e, Value.tuple ⟨[.int .u64 0, .int .i64 0, .int .i64 11]⟩ = .tuple ⟨[.int .u64 n, .int .i64 m, .int .i64 e]⟩ ∧ K n m e H2)
        ([Value.int .u64 ((valL (r.take k) : Nat) : Int)] = [.int .u64 ((valL (r.take k) : Nat) : Int)] ∧ H2 = H2 ∧ (k = 9 → c.toNat ≤ 1) ∧ (0 < k → c.toNat ≠ 0)))
        ([Value.int .u64 ((valL (r.take k) : Nat) : Int)] = [.int .u64 ((valL (r.take k) : Nat) : Int)] ∧ H2 = H2 ∧ (k = 9 → c.toNat ≤ 1) ∧ (0 < k → c.toNat ≠ 0)) := fun hno => by
      refine brB_of (fun h2 => brB_of (fun h3 => ⟨_, _, _, rfl, hk _ _ _ ?_⟩) (fun h3 => ⟨rfl, rfl, fun _ => by simp at h2; omega, fun h => by simp at h3; omega⟩)) (fun h2 => ⟨rfl, rfl, fun _ => by omega, fun _ => by simp at h2; omega⟩)
      rw [hc1]
      have := noU_zero (t := r.drop (k + 1)) hh (hne (by simp at h3; omega)) (c := c) (by simp at h2; omega)
      exact .inr (.inr ⟨rfl, rfl, rfl, this⟩)
    refine brB_of (fun h2 => brB_of (fun h3 => ⟨_, _, _, rfl, hk _ _ _ ?_⟩) (fun h3 => zero (by simp at h3; omega))) (fun h2 => zero (by simp at h2; omega))
    rw [hc1]
    have := noU_nine (t := r.drop (k + 1)) hh (by simp at h2; omega) (c := c) (by simp at h3; omega)
    exact .inr (.inr ⟨rfl, rfl, rfl, this⟩)
  rintro J m H3 ⟨e3, rfl, h9, hz⟩
  simp only [List.cons.injEq, Value.int.injEq, true_and, and_true] at e3
  subst e3
  have hvl := valL_lt (r.take k)
  rw [htl] at hvl
  rw [or_shift hk9 hcl h9 hvl]
  have hfit := shl_fit hk9 hcl h9
  have h128 : 128 ^ k ≤ 128 ^ 9 := Nat.pow_le_pow_right (by omega) hk9
  have e4 : valL (r.take k) + 128 ^ k * (c.toNat % 128) = valL (r.take k ++ [c]) := by
    rw [valL_app, htl]
    simp [valL]
  rw [e4]
  refine chk_true (decide_eq_true ?_) ?_
  · rw [wrap64_of (n := 7 * (k : Int)) (by omega) (by omega), wrapU64 (by omega) (by omega)]; omega
  refine brB_of (fun h5 => ?_) (fun h5 => ?_)
  · have hc5 : c.toNat < 128 := by simp at h5; omega
    have := gu_ok (t := r.drop (k + 1)) (a := a) hh hc5 (fun h => hz (by cases k with | zero => simp at h | succ k => omega)) (by rw [← e4]; omega)
    rw [← hc1, htl] at this
    rw [succ64 (by omega)]
    exact ⟨_, _, _, rfl, hk _ _ _ this⟩
  · have hc5 : 128 ≤ c.toNat := by simp at h5; omega
    rw [succ64 (by omega)]
    have e5 : r.take (k + 1) = r.take k ++ [c] := by rw [List.take_add_one, hc3]; rfl
    refine ⟨⟨k + 1, rfl, by omega, by omega, by rw [e5], ?_, rfl⟩, mu_lt (by omega)⟩
    rw [e5]
    intro d hd
    rcases List.mem_append.1 hd with h | h
    · exact hh d h
    · simp at h; subst h; exact hc5
end Go.Proofs
set_option linter.unusedVariables false
set_option maxRecDepth 100000
open Go Go.GV
namespace Go.Proofs

theorem rName_ok {s : ByteArray} {H : Heap} {K : Bool → Heap → Prop} (hk : K (decide (NameP s)) H) :
    CallH Tryz.prog fn_ref04_Name ⟨[.string s]⟩ H fun v H' => ∃ b, v = .bool b ∧ K b H' := by
  apply vc_ref04_Name
  have no : ¬ NameP s → ∃ b, Value.bool false = .bool b ∧ K b H := fun h => ⟨_, rfl, by rwa [decide_eq_false h] at hk⟩
  refine ⟨fun vs H' => H' = H ∧ 1 ≤ s.size ∧ s.size ≤ 16 ∧ lowN (atB s 0), ?_, ?_⟩
  · refine brB_of (fun h => no fun h' => ?_) (fun h => brB_of (fun h2 => no fun h' => ?_) (fun h2 => ?_))
    · have := h'.1; simp at h; omega
    · have := h'.2.1; simp at h2; omega
    have g1 : 1 ≤ s.size := by simp at h; omega
    refine chk_true (decide_eq_true (by omega)) (brB_of (fun h3 => no fun h' => ?_) (fun h3 => chk_true (decide_eq_true (by omega)) (brB_of (fun h4 => no fun h' => ?_) (fun h4 => ⟨rfl, g1, by simp at h2; omega, ?_⟩))))
    · have := h'.2.2.1; unfold lowN at this; simp at h3; omega
    · have := h'.2.2.1; unfold lowN at this; simp at h4; omega
    · simp at h3 h4; unfold lowN; omega
  rintro J H1 ⟨rfl, g1, g2, g3⟩
  refine ⟨fun vs H' => match vs with | [.int _ i] => ∃ k : Nat, i = k ∧ k ≤ s.size ∧ (∀ j, j < k → nchN (atB s j)) ∧ H' = H1 | _ => False,
    fun vs _ => match vs with | [.int _ i] => s.size - i.toNat | _ => 0, ⟨0, rfl, by omega, fun j h => by omega, rfl⟩, ?_⟩
  rintro J i H2 ⟨k, rfl, hle, hall, rfl⟩
  refine brB_of (fun h0 => ?_) (fun h0 => ⟨_, rfl, ?_⟩)
  · have h0' : k < s.size := by simpa using h0
    rw [succ64 (by omega), Int.toNat_natCast]
    refine ⟨fun _ H' => H' = H2 ∧ nchN (atB s k), ?_, ?_⟩
    · refine chk_true (decide_eq_true (by omega)) ?_
      have bad : ¬ nchN (atB s k) → ∃ b, Value.bool false = .bool b ∧ K b H2 := fun h => no fun h' => h (h'.2.2.2 k h0')
      refine brB_of (fun h1 => brB_of (fun h2 => brB_of (fun h3 => bad ?_) (fun h3 => ⟨rfl, ?_⟩)) (fun h2 => brB_of (fun h3 => brB_of (fun h4 => bad ?_) (fun h4 => ⟨rfl, ?_⟩)) (fun h3 => ⟨rfl, ?_⟩)))
        (fun h1 => brB_of (fun h5 => brB_of (fun h2 => brB_of (fun h3 => bad ?_) (fun h3 => ⟨rfl, ?_⟩)) (fun h2 => brB_of (fun h3 => brB_of (fun h4 => bad ?_) (fun h4 => ⟨rfl, ?_⟩)) (fun h3 => ⟨rfl, ?_⟩))) (fun h5 => ⟨rfl, ?_⟩))
      all_goals (simp at *; unfold nchN; omega)
    · rintro J H3 ⟨rfl, hn⟩
      refine ⟨⟨k + 1, rfl, by omega, fun j hj => ?_, rfl⟩, mu_lt h0'⟩
      rcases Nat.lt_or_ge j k with h | h
      · exact hall j h
      · have : j = k := by omega
        subst this; exact hn
  · have : NameP s := ⟨g1, g2, g3, fun i hi => hall i (by simp at h0; omega)⟩
    rwa [decide_eq_true this] at hk

theorem brB_iff {c : Bool} {X Y : Prop} : brB c X Y ↔ ((c = true → X) ∧ (c = false → Y)) := by cases c <;> simp [brB]
theorem wide_ok {s : ByteArray} {H : Heap} {K : Int → Heap → Prop} (hs : 0 < s.size) (hsz : s.size ≤ 1000000000) (hk : K (wideR s 0) H) :
    CallH Tryz.prog fn_ref04_wide ⟨[.string s]⟩ H fun v H' => ∃ n, v = .int .i64 n ∧ K n H' := by
  apply vc_ref04_wide
  have hb := atB_lt s 0
  have ew : IntKind.i64.wrap ((atB s 0 : Nat) : Int) = ((atB s 0 : Nat) : Int) := wrap64_of (by omega) (by omega)
  refine chk_true (decide_eq_true (by omega)) ?_
  simp only [Int.toNat_zero, ew]
  have zero : wideR s 0 = 0 → ∃ n, Value.int .i64 0 = .int .i64 n ∧ K n H := fun h => ⟨_, rfl, by rw [h] at hk; exact hk⟩
  refine ⟨fun vs H' => H' = H ∧ ¬ atB s 0 < 128 ∧ vs = [.int .i64 (headN (atB s 0)), .int .i64 (headR (atB s 0))], ?_, ?_⟩
  · refine brB_of (fun h => ⟨_, rfl, ?_⟩) (fun h => ?_)
    · have : wideR s 0 = 1 := by unfold wideR; rw [if_pos (by simp at h; omega)]
      rw [this] at hk; exact hk
    have c0 : ¬ atB s 0 < 128 := by simp at h; omega
    refine ⟨fun vs H' => H' = H ∧ vs = [.bool (decide (192 ≤ atB s 0 ∧ atB s 0 < 224))], ?_, ?_⟩
    · refine brB_of (fun h1 => ⟨rfl, ?_⟩) (fun h1 => ⟨rfl, ?_⟩)
      · simp at h1; congr 2; exact decide_eq_decide.2 (by omega)
      · simp at h1; congr 2; exact (decide_eq_false (by omega)).symm
    rintro J b H' ⟨rfl, hb1⟩
    simp only [List.cons.injEq, Value.bool.injEq, and_true] at hb1
    subst hb1
    refine brB_of (fun h1 => ⟨rfl, c0, ?_⟩) (fun h1 => ?_)
    · have h1 := of_decide_eq_true h1
      unfold headN headR
      rw [if_pos h1, if_pos h1, wrap64_of (by omega) (by omega)]
      congr 3; omega
    have n1 := of_decide_eq_false h1
    refine ⟨fun vs H'' => H'' = H' ∧ vs = [.bool (decide (224 ≤ atB s 0 ∧ atB s 0 < 240))], ?_, ?_⟩
    · refine brB_of (fun h1 => ⟨rfl, ?_⟩) (fun h1 => ⟨rfl, ?_⟩)
      · simp at h1; congr 2; exact decide_eq_decide.2 (by omega)
      · simp at h1; congr 2; exact (decide_eq_false (by omega)).symm
    rintro J b H' ⟨rfl, hb1⟩
    simp only [List.cons.injEq, Value.bool.injEq, and_true] at hb1
    subst hb1
    refine brB_of (fun h1 => ⟨rfl, c0, ?_⟩) (fun h1 => ?_)
    · have h1 := of_decide_eq_true h1
      unfold headN headR
      rw [if_neg n1, if_pos h1, if_neg n1, if_pos h1, wrap64_of (by omega) (by omega)]
      congr 3; omega
    have n2 := of_decide_eq_false h1
    have none : ¬ (240 ≤ atB s 0 ∧ atB s 0 < 248) → H' = H' ∧ ¬ atB s 0 < 128 ∧ [Value.int .i64 0, Value.int .i64 0] = [.int .i64 (headN (atB s 0)), .int .i64 (headR (atB s 0))] := fun h => by
      refine ⟨rfl, c0, ?_⟩
      unfold headN headR
      rw [if_neg n1, if_neg n2, if_neg h, if_neg n1, if_neg n2, if_neg h]; rfl
    refine brB_of (fun h1 => brB_of (fun h2 => ⟨rfl, c0, ?_⟩) (fun h2 => none ?_)) (fun h1 => none ?_)
    · have h3 : 240 ≤ atB s 0 ∧ atB s 0 < 248 := by simp at h1 h2; omega
      unfold headN headR
      rw [if_neg n1, if_neg n2, if_pos h3, if_neg n1, if_neg n2, if_pos h3, wrap64_of (by omega) (by omega)]
      congr 3; omega
    · simp at h2; omega
    · simp at h1; omega
  rintro J n0 r0 H1 ⟨rfl, c0, hv⟩
  simp only [List.cons.injEq, Value.int.injEq, true_and, and_true] at hv
  obtain ⟨rfl, rfl⟩ := hv
  have hn4 : headN (atB s 0) ≤ 4 := by unfold headN; repeat' split
                                       all_goals omega
  have hr0 : headR (atB s 0) < 64 := by unfold headR; repeat' split
                                        all_goals omega
  have hw0 : wideR s 0 = if headN (atB s 0) = 0 ∨ s.size < 0 + headN (atB s 0) then 0 else if ∀ k, k < headN (atB s 0) - 1 → contR s 0 (k + 1) then (if badR (headN (atB s 0)) (accR s 0 (headN (atB s 0) - 1)) then 0 else headN (atB s 0)) else 0 := by
    unfold wideR; rw [if_neg c0]
  generalize headN (atB s 0) = n at *
  refine ⟨fun _ H' => H' = H1 ∧ n ≠ 0 ∧ n ≤ s.size, ?_, ?_⟩
  · refine brB_of (fun h => zero ?_) (fun h => brB_of (fun h2 => zero ?_) (fun h2 => ⟨rfl, ?_, ?_⟩))
    · rw [hw0, if_pos (.inl (by have h : (n : Int) = 0 := by simpa using h
                                omega))]
    · rw [hw0, if_pos (.inr (by simp at h2; omega))]
    · intro e; subst e; simp at h
    · simp at h2; omega
  rintro J H2 ⟨rfl, hn0, hns⟩
  rw [if_neg (by omega)] at hw0
  refine ⟨fun vs H' => match vs with | [.int _ r, .int _ i] => ∃ k : Nat, i = ((k + 1 : Nat) : Int) ∧ k + 1 ≤ n ∧ r = (accR s 0 k : Nat) ∧ accR s 0 k < 64 ^ (k + 1) ∧ (∀ j, j < k → contR s 0 (j + 1)) ∧ H' = H2 | _ => False,
    fun vs _ => match vs with | [_, .int _ i] => n - i.toNat | _ => 0, ⟨0, rfl, by omega, rfl, by show headR (atB s 0) < 64 ^ 1; omega, fun j h => by omega, rfl⟩, ?_⟩
  rintro J r i H3 ⟨k, rfl, hkn, rfl, hacc, hc, rfl⟩
  have hk3 : k ≤ 3 := by omega
  have hacc' : accR s 0 k < 16777216 := Nat.lt_of_lt_of_le hacc (by
    have : 64 ^ (k + 1) ≤ 64 ^ 4 := Nat.pow_le_pow_right (by omega) (by omega)
    omega)
  refine brB_of (fun h0 => ?_) (fun h0 => ?_)
  · have h0' : k + 1 < n := by simp at h0; omega
    have hb1 := atB_lt s (k + 1)
    rw [succ64 (by omega), Int.toNat_natCast]
    refine ⟨fun _ H' => H' = H3 ∧ contR s 0 (k + 1), ?_, ?_⟩
    · have bad : ¬ contR s 0 (k + 1) → ∃ n, Value.int .i64 0 = .int .i64 n ∧ K n H3 := fun h => zero (by rw [hw0, if_neg fun h' => h (h' k (by omega))])
      have ec : contR s 0 (k + 1) ↔ (128 ≤ atB s (k + 1) ∧ atB s (k + 1) < 192) := by unfold contR; rw [Nat.zero_add]
      refine chk_true (decide_eq_true (by omega)) (brB_of (fun h1 => bad ?_) (fun h1 => chk_true (decide_eq_true (by omega)) (brB_of (fun h2 => bad ?_) (fun h2 => ⟨rfl, ?_⟩))))
      · rw [ec]; simp at h1; omega
      · rw [ec]; simp at h2; omega
      · rw [ec]; simp at h1 h2; omega
    · rintro J H4 ⟨rfl, hcc⟩
      have ec : 128 ≤ atB s (k + 1) ∧ atB s (k + 1) < 192 := by unfold contR at hcc; rwa [Nat.zero_add] at hcc
      refine chk_true (decide_eq_true (by omega)) ?_
      have e1 : IntKind.i64.wrap (IntKind.i64.wrap (IntKind.i64.wrap ((accR s 0 k : Nat) * 64) + IntKind.i64.wrap ((atB s (k + 1) : Nat) : Int)) - 128) = ((accR s 0 (k + 1) : Nat) : Int) := by
        rw [wrap64_of (n := (accR s 0 k : Nat) * 64) (by omega) (by omega), wrap64_of (n := (atB s (k + 1) : Nat)) (by omega) (by omega), wrap64_of (n := (accR s 0 k : Nat) * 64 + (atB s (k + 1) : Nat)) (by omega) (by omega), wrap64_of (by omega) (by omega)]
        show _ = ((accR s 0 k * 64 + atB s (0 + (k + 1)) - 128 : Nat) : Int)
        rw [Nat.zero_add]
        omega
      rw [e1]
      refine ⟨⟨k + 1, rfl, by omega, rfl, ?_, fun j hj => ?_, rfl⟩, by show n - ((k + 1 + 1 : Nat) : Int).toNat < n - ((k + 1 : Nat) : Int).toNat; omega⟩
      · show accR s 0 k * 64 + atB s (0 + (k + 1)) - 128 < _
        rw [Nat.zero_add, Nat.pow_succ]
        omega
      · rcases Nat.lt_or_ge j k with h | h
        · exact hc j h
        · have : j = k := by omega
          subst this; exact hcc
  · have hkn' : k = n - 1 := by simp at h0; omega
    subst hkn'
    rw [if_pos hc] at hw0
    generalize accR s 0 (n - 1) = r at *
    have bad : badR n r → ∃ n, Value.int .i64 0 = .int .i64 n ∧ K n H3 := fun h => zero (by rw [hw0, if_pos h])
    refine ⟨fun _ H' => H' = H3 ∧ ¬ badR n r, ?_, ?_⟩
    · have en : ∀ m : Nat, ((n : Int) == (m : Int)) = decide (n = m) := fun m => by
        by_cases e : n = m
        · subst e; simp
        · rw [decide_eq_false e]; simp; omega
      have e2 := en 2
      have e3 := en 3
      have e4 := en 4
      simp only [Int.cast_ofNat_Int] at e2 e3 e4
      rw [e2, e3, e4]
      clear e2 e3 e4 en hk zero hw0 hc hacc hacc' ew
      generalize (∃ n, Value.int .i64 0 = .int .i64 n ∧ K n H3) = Z at *
      have eq0 : (H3 = H3 ∧ ¬ badR n r) ↔ ¬ badR n r := ⟨fun h => h.2, fun h => ⟨rfl, h⟩⟩
      simp only [brB_iff, decide_eq_true_eq, decide_eq_false_iff_not, eq0]
      by_cases hb : badR n r
      · have hz := bad hb
        simp only [hz, hb, not_true, imp_false, implies_true, true_and, and_true]
        unfold badR at hb
        omega
      · simp only [hb, not_false_iff, implies_true, true_and, and_true]
        unfold badR at hb
        clear bad
        refine ⟨?_, ?_⟩
        all_goals (intros; repeat' (first | apply And.intro | intro _))
        all_goals (exfalso; omega)
    · rintro J H4 ⟨rfl, hnb⟩
      rw [if_neg hnb] at hw0
      refine ⟨_, rfl, ?_⟩
      rw [hw0] at hk; exact hk

theorem rValue_ok {s : ByteArray} {H : Heap} {K : Bool → Heap → Prop} (hk : K (decide (ValP s)) H) :
    CallH Tryz.prog fn_ref04_Value ⟨[.string s]⟩ H fun v H' => ∃ b, v = .bool b ∧ K b H' := by
  apply vc_ref04_Value
  have no : ¬ ValP s → ∃ b, Value.bool false = .bool b ∧ K b H := fun h => ⟨_, rfl, by rwa [decide_eq_false h] at hk⟩
  refine brB_of (fun h => no fun h' => by have := h'.1; simp at h; omega) (fun h => ?_)
  have hsz : s.size ≤ 32 := by simp at h; omega
  refine ⟨fun vs H' => match vs with | [.string t] => ∃ p, t = s.extract p s.size ∧ p ≤ s.size ∧ okRunes s 0 = okRunes s p ∧ H' = H | _ => False,
    fun vs _ => match vs with | [.string t] => t.size | _ => 0, ⟨0, by apply bl_inj; rw [bl_ext, ← bl_len, List.take_length]; rfl, by omega, rfl, rfl⟩, ?_⟩
  rintro J t H1 ⟨p, rfl, hp, ho, rfl⟩
  refine brB_of (fun h0 => ?_) (fun h0 => ⟨_, rfl, ?_⟩)
  · have h0' : p < s.size := by rw [size_ext] at h0; simp at h0; omega
    have hw := wideR_ext s p 0 (by omega)
    rw [Nat.add_zero] at hw
    refine wide_ok (by rw [size_ext]; omega) (by rw [size_ext]; omega) ?_
    rw [hw]
    have hle := wideR_le h0'
    refine brB_of (fun h1 => no fun h' => ?_) (fun h1 => ?_)
    · have h1 : ((wideR s p : Nat) : Int) = 0 := by simpa using h1
      have := okRunes_bad h0' (by omega)
      rw [← ho, h'.2] at this; cases this
    · have h1 : wideR s p ≠ 0 := fun e => by rw [e] at h1; simp at h1
      refine chk_true (decide_eq_true ?_) ?_
      · rw [size_ext]; omega
      rw [Int.toNat_natCast, Int.toNat_natCast, ext_ext s p _ hle]
      refine ⟨⟨_, rfl, hle, ?_, rfl⟩, ?_⟩
      · rw [ho, okRunes_next h0' h1]
      · show (s.extract (p + wideR s p) s.size).size < (s.extract p s.size).size
        rw [size_ext, size_ext]; omega
  · have hpe : p = s.size := by rw [size_ext] at h0; simp at h0; omega
    have : ValP s := ⟨hsz, by rw [ho]; exact okRunes_end (by omega)⟩
    rwa [decide_eq_true this] at hk
end Go.Proofs
set_option linter.unusedVariables false
set_option maxRecDepth 100000
open Go Go.GV
namespace Go.Proofs

def encL : Enc Lbl := ⟨fun x => [.string x.1, .string x.2], 2, fun _ => rfl, by decide, fun _ v h => by simp at h; rcases h with rfl | rfl <;> rfl⟩
theorem elem64 : elemB Tryz.prog 55 2 32 = true := by kernel_rfl
theorem slice23 : sliceB Tryz.prog 35 55 = true := by kernel_rfl
abbrev vL (x : Lbl) : Value := .agg ⟨[.string x.1, .string x.2]⟩
theorem ldL {H : Heap} {ad : Addr} {x : Lbl} (h : CellsAt H ad (encL.cells x)) : Ld Tryz.prog 55 H ad (vL x) := ld_many (by kernel_rfl) (by kernel_rfl) h
theorem ldN {H : Heap} {ad : Addr} {x : Lbl} (h : CellsAt H ad (encL.cells x)) : Ld Tryz.prog 9 H ad (.string x.1) := ld_cell (by kernel_rfl) (by have := h 0 _ rfl; simpa [Addr.add] using this)
theorem ldV {H : Heap} {ad : Addr} {x : Lbl} (h : CellsAt H ad (encL.cells x)) : Ld Tryz.prog 9 H (ad.add 1) (.string x.2) := ld_part (by kernel_rfl) h (j := 1) rfl

theorem var_lbl {H : Heap} {x : Lbl} {zs : List Value} {K : Nat → Heap → Prop} (hz : zs.length = 2)
    (k : ∀ b H', H.size ≤ b → Blk H' ⟨b, 0, none⟩ [.string x.1, .string x.2] → Fr [] H H' → K b H') :
    ∀ b H', New H b (.cells ⟨zs⟩ 55) H' → ∃ H'_1, St Tryz.prog 55 H' ⟨b, 0, none⟩ (vL x) H'_1 ∧ K b H'_1 :=
  var_blk (by kernel_rfl) (by kernel_rfl) (fun v h => by simp [Value.cells] at h; rcases h with rfl | rfl <;> rfl) hz k
theorem _root_.Go.GV.Blk.s0 {H : Heap} {b : Nat} {x y : ByteArray} (h : Blk H ⟨b, 0, none⟩ [.string x, .string y]) : Ld Tryz.prog 9 H ⟨b, 0, none⟩ (.string x) := h.ld0 (by kernel_rfl) rfl
theorem _root_.Go.GV.Blk.s1 {H : Heap} {b : Nat} {x y : ByteArray} (h : Blk H ⟨b, 0, none⟩ [.string x, .string y]) : Ld Tryz.prog 9 H ⟨b, 1, none⟩ (.string y) := h.ldK (j := 1) (by kernel_rfl) rfl
theorem empty_iff (s : ByteArray) : (s = ⟨#[]⟩) ↔ s.size = 0 := ⟨fun h => by subst h; rfl, fun e => by apply bl_inj; show bl s = []; exact List.eq_nil_of_length_eq_zero (by rw [bl_len]; exact e)⟩
theorem leS_iff (s t : ByteArray) : (Op.bytesLess s.toList t.toList || s.toList == t.toList) = !ltS t s := by
  rw [ltS_of, beqS]
  cases h : ltS t s with
  | true =>
    rw [ltS_asymm h]
    have : ¬ s = t := fun e => by subst e; rw [ltS_irrefl] at h; cases h
    simp [this]
  | false =>
    cases h2 : ltS s t with
    | true => rfl
    | false => simp [ltS_tri h2 h]

noncomputable def chkI (l : List Lbl) : Int := open Classical in if ChkP l then 0 else 40
theorem chkI_no {l : List Lbl} (h : ¬ ChkP l) : chkI l = 40 := if_neg h
theorem chkI_yes {l : List Lbl} (h : ChkP l) : chkI l = 0 := if_pos h
theorem rise_of {l : List Lbl} {k : Nat} (hk : k = l.length) (h : ∀ i x y, i + 1 < k → l[i]? = some x → l[i + 1]? = some y → ltS x.1 y.1 = true) : RiseL l := fun i x y hx hy => h i x y (by
  have := (List.getElem?_eq_some_iff.1 hy).1; omega) hx hy

theorem Check_ok {a : Option Addr} {n c : Nat} {xs : List Lbl} {H : Heap} {K : Int → Heap → Prop} (hx : Sl encL H a n c xs) (hn : n ≤ 1000000000) (hk : ∀ H', Fr [] H H' → K (chkI xs) H') :
    CallH Tryz.prog fn_label_Check ⟨[.slice a n c]⟩ H fun v H' => ∃ e, v = .int .i64 e ∧ K e H' := by
  apply vc_label_Check
  have hlx := hx.len
  have no : ∀ H', Fr [] H H' → ¬ ChkP xs → ∃ e, Value.int .i64 40 = .int .i64 e ∧ K e H' := fun H' hf h => ⟨_, rfl, by have := hk H' hf; rwa [chkI_no h] at this⟩
  refine ⟨fun vs H' => match vs with
      | [.string last, .int _ i] => ∃ k : Nat, i = k ∧ k ≤ n ∧ (∀ x ∈ xs.take k, LblP x) ∧ (∀ i x y, i + 1 < k → xs[i]? = some x → xs[i + 1]? = some y → ltS x.1 y.1 = true) ∧ ((k = 0 ∧ last = ⟨#[]⟩) ∨ ∃ x, 0 < k ∧ xs[k - 1]? = some x ∧ last = x.1) ∧ Fr [] H H'
      | _ => False,
    fun vs _ => match vs with | [_, .int _ i] => n - i.toNat | _ => 0, ⟨0, rfl, by omega, by simp, fun _ _ _ h => by omega, .inl ⟨rfl, rfl⟩, Fr.refl _ _⟩, ?_⟩
  rintro J last i H1 ⟨k, rfl, hle, hall, hr, hlast, hf⟩
  refine brB_of (fun h0 => ?_) (fun h0 => ?_)
  · have h0' : k < n := by simpa using h0
    have hx1 : xs[k]? = some (xs[k]'(by omega)) := by simp
    generalize xs[k]'(by omega) = x at hx1
    have hin : x ∈ xs := List.mem_of_getElem? hx1
    refine (hx.keep hf).get rfl hx1 (decide_eq_true (by omega)) fun ad ea hc => ⟨_, _, ldL hc, ?_⟩
    refine var_lbl rfl fun b H2 hb hv hf2 => ?_
    have hf2' := hf.keep0 hf2
    refine ⟨fun _ H' => Fr [] H H' ∧ Blk H' ⟨b, 0, none⟩ [.string x.1, .string x.2] ∧ LblP x ∧ ltS last x.1 = true, ?_, ?_⟩
    · refine ⟨_, hv.s0, Name_ok fun H3 hf3 => ?_⟩
      have hf3' := hf2'.keep0 hf3
      refine brB_of (fun h => no H3 hf3' fun h' => ?_) (fun h => ⟨_, (hv.keep hf3).s0, ?_⟩)
      · have := (h'.2.1 x hin).1; simp [this] at h
      have hN : NameP x.1 := by simpa using h
      rw [leS_iff]
      refine brB_of (fun h => no H3 hf3' fun h' => ?_) (fun h => ⟨_, (hv.keep hf3).s1, ?_⟩)
      · rcases hlast with ⟨_, rfl⟩ | ⟨y, h1, h2, rfl⟩
        · have h3 : ltS ByteArray.empty x.1 = decide (x.1.size ≠ 0) := ltS_empty
          have h4 : x.1.size ≠ 0 := by have := hN.1; omega
          rw [decide_eq_true h4] at h3
          have h5 : (⟨#[]⟩ : ByteArray) = ByteArray.empty := rfl
          rw [h5, h3] at h; cases h
        · have := h'.2.2 (k - 1) y x h2 (by rw [show k - 1 + 1 = k by omega]; exact hx1)
          rw [this] at h; cases h
      have hlt : ltS last x.1 = true := by simpa using h
      rw [beqS]
      refine brB_of (fun h => no H3 hf3' fun h' => ?_) (fun h => ⟨_, (hv.keep hf3).s1, Value_ok fun H4 hf4 => ?_⟩)
      · have := (h'.2.1 x hin).2.2; have h := of_decide_eq_true h; rw [empty_iff] at h; omega
      have hne : 1 ≤ x.2.size := by have h := of_decide_eq_false h; rw [empty_iff] at h; omega
      refine brB_of (fun h => no H4 (hf3'.keep0 hf4) fun h' => ?_) (fun h => ⟨hf3'.keep0 hf4, (hv.keep hf3).keep hf4, ⟨hN, by simpa using h, hne⟩, hlt⟩)
      have := (h'.2.1 x hin).2.1; simp [this] at h
    · rintro J H3 ⟨hf3, hv3, hL, hlt⟩
      rw [succ64 (by omega)]
      refine ⟨_, hv3.s0, ⟨k + 1, rfl, by omega, ?_, ?_, .inr ⟨x, by omega, by rw [show k + 1 - 1 = k by omega]; exact hx1, rfl⟩, hf3⟩, mu_lt h0'⟩
      · intro y hy
        rw [List.take_add_one, hx1] at hy
        rcases List.mem_append.1 hy with h | h
        · exact hall y h
        · simp at h; subst h; exact hL
      · intro i u w hi hu hw
        rcases Nat.lt_or_ge (i + 1) k with h | h
        · exact hr i u w h hu hw
        · have : i + 1 = k := by omega
          subst this
          rw [hx1] at hw; cases hw
          rcases hlast with ⟨h1, _⟩ | ⟨y, h1, h2, rfl⟩
          · omega
          · rw [show i + 1 - 1 = i by omega, hu] at h2; cases h2; exact hlt
  · have hkn : k = n := by simp at h0; omega
    subst hkn
    rw [hlx, List.take_length] at hall
    refine brB_of (fun h => no H1 hf fun h' => ?_) (fun h => ⟨_, rfl, ?_⟩)
    · have := h'.1; simp at h; omega
    · have hC : ChkP xs := ⟨by simp at h; omega, hall, rise_of hlx hr⟩
      have := hk H1 hf
      rwa [chkI_yes hC] at this

theorem rCheck_ok {a : Option Addr} {n c : Nat} {xs : List Lbl} {H : Heap} {K : Int → Heap → Prop} (hx : Sl encL H a n c xs) (hk : K (chkI xs) H) :
    CallH Tryz.prog fn_ref04_Check ⟨[.slice a n c]⟩ H fun v H' => ∃ e, v = .int .i64 e ∧ K e H' := by
  apply vc_ref04_Check
  have hlx := hx.len
  have no : ¬ ChkP xs → ∃ e, Value.int .i64 40 = .int .i64 e ∧ K e H := fun h => ⟨_, rfl, by rwa [chkI_no h] at hk⟩
  refine brB_of (fun h => no fun h' => by have := h'.1; simp at h; omega) (fun h => ?_)
  have hn8 : n ≤ 8 := by simp at h; omega
  refine ⟨fun vs H' => match vs with
      | [.int _ i] => ∃ k : Nat, i = k ∧ k ≤ n ∧ (∀ x ∈ xs.take k, LblP x) ∧ (∀ i x y, i + 1 < k → xs[i]? = some x → xs[i + 1]? = some y → ltS x.1 y.1 = true) ∧ H' = H
      | _ => False,
    fun vs _ => match vs with | [.int _ i] => n - i.toNat | _ => 0, ⟨0, rfl, by omega, by simp, fun _ _ _ h => by omega, rfl⟩, ?_⟩
  rintro J i H1 ⟨k, rfl, hle, hall, hr, rfl⟩
  refine brB_of (fun h0 => ?_) (fun h0 => ⟨_, rfl, ?_⟩)
  · have h0' : k < n := by simpa using h0
    have hx1 : xs[k]? = some (xs[k]'(by omega)) := by simp
    generalize xs[k]'(by omega) = x at hx1
    have hin : x ∈ xs := List.mem_of_getElem? hx1
    refine ⟨fun _ H' => H' = H1 ∧ LblP x ∧ (0 < k → ∀ y, xs[k - 1]? = some y → ltS y.1 x.1 = true), ?_, ?_⟩
    · refine hx.get rfl hx1 (decide_eq_true (by omega)) fun ad ea hc => ⟨_, ldN hc, rName_ok ?_⟩
      refine brB_of (fun h => no fun h' => ?_) (fun h => ?_)
      · have := (h'.2.1 x hin).1; simp [this] at h
      have hN : NameP x.1 := by simpa using h
      refine hx.get rfl hx1 (decide_eq_true (by omega)) fun ad ea hc => ⟨_, ldV hc, rValue_ok ?_⟩
      refine brB_of (fun h => no fun h' => ?_) (fun h => ?_)
      · have := (h'.2.1 x hin).2.1; simp [this] at h
      have hV : ValP x.2 := by simpa using h
      refine hx.get rfl hx1 (decide_eq_true (by omega)) fun ad ea hc => ⟨_, ldV hc, ?_⟩
      rw [beqS]
      refine brB_of (fun h => no fun h' => ?_) (fun h => ?_)
      · have := (h'.2.1 x hin).2.2; have h := of_decide_eq_true h; rw [empty_iff] at h; omega
      have hL : LblP x := ⟨hN, hV, by have h := of_decide_eq_false h; rw [empty_iff] at h; omega⟩
      refine brB_of (fun h => ?_) (fun h => ⟨rfl, hL, fun h' => by simp at h; omega⟩)
      have hk0 : 0 < k := by simpa using h
      have hy1 : xs[k - 1]? = some (xs[k - 1]'(by omega)) := by simp
      generalize xs[k - 1]'(by omega) = y at hy1
      rw [pred64 (by omega) hk0]
      refine hx.get rfl hx1 (decide_eq_true (by omega)) fun ad ea hc => ⟨_, ldN hc, ?_⟩
      refine hx.get rfl hy1 (decide_eq_true (by omega)) fun bd eb hd => ⟨_, ldN hd, ?_⟩
      rw [leS_iff]
      refine brB_of (fun h => no fun h' => ?_) (fun h => ⟨rfl, hL, fun _ z hz => ?_⟩)
      · have := h'.2.2 (k - 1) y x hy1 (by rw [show k - 1 + 1 = k by omega]; exact hx1)
        rw [this] at h; cases h
      · rw [hy1] at hz; cases hz; simpa using h
    · rintro J H3 ⟨rfl, hL, hlt⟩
      rw [succ64 (by omega)]
      refine ⟨⟨k + 1, rfl, by omega, ?_, ?_, rfl⟩, mu_lt h0'⟩
      · intro y hy
        rw [List.take_add_one, hx1] at hy
        rcases List.mem_append.1 hy with h | h
        · exact hall y h
        · simp at h; subst h; exact hL
      · intro i u w hi hu hw
        rcases Nat.lt_or_ge (i + 1) k with h | h
        · exact hr i u w h hu hw
        · have : i + 1 = k := by omega
          subst this
          rw [hx1] at hw; cases hw
          exact hlt (by omega) u hu
  · have hkn : k = n := by simp at h0; omega
    subst hkn
    rw [hlx, List.take_length] at hall
    have hC : ChkP xs := ⟨by omega, hall, rise_of hlx hr⟩
    rwa [chkI_yes hC] at hk

end Go.Proofs
set_option linter.unusedVariables false
set_option maxRecDepth 100000
open Go Go.GV
namespace Go.Proofs

theorem makeNoZero_ok {H : Heap} {n : Nat} {K : Option Addr → Nat → Nat → Heap → Prop} (hn : n ≤ 140737488355328)
    (hk : ∀ b (cs : Array Value) H', New H b (.cells cs 5) H' → n ≤ cs.size → cs.size ≤ maxLen → K (some ⟨b, 0, none⟩) n cs.size H') :
    ExtH Tryz.prog 161 ⟨[.int .i64 (n : Int)]⟩ H fun v H' => ∃ a n c, v = .slice a n c ∧ K a n c H' := by
  intro E d
  obtain ⟨cs, hr, h1, h2⟩ := Lib.run_makeNoZero (P := Tryz.prog) (mkW E H d) #[3] 65 5 (sliceB_out bT.sl) n (by omega)
  refine ⟨_, H.push (.cells cs 5), ⟨d.1 + 2, Nat.le_trans d.2 (by omega)⟩, ?_, _, _, _, rfl, hk H.size cs _ ⟨rfl, rfl⟩ h1 (h2 (by simp only [maxLen]; omega))⟩
  rw [run_callFunc_extern (fn := Tryz.f161) Tryz.func161 (by kernel_rfl) (by kernel_rfl) (by kernel_rfl) (e := Extern.BytealgMakeNoZero.makeNoZero #[3] #[65]) (by kernel_rfl)]
  have hr' : (Extern.BytealgMakeNoZero.makeNoZero #[3] #[65] ⟨[.int .i64 (n : Int)]⟩).run Tryz.prog (mkW E H d) = _ := hr
  rw [hr']
  rfl
theorem copy_none {H : Heap} {a : Option Addr} {c : Nat} {K : Int → Heap → Prop} (hk : K 0 H) :
    SemWp Tryz.prog (Builtin.copy_ ⟨[65, 65]⟩ 3 ⟨[.slice a 0 c, .slice none 0 0]⟩) H fun v H' => ∃ n, v = .int .i64 n ∧ K n H' := by
  intro E d
  obtain ⟨i, hi, _⟩ := byteB_out bT.byte
  refine ⟨.int .i64 0, H, d, ?_, _, rfl, hk⟩
  cases a with
  | none => simp [Builtin.copy_, run_underlying' (sliceB_out bT.sl), Builtin.lenOf, sizeOf_run hi, Builtin.firstCells, goInt]
  | some ad => simp [Builtin.copy_, run_underlying' (sliceB_out bT.sl), Builtin.lenOf, sizeOf_run hi, Builtin.firstCells, goInt, storeCells]

theorem Grow_ok {H : Heap} {b m : Nat} {K : Heap → Prop} (hb : H[b]? = some (.cells ⟨[.pointer none, .slice none 0 0]⟩ 67 (0, 0))) (hm : m ≤ 140737488355328)
    (hk : ∀ H' S, BldH H' b S [] → Fr [b] H H' → Grow H [b] S → K H') :
    CallH Tryz.prog fn_strings_Builder_Grow ⟨[.pointer (some ⟨b, 0, none⟩), .int .i64 (m : Int)]⟩ H fun v H' => v = .tuple ⟨[]⟩ ∧ K H' := by
  apply vc_strings_Builder_Grow
  have h0 : BldH H b [b] [] := ⟨none, none, 0, 0, 67, hb, .inl ⟨rfl, rfl⟩, Own.nil _ _ _ _, rfl, by simp [blkL]⟩
  refine copyCheck_ok h0 fun H1 o n c te h1 h2 hS h3 hf1 => ?_
  have ho : o = none ∧ n = 0 ∧ c = 0 := by
    obtain ⟨h4, ⟨h5, h6, h7⟩ | ⟨g, cur, h5, _⟩⟩ := h2
    · exact ⟨h5, h6, h7⟩
    · subst h5; simp [blkL] at hS
  obtain ⟨rfl, rfl, rfl⟩ := ho
  have hB : Blk H1 ⟨b, 0, none⟩ [.pointer (some ⟨b, 0, none⟩), .slice none 0 0] := ⟨b, _, rfl, h1⟩
  refine brB_of (fun h => by simp at h; omega) (fun _ => ⟨_, _, _, hB.ld bT.ab (j := 1) rfl, _, _, _, hB.ld bT.ab (j := 1) rfl, brB_of (fun h4 => ?_) (fun h4 => ?_)⟩)
  · apply vc_strings_Builder_grow
    refine ⟨_, _, _, hB.ld bT.ab (j := 1) rfl, _, _, _, hB.ld bT.ab (j := 1) rfl, ?_⟩
    have e : IntKind.i64.wrap (IntKind.i64.wrap (2 * ((0 : Nat) : Int)) + (m : Int)) = ((m : Nat) : Int) := by
      rw [wrap64_of (n := 2 * ((0 : Nat) : Int)) (by omega) (by omega), wrap64_of (by omega) (by omega)]; omega
    rw [e]
    refine makeNoZero_ok hm fun b2 cs H2 hn2 hc1 hc2 => ?_
    have hB2 := hB.keep hn2.fr
    refine ⟨hB2.ld bT.ab (j := 1) rfl, chk_of ⟨by omega, by omega, by omega⟩ ⟨_, _, _, hB2.ld bT.ab (j := 1) rfl, ?_⟩⟩
    refine copy_none ?_
    refine hB2.st (j := 1) (v := .slice (some ⟨b2, 0, none⟩) 0 cs.size) bT.s1 bT.si (fun x hx => by simp [Value.cells] at hx; subst hx; rfl) (by simp [Value.cells]) fun H3 hb3 hf3 => ⟨rfl, rfl, ?_⟩
    obtain ⟨b', te', e, hg⟩ := hb3
    cases e
    have hlt : b < H1.size := lt_of_get h1
    have hb2 : b2 = H1.size := hn2.eq
    have hg2 : H3[b2]? = some (.cells cs 5 (0, 0)) := hf3.get hn2.get (by simp; omega)
    refine hk H3 [b, b2] ⟨_, some ⟨b2, 0, none⟩, 0, cs.size, te', hg, .inr rfl, ⟨rfl, .inr ⟨b2, cs, rfl, Nat.zero_le _, hg2, Nat.zero_le _, hc2, by show cs.size = cs.size * 1; omega, by simp⟩⟩, rfl, by simp [blkL]; omega⟩ ?_ ?_
    · exact (hf1.trans' hn2.fr (T := [b]) (fun k hk _ => hk) (by simp)).trans' hf3 (fun k hk _ => hk) (fun k hk _ => hk)
    · intro k hk
      have := hf1.size
      simp at hk
      rcases hk with rfl | rfl
      · exact .inl (by simp)
      · exact .inr (by omega)
  · exact ⟨rfl, hk H1 [b] ⟨_, none, 0, 0, te, h1, .inr rfl, Own.nil _ _ _ _, rfl, by simp [blkL]⟩ hf1 (Grow.refl _ _)⟩

def joinL (sep : List UInt8) : List ByteArray → List UInt8
  | [] => []
  | x :: l => bl x ++ l.flatMap fun s => sep ++ bl s
def sumS (l : List ByteArray) : Nat := (l.map ByteArray.size).sum
theorem sumS_take {l : List ByteArray} {k : Nat} {x : ByteArray} (h : l[k]? = some x) : sumS (l.take (k + 1)) = sumS (l.take k) + x.size := by
  unfold sumS
  rw [List.take_add_one, h]; simp
theorem sumS_le (l : List ByteArray) (k : Nat) : sumS (l.take k) ≤ sumS l := by
  have : sumS l = sumS (l.take k) + sumS (l.drop k) := by
    unfold sumS
    rw [← List.sum_append, ← List.map_append, List.take_append_drop]
  omega
theorem flat_len (sep : List UInt8) (l : List ByteArray) : (l.flatMap fun s => sep ++ bl s).length = l.length * sep.length + sumS l := by
  induction l with
  | nil => simp [sumS]
  | cons x l ih =>
    rw [List.flatMap_cons, List.length_append, ih, List.length_append, bl_len]
    unfold sumS
    simp only [List.map_cons, List.sum_cons, List.length_cons, Nat.succ_mul]
    omega

theorem Join_ok {a : Option Addr} {n c : Nat} {l : List ByteArray} {sep : ByteArray} {H : Heap} {K : ByteArray → Heap → Prop} (hx : Sl encStr H a n c l) (hn : n ≤ 1000000) (hs : sep.size = 1) (htot : sumS l ≤ 1000000000)
    (hk : ∀ H', Fr [] H H' → K ⟨(joinL (bl sep) l).toArray⟩ H') :
    CallH Tryz.prog fn_strings_Join ⟨[.slice a n c, .string sep]⟩ H fun v H' => ∃ s, v = .string s ∧ K s H' := by
  apply vc_strings_Join
  have hlx := hx.len
  have hcx := hx.cap
  refine brB_of (fun h => ?_) (fun h => brB_of (fun h1 => ?_) (fun h1 => ?_))
  · have h : (n : Int) = 0 := by simpa using h
    have : l = [] := List.eq_nil_of_length_eq_zero (by omega)
    subst this
    exact ⟨_, rfl, hk H (Fr.refl _ _)⟩
  · have h1 : (n : Int) = 1 := by simpa using h1
    have hl1 : l.length = 1 := by omega
    match l, hl1, hx, hk with
    | [x], _, hx, hk =>
      refine hx.head (decide_eq_true (by omega)) fun ad ea hc => ⟨_, ld_one (by kernel_rfl) hc, _, rfl, ?_⟩
      have e : (⟨(joinL (bl sep) [x]).toArray⟩ : ByteArray) = x := by apply bl_inj; simp [joinL, bl]
      have := hk H (Fr.refl _ _)
      rwa [e] at this
  have hn2 : 2 ≤ n := by
    have h : (n : Int) ≠ 0 := by simpa using h
    have h1 : (n : Int) ≠ 1 := by simpa using h1
    omega
  refine ⟨fun vs H' => ∃ m : Nat, vs = [.int .i64 m] ∧ m ≤ 1000000 ∧ H' = H, ?_, ?_⟩
  · rw [hs]
    refine brB_of (fun _ => ?_) (fun h => by simp at h)
    have e1 : IntKind.i64.wrap ((n : Int) - 1) = ((n - 1 : Nat) : Int) := by rw [wrap64_of (by omega) (by omega)]; omega
    rw [e1]
    refine chk_of (by omega) ?_
    have hd : Int.tdiv 9223372036854775807 ((n - 1 : Nat) : Int) = ((9223372036854775807 / (n - 1) : Nat) : Int) := by
      rw [Int.tdiv_eq_ediv_of_nonneg (by decide)]; rfl
    have hq : 9223372036854 ≤ 9223372036854775807 / (n - 1) := by
      rw [Nat.le_div_iff_mul_le (by omega)]
      omega
    have hq2 : 9223372036854775807 / (n - 1) ≤ 9223372036854775807 := Nat.div_le_self _ _
    rw [hd, wrap64_of (by omega) (by omega)]
    refine brB_of (fun h => by have h := of_decide_eq_true h; generalize 9223372036854775807 / (n - 1) = q at *; omega) (fun _ => ⟨n - 1, ?_, by omega, rfl⟩)
    rw [wrap64_of (n := ((1 : Nat) : Int) * ((n - 1 : Nat) : Int)) (by omega) (by omega), wrap64_of (by omega) (by omega)]
    congr 2; omega
  rintro J m0 H1 ⟨m, e, hm, rfl⟩
  simp only [List.cons.injEq, Value.int.injEq, true_and, and_true] at e
  subst e
  refine ⟨fun vs H' => match vs with | [.int _ t, .int _ i] => ∃ (t' k : Nat), t = t' ∧ i = k ∧ k ≤ n ∧ t' = m + sumS (l.take k) ∧ H' = H1 | _ => False,
    fun vs _ => match vs with | [_, .int _ i] => n - i.toNat | _ => 0, ⟨m, 0, rfl, rfl, by omega, by simp [sumS], rfl⟩, ?_⟩
  rintro J t i H2 ⟨t', k, rfl, rfl, hle, ht, rfl⟩
  have hsk := sumS_le l k
  refine brB_of (fun h0 => ?_) (fun h0 => ?_)
  · have h0' : k < n := by simpa using h0
    have hx1 : l[k]? = some (l[k]'(by omega)) := by simp
    generalize l[k]'(by omega) = x at hx1
    have hsk1 := sumS_le l (k + 1)
    have hst := sumS_take hx1
    refine hx.get rfl hx1 (decide_eq_true (by omega)) fun ad ea hc => ⟨_, ld_one (by kernel_rfl) hc, ?_⟩
    rw [wrap64_of (n := 9223372036854775807 - (t' : Int)) (by omega) (by omega)]
    refine brB_of (fun h => by simp at h; omega) (fun _ => ?_)
    rw [wrap64_of (n := (t' : Int) + (x.size : Int)) (by omega) (by omega), succ64 (by omega)]
    exact ⟨⟨t' + x.size, k + 1, by omega, rfl, by omega, by rw [hst, ht]; omega, rfl⟩, mu_lt h0'⟩
  · intro b H3 hn3
    refine Grow_ok hn3.get (by omega) fun H4 S4 hb4 hf4 hg4 => ?_
    have hbH : b = H2.size := hn3.eq
    have hf24 : Fr [] H2 H4 := hn3.fr.keep hf4 (fun k hk => by simp at hk; omega)
    have hS4 : ∀ k ∈ S4, H2.size ≤ k := fun k hk => by
      rcases hg4 k hk with h | h
      · simp at h; omega
      · have := hn3.size; omega
    match l, hlx, hx, hk, htot with
    | [], hlx, _, _, _ => simp at hlx; omega
    | x :: l, hlx, hx, hk, htot =>
    refine (hx.keep hf24).head (decide_eq_true (by omega)) fun ad ea hc => ⟨_, ld_one (by kernel_rfl) hc, ?_⟩
    have hsum : sumS (x :: l) = x.size + sumS l := by simp [sumS]
    refine WriteString_ok hb4 (by simp; omega) fun H5 S5 hb5 hf5 hg5 => chk_of ⟨by omega, by omega, by omega⟩ ?_
    have hf25 : Fr [] H2 H5 := hf24.keep hf5 hS4
    have hS5 : ∀ k ∈ S5, H2.size ≤ k := fun k hk => by
      rcases hg5 k hk with h | h
      · exact hS4 k h
      · have := hf24.size; omega
    have hxt : Sl encStr H2 (slA c 1 1 a) (n - 1) (c - 1) l := hx.drop (k := 1) (by omega)
    have hll : l.length = n - 1 := by simp at hlx; omega
    refine ⟨fun vs H' => match vs with | [.int _ i] => ∃ (k : Nat) (S : List Nat), i = k ∧ k ≤ n - 1 ∧ BldH H' b S (bl x ++ (l.take k).flatMap fun s => bl sep ++ bl s) ∧ (∀ j ∈ S, H2.size ≤ j) ∧ Fr [] H2 H' | _ => False,
      fun vs _ => match vs with | [.int _ i] => n - 1 - i.toNat | _ => 0, ⟨0, S5, rfl, by omega, by simpa using hb5, hS5, hf25⟩, ?_⟩
    rintro J i H6 ⟨k, S6, rfl, hk1, hb6, hS6, hf6⟩
    have hfl := flat_len (bl sep) (l.take k)
    have hsl := sumS_le l k
    rw [List.length_take, bl_len, hs] at hfl
    have en : Int.toNat (n : Int) - Int.toNat 1 = n - 1 := by omega
    have en2 : Int.toNat (n : Int) - 1 = n - 1 := by omega
    rw [en, en2]
    refine brB_of (fun h7 => ?_) (fun h7 => ?_)
    · have h7' : k < n - 1 := by simp at h7; omega
      have hy1 : l[k]? = some (l[k]'(by omega)) := by simp
      generalize l[k]'(by omega) = y at hy1
      have hst := sumS_take hy1
      have hsl1 := sumS_le l (k + 1)
      refine (hxt.keep hf6).get rfl hy1 (decide_eq_true (by omega)) fun ad ea hc => ⟨_, ld_one (by kernel_rfl) hc, ?_⟩
      refine WriteString_ok hb6 (by rw [List.length_append, hfl, bl_len]; omega) fun H7 S7 hb7 hf7 hg7 => ?_
      have hf27 := hf6.keep hf7 hS6
      have hS7 : ∀ k ∈ S7, H2.size ≤ k := fun k hk => by
        rcases hg7 k hk with h | h
        · exact hS6 k h
        · have := hf6.size; omega
      refine WriteString_ok hb7 (by rw [List.length_append, List.length_append, hfl, bl_len, bl_len]; omega) fun H8 S8 hb8 hf8 hg8 => ?_
      rw [succ64 (by omega)]
      refine ⟨⟨k + 1, S8, rfl, by omega, ?_, fun j hj => ?_, hf27.keep hf8 hS7⟩, mu_lt h7'⟩
      · rw [List.take_add_one, hy1]
        simpa using hb8
      · rcases hg8 j hj with h | h
        · exact hS7 j h
        · have := hf27.size; omega
    · have hkn : l.take k = l := List.take_of_length_le (by simp at h7; omega)
      rw [hkn] at hb6 hfl
      exact BString_ok hb6 (by rw [List.length_append, hfl, bl_len]; omega) fun H7 hf7 => ⟨_, rfl, hk H7 (hf6.keep hf7 hS6)⟩
end Go.Proofs
set_option linter.unusedVariables false
set_option maxRecDepth 100000
open Go Go.GV
namespace Go.Proofs

theorem bl_mk (l : List UInt8) : bl ⟨l.toArray⟩ = l := by simp [bl]
theorem size_mk (l : List UInt8) : (⟨l.toArray⟩ : ByteArray).size = l.length := by rw [← bl_len, bl_mk]
theorem size_app (s t : ByteArray) : (s ++ t).size = s.size + t.size := by rw [← bl_len, bl_app, List.length_append, bl_len, bl_len]
theorem bodyL_len (v : List UInt8) : v.length ≤ (bodyL v).length ∧ (bodyL v).length ≤ 2 * v.length := by
  induction v with
  | nil => simp [bodyL]
  | cons b v ih =>
    rw [bodyL_cons, List.length_append, List.length_cons]
    have : (quoteB b).length = 1 ∨ (quoteB b).length = 2 := by
      rcases quoteB_cases b with ⟨e, _⟩ | ⟨_, e⟩ | ⟨_, e⟩ | ⟨_, e⟩ <;> rw [e] <;> simp
    omega
theorem quoteL_len (v : List UInt8) : (quoteL v).length ≤ 2 * v.length + 2 := by
  have := bodyL_len v
  unfold quoteL
  simp only [List.length_append, List.length_cons, List.length_nil]
  omega
theorem body_take {l : List UInt8} {k : Nat} {x : UInt8} (hx : l[k]? = some x) : bodyL (l.take (k + 1)) = bodyL (l.take k) ++ quoteB x := by
  rw [List.take_add_one, hx, bodyL_app]; simp [bodyL]
theorem ldB {H : Heap} {ad : Addr} {x : UInt8} (h : CellsAt H ad (encByte.cells x)) : Ld Tryz.prog 5 H ad (.int .u8 x.toNat) := ld_one (by kernel_rfl) h
theorem u8_eq (x : UInt8) (n : Nat) (h : n < 256) : ((x.toNat : Int) == (n : Int)) = decide (x = UInt8.ofNat n) := by
  by_cases e : x = UInt8.ofNat n
  · rw [decide_eq_true e]; subst e; simp; omega
  · rw [decide_eq_false e]
    simp
    intro h'
    apply e
    apply UInt8.toNat_inj.1
    rw [UInt8.toNat_ofNat']
    omega

theorem sl_blk_lt {α : Type} {E : Enc α} {H : Heap} {b n c : Nat} {xs : List α} (h : Sl E H (some ⟨b, 0, none⟩) n c xs) (hx : xs ≠ []) : b < H.size := by
  obtain ⟨b', off, e, hlt⟩ := h.arr.lt hx
  cases e; exact hlt
theorem Quote_ok {s : ByteArray} {H : Heap} {K : ByteArray → Heap → Prop} (hs : s.size ≤ 1000000000) (hk : ∀ H', Fr [] H H' → K ⟨(quoteL (bl s)).toArray⟩ H') :
    CallH Tryz.prog fn_label_Quote ⟨[.string s]⟩ H fun v H' => ∃ t, v = .string t ∧ K t H' := by
  apply vc_label_Quote
  intro b H1 hn1
  have hbH := hn1.eq
  have hbl := bl_len s
  refine WriteByte_ok (x := 34) (Bld.new hn1) rfl (by simp) fun H2 S2 hb2 hf2 hg2 => ?_
  have hf12 : Fr [] H H2 := hn1.fr.keep hf2 (fun k hk => by simp at hk; omega)
  have hS2 : ∀ k ∈ S2, H.size ≤ k := fun k hk => by
    rcases hg2 k hk with h | h
    · simp at h; omega
    · have := hn1.size; omega
  refine cv_sb bT.str bT.sl (by kernel_rfl) fun b3 c3 H3 hb3 hx3 hf3 => ?_
  have hb3' := hb2.keep hf3
  have hb3S : b3 ∉ S2 := fun hk => by have := hb2.lt b3 hk; omega
  refine ⟨fun vs H' => match vs with | [.int _ i] => ∃ (k : Nat) (S : List Nat), i = k ∧ k ≤ s.size ∧ BldH H' b S (34 :: bodyL ((bl s).take k)) ∧ (∀ j ∈ S, H.size ≤ j) ∧ b3 ∉ S ∧ Sl encByte H' (some ⟨b3, 0, none⟩) s.size c3 (bl s) ∧ Fr [] H H' | _ => False,
    fun vs _ => match vs with | [.int _ i] => s.size - i.toNat | _ => 0, ⟨0, S2, rfl, by omega, hb3', hS2, hb3S, hx3, hf12.keep0 hf3⟩, ?_⟩
  rintro J i H4 ⟨k, S4, rfl, hle, hb4, hS4, hbS4, hx4, hf4⟩
  have hbody := bodyL_len ((bl s).take k)
  rw [List.length_take, hbl] at hbody
  refine brB_of (fun h0 => ?_) (fun h0 => ?_)
  · have h0' : k < s.size := by simpa using h0
    have hx1 : (bl s)[k]? = some ((bl s)[k]'(by omega)) := by simp
    generalize (bl s)[k]'(by omega) = x at hx1
    have hne : bl s ≠ [] := fun e => by rw [e] at hx1; cases hx1
    refine hx4.get rfl hx1 (decide_eq_true (by omega)) fun ad ea hc => ⟨_, ldB hc, ?_⟩
    rw [succ64 (by omega)]
    have wr : ∀ {H5 : Heap} {S5 : List Nat} {H' : Heap} {S : List Nat} {xs : List UInt8}, BldH H' b S5 xs → (∀ j ∈ S, H.size ≤ j) → b3 ∉ S → Sl encByte H5 (some ⟨b3, 0, none⟩) s.size c3 (bl s) → Fr [] H H5 → Fr S H5 H' → Grow H5 S S5 →
        (∀ j ∈ S5, H.size ≤ j) ∧ b3 ∉ S5 ∧ Sl encByte H' (some ⟨b3, 0, none⟩) s.size c3 (bl s) ∧ Fr [] H H' := fun {H5 S5 H' S xs} _ hS hbS hx hf hf' hg => ⟨fun j hj => by
        rcases hg j hj with h | h
        · exact hS j h
        · have := hf.size; omega, fun hk => by
        rcases hg b3 hk with h | h
        · exact hbS h
        · have := sl_blk_lt hx hne; omega, hx.fr hf' (fun ad e => by cases e; exact hbS), hf.keep hf' hS⟩
    have fin : ∀ {H' : Heap} {S : List Nat} {xs : List UInt8}, BldH H' b S xs → xs = 34 :: bodyL ((bl s).take k) ++ quoteB x → ((∀ j ∈ S, H.size ≤ j) ∧ b3 ∉ S ∧ Sl encByte H' (some ⟨b3, 0, none⟩) s.size c3 (bl s) ∧ Fr [] H H') →
        (∃ (k_1 : Nat) (S : List Nat), ((k + 1 : Nat) : Int) = k_1 ∧ k_1 ≤ s.size ∧ BldH H' b S (34 :: bodyL ((bl s).take k_1)) ∧ (∀ j ∈ S, H.size ≤ j) ∧ b3 ∉ S ∧ Sl encByte H' (some ⟨b3, 0, none⟩) s.size c3 (bl s) ∧ Fr [] H H') ∧ s.size - ((k + 1 : Nat) : Int).toNat < s.size - ((k : Nat) : Int).toNat := fun {H' S xs} hB e h => by
      refine ⟨⟨k + 1, S, rfl, by omega, ?_, h.1, h.2.1, h.2.2.1, h.2.2.2⟩, mu_lt h0'⟩
      rw [body_take hx1]
      rw [e] at hB
      exact hB
    have q10 := u8_eq x 10 (by omega)
    have q34 := u8_eq x 34 (by omega)
    have q92 := u8_eq x 92 (by omega)
    simp only [Int.cast_ofNat_Int] at q10 q34 q92
    rw [q10, q34, q92]
    have byteTwo : quoteB x = [92, x] → CallH Tryz.prog 136 ⟨[.pointer (some ⟨b, 0, none⟩), .int .u8 92]⟩ H4 fun v H'_1 => ∃ v_2, v = v_2 ∧ CallH Tryz.prog 136 ⟨[.pointer (some ⟨b, 0, none⟩), .int .u8 x.toNat]⟩ H'_1 fun v H'_2 => ∃ v_3, v = v_3 ∧
        (∃ (k_1 : Nat) (S : List Nat), ((k + 1 : Nat) : Int) = k_1 ∧ k_1 ≤ s.size ∧ BldH H'_2 b S (34 :: bodyL ((bl s).take k_1)) ∧ (∀ j ∈ S, H.size ≤ j) ∧ b3 ∉ S ∧ Sl encByte H'_2 (some ⟨b3, 0, none⟩) s.size c3 (bl s) ∧ Fr [] H H'_2) ∧ s.size - ((k + 1 : Nat) : Int).toNat < s.size - ((k : Nat) : Int).toNat := fun hq => by
      refine WriteByte_ok (x := 92) hb4 rfl (by simp only [List.length_cons]; omega) fun H5 S5 hb5 hf5 hg5 => ?_
      obtain ⟨g1, g2, g3, g4⟩ := wr hb5 hS4 hbS4 hx4 hf4 hf5 hg5
      refine WriteByte_ok (x := x) hb5 rfl (by simp only [List.length_cons, List.length_append, List.length_nil]; omega) fun H6 S6 hb6 hf6 hg6 => ?_
      exact fin hb6 (by rw [hq]; simp) (wr hb6 g1 g2 g3 g4 hf6 hg6)
    have byteOne : quoteB x = [x] → CallH Tryz.prog 136 ⟨[.pointer (some ⟨b, 0, none⟩), .int .u8 x.toNat]⟩ H4 fun v H'_1 => ∃ v_2, v = v_2 ∧
        (∃ (k_1 : Nat) (S : List Nat), ((k + 1 : Nat) : Int) = k_1 ∧ k_1 ≤ s.size ∧ BldH H'_1 b S (34 :: bodyL ((bl s).take k_1)) ∧ (∀ j ∈ S, H.size ≤ j) ∧ b3 ∉ S ∧ Sl encByte H'_1 (some ⟨b3, 0, none⟩) s.size c3 (bl s) ∧ Fr [] H H'_1) ∧ s.size - ((k + 1 : Nat) : Int).toNat < s.size - ((k : Nat) : Int).toNat := fun hq => by
      refine WriteByte_ok (x := x) hb4 rfl (by simp only [List.length_cons]; omega) fun H5 S5 hb5 hf5 hg5 => ?_
      exact fin hb5 (by rw [hq]) (wr hb5 hS4 hbS4 hx4 hf4 hf5 hg5)
    refine brB_of (fun h => ?_) (fun h => ?_)
    · have h : x = 10 := of_decide_eq_true h
      refine WriteString_ok hb4 (by have : (⟨#[92, 110]⟩ : ByteArray).size = 2 := rfl; simp; omega) fun H5 S5 hb5 hf5 hg5 => ?_
      refine fin hb5 ?_ (wr hb5 hS4 hbS4 hx4 hf4 hf5 hg5)
      subst h; rfl
    have n10 : x ≠ 10 := of_decide_eq_false h
    refine brB_of (fun h => brB_of (fun h' => byteTwo ?_) (fun h' => by rw [h] at h'; cases h')) (fun h => brB_of (fun h' => byteTwo ?_) (fun h' => byteOne ?_))
    · have h : x = 34 := of_decide_eq_true h
      subst h; rfl
    · have h : x = 92 := of_decide_eq_true h'
      subst h; rfl
    · have h1 : x ≠ 34 := of_decide_eq_false h
      have h2 : x ≠ 92 := of_decide_eq_false h'
      unfold quoteB
      rw [if_neg h1, if_neg h2, if_neg n10]
  · have hkn : (bl s).take k = bl s := List.take_of_length_le (by simp at h0; omega)
    rw [hkn] at hb4 hbody
    refine WriteByte_ok (x := 34) hb4 rfl (by simp; have := bodyL_len (bl s); omega) fun H5 S5 hb5 hf5 hg5 => ?_
    have hf5' := hf4.keep hf5 hS4
    have hS5 : ∀ j ∈ S5, H.size ≤ j := fun j hj => by
      rcases hg5 j hj with h | h
      · exact hS4 j h
      · have := hf4.size; omega
    exact BString_ok hb5 (by have := bodyL_len (bl s); simp; omega) fun H6 hf6 => ⟨_, rfl, hk H6 (hf5'.keep hf6 hS5)⟩

theorem ext_one {s : ByteArray} {k : Nat} {x : UInt8} (hx : (bl s)[k]? = some x) : bl (s.extract k (k + 1)) = [x] := by
  rw [bl_ext, List.take_add_one, hx, List.drop_append]
  have hl := (List.getElem?_eq_some_iff.1 hx).1
  have h1 : ((bl s).take k).length = k := by rw [List.length_take]; omega
  rw [List.drop_of_length_le (by omega), h1]
  simp
theorem rQuote_ok {s : ByteArray} {H : Heap} {K : ByteArray → Heap → Prop} (hs : s.size ≤ 1000000000) (hk : K ⟨(quoteL (bl s)).toArray⟩ H) :
    CallH Tryz.prog fn_ref04_Quote ⟨[.string s]⟩ H fun v H' => ∃ t, v = .string t ∧ K t H' := by
  apply vc_ref04_Quote
  have hbl := bl_len s
  refine ⟨fun vs H' => match vs with | [.string t, .int _ i] => ∃ k : Nat, i = k ∧ k ≤ s.size ∧ bl t = bodyL ((bl s).take k) ∧ H' = H | _ => False,
    fun vs _ => match vs with | [_, .int _ i] => s.size - i.toNat | _ => 0, ⟨0, rfl, by omega, rfl, rfl⟩, ?_⟩
  rintro J t i H1 ⟨k, rfl, hle, ht, rfl⟩
  have hbody := bodyL_len ((bl s).take k)
  rw [List.length_take, hbl, ← ht, bl_len] at hbody
  refine brB_of (fun h0 => ?_) (fun h0 => ?_)
  · have h0' : k < s.size := by simpa using h0
    have hx1 : (bl s)[k]? = some ((bl s)[k]'(by omega)) := by simp
    generalize (bl s)[k]'(by omega) = x at hx1
    have hat : atB s k = x.toNat := atB_of (by rw [bl_get]; exact hx1)
    rw [Int.toNat_natCast, hat, succ64 (by omega)]
    have q10 := u8_eq x 10 (by omega)
    have q34 := u8_eq x 34 (by omega)
    have q92 := u8_eq x 92 (by omega)
    simp only [Int.cast_ofNat_Int] at q10 q34 q92
    rw [q10, q34, q92]
    have fin : ∀ u : ByteArray, bl u = quoteB x → (∃ k_1 : Nat, ((k + 1 : Nat) : Int) = k_1 ∧ k_1 ≤ s.size ∧ bl (t ++ u) = bodyL ((bl s).take k_1) ∧ H1 = H1) ∧ s.size - ((k + 1 : Nat) : Int).toNat < s.size - ((k : Nat) : Int).toNat := fun u hu =>
      ⟨⟨k + 1, rfl, by omega, by rw [bl_app, hu, body_take hx1, ht], rfl⟩, mu_lt h0'⟩
    refine chk_of ⟨by omega, by omega⟩ (brB_of (fun h => ?_) (fun h => brB_of (fun h2 => ?_) (fun h2 => brB_of (fun h3 => ?_) (fun h3 => ?_))))
    · have h : x = 34 := of_decide_eq_true h
      exact chk_true (decide_eq_true (by omega)) (fin ⟨#[92, 34]⟩ (by subst h; rfl))
    · have h : x = 92 := of_decide_eq_true h2
      exact chk_true (decide_eq_true (by omega)) (fin ⟨#[92, 92]⟩ (by subst h; rfl))
    · have h : x = 10 := of_decide_eq_true h3
      exact chk_true (decide_eq_true (by omega)) (fin ⟨#[92, 110]⟩ (by subst h; rfl))
    · refine chk_of ⟨by omega, by omega, by omega⟩ ?_
      rw [Int.toNat_natCast]
      have e := ext_one hx1
      have es : (s.extract k (k + 1)).size = 1 := by rw [← bl_len, e]; rfl
      refine chk_true (decide_eq_true (by omega)) (fin _ ?_)
      rw [e]
      have n1 : x ≠ 34 := of_decide_eq_false h
      have n2 : x ≠ 92 := of_decide_eq_false h2
      have n3 : x ≠ 10 := of_decide_eq_false h3
      unfold quoteB
      rw [if_neg n1, if_neg n2, if_neg n3]
  · have hkn : (bl s).take k = bl s := List.take_of_length_le (by simp at h0; omega)
    rw [hkn] at ht
    have e34 : (⟨#[34]⟩ : ByteArray).size = 1 := rfl
    refine chk_true (decide_eq_true (by omega)) (chk_true (decide_eq_true (by rw [size_app]; omega)) ⟨_, rfl, ?_⟩)
    have e : (⟨#[34]⟩ ++ t ++ ⟨#[34]⟩ : ByteArray) = ⟨(quoteL (bl s)).toArray⟩ := by
      apply bl_inj
      rw [bl_app, bl_app, ht, bl_mk]; rfl
    rw [e]; exact hk
end Go.Proofs
set_option linter.unusedVariables false
set_option maxRecDepth 100000
open Go Go.GV
namespace Go.Proofs

theorem noU_big {ds t : List UInt8} {c : UInt8} (hd : HighL ds) (hc : c.toNat < 128) (hv : 18446744073709551616 ≤ valL (ds ++ [c])) : ¬ ShortU (ds ++ c :: t) ∧ NoU (ds ++ c :: t) := by
  refine ⟨fun h => ?_, fun n hn t' e => ?_⟩
  · have := h.2 c (by simp); omega
  · obtain ⟨_, _, h3, _⟩ := low_pre hd hc e
    omega
theorem noU_odd {ds t : List UInt8} {c : UInt8} (hd : HighL ds) (hc : c.toNat < 128) (hv : uintL (valL (ds ++ [c])) ≠ ds ++ [c]) : ¬ ShortU (ds ++ c :: t) ∧ NoU (ds ++ c :: t) := by
  refine ⟨fun h => ?_, fun n hn t' e => ?_⟩
  · have := h.2 c (by simp); omega
  · obtain ⟨h1, _, h3, _⟩ := low_pre hd hc e
    exact hv (by rw [← h3, h1])
theorem valL_drop {l : List UInt8} {j : Nat} {c : UInt8} (h : l[j]? = some c) : valL (l.drop j) = c.toNat % 128 + 128 * valL (l.drop (j + 1)) := by
  obtain ⟨hj, rfl⟩ := List.getElem?_eq_some_iff.1 h
  rw [← List.getElem_cons_drop hj]
  rfl
theorem valL_drop_le (l : List UInt8) (j : Nat) : valL (l.drop j) ≤ valL l := by
  have : valL l = valL (l.take j) + 128 ^ (l.take j).length * valL (l.drop j) := by rw [← valL_app, List.take_append_drop]
  have h1 : 1 ≤ 128 ^ (l.take j).length := Nat.pow_pos (by omega)
  have := Nat.mul_le_mul_right (valL (l.drop j)) h1
  omega

theorem rGetUint_ok {s : ByteArray} {at' : Int} {H : Heap} {K : Int → Int → Int → Heap → Prop} (hs : s.size ≤ 100000000000) (hbad : ¬ (0 ≤ at' ∧ at' ≤ s.size) → K 0 0 1 H)
    (hk : ∀ a : Nat, at' = a → a ≤ s.size → ∀ v n e H', GU ((bl s).drop a) a v n e → Fr [] H H' → K v n e H') :
    CallH Tryz.prog fn_ref01_GetUint ⟨[.string s, .int .i64 at']⟩ H fun v H' => ∃ n m e, v = .tuple ⟨[.int .u64 n, .int .i64 m, .int .i64 e]⟩ ∧ K n m e H' := by
  apply vc_ref01_GetUint
  refine ⟨fun vs H' => H' = H ∧ 0 ≤ at' ∧ at' ≤ s.size, ?_, ?_⟩
  · refine brB_of (fun h => ⟨_, _, _, rfl, hbad ?_⟩) (fun h => brB_of (fun h2 => ⟨_, _, _, rfl, hbad ?_⟩) (fun h2 => ⟨rfl, ?_, ?_⟩))
    · simp at h; omega
    · simp at h2; omega
    · simp at h; omega
    · simp at h2; omega
  rintro J H1 ⟨rfl, h0, h01⟩
  obtain ⟨a, rfl⟩ : ∃ a : Nat, at' = a := ⟨at'.toNat, by omega⟩
  have hk := hk a rfl (by omega)
  have hrl : ((bl s).drop a).length = s.size - a := by rw [List.length_drop, bl_len]
  generalize hr : (bl s).drop a = r at hk hrl
  refine ⟨fun vs H' => match vs with
      | [.int _ i] => ∃ k : Nat, i = k ∧ k ≤ 10 ∧ k ≤ r.length ∧ HighL (r.take k) ∧ H' = H1
      | _ => False,
    fun vs _ => match vs with | [.int _ i] => 10 - i.toNat | _ => 0, ⟨0, rfl, by omega, by omega, fun d hd => by simp at hd, rfl⟩, ?_⟩
  rintro J i H2 ⟨k, rfl, hk10, hkl, hh, rfl⟩
  have ew : IntKind.i64.wrap ((a : Int) + k) = ((a + k : Nat) : Int) := by rw [wrap64_of (by omega) (by omega)]; omega
  rw [ew]
  have htl : (r.take k).length = k := by rw [List.length_take]; omega
  refine ⟨fun vs H' => H' = H2 ∧ k < 10 ∧ k + 1 ≤ r.length ∧ HighL (r.take (k + 1)), ?_, ?_⟩
  rotate_left
  · rintro J H3 ⟨rfl, h1, h2, h3⟩
    rw [succ64 (by omega)]
    exact ⟨⟨k + 1, rfl, by omega, h2, h3, rfl⟩, mu_lt h1⟩
  refine brB_of (fun h1 => brB_of (fun h2 => ?_) (fun h2 => brB_of (fun h3 => by simp at h1 h3; omega) (fun h3 => brB_of (fun h4 => ⟨_, _, _, rfl, hk _ _ _ _ (.inr (.inl ⟨rfl, rfl, rfl, ?_, ?_⟩)) (Fr.refl _ _)⟩) (fun h4 => ?_)))) (fun h1 => brB_of (fun h3 => ⟨_, _, _, rfl, hk _ _ _ _ (.inr (.inr ⟨rfl, rfl, rfl, ?_, ?_⟩)) (Fr.refl _ _)⟩) (fun h3 => by simp at h1 h3; omega))
  rotate_left
  · simp at h1 h2; omega
  · rwa [List.take_of_length_le (by simp at h2; omega)] at hh
  · simp at h2 h4; omega
  · exact fun h => by have := h.1; simp at h1; omega
  · exact fun n hn t e => high_pre hn (by have : k = 10 := by simp at h1; omega
                                          subst this; exact hh) e
  have hlt : a + k < s.size := by simp at h2; omega
  obtain ⟨c, hc1, hc2, hc3⟩ := drop_at hlt
  rw [hr] at hc1 hc3
  refine chk_true (decide_eq_true (by omega)) ?_
  rw [Int.toNat_natCast, ← hc2]
  have hcl := c.toNat_lt
  have e5 : r.take (k + 1) = r.take k ++ [c] := by rw [List.take_add_one, hc3]; rfl
  refine brB_of (fun h3 => ⟨rfl, by simp at h1; omega, by omega, ?_⟩) (fun h3 => ?_)
  · rw [e5]
    intro d hd
    rcases List.mem_append.1 hd with h | h
    · exact hh d h
    · simp at h; subst h; simp at h3; omega
  have hc : c.toNat < 128 := by simp at h3; omega
  refine brB_of (fun h4 => by simp at h1 h4; omega) (fun h4 => brB_of (fun h5 => by simp at h5; omega) (fun h5 => ?_))
  have hl1 : (r.take (k + 1)).length = k + 1 := by rw [List.length_take]; omega
  generalize hw : r.take (k + 1) = w at e5 hl1
  refine ⟨fun vs H' => match vs with
      | [.int _ v, .int _ i] => ∃ j : Nat, i = (j : Int) - 1 ∧ j ≤ k + 1 ∧ v = ((valL (w.drop j) : Nat) : Int) ∧ valL (w.drop j) < 18446744073709551616 ∧ H' = H2
      | _ => False,
    fun vs _ => match vs with | [_, .int _ i] => (i + 1).toNat | _ => 0, ⟨k + 1, by omega, by omega, by rw [List.drop_of_length_le (by omega)]; rfl, by rw [List.drop_of_length_le (by omega)]; simp [valL], rfl⟩, ?_⟩
  rintro J v i H3 ⟨j, rfl, hjk, rfl, hv, rfl⟩
  refine brB_of (fun h6 => ?_) (fun h6 => ?_)
  · have hj0 : 0 < j := by simp at h6; omega
    obtain ⟨j, rfl⟩ : ∃ j', j = j' + 1 := ⟨j - 1, by omega⟩
    obtain ⟨d, hd1, hd2, hd3⟩ := drop_at (s := s) (a := a) (k := j) (by omega)
    have hwj : w[j]? = some d := by
      rw [← hw, List.getElem?_take, if_pos (by omega), ← hr]; exact hd3
    have hvd := valL_drop hwj
    have hdl := d.toNat_lt
    rw [show ((j + 1 : Nat) : Int) - 1 = (j : Int) by omega]
    have ew2 : IntKind.i64.wrap ((a : Int) + j) = ((a + j : Nat) : Int) := by rw [wrap64_of (by omega) (by omega)]; omega
    rw [ew2, Int.toNat_natCast, ← hd2]
    refine brB_of (fun h7 => ⟨_, _, _, rfl, hk _ _ _ _ (.inr (.inr ?_)) (Fr.refl _ _)⟩) (fun h7 => ?_)
    · refine ⟨rfl, rfl, rfl, ?_⟩
      rw [hc1]
      refine noU_big hh hc ?_
      have := valL_drop_le w j
      rw [e5] at this hvd h7
      simp at h7
      omega
    · refine chk_true (decide_eq_true (by omega)) ?_
      simp at h7
      have e7 : IntKind.u64.wrap (IntKind.u64.wrap (((valL (w.drop (j + 1)) : Nat) : Int) * 128) + IntKind.u64.wrap (Int.tmod (d.toNat : Int) 128)) = ((valL (w.drop j) : Nat) : Int) := by
        have : Int.tmod (d.toNat : Int) 128 = ((d.toNat % 128 : Nat) : Int) := by
          rw [Int.tmod_eq_emod_of_nonneg (by omega)]; omega
        rw [this, wrapU64 (n := ((d.toNat % 128 : Nat) : Int)) (by omega) (by omega), wrapU64 (n := ((valL (w.drop (j + 1)) : Nat) : Int) * 128) (by omega) (by omega), wrapU64 (by omega) (by omega)]
        omega
      rw [e7]
      rw [wrap64_of (by omega) (by omega)]
      refine ⟨⟨j, rfl, by omega, rfl, by omega, rfl⟩, ?_⟩
      show ((j : Int) - 1 + 1).toNat < ((j : Int) + 1).toNat
      omega
  · have hj0 : j = 0 := by simp at h6; omega
    subst hj0
    rw [List.drop_zero] at hv ⊢
    rw [succ64 (by omega)]
    refine chk_true (decide_eq_true (by omega)) (rUint_ok hv fun H4 hf4 => ?_)
    have eb : bl (s.extract ((a : Int)).toNat ((a + k + 1 : Nat) : Int).toNat) = w := by
      rw [bl_ext, Int.toNat_natCast, Int.toNat_natCast, List.drop_take, hr, show a + k + 1 - a = k + 1 by omega, hw]
    refine brB_of (fun h7 => ⟨_, _, _, rfl, hk _ _ _ _ (.inr (.inr ?_)) hf4⟩) (fun h7 => ⟨_, _, _, rfl, hk _ _ _ _ ?_ hf4⟩)
    · refine ⟨rfl, rfl, rfl, ?_⟩
      rw [hc1]
      refine noU_odd hh hc ?_
      intro e
      have : (⟨(uintL (valL w)).toArray⟩ : ByteArray) = s.extract ((a : Int)).toNat ((a + k + 1 : Nat) : Int).toNat := by
        apply bl_inj
        rw [eb, bl_mk, e5, e]
      rw [this] at h7
      simp at h7
    · have e8 : uintL (valL w) = w := by
        have : (⟨(uintL (valL w)).toArray⟩ : ByteArray) = s.extract ((a : Int)).toNat ((a + k + 1 : Nat) : Int).toNat := by
          rw [beqS] at h7
          simpa using h7
        have := congrArg bl this
        rw [eb, bl_mk] at this
        exact this
      refine .inl ⟨valL w, rfl, hv, ?_, ?_, ?_, rfl⟩
      · rw [e8, hl1]
        rw [← hw, List.take_append_drop]
      · rw [e8]; omega
      · rw [e8, hl1]; omega
end Go.Proofs
set_option linter.unusedVariables false
set_option maxRecDepth 100000
open Go Go.GV
namespace Go.Proofs

def ShortT (r : List UInt8) : Prop := ShortU r ∨ ∃ n, n < 18446744073709551616 ∧ ∃ t, r = uintL n ++ t ∧ t.length < n
def GT (r : List UInt8) (a : Nat) (t : ByteArray) (next e : Int) : Prop :=
  (r = textL t ++ r.drop (textL t).length ∧ (textL t).length ≤ r.length ∧ next = ((a + (textL t).length : Nat) : Int) ∧ e = 0) ∨ (t = ⟨#[]⟩ ∧ next = 0 ∧ e = 10 ∧ ShortT r) ∨ (t = ⟨#[]⟩ ∧ next = 0 ∧ e = 11 ∧ ¬ ShortU r ∧ NoU r)
theorem GT.bad {r : List UInt8} {a : Nat} {v next e : Int} (h : GU r a v next e) (he : e ≠ 0) : GT r a ⟨#[]⟩ 0 e := by
  rcases h with ⟨n, _, _, _, _, _, h⟩ | ⟨_, _, h, h1⟩ | ⟨_, _, h, h1⟩
  · exact absurd h he
  · exact .inr (.inl ⟨rfl, rfl, h, .inl h1⟩)
  · exact .inr (.inr ⟨rfl, rfl, h, h1⟩)
theorem ShortT.no {r x : List UInt8} (h : ShortT r) (t : ByteArray) (ht : t.size < 18446744073709551616) : r ≠ textL t ++ x := by
  intro e
  unfold textL at e
  rw [List.append_assoc] at e
  rcases h with h | ⟨n, hn, t', h1, h2⟩
  · exact h.no _ ht _ e
  · obtain ⟨e1, e2⟩ := uint_eq (h1.symm.trans e)
    rw [e2, List.length_append, bl_len] at h2
    omega
theorem text_eq {s t : ByteArray} {x y : List UInt8} (h : textL s ++ x = textL t ++ y) : s = t ∧ x = y := by
  unfold textL at h
  rw [List.append_assoc, List.append_assoc] at h
  obtain ⟨e1, e2⟩ := uint_eq h
  have := List.append_inj e2 (by rw [bl_len, bl_len, e1])
  exact ⟨bl_inj this.1, this.2⟩
theorem size64 {t : ByteArray} {r : List UInt8} (h : (textL t).length ≤ r.length) : t.size ≤ r.length := by
  unfold textL at h
  rw [List.length_append, bl_len] at h; omega
theorem GT.of {r x : List UInt8} {a : Nat} {t t' : ByteArray} {next e : Int} (h : GT r a t next e) (ht : t'.size < 18446744073709551616) (hr : r = textL t' ++ x) : t = t' ∧ next = ((a + (textL t').length : Nat) : Int) ∧ e = 0 := by
  rcases h with ⟨h1, h2, h3, h4⟩ | ⟨_, _, _, h⟩ | ⟨_, _, _, _, h⟩
  · obtain ⟨rfl, _⟩ := text_eq (h1.symm.trans hr)
    exact ⟨rfl, h3, h4⟩
  · exact absurd hr (h.no t' ht)
  · unfold textL at hr
    rw [List.append_assoc] at hr
    exact absurd hr (h _ ht _)
theorem GT.same {r : List UInt8} {a : Nat} {t t' : ByteArray} {next e next' e' : Int} (hr : r.length < 18446744073709551616) (h : GT r a t next e) (h' : GT r a t' next' e') : t = t' ∧ next = next' ∧ e = e' := by
  rcases h with ⟨h1, h2, h3, h4⟩ | ⟨rfl, rfl, rfl, h1⟩ | ⟨rfl, rfl, rfl, h1, h2⟩
  · have := size64 h2
    obtain ⟨rfl, rfl, rfl⟩ := h'.of (by omega) h1
    exact ⟨rfl, h3, h4⟩
  · rcases h' with ⟨h1', h2', h3, h4⟩ | ⟨rfl, rfl, rfl, h1'⟩ | ⟨rfl, rfl, rfl, h1', h2'⟩
    · have := size64 h2'
      exact absurd h1' (h1.no _ (by omega))
    · exact ⟨rfl, rfl, rfl⟩
    · rcases h1 with h | ⟨n, hn, t, h, _⟩
      · exact absurd h h1'
      · exact absurd h (h2' n hn t)
  · rcases h' with ⟨h1', h2', h3, h4⟩ | ⟨rfl, rfl, rfl, h1'⟩ | ⟨rfl, rfl, rfl, h1', h2'⟩
    · have := size64 h2'
      unfold textL at h1'
      rw [List.append_assoc] at h1'
      exact absurd h1' (h2 _ (by omega) _)
    · rcases h1' with h | ⟨n, hn, t, h, _⟩
      · exact absurd h h1
      · exact absurd h (h2 n hn t)
    · exact ⟨rfl, rfl, rfl⟩


theorem GetText_ok {s : ByteArray} {at' : Int} {H : Heap} {K : ByteArray → Int → Int → Heap → Prop} (hs : s.size ≤ 100000000000) (hbad : ¬ (0 ≤ at' ∧ at' ≤ s.size) → K ⟨#[]⟩ 0 1 H)
    (hk : ∀ a : Nat, at' = a → a ≤ s.size → ∀ t n e H', GT ((bl s).drop a) a t n e → Fr [] H H' → K t n e H') :
    CallH Tryz.prog fn_zig_GetText ⟨[.string s, .int .i64 at']⟩ H fun v H' => ∃ t m e, v = .tuple ⟨[.string t, .int .i64 m, .int .i64 e]⟩ ∧ K t m e H' := by
  apply vc_zig_GetText
  refine GetUint_ok hs (fun h => brB_of (fun _ => ⟨_, _, _, rfl, hbad h⟩) (fun h => by simp at h)) fun a ea ha v n e hg => ?_
  subst ea
  have hk := fun t n e h => hk a rfl ha t n e H h (Fr.refl _ _)
  have hrl : ((bl s).drop a).length = s.size - a := by rw [List.length_drop, bl_len]
  generalize hr : (bl s).drop a = r at hk hrl hg
  refine brB_of (fun h1 => ⟨_, _, _, rfl, hk _ _ _ (GT.bad hg (by simpa using h1))⟩) (fun h1 => ?_)
  have e0 : e = 0 := by simpa using h1
  obtain ⟨n', rfl, h2, h3, h4, rfl, _⟩ : ∃ n' : Nat, v = n' ∧ n' < 18446744073709551616 ∧ r = uintL n' ++ r.drop (uintL n').length ∧ (uintL n').length ≤ r.length ∧ n = ((a + (uintL n').length : Nat) : Int) ∧ e = 0 := by
    rcases hg with h | ⟨_, _, h, _⟩ | ⟨_, _, h, _⟩
    · exact h
    · omega
    · omega
  generalize hm : (uintL n').length = m at *
  have ew : IntKind.u64.wrap (IntKind.i64.wrap ((s.size : Int) - ((a + m : Nat) : Int))) = ((s.size - (a + m) : Nat) : Int) := by
    rw [wrap64_of (by omega) (by omega), wrapU64 (by omega) (by omega)]; omega
  rw [ew]
  refine brB_of (fun h5 => ⟨_, _, _, rfl, hk _ _ _ (.inr (.inl ⟨rfl, rfl, rfl, .inr ⟨n', h2, _, h3, ?_⟩⟩))⟩) (fun h5 => ?_)
  · rw [List.length_drop]; simp at h5; omega
  have h5' : n' ≤ s.size - (a + m) := by simp at h5; omega
  have ew2 : IntKind.i64.wrap (((a + m : Nat) : Int) + IntKind.i64.wrap (n' : Int)) = ((a + m + n' : Nat) : Int) := by
    rw [wrap64_of (n := (n' : Int)) (by omega) (by omega), wrap64_of (by omega) (by omega)]; omega
  rw [ew2]
  refine chk_true (decide_eq_true (by omega)) ⟨_, _, _, rfl, hk _ _ _ (.inl ?_)⟩
  have eb : bl (s.extract (((a + m : Nat) : Int)).toNat ((a + m + n' : Nat) : Int).toNat) = (r.drop m).take n' := by
    rw [bl_ext, Int.toNat_natCast, Int.toNat_natCast, ← hr, List.drop_drop, List.drop_take, show a + m + n' - (a + m) = n' by omega]
  have el : (s.extract (((a + m : Nat) : Int)).toNat ((a + m + n' : Nat) : Int).toNat).size = n' := by
    rw [← bl_len, eb, List.length_take, List.length_drop]; omega
  have et : textL (s.extract (((a + m : Nat) : Int)).toNat ((a + m + n' : Nat) : Int).toNat) = uintL n' ++ (r.drop m).take n' := by
    unfold textL; rw [el, eb]
  have etl : (textL (s.extract (((a + m : Nat) : Int)).toNat ((a + m + n' : Nat) : Int).toNat)).length = m + n' := by
    rw [et, List.length_append, List.length_take, List.length_drop, hm]; omega
  refine ⟨?_, ?_, ?_, rfl⟩
  · rw [etl, et, List.append_assoc, ← List.drop_drop, List.take_append_drop]
    exact h3
  · omega
  · rw [etl]; omega


end Go.Proofs
set_option linter.unusedVariables false
set_option maxRecDepth 100000
open Go Go.GV
namespace Go.Proofs
theorem prefix_eq (s p : ByteArray) (h : p.size ≤ s.size) : (ByteArray.toList (s.extract 0 p.size) == ByteArray.toList p) = decide (p.size ≤ s.size ∧ (bl s).take p.size = bl p) := by
  rw [beqS]
  refine decide_eq_decide.2 ⟨fun e => ⟨h, ?_⟩, fun e => ?_⟩
  · rw [← e, bl_ext]; rw [e]; rfl
  · apply bl_inj
    rw [bl_ext, List.drop_zero]; exact e.2

theorem tail_ext {s : ByteArray} {k : Nat} (h : k ≤ s.size) : bl (s.extract k s.size) = (bl s).drop k := by
  rw [bl_ext, List.take_of_length_le (by rw [bl_len]; omega)]
theorem CutPrefix_ok {s p : ByteArray} {H : Heap} {K : ByteArray → Bool → Heap → Prop} (hyes : ∀ t, bl s = bl p ++ bl t → K t true H) (hno : (∀ r, bl s ≠ bl p ++ r) → K s false H) :
    CallH Tryz.prog fn_strings_CutPrefix ⟨[.string s, .string p]⟩ H fun v H' => ∃ t b, v = .tuple ⟨[.string t, .bool b]⟩ ∧ K t b H' := by
  apply vc_strings_CutPrefix
  apply vc_internal_stringslite_CutPrefix
  have main : CallH Tryz.prog 162 ⟨[.string s, .string p]⟩ H fun v H' => ∃ b, v = .bool b ∧ (b = decide (p.size ≤ s.size ∧ (bl s).take p.size = bl p) ∧ H' = H) := by
    apply vc_internal_stringslite_HasPrefix
    refine brB_of (fun h => ?_) (fun h => ⟨_, rfl, ?_, rfl⟩)
    · have h' : p.size ≤ s.size := by simp at h; omega
      refine chk_of ⟨by omega, by omega, by omega⟩ ⟨_, rfl, ?_, rfl⟩
      rw [Int.toNat_natCast, prefix_eq s p h']
    · have h' : ¬ p.size ≤ s.size := by simp at h; omega
      exact (decide_eq_false fun hh => h' hh.1).symm
  refine main.mono fun v H' h => ?_
  obtain ⟨b, rfl, rfl, rfl⟩ := h
  refine ⟨_, rfl, brB_of (fun h => ⟨_, _, rfl, _, _, rfl, hno fun r e => ?_⟩) (fun h => ?_)⟩
  · have : ¬ (p.size ≤ s.size ∧ (bl s).take p.size = bl p) := of_decide_eq_false (by simpa only [Bool.not_eq_true'] using h)
    refine this ⟨?_, ?_⟩
    · rw [← bl_len, ← bl_len, e]; simp
    · rw [e, ← bl_len]; simp
  · have h' : p.size ≤ s.size ∧ (bl s).take p.size = bl p := of_decide_eq_true (by simpa only [Bool.not_eq_false'] using h)
    refine chk_of ⟨by omega, by omega, by omega⟩ ⟨_, _, rfl, _, _, rfl, hyes _ ?_⟩
    rw [Int.toNat_natCast, Int.toNat_natCast, tail_ext h'.1, ← h'.2, List.take_append_drop]

theorem indexByte_cases : ∀ (l : List UInt8) (c : UInt8), (Lib.indexByte l c = -1 ∧ c ∉ l) ∨ ∃ k : Nat, Lib.indexByte l c = k ∧ k < l.length ∧ l[k]? = some c ∧ c ∉ l.take k
  | [], c => .inl ⟨rfl, by simp⟩
  | b :: l, c => by
    unfold Lib.indexByte
    by_cases h : b = c
    · subst h
      exact .inr ⟨0, by simp, by simp, rfl, by simp⟩
    · rw [if_neg (by simpa using h)]
      rcases indexByte_cases l c with ⟨h1, h2⟩ | ⟨k, h1, h2, h3, h4⟩
      · rw [h1]
        exact .inl ⟨rfl, by simp [h2, Ne.symm h]⟩
      · refine .inr ⟨k + 1, ?_, by simp; omega, h3, ?_⟩
        · rw [h1, if_neg (by simp only [beq_iff_eq]; omega)]; rfl
        · rw [List.take_succ_cons, List.mem_cons]
          rintro (h5 | h5)
          · exact h h5.symm
          · exact h4 h5
theorem IndexByteE {s : ByteArray} {c : UInt8} {H : Heap} {K : Int → Heap → Prop} (hk : K (Lib.indexByte (bl s) c) H) :
    ExtH Tryz.prog 173 ⟨[.string s, .int .u8 (c.toNat : Nat)]⟩ H fun v H' => ∃ n, v = .int .i64 n ∧ K n H' :=
  ext_ok (fn := Tryz.f173) Tryz.func173 (by kernel_rfl) (by kernel_rfl) (by kernel_rfl) (e := Extern.BytealgIndexByte.indexByte) (by kernel_rfl) (fun w => Lib.run_indexByteString s _ w) ⟨_, rfl, by
    rw [Int.toNat_natCast]
    have : c.toNat.toUInt8 = c := by
      apply UInt8.toNat.inj
      simp [Nat.toUInt8]
    rw [this]
    exact hk⟩
theorem atB_one (c : UInt8) : atB ⟨#[c]⟩ 0 = c.toNat := atB_of rfl
theorem Cut_ok {s : ByteArray} {c : UInt8} {H : Heap} {K : ByteArray → ByteArray → Bool → Heap → Prop} (hs : s.size ≤ 100000000000) (hyes : ∀ u t, bl s = bl u ++ c :: bl t → (∀ b ∈ bl u, b ≠ c) → K u t true H) (hno : c ∉ bl s → K s ⟨#[]⟩ false H) :
    CallH Tryz.prog fn_strings_Cut ⟨[.string s, .string ⟨#[c]⟩]⟩ H fun v H' => ∃ u t b, v = .tuple ⟨[.string u, .string t, .bool b]⟩ ∧ K u t b H' := by
  apply vc_strings_Cut
  apply vc_internal_stringslite_Cut
  have hone : (⟨#[c]⟩ : ByteArray).size = 1 := rfl
  have fin : K = K → CallH Tryz.prog 149 ⟨[.string s, .string ⟨#[c]⟩]⟩ H fun v H' => ∃ n, v = .int .i64 n ∧ (((n = -1 ∧ c ∉ bl s) ∨ ∃ k : Nat, n = k ∧ k < s.size ∧ (bl s)[k]? = some c ∧ c ∉ (bl s).take k) ∧ H' = H) := fun _ => by
    apply vc_internal_stringslite_Index
    refine ⟨fun _ _ => False, ?_, fun J H' h => h.elim⟩
    refine ⟨fun vs H' => vs = [.bool (((⟨#[c]⟩ : ByteArray).toList == s.toList))] ∧ H' = H, ?_, ?_⟩
    · refine brB_of (fun h => by rw [hone] at h; cases h) (fun _ => ⟨rfl, rfl⟩)
    rintro J b H' ⟨e, rfl⟩
    simp only [List.cons.injEq, Value.bool.injEq, and_true] at e
    subst e
    refine brB_of (fun h => ⟨_, rfl, .inr ⟨0, rfl, ?_⟩, rfl⟩) (fun h => ?_)
    · rw [beqS] at h
      have h := of_decide_eq_true h
      subst h
      exact ⟨by rw [hone]; omega, rfl, by simp⟩
    · refine brB_of (fun h1 => ?_) (fun h1 => by rw [hone] at h1; simp at h1)
      refine chk_true (decide_eq_true (by rw [hone]; exact ⟨Int.le_refl _, by decide⟩)) ?_
      rw [atB_one]
      apply vc_internal_stringslite_IndexByte
      refine IndexByteE ⟨_, rfl, _, rfl, ?_, rfl⟩
      have := indexByte_cases (bl s) c
      rw [bl_len] at this
      exact this
  refine (fin rfl).mono fun v H' h => ?_
  obtain ⟨n, rfl, h, rfl⟩ := h
  refine ⟨_, rfl, ?_⟩
  rcases h with ⟨rfl, h⟩ | ⟨k, rfl, hk, h2, h3⟩
  · exact brB_of (fun h1 => by simp at h1) (fun _ => ⟨_, _, _, rfl, _, _, _, rfl, hno h⟩)
  · refine brB_of (fun _ => ?_) (fun h1 => by simp at h1)
    rw [hone]
    have ew : IntKind.i64.wrap ((k : Int) + ((1 : Nat) : Int)) = ((k + 1 : Nat) : Int) := by rw [wrap64_of (by omega) (by omega)]; omega
    rw [ew]
    refine chk_true (decide_eq_true (by omega)) (chk_true (decide_eq_true (by omega)) ⟨_, _, _, rfl, _, _, _, rfl, hyes _ _ ?_ ?_⟩)
    · rw [bl_ext, Int.toNat_natCast, Int.toNat_natCast, Int.toNat_natCast, tail_ext (by omega), List.drop_zero]
      obtain ⟨h4, h5⟩ := List.getElem?_eq_some_iff.1 h2
      rw [← h5, List.getElem_cons_drop, List.take_append_drop]
    · intro b hb e
      rw [bl_ext, Int.toNat_natCast, List.drop_zero] at hb
      exact h3 (e ▸ hb)

theorem take_ok {pb : Nat} {s p : ByteArray} {H : Heap} {K : Bool → Heap → Prop} (hp : Blk H ⟨pb, 0, none⟩ [.string s])
    (hyes : ∀ t H', bl s = bl p ++ bl t → Blk H' ⟨pb, 0, none⟩ [.string t] → Fr [pb] H H' → K true H') (hno : (∀ r, bl s ≠ bl p ++ r) → K false H) :
    CallH Tryz.prog fn_label_parser_take ⟨[.pointer (some ⟨pb, 0, none⟩), .string p]⟩ H fun v H' => ∃ b, v = .bool b ∧ K b H' := by
  apply vc_label_parser_take
  refine ⟨_, hp.ld0 (by kernel_rfl) rfl, CutPrefix_ok (fun t h => ?_) fun h => ?_⟩
  · refine brB_of (fun _ => ?_) (fun h => by cases h)
    exact hp.st0 (v := .string t) (by kernel_rfl) (by kernel_rfl) (fun x hx => by simp [Value.cells] at hx; subst hx; rfl) (by simp [Value.cells]) fun H' hb hf => ⟨_, rfl, hyes t H' h hb hf⟩
  · exact brB_of (fun h => by cases h) (fun _ => ⟨_, rfl, hno h⟩)
end Go.Proofs
set_option linter.unusedVariables false
set_option maxRecDepth 100000
open Go Go.GV
namespace Go.Proofs

theorem quoteB_pre {a b : UInt8} {r s : List UInt8} (h : quoteB a ++ r = quoteB b ++ s) : a = b ∧ r = s := by
  have := body_inj (u := [a]) (v := [b]) (r := []) (s := [])
  rcases quoteB_cases a with ⟨e, h1, h2, h3⟩ | ⟨h1, e⟩ | ⟨h1, e⟩ | ⟨h1, e⟩ <;> rcases quoteB_cases b with ⟨e', h1', h2', h3'⟩ | ⟨h1', e'⟩ | ⟨h1', e'⟩ | ⟨h1', e'⟩ <;> rw [e, e'] at h <;>
    simp only [List.cons_append, List.nil_append, List.cons.injEq] at h
  · exact h
  · exact absurd h.1 h2
  · exact absurd h.1 h2
  · exact absurd h.1 h2
  · exact absurd h.1.symm h2'
  · exact ⟨by rw [h1, h1'], h.2.2⟩
  · have := h.2.1; simp at this
  · have := h.2.1; simp at this
  · exact absurd h.1.symm h2'
  · have := h.2.1; simp at this
  · exact ⟨by rw [h1, h1'], h.2.2⟩
  · have := h.2.1; simp at this
  · exact absurd h.1.symm h2'
  · have := h.2.1; simp at this
  · have := h.2.1; simp at this
  · exact ⟨by rw [h1, h1'], h.2.2⟩
theorem body_head {v r w : List UInt8} (h : w = bodyL v ++ 34 :: r) : (v = [] ∧ w = 34 :: r) ∨ ∃ b v', v = b :: v' ∧ ((w = b :: (bodyL v' ++ 34 :: r) ∧ b ≠ 34 ∧ b ≠ 92 ∧ b ≠ 10) ∨ ∃ c, w = 92 :: c :: (bodyL v' ++ 34 :: r) ∧ ((c = 110 ∧ b = 10) ∨ (c = b ∧ (b = 34 ∨ b = 92)))) := by
  cases v with
  | nil => exact .inl ⟨rfl, h⟩
  | cons b v =>
    refine .inr ⟨b, v, rfl, ?_⟩
    rw [bodyL_cons, List.append_assoc] at h
    rcases quoteB_cases b with ⟨e, h1, h2, h3⟩ | ⟨h1, e⟩ | ⟨h1, e⟩ | ⟨h1, e⟩ <;> rw [e] at h
    · exact .inl ⟨h, h1, h2, h3⟩
    · exact .inr ⟨34, h, .inr ⟨h1.symm, .inl h1⟩⟩
    · exact .inr ⟨92, h, .inr ⟨h1.symm, .inr h1⟩⟩
    · exact .inr ⟨110, h, .inl ⟨rfl, h1⟩⟩
theorem body_pre : ∀ {u v r w : List UInt8}, bodyL u ++ w = bodyL v ++ 34 :: r → ∃ v', v = u ++ v' ∧ w = bodyL v' ++ 34 :: r
  | [], v, r, w, h => ⟨v, rfl, by simpa [bodyL] using h⟩
  | a :: u, v, r, w, h => by
    rw [bodyL_cons, List.append_assoc] at h
    cases v with
    | nil =>
      rcases quoteB_cases a with ⟨e, h1, h2, h3⟩ | ⟨h1, e⟩ | ⟨h1, e⟩ | ⟨h1, e⟩ <;> (rw [e] at h; simp [bodyL] at h)
      exact absurd h.1 h1
    | cons b v =>
      rw [bodyL_cons, List.append_assoc] at h
      obtain ⟨e1, e2⟩ := quoteB_pre h
      subst e1
      obtain ⟨v', h1, h2⟩ := body_pre e2
      exact ⟨v', by rw [h1]; rfl, h2⟩

theorem value_ok {pb : Nat} {t : ByteArray} {H : Heap} {K : ByteArray → Bool → Heap → Prop} (hp : Blk H ⟨pb, 0, none⟩ [.string t]) (ht : t.size ≤ 1000000000)
    (hyes : ∀ v t' H', bl t = quoteL (bl v) ++ bl t' → Blk H' ⟨pb, 0, none⟩ [.string t'] → Fr [pb] H H' → K v true H')
    (hno : (∀ v r, bl t ≠ quoteL v ++ r) → ∀ H', Fr [pb] H H' → K ⟨#[]⟩ false H') :
    CallH Tryz.prog fn_label_parser_value ⟨[.pointer (some ⟨pb, 0, none⟩)]⟩ H fun v H' => ∃ s b, v = .tuple ⟨[.string s, .bool b]⟩ ∧ K s b H' := by
  apply vc_label_parser_value
  refine take_ok hp (fun u H1 hu hp1 hf1 => ?_) fun h => ?_
  rotate_left
  · refine brB_of (fun _ => ⟨_, _, rfl, hno (fun v r e => h (bodyL v ++ 34 :: r) ?_) H (Fr.refl _ _)⟩) (fun h => by cases h)
    rw [e]; unfold quoteL; simp [bl]
  refine brB_of (fun h => by cases h) (fun _ => ?_)
  have hu : bl t = 34 :: bl u := hu
  have hpl := hp1.lt
  have hul : u.size + 1 = t.size := by rw [← bl_len, ← bl_len, hu]; rfl
  have none_of : (∀ v r, bl u ≠ bodyL v ++ 34 :: r) → ∀ v r, bl t ≠ quoteL v ++ r := fun h v r e => h v r (by
    rw [hu] at e
    unfold quoteL at e
    simpa using e)
  intro b H2 hn2
  have hbH := hn2.eq
  have hp2 := hp1.keep hn2.fr
  refine ⟨_, hp2.ld0 (by kernel_rfl) rfl, ?_⟩
  refine cv_sb bT.str bT.sl (by kernel_rfl) fun b3 c3 H3 hb3 hx3 hf3 => ?_
  have hbB := (Bld.new hn2 (tB := 67)).keep hf3
  have hb3S : b3 ≠ b := fun e => by have := hn2.size; omega
  have hpb : pb < H1.size := hpl
  refine ⟨fun vs H' => match vs with
      | [.bool bk, .int _ i] => ∃ (k : Nat) (S : List Nat) (xs : List UInt8), i = k ∧ k ≤ u.size ∧ xs.length ≤ k ∧ BldH H' b S xs ∧ (∀ j ∈ S, H1.size ≤ j) ∧ b3 ∉ S ∧ Sl encByte H' (some ⟨b3, 0, none⟩) u.size c3 (bl u) ∧ (bl u).take k = bodyL xs ++ (if bk then [92] else []) ∧ Fr [] H1 H'
      | _ => False,
    fun vs _ => match vs with | [_, .int _ i] => u.size - i.toNat | _ => 0, ⟨0, [b], [], rfl, by omega, by simp, hbB, fun j hj => by simp at hj; omega, by simpa using hb3S, hx3, by simp [bodyL], hn2.fr.keep0 hf3⟩, ?_⟩
  rintro J bk i H4 ⟨k, S, xs, rfl, hle, hxl, hb4, hS4, hbS4, hx4, htk, hf4⟩
  have hw : bl u = bodyL xs ++ ((if bk then [92] else []) ++ (bl u).drop k) := by
    rw [← List.append_assoc, ← htk, List.take_append_drop]
  have hul2 := bl_len u
  refine brB_of (fun h0 => ?_) (fun h0 => ⟨_, _, rfl, hno (none_of fun v r e => ?_) H4 (hf1.trans' hf4 (fun k hk _ => hk) (by simp))⟩)
  rotate_left
  · rw [List.drop_of_length_le (by simp at h0; omega)] at hw
    obtain ⟨v', _, h2⟩ := body_pre (hw.symm.trans e)
    rcases body_head h2 with ⟨_, h3⟩ | ⟨b, v'', _, ⟨h3, _, h4, _⟩ | ⟨c, h3, _⟩⟩ <;> cases bk <;> simp at h3
    all_goals (first | exact h4 h3.1.symm | skip)
  have h0' : k < u.size := by simpa using h0
  have hx1 : (bl u)[k]? = some ((bl u)[k]'(by omega)) := by simp
  generalize (bl u)[k]'(by omega) = x at hx1
  have hne : bl u ≠ [] := fun e => by rw [e] at hx1; cases hx1
  have hdr : (bl u).drop k = x :: (bl u).drop (k + 1) := by
    obtain ⟨h4, h5⟩ := List.getElem?_eq_some_iff.1 hx1
    rw [← h5, List.getElem_cons_drop]
  have htk1 : (bl u).take (k + 1) = (bl u).take k ++ [x] := by rw [List.take_add_one, hx1]; rfl
  rw [hdr] at hw
  refine ⟨fun vs H' => match vs with
      | [.bool bk'] => ∃ (S : List Nat) (xs : List UInt8), xs.length ≤ k + 1 ∧ BldH H' b S xs ∧ (∀ j ∈ S, H1.size ≤ j) ∧ b3 ∉ S ∧ Sl encByte H' (some ⟨b3, 0, none⟩) u.size c3 (bl u) ∧ (bl u).take (k + 1) = bodyL xs ++ (if bk' then [92] else []) ∧ Fr [] H1 H'
      | _ => False, ?_, ?_⟩
  rotate_left
  · rintro J bk' H5 ⟨S, xs, h1, h2, h3, h4, h5, h6, h7⟩
    rw [succ64 (by omega)]
    exact ⟨⟨k + 1, S, xs, rfl, by omega, h1, h2, h3, h4, h5, h6, h7⟩, mu_lt h0'⟩
  refine hx4.get rfl hx1 (decide_eq_true (by omega)) fun ad ea hc => ⟨_, ldB hc, ?_⟩
  have q10 := u8_eq x 10 (by omega)
  have q34 := u8_eq x 34 (by omega)
  have q92 := u8_eq x 92 (by omega)
  have q110 := u8_eq x 110 (by omega)
  simp only [Int.cast_ofNat_Int] at q10 q34 q92 q110
  have wr : ∀ (y : UInt8) (n : Int), n = y.toNat → (bl u).take (k + 1) = bodyL (xs ++ [y]) → CallH Tryz.prog 136 ⟨[.pointer (some ⟨b, 0, none⟩), .int .u8 n]⟩ H4 fun v H' => ∃ v_1, v = v_1 ∧
      ∃ (S : List Nat) (xs : List UInt8), xs.length ≤ k + 1 ∧ BldH H' b S xs ∧ (∀ j ∈ S, H1.size ≤ j) ∧ b3 ∉ S ∧ Sl encByte H' (some ⟨b3, 0, none⟩) u.size c3 (bl u) ∧ (bl u).take (k + 1) = bodyL xs ++ (if false then [92] else []) ∧ Fr [] H1 H' := fun y n hn hy => by
    refine WriteByte_ok (x := y) hb4 hn (by omega) fun H5 S5 hb5 hf5 hg5 => ?_
    refine ⟨S5, _, by simp; omega, hb5, fun j hj => ?_, fun hk => ?_, hx4.fr hf5 (fun ad e => by cases e; exact hbS4), by simpa using hy, hf4.keep hf5 hS4⟩
    · rcases hg5 j hj with h | h
      · exact hS4 j h
      · have := hf4.size; omega
    · rcases hg5 b3 hk with h | h
      · exact hbS4 h
      · have := sl_blk_lt hx4 hne; omega
  have bad : (∀ v' r, ((if bk then [92] else []) ++ x :: (bl u).drop (k + 1) : List UInt8) ≠ bodyL v' ++ 34 :: r) → ∃ s b, (Value.tuple ⟨[.string ⟨#[]⟩, .bool false]⟩ = .tuple ⟨[.string s, .bool b]⟩) ∧ K s b H4 := fun h => ⟨_, _, rfl, hno (none_of fun v r e => by
    obtain ⟨v', _, h2⟩ := body_pre (hw.symm.trans e)
    exact h v' r h2) H4 (hf1.trans' hf4 (fun k hk _ => hk) (by simp))⟩
  rw [q10, q34, q92, q110]
  refine ⟨fun vs H' => vs = [.bool (bk && decide (x = 110))] ∧ H' = H4, ?_, ?_⟩
  · refine brB_of (fun h => ?_) (fun h => ?_)
    · subst h; exact ⟨by simp, rfl⟩
    · subst h; exact ⟨by simp, rfl⟩
  rintro J b2 H5 ⟨e, rfl⟩
  simp only [List.cons.injEq, Value.bool.injEq, and_true] at e
  subst e
  refine brB_of (fun h1 => ?_) (fun h1 => ?_)
  · simp at h1
    obtain ⟨rfl, rfl⟩ := h1
    refine wr 10 10 rfl ?_
    rw [htk1, htk, bodyL_app]
    simp [bodyL, quoteB]
  refine brB_of (fun h2 => ?_) (fun h2 => ?_)
  · subst h2
    have hx110 : x ≠ 110 := by simpa using h1
    have n92 : ((x.toNat : Int) != 92) = false → x = 92 := fun h => UInt8.toNat.inj (by simp at h; show x.toNat = 92; omega)
    have n34 : ((x.toNat : Int) != 34) = false → x = 34 := fun h => UInt8.toNat.inj (by simp at h; show x.toNat = 34; omega)
    have esc : x = 34 ∨ x = 92 → (bl u).take (k + 1) = bodyL (xs ++ [x]) := fun h => by
      rw [htk1, htk, bodyL_app]
      rcases h with rfl | rfl <;> simp [bodyL, quoteB]
    refine brB_of (fun h3 => brB_of (fun h4 => bad fun v' r e => ?_) (fun h4 => wr x _ rfl (esc (.inr (n92 h4))))) (fun h3 => wr x _ rfl (esc (.inl (n34 h3))))
    have h3 : x ≠ 34 := fun e => by subst e; simp at h3
    have h4 : x ≠ 92 := fun e => by subst e; simp at h4
    rcases body_head e with ⟨_, h5⟩ | ⟨c, v'', _, ⟨h5, _, h6, _⟩ | ⟨c', h5, h6⟩⟩
    · simp at h5
    · simp at h5; exact h6 h5.1.symm
    · simp at h5
      rcases h6 with ⟨h6, _⟩ | ⟨h6, h7⟩
      · exact hx110 (h5.1.trans h6)
      · rcases h7 with h7 | h7
        · exact h3 (h5.1.trans (h6.trans h7))
        · exact h4 (h5.1.trans (h6.trans h7))
  · subst h2
    refine brB_of (fun h3 => ?_) (fun h3 => brB_of (fun h4 => ?_) (fun h4 => brB_of (fun h5 => bad fun v' r e => ?_) (fun h5 => wr x _ rfl ?_)))
    · have h3 : x = 92 := of_decide_eq_true h3
      subst h3
      exact ⟨S, xs, by omega, hb4, hS4, hbS4, hx4, by rw [htk1, htk]; simp, hf4⟩
    · have h4 : x = 34 := of_decide_eq_true h4
      subst h4
      have hp4 := hp1.keep hf4
      refine ⟨_, hp4.ld0 (by kernel_rfl) rfl, ?_⟩
      rw [succ64 (by omega)]
      refine chk_true (decide_eq_true (by omega)) ?_
      refine hp4.st0 (v := .string _) (by kernel_rfl) (by kernel_rfl) (fun x hx => by simp [Value.cells] at hx; subst hx; rfl) (by simp [Value.cells]) fun H6 hp6 hf6 => ?_
      have hbS : pb ∉ S := fun h => by have := hS4 pb h; omega
      refine BString_ok (hb4.fr hf6 (fun j hj => by simp; exact fun e => hbS (e ▸ hj))) (by omega) fun H7 hf7 => ⟨_, _, rfl, hyes _ _ H7 ?_ (hp6.fr hf7 hbS) ?_⟩
      · rw [hu, bl_mk xs, Int.toNat_natCast, Int.toNat_natCast, tail_ext (by omega)]
        conv => lhs; rw [hw]
        unfold quoteL
        simp
      · exact ((hf1.trans' hf4 (T := [pb]) (fun k hk _ => hk) (by simp)).trans' hf6 (fun k hk _ => hk) (fun k hk _ => hk)).trans' hf7 (fun k hk _ => hk) (fun k hk hlt => absurd (hS4 k hk) (by have := hf1.size; omega))
    · have h3 : x ≠ 92 := of_decide_eq_false h3
      have h4 : x ≠ 34 := of_decide_eq_false h4
      have h5 : x = 10 := of_decide_eq_true h5
      rcases body_head e with ⟨_, h6⟩ | ⟨c, v'', _, ⟨h6, _, _, h7⟩ | ⟨c', h6, _⟩⟩
      · simp at h6; exact h4 h6.1
      · simp at h6; exact h7 (h6.1.symm.trans h5)
      · simp at h6; exact h3 h6.1
    · have h3 : x ≠ 92 := of_decide_eq_false h3
      have h4 : x ≠ 34 := of_decide_eq_false h4
      have h5 : x ≠ 10 := of_decide_eq_false h5
      rw [htk1, htk, bodyL_app]
      simp [bodyL, quoteB, h3, h4, h5]
end Go.Proofs
