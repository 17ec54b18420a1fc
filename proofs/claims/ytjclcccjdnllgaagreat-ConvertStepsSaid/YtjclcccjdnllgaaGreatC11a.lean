/- Turned by a program of mine (portall.py) out of the same text of another seat. -/
import Derived.Test.YtjclcccjdnllgaaGreatGvOpen
import Derived.Test.YtjclcccjdnllgaaGreatVcC
import Derived.Lib.Bytealg
set_option linter.unusedVariables false
set_option maxRecDepth 100000
open Go Go.GV
namespace Go.Proofs

theorem bT : BldT Tryz.prog 83 80 173 81 9 146 := ⟨by kernel_rfl, by kernel_rfl, by kernel_rfl, by kernel_rfl, by kernel_rfl, by kernel_rfl, by kernel_rfl, by kernel_rfl, by kernel_rfl, by kernel_rfl, by kernel_rfl, by kernel_rfl, by kernel_rfl, by kernel_rfl, by kernel_rfl, by kernel_rfl⟩
abbrev BldH (H : Heap) (b : Nat) (S : List Nat) (xs : List UInt8) : Prop := Bld 83 H b S xs
theorem noEscape_ok {H : Heap} {v : Value} {K : Value → Heap → Prop} (hk : K v H) : ExtH Tryz.prog 115 ⟨[v]⟩ H fun w H' => ∃ u, w = u ∧ K u H' :=
  ext_ok (fn := Tryz.f115) Tryz.func115 (by kernel_rfl) (by kernel_rfl) (by kernel_rfl) (e := Extern.AbiNoEscape.same) (by kernel_rfl) (fun w => Lib.run_noEscape w v) ⟨_, rfl, hk⟩

theorem copyCheck_ok {H : Heap} {b : Nat} {S : List Nat} {xs : List UInt8} {K : Heap → Prop} (h : BldH H b S xs)
    (hk : ∀ H' o n c te, H'[b]? = some (.cells ⟨[.pointer (some ⟨b, 0, none⟩), .slice o n c]⟩ te (0, 0)) → Own encByte 5 0 H' o n c xs → S = b :: blkL o → b ∉ blkL o → Fr [b] H H' → K H') :
    CallH Tryz.prog fn_strings_Builder_copyCheck ⟨[.pointer (some ⟨b, 0, none⟩)]⟩ H fun v H' => v = .tuple ⟨[]⟩ ∧ K H' := by
  apply vc_strings_Builder_copyCheck
  obtain ⟨p, o, n, c, te, h1, h3, h4, rfl, h6⟩ := h
  have hb : Blk H ⟨b, 0, none⟩ [.pointer p, .slice o n c] := ⟨b, _, rfl, h1⟩
  refine ⟨_, hb.ld0 bT.ap rfl, ?_⟩
  rcases h3 with ⟨rfl, rfl⟩ | rfl
  · refine to_unsafe bT h1 rfl ⟨_, rfl, noEscape_ok ?_⟩
    refine from_unsafe bT h1 rfl ?_
    refine hb.st0 (v := .pointer (some ⟨b, 0, none⟩)) bT.p1 bT.pi (fun x hx => by simp [Value.cells] at hx; subst hx; rfl) (by simp [Value.cells]) fun H' h' hf => ⟨rfl, ?_⟩
    obtain ⟨b', te', e, hg⟩ := h'
    cases e
    exact hk H' o n c te' hg (h4.fr hf (fun ad e hh => by
      have : ad.block = b := by simpa using hh
      exact h6 (by simp [e, blkL, this]))) rfl h6 hf
  · exact ⟨_, hb.ld0 bT.ap rfl, false, neq_self bT _ _ _, rfl, hk H o n c te h1 h4 rfl h6 (Fr.refl _ _)⟩

theorem WriteString_ok {H : Heap} {b : Nat} {S : List Nat} {xs : List UInt8} {s : ByteArray} {K : Int → Value → Heap → Prop} (h : BldH H b S xs) (hlen : xs.length + s.size ≤ 140737488355328)
    (hk : ∀ H' S', BldH H' b S' (xs ++ bl s) → Fr S H H' → Grow H S S' → K s.size .nilIface H') :
    CallH Tryz.prog fn_strings_Builder_WriteString ⟨[.pointer (some ⟨b, 0, none⟩), .string s]⟩ H fun v H' => ∃ n w, v = .tuple ⟨[.int .i64 n, w]⟩ ∧ K n w H' := by
  apply vc_strings_Builder_WriteString
  refine copyCheck_ok h fun H1 o n c te h1 h2 hS h3 hf1 => ?_
  have hb : Blk H1 ⟨b, 0, none⟩ [.pointer (some ⟨b, 0, none⟩), .slice o n c] := ⟨b, _, rfl, h1⟩
  refine ⟨o, n, c, hb.ld bT.ab (j := 1) rfl, ap_str bT.sl bT.str bT.byte h2 (Nat.zero_le _) (by rw [h2.1]; exact hlen) fun a' n' c' H2 h4 hf2 hg2 => ?_⟩
  have hb2 := hb.fr hf2 h3
  refine hb2.st (j := 1) (v := .slice a' n' c') bT.s1 bT.si (fun x hx => by simp [Value.cells] at hx; subst hx; rfl) (by simp [Value.cells]) fun H3 hb3 hf3 => ⟨_, _, rfl, ?_⟩
  obtain ⟨b', te', e, hg⟩ := hb3
  cases e
  have hlt : b < H1.size := lt_of_get h1
  have hnb : b ∉ blkL a' := fun hk => by
    rcases hg2 b hk with h5 | h5
    · exact h3 h5
    · omega
  refine hk H3 (b :: blkL a') ⟨_, a', n', c', te', hg, .inr rfl, h4.fr hf3 (fun ad e hh => hnb (by
      have : ad.block = b := by simpa using hh
      simp [e, blkL, this])), rfl, hnb⟩ ?_ ?_
  · rw [hS]
    exact (hf1.trans' hf2 (T := b :: blkL o) (by simp) (fun k hk _ => by simp [hk])).trans' hf3 (fun k hk _ => hk) (by simp)
  · rw [hS]
    intro k hk
    rcases List.mem_cons.1 hk with rfl | hk
    · exact .inl (by simp)
    · rcases hg2 k hk with h5 | h5
      · exact .inl (by simp [h5])
      · exact .inr (Nat.le_trans hf1.size h5)

theorem BString_ok {H : Heap} {b : Nat} {S : List Nat} {xs : List UInt8} {K : ByteArray → Heap → Prop} (h : BldH H b S xs) (hlen : xs.length ≤ 140737488355328)
    (hk : ∀ H', Fr S H H' → K ⟨xs.toArray⟩ H') :
    CallH Tryz.prog fn_strings_Builder_String ⟨[.pointer (some ⟨b, 0, none⟩)]⟩ H fun v H' => ∃ s, v = .string s ∧ K s H' := by
  apply vc_strings_Builder_String
  obtain ⟨p, o, n, c, te, h1, h3, h4, rfl, h6⟩ := h
  have hb : Blk H ⟨b, 0, none⟩ [.pointer p, .slice o n c] := ⟨b, _, rfl, h1⟩
  refine ⟨o, n, c, hb.ld bT.ab (j := 1) rfl, o, n, c, hb.ld bT.ab (j := 1) rfl, ?_⟩
  have hs := sl_data bT (it := 3) (sty := 9) (ts := ⟨[81]⟩) (K := fun H' => K ⟨xs.toArray⟩ H') (L := fun H' => Ld Tryz.prog 81 H' (Addr.add ⟨b, 0, none⟩ 1) (.slice o n c)) h4 (by rw [h4.1]; exact hlen) (fun H' hf => (hb.keep hf).ld bT.ab (j := 1) rfl)
    (fun H' hf => hk H' (hf.mono (fun k hk => by simp [hk])))
  refine hs.mono fun v H' h => ?_
  obtain ⟨a, rfl, h5, h7⟩ := h
  refine ⟨a, rfl, h5, h7.mono fun v H' h => ?_⟩
  obtain ⟨s, rfl, rfl, h⟩ := h
  exact ⟨_, rfl, _, rfl, h⟩

theorem succ64 {i : Nat} (h : i ≤ 1000000000000) : IntKind.i64.wrap ((i : Int) + 1) = ((i + 1 : Nat) : Int) := by
  rw [wrap64_of (by omega) (by omega)]; omega
theorem pred64 {i : Nat} (h : i ≤ 1000000000000) (h0 : 0 < i) : IntKind.i64.wrap ((i : Int) - 1) = ((i - 1 : Nat) : Int) := by
  rw [wrap64_of (by omega) (by omega)]; omega
theorem mu_lt {n i : Nat} (h : i < n) : n - ((i + 1 : Nat) : Int).toNat < n - ((i : Nat) : Int).toNat := by omega
theorem wrapU8 {n : Int} (h : 0 ≤ n) : IntKind.u8.wrap n = n % 256 := by
  unfold IntKind.wrap
  simp [IntKind.bits, IntKind.signed]
theorem wrapU64 {n : Int} (h : 0 ≤ n) (h2 : n < 18446744073709551616) : IntKind.u64.wrap n = n := by
  unfold IntKind.wrap
  simp [IntKind.bits, IntKind.signed]
  omega
theorem or128 : ∀ m : Nat, m < 256 → (BitVec.ofNat 8 m ||| BitVec.ofNat 8 128).toNat = m % 128 + 128 := by decide +kernel
theorem byteN (n : Nat) (h : n < 256) : (n : Int) = ((UInt8.ofNat n).toNat : Int) := by
  rw [UInt8.toNat_ofNat']
  omega

theorem Uint_ok {n : Nat} {H : Heap} {K : ByteArray → Heap → Prop} (hn : n < 18446744073709551616) (hk : ∀ H', Fr [] H H' → K ⟨(uintL n).toArray⟩ H') :
    CallH Tryz.prog fn_zig_Uint ⟨[.int .u64 n]⟩ H fun v H' => ∃ s, v = .string s ∧ K s H' := by
  apply vc_zig_Uint
  have e5 : elemB Tryz.prog 5 1 1 = true := by kernel_rfl
  refine mk_own (E := encByte) bT.sl e5 (by omega) (by decide) fun b0 H1 ho1 hf1 => ?_
  refine ⟨fun vs H' => match vs with
      | [.int _ m, .slice o p q] => ∃ (k : Nat) (xs : List UInt8) (j : Nat), m = k ∧ Own encByte 5 H.size H' o p q xs ∧ xs.length = j ∧ k < 128 ^ (10 - j) ∧ j < 10 ∧ xs ++ uintL k = uintL n ∧ Fr [] H H'
      | _ => False,
    fun vs _ => match vs with | [.int _ m, _] => m.toNat | _ => 0, ⟨n, [], 0, rfl, ho1, rfl, by omega, by omega, rfl, hf1⟩, ?_⟩
  rintro J m o p q H2 ⟨k, xs, j, rfl, ho, hj, hk2, hj9, he, hf⟩
  have hp := ho.1
  refine brB_of (fun h0 => ?_) (fun h0 => ?_)
  · have h0' : ¬ k < 128 := by simp at h0; omega
    have hb : IntKind.u8.wrap ((BitVec.toNat (BitVec.ofInt 8 (IntKind.u8.wrap (k : Int)) ||| BitVec.ofInt 8 128) : Nat) : Int) = ((UInt8.ofNat (k % 128 + 128)).toNat : Int) := by
      rw [wrapU8 (n := (k : Int)) (by omega)]
      have e1 : BitVec.ofInt 8 ((k : Int) % 256) = BitVec.ofNat 8 (k % 256) := by
        rw [show (k : Int) % 256 = ((k % 256 : Nat) : Int) by omega]; rfl
      have e2 : BitVec.ofInt 8 128 = BitVec.ofNat 8 128 := rfl
      rw [e1, e2, or128 _ (Nat.mod_lt _ (by omega)), wrapU8 (by omega), UInt8.toNat_ofNat']
      omega
    rw [hb]
    have hj8 : j < 9 := by
      rcases Nat.lt_or_ge j 9 with h | h
      · exact h
      · have : j = 9 := by omega
        subst this
        simp at hk2
        omega
    refine ap_one (E := encByte) (bytes := 1) (UInt8.ofNat (k % 128 + 128)) bT.sl e5 ho hf rfl (by omega) fun _ o2 p2 q2 H4 hw2 hf2 _ => ?_
    have hdiv : Int.fdiv (k : Int) (2 ^ 7) = ((k / 128 : Nat) : Int) := by
      rw [Int.fdiv_eq_ediv_of_nonneg _ (by decide)]
      omega
    rw [hdiv]
    refine ⟨⟨k / 128, _, j + 1, rfl, hw2, by simp [hj], ?_, by omega, ?_, hf2⟩, ?_⟩
    · rw [Nat.div_lt_iff_lt_mul (by omega), ← Nat.pow_succ]
      rw [show (10 - (j + 1)).succ = 10 - j by omega]
      exact hk2
    · rw [uintL_big h0'] at he
      rw [← he]; simp
    · show ((k / 128 : Nat) : Int).toNat < ((k : Nat) : Int).toNat
      omega
  · have h0' : k < 128 := by simp at h0; omega
    have hb : IntKind.u8.wrap (k : Int) = ((UInt8.ofNat k).toNat : Int) := by
      rw [wrapU8 (by omega), UInt8.toNat_ofNat']
      omega
    rw [hb]
    refine ap_one (E := encByte) (bytes := 1) (UInt8.ofNat k) bT.sl e5 ho hf rfl (by omega) fun _ o2 p2 q2 H4 hw2 hf2 _ => ?_
    rw [uintL_small h0'] at he
    rw [he] at hw2
    exact cv_bs (e := 5) bT.sl bT.str (by kernel_rfl) hw2.sl ⟨_, rfl, hk H4 hf2⟩

theorem uintL_len10 {n : Nat} (hn : n < 18446744073709551616) : (uintL n).length ≤ 10 := uintL_len 9 n (by omega)
theorem rUint_ok {n : Nat} {H : Heap} {K : ByteArray → Heap → Prop} (hn : n < 18446744073709551616) (hk : ∀ H', Fr [] H H' → K ⟨(uintL n).toArray⟩ H') :
    CallH Tryz.prog fn_ref01_Uint ⟨[.int .u64 n]⟩ H fun v H' => ∃ s, v = .string s ∧ K s H' := by
  apply vc_ref01_Uint
  refine ⟨fun vs H' => match vs with
      | [.int _ m, .string s] => ∃ (k : Nat), m = k ∧ k < 18446744073709551616 ∧ k < 128 ^ (10 - s.size) ∧ s.size < 10 ∧ bl s ++ uintL k = uintL n ∧ Fr [] H H'
      | _ => False,
    fun vs _ => match vs with | [.int _ m, _] => m.toNat | _ => 0, ⟨n, rfl, hn, by show n < 128 ^ (10 - 0); omega, by show 0 < 10; omega, rfl, Fr.refl _ _⟩, ?_⟩
  rintro J m s H2 ⟨k, rfl, hk64, hk2, hj9, he, hf⟩
  have one : ∀ (x : Nat) (b : Nat) (H3 : Heap) (K' : ByteArray → Heap → Prop), x < 256 → New H2 b (.cells ⟨[.int .u8 x]⟩ 5) H3 → K' ⟨#[UInt8.ofNat x]⟩ H3 → SemWp Tryz.prog (convert 81 9 (.slice (some ⟨b, 0, none⟩) 1 1)) H3 fun v H' => ∃ s, v = .string s ∧ K' s H' := by
    intro x b H3 K' hx hn1 hK
    have hs1 : Sl encByte H3 (some ⟨b, 0, none⟩) 1 1 [UInt8.ofNat x] := sl_one encByte _ hn1 (by rw [byteN x hx]; rfl)
    exact cv_bs (e := 5) bT.sl bT.str (by kernel_rfl) hs1 hK
  have hsz : ∀ x : Nat, (s ++ ⟨#[UInt8.ofNat x]⟩ : ByteArray).size = s.size + 1 := fun x => by rw [← bl_len, bl_app, List.length_append, bl_len]; rfl
  refine brB_of (fun h0 => ?_) (fun h0 => ?_)
  · have h0' : ¬ k < 128 := by simp at h0; omega
    intro b H3 hn1
    have e1 : IntKind.u8.wrap (IntKind.u64.wrap (Int.tmod (k : Int) 128 + 128)) = ((k % 128 + 128 : Nat) : Int) := by
      have : Int.tmod (k : Int) 128 = ((k % 128 : Nat) : Int) := by rw [Int.tmod_eq_emod_of_nonneg (by omega)]; omega
      rw [this, wrapU64 (by omega) (by omega), wrapU8 (by omega)]
      omega
    rw [e1] at hn1
    have e2 : IntKind.u64.wrap (Int.tdiv (k : Int) 128) = ((k / 128 : Nat) : Int) := by
      have : Int.tdiv (k : Int) 128 = ((k / 128 : Nat) : Int) := by rw [Int.tdiv_eq_ediv_of_nonneg (by omega)]; omega
      rw [this, wrapU64 (by omega) (by omega)]
    rw [e2]
    have hj8 : s.size < 9 := by
      rcases Nat.lt_or_ge s.size 9 with h | h
      · exact h
      · have : s.size = 9 := by omega
        rw [this] at hk2
        simp at hk2
        omega
    refine one _ b H3 _ (by omega) hn1 (chk_true (decide_eq_true (by show s.size + 1 ≤ _; omega)) ⟨⟨k / 128, rfl, by omega, ?_, by rw [hsz]; omega, ?_, hf.keep0 hn1.fr⟩, ?_⟩)
    · rw [hsz, Nat.div_lt_iff_lt_mul (by omega), ← Nat.pow_succ, show (10 - (s.size + 1)).succ = 10 - s.size by omega]
      exact hk2
    · rw [uintL_big h0'] at he
      rw [← he, bl_app]; simp [bl]
    · show ((k / 128 : Nat) : Int).toNat < ((k : Nat) : Int).toNat
      omega
  · have h0' : k < 128 := by simp at h0; omega
    intro b H3 hn1
    rw [wrapU8 (by omega), show (k : Int) % 256 = k by omega] at hn1
    refine one _ b H3 _ (by omega) hn1 (chk_true (decide_eq_true (by show s.size + 1 ≤ _; omega)) ⟨_, rfl, ?_⟩)
    rw [uintL_small h0'] at he
    have e : (s ++ ⟨#[UInt8.ofNat k]⟩ : ByteArray) = ⟨(uintL n).toArray⟩ := by apply bl_inj; rw [bl_app]; simpa [bl] using he
    rw [e]
    exact hk H3 (hf.keep0 hn1.fr)

theorem and127 : ∀ m : Nat, m < 256 → (BitVec.ofNat 8 m &&& BitVec.ofNat 8 127).toNat = m % 128 := by decide +kernel
theorem bvN {m : Nat} (h : m < 18446744073709551616) : (BitVec.ofInt 64 (m : Int)).toNat = m := by
  rw [BitVec.toNat_ofInt]; omega
theorem pow7 (k : Nat) : 2 ^ (7 * k) = 128 ^ k := by rw [Nat.pow_mul]
theorem shl_fit {k c : Nat} (hk : k ≤ 9) (hc : c < 256) (h9 : k = 9 → c ≤ 1) : 128 ^ k * (c % 128) < 9223372036854775808 + 1 := by
  by_cases h : k = 9
  · subst h
    have := h9 rfl
    omega
  · have h1 : 128 ^ k ≤ 128 ^ 8 := Nat.pow_le_pow_right (by omega) (by omega)
    have h2 : 128 ^ k * (c % 128) ≤ 128 ^ 8 * 127 := Nat.mul_le_mul h1 (by omega)
    omega
theorem or_shift {n k c : Nat} (hk : k ≤ 9) (hc : c < 256) (h9 : k = 9 → c ≤ 1) (hn : n < 128 ^ k) :
    IntKind.u64.wrap ((BitVec.toNat (BitVec.ofInt 64 (n : Int) ||| BitVec.ofInt 64 (IntKind.u64.wrap (IntKind.u64.wrap (IntKind.u8.wrap ((BitVec.toNat (BitVec.ofInt 8 (c : Int) &&& BitVec.ofInt 8 127) : Nat) : Int)) * 2 ^ min (Int.toNat (IntKind.u64.wrap (IntKind.i64.wrap (7 * (k : Int))))) 64))) : Nat) : Int) = ((n + 128 ^ k * (c % 128) : Nat) : Int) := by
  have e1 : (BitVec.ofInt 8 (c : Int) &&& BitVec.ofInt 8 127).toNat = c % 128 := and127 c hc
  have e2 : Int.toNat (IntKind.u64.wrap (IntKind.i64.wrap (7 * (k : Int)))) = 7 * k := by
    rw [wrap64_of (by omega) (by omega), wrapU64 (by omega) (by omega)]; omega
  have hf := shl_fit hk hc h9
  have h128 : 128 ^ k ≤ 128 ^ 9 := Nat.pow_le_pow_right (by omega) hk
  rw [e1, e2, wrapU8 (by omega), show ((c % 128 : Nat) : Int) % 256 = ((c % 128 : Nat) : Int) by omega, wrapU64 (n := ((c % 128 : Nat) : Int)) (by omega) (by omega), Nat.min_eq_left (by omega)]
  have e3 : ((c % 128 : Nat) : Int) * 2 ^ (7 * k) = ((128 ^ k * (c % 128) : Nat) : Int) := by
    rw [← pow7]
    push_cast
    rw [Int.mul_comm]
  rw [e3, wrapU64 (n := ((128 ^ k * (c % 128) : Nat) : Int)) (by omega) (by omega), BitVec.toNat_or, bvN (by omega), bvN (by omega)]
  have e4 : n ||| 128 ^ k * (c % 128) = n + 128 ^ k * (c % 128) := by
    rw [Nat.or_comm, Nat.add_comm, ← pow7]
    rw [← pow7] at hn
    exact (Nat.two_pow_add_eq_or_of_lt hn _).symm
  rw [e4, wrapU64 (by omega) (by omega)]

theorem noU_nine {ds t : List UInt8} {c : UInt8} (hd : HighL ds) (hl : ds.length = 9) (hc : 1 < c.toNat) : ¬ ShortU (ds ++ c :: t) ∧ NoU (ds ++ c :: t) := by
  refine ⟨fun h => by have := h.1; simp at this; omega, fun n hn t' e => ?_⟩
  by_cases h : c.toNat < 128
  · obtain ⟨_, _, h3, _⟩ := low_pre hd h e
    rw [valL_app, hl] at h3
    simp only [valL] at h3
    omega
  · refine high_pre hn (fun d hd' => ?_) e
    rw [show ds ++ c :: t = (ds ++ [c]) ++ t by simp, List.take_append, List.take_of_length_le (by simp; omega)] at hd'
    rw [show 10 - (ds ++ [c]).length = 0 by simp; omega] at hd'
    simp at hd'
    rcases hd' with h | h
    · exact hd d h
    · subst h; omega
theorem noU_zero {ds t : List UInt8} {c : UInt8} (hd : HighL ds) (hl : ds ≠ []) (hc : c.toNat = 0) : ¬ ShortU (ds ++ c :: t) ∧ NoU (ds ++ c :: t) := by
  refine ⟨fun h => ?_, fun n hn t' e => ?_⟩
  · have := h.2 c (by simp); omega
  · obtain ⟨_, _, _, h4⟩ := low_pre hd (by omega) e
    exact h4 hl hc
theorem gu_ok {ds t : List UInt8} {c : UInt8} {a : Nat} (hd : HighL ds) (hc : c.toNat < 128) (hz : ds ≠ [] → c.toNat ≠ 0) (hv : valL (ds ++ [c]) < 18446744073709551616) : GU (ds ++ c :: t) a (valL (ds ++ [c]) : Nat) ((a + ds.length + 1 : Nat) : Int) 0 := by
  have e := uintL_val ds c hd hc hz
  refine .inl ⟨valL (ds ++ [c]), rfl, hv, ?_, ?_, ?_, rfl⟩
  · rw [e]; simp
  · rw [e]; simp
  · rw [e]; simp; omega
theorem drop_at {s : ByteArray} {a k : Nat} (h : a + k < s.size) : ∃ c : UInt8, (bl s).drop a = ((bl s).drop a).take k ++ c :: ((bl s).drop a).drop (k + 1) ∧ c.toNat = atB s (a + k) ∧ ((bl s).drop a)[k]? = some c := by
  obtain ⟨c, h1, h2⟩ := atB_get h
  rw [bl_get] at h1
  have h3 : ((bl s).drop a)[k]? = some c := by rw [List.getElem?_drop]; exact h1
  refine ⟨c, ?_, h2, h3⟩
  obtain ⟨hk, e⟩ := List.getElem?_eq_some_iff.1 h3
  rw [← e, List.getElem_cons_drop, List.take_append_drop]

theorem GetUint_ok {s : ByteArray} {at' : Int} {H : Heap} {K : Int → Int → Int → Heap → Prop} (hs : s.size ≤ 100000000000) (hbad : ¬ (0 ≤ at' ∧ at' ≤ s.size) → K 0 0 1 H)
    (hk : ∀ a : Nat, at' = a → a ≤ s.size → ∀ v n e, GU ((bl s).drop a) a v n e → K v n e H) :
    CallH Tryz.prog fn_zig_GetUint ⟨[.string s, .int .i64 at']⟩ H fun v H' => ∃ n m e, v = .tuple ⟨[.int .u64 n, .int .i64 m, .int .i64 e]⟩ ∧ K n m e H' := by
  apply vc_zig_GetUint
  refine ⟨fun vs H' => vs = [.int .u64 0] ∧ H' = H ∧ 0 ≤ at' ∧ at' ≤ s.size, ?_, ?_⟩
  · refine brB_of (fun h => ⟨_, _, _, rfl, hbad ?_⟩) (fun h => brB_of (fun h2 => ⟨_, _, _, rfl, hbad ?_⟩) (fun h2 => ⟨rfl, rfl, ?_, ?_⟩))
    · simp at h; omega
    · simp at h2; omega
    · simp at h; omega
    · simp at h2; omega
  rintro J m0 H1 ⟨e0, rfl, h0, h01⟩
  simp only [List.cons.injEq, Value.int.injEq, true_and, and_true] at e0
  subst e0
  obtain ⟨a, rfl⟩ : ∃ a : Nat, at' = a := ⟨at'.toNat, by omega⟩
  have hk := hk a rfl (by omega)
  have hrl : ((bl s).drop a).length = s.size - a := by rw [List.length_drop, bl_len]
  generalize hr : (bl s).drop a = r at hk hrl
  refine ⟨fun vs H' => match vs with
      | [.int _ m, .int _ i] => ∃ k : Nat, i = k ∧ k ≤ 9 ∧ k ≤ r.length ∧ m = ((valL (r.take k) : Nat) : Int) ∧ HighL (r.take k) ∧ H' = H1
      | _ => False,
    fun vs _ => match vs with | [_, .int _ i] => 10 - i.toNat | _ => 0, ⟨0, rfl, by omega, by omega, by simp [valL], fun d hd => by simp at hd, rfl⟩, ?_⟩
  rintro J m i H2 ⟨k, rfl, hk9, hkl, rfl, hh, rfl⟩
  have ew : IntKind.i64.wrap ((a : Int) + k) = ((a + k : Nat) : Int) := by rw [wrap64_of (by omega) (by omega)]; omega
  rw [ew]
  refine brB_of (fun _ => ?_) (fun h => by simp at h; omega)
  refine brB_of (fun h1 => ⟨_, _, _, rfl, hk _ _ _ (.inr (.inl ⟨rfl, rfl, rfl, ?_, ?_⟩))⟩) (fun h1 => ?_)
  · have : a + k = s.size := by simp at h1; omega
    omega
  · have : a + k = s.size := by simp at h1; omega
    rwa [List.take_of_length_le (by omega)] at hh
  have hlt : a + k < s.size := by simp at h1; omega
  obtain ⟨c, hc1, hc2, hc3⟩ := drop_at hlt
  rw [hr] at hc1 hc3
  refine chk_true (decide_eq_true (by omega)) ?_
  rw [Int.toNat_natCast, ← hc2]
  have htl : (r.take k).length = k := by rw [List.length_take]; omega
  have hne : 0 < k → r.take k ≠ [] := fun h e => by rw [e] at htl; simp at htl; omega
  have hcl := c.toNat_lt
  refine ⟨fun vs H' => vs = [.int .u64 ((valL (r.take k) : Nat) : Int)] ∧ H' = H2 ∧ (k = 9 → c.toNat ≤ 1) ∧ (0 < k → c.toNat ≠ 0), ?_, ?_⟩
  · have zero : ¬ (k = 9 ∧ 1 < c.toNat) → brB (((c.toNat : Int)) == 0) (brB (decide ((k : Int) > 0)) (∃ n m e, Value.tuple ⟨[.int .u64 0, .int .i64 0, .int .i64 11]⟩ = .tuple ⟨[.int .u64 n, .int .i64 m, .int .i64 e]⟩ ∧ K n m e H2)
        ([Value.int .u64 ((valL (r.take k) : Nat) : Int)] = [.int .u64 ((valL (r.take k) : Nat) : Int)] ∧ H2 = H2 ∧ (k = 9 → c.toNat ≤ 1) ∧ (0 < k → c.toNat ≠ 0)))
        ([Value.int .u64 ((valL (r.take k) : Nat) : Int)] = [.int .u64 ((valL (r.take k) : Nat) : Int)] ∧ H2 = H2 ∧ (k = 9 → c.toNat ≤ 1) ∧ (0 < k → c.toNat ≠ 0)) := fun hno => by
      refine brB_of (fun h2 => brB_of (fun h3 => ⟨_, _, _, rfl, hk _ _ _ ?_⟩) (fun h3 => ⟨rfl, rfl, fun _ => by simp at h2; omega, fun h => by simp at h3; omega⟩)) (fun h2 => ⟨rfl, rfl, fun _ => by omega, fun _ => by simp at h2; omega⟩)
      rw [hc1]
      have := noU_zero (t := r.drop (k + 1)) hh (hne (by simp at h3; omega)) (c := c) (by simp at h2; omega)
      exact .inr (.inr ⟨rfl, rfl, rfl, this⟩)
    refine brB_of (fun h2 => brB_of (fun h3 => ⟨_, _, _, rfl, hk _ _ _ ?_⟩) (fun h3 => zero (by simp at h3; omega))) (fun h2 => zero (by simp at h2; omega))
    rw [hc1]
    have := noU_nine (t := r.drop (k + 1)) hh (by simp at h2; omega) (c := c) (by simp at h3; omega)
    exact .inr (.inr ⟨rfl, rfl, rfl, this⟩)
  rintro J m H3 ⟨e3, rfl, h9, hz⟩
  simp only [List.cons.injEq, Value.int.injEq, true_and, and_true] at e3
  subst e3
  have hvl := valL_lt (r.take k)
  rw [htl] at hvl
  rw [or_shift hk9 hcl h9 hvl]
  have hfit := shl_fit hk9 hcl h9
  have h128 : 128 ^ k ≤ 128 ^ 9 := Nat.pow_le_pow_right (by omega) hk9
  have e4 : valL (r.take k) + 128 ^ k * (c.toNat % 128) = valL (r.take k ++ [c]) := by
    rw [valL_app, htl]
    simp [valL]
  rw [e4]
  refine chk_true (decide_eq_true ?_) ?_
  · rw [wrap64_of (n := 7 * (k : Int)) (by omega) (by omega), wrapU64 (by omega) (by omega)]; omega
  refine brB_of (fun h5 => ?_) (fun h5 => ?_)
  · have hc5 : c.toNat < 128 := by simp at h5; omega
    have := gu_ok (t := r.drop (k + 1)) (a := a) hh hc5 (fun h => hz (by cases k with | zero => simp at h | succ k => omega)) (by rw [← e4]; omega)
    rw [← hc1, htl] at this
    rw [succ64 (by omega)]
    exact ⟨_, _, _, rfl, hk _ _ _ this⟩
  · have hc5 : 128 ≤ c.toNat := by simp at h5; omega
    rw [succ64 (by omega)]
    have e5 : r.take (k + 1) = r.take k ++ [c] := by rw [List.take_add_one, hc3]; rfl
    refine ⟨⟨k + 1, rfl, by omega, by omega, by rw [e5], ?_, rfl⟩, mu_lt (by omega)⟩
    rw [e5]
    intro d hd
    rcases List.mem_append.1 hd with h | h
    · exact hh d h
    · simp at h; subst h; exact hc5




theorem bl_mk (l : List UInt8) : bl ⟨l.toArray⟩ = l := by simp [bl]
theorem size_mk (l : List UInt8) : (⟨l.toArray⟩ : ByteArray).size = l.length := by rw [← bl_len, bl_mk]

theorem noU_big {ds t : List UInt8} {c : UInt8} (hd : HighL ds) (hc : c.toNat < 128) (hv : 18446744073709551616 ≤ valL (ds ++ [c])) : ¬ ShortU (ds ++ c :: t) ∧ NoU (ds ++ c :: t) := by
  refine ⟨fun h => ?_, fun n hn t' e => ?_⟩
  · have := h.2 c (by simp); omega
  · obtain ⟨_, _, h3, _⟩ := low_pre hd hc e
    omega
theorem noU_odd {ds t : List UInt8} {c : UInt8} (hd : HighL ds) (hc : c.toNat < 128) (hv : uintL (valL (ds ++ [c])) ≠ ds ++ [c]) : ¬ ShortU (ds ++ c :: t) ∧ NoU (ds ++ c :: t) := by
  refine ⟨fun h => ?_, fun n hn t' e => ?_⟩
  · have := h.2 c (by simp); omega
  · obtain ⟨h1, _, h3, _⟩ := low_pre hd hc e
    exact hv (by rw [← h3, h1])
theorem valL_drop {l : List UInt8} {j : Nat} {c : UInt8} (h : l[j]? = some c) : valL (l.drop j) = c.toNat % 128 + 128 * valL (l.drop (j + 1)) := by
  obtain ⟨hj, rfl⟩ := List.getElem?_eq_some_iff.1 h
  rw [← List.getElem_cons_drop hj]
  rfl
theorem valL_drop_le (l : List UInt8) (j : Nat) : valL (l.drop j) ≤ valL l := by
  have : valL l = valL (l.take j) + 128 ^ (l.take j).length * valL (l.drop j) := by rw [← valL_app, List.take_append_drop]
  have h1 : 1 ≤ 128 ^ (l.take j).length := Nat.pow_pos (by omega)
  have := Nat.mul_le_mul_right (valL (l.drop j)) h1
  omega

theorem rGetUint_ok {s : ByteArray} {at' : Int} {H : Heap} {K : Int → Int → Int → Heap → Prop} (hs : s.size ≤ 100000000000) (hbad : ¬ (0 ≤ at' ∧ at' ≤ s.size) → K 0 0 1 H)
    (hk : ∀ a : Nat, at' = a → a ≤ s.size → ∀ v n e H', GU ((bl s).drop a) a v n e → Fr [] H H' → K v n e H') :
    CallH Tryz.prog fn_ref01_GetUint ⟨[.string s, .int .i64 at']⟩ H fun v H' => ∃ n m e, v = .tuple ⟨[.int .u64 n, .int .i64 m, .int .i64 e]⟩ ∧ K n m e H' := by
  apply vc_ref01_GetUint
  refine ⟨fun vs H' => H' = H ∧ 0 ≤ at' ∧ at' ≤ s.size, ?_, ?_⟩
  · refine brB_of (fun h => ⟨_, _, _, rfl, hbad ?_⟩) (fun h => brB_of (fun h2 => ⟨_, _, _, rfl, hbad ?_⟩) (fun h2 => ⟨rfl, ?_, ?_⟩))
    · simp at h; omega
    · simp at h2; omega
    · simp at h; omega
    · simp at h2; omega
  rintro J H1 ⟨rfl, h0, h01⟩
  obtain ⟨a, rfl⟩ : ∃ a : Nat, at' = a := ⟨at'.toNat, by omega⟩
  have hk := hk a rfl (by omega)
  have hrl : ((bl s).drop a).length = s.size - a := by rw [List.length_drop, bl_len]
  generalize hr : (bl s).drop a = r at hk hrl
  refine ⟨fun vs H' => match vs with
      | [.int _ i] => ∃ k : Nat, i = k ∧ k ≤ 10 ∧ k ≤ r.length ∧ HighL (r.take k) ∧ H' = H1
      | _ => False,
    fun vs _ => match vs with | [.int _ i] => 10 - i.toNat | _ => 0, ⟨0, rfl, by omega, by omega, fun d hd => by simp at hd, rfl⟩, ?_⟩
  rintro J i H2 ⟨k, rfl, hk10, hkl, hh, rfl⟩
  have ew : IntKind.i64.wrap ((a : Int) + k) = ((a + k : Nat) : Int) := by rw [wrap64_of (by omega) (by omega)]; omega
  rw [ew]
  have htl : (r.take k).length = k := by rw [List.length_take]; omega
  refine ⟨fun vs H' => H' = H2 ∧ k < 10 ∧ k + 1 ≤ r.length ∧ HighL (r.take (k + 1)), ?_, ?_⟩
  rotate_left
  · rintro J H3 ⟨rfl, h1, h2, h3⟩
    rw [succ64 (by omega)]
    exact ⟨⟨k + 1, rfl, by omega, h2, h3, rfl⟩, mu_lt h1⟩
  refine brB_of (fun h1 => brB_of (fun h2 => ?_) (fun h2 => brB_of (fun h3 => by simp at h1 h3; omega) (fun h3 => brB_of (fun h4 => ⟨_, _, _, rfl, hk _ _ _ _ (.inr (.inl ⟨rfl, rfl, rfl, ?_, ?_⟩)) (Fr.refl _ _)⟩) (fun h4 => ?_)))) (fun h1 => brB_of (fun h3 => ⟨_, _, _, rfl, hk _ _ _ _ (.inr (.inr ⟨rfl, rfl, rfl, ?_, ?_⟩)) (Fr.refl _ _)⟩) (fun h3 => by simp at h1 h3; omega))
  rotate_left
  · simp at h1 h2; omega
  · rwa [List.take_of_length_le (by simp at h2; omega)] at hh
  · simp at h2 h4; omega
  · exact fun h => by have := h.1; simp at h1; omega
  · exact fun n hn t e => high_pre hn (by have : k = 10 := by simp at h1; omega
                                          subst this; exact hh) e
  have hlt : a + k < s.size := by simp at h2; omega
  obtain ⟨c, hc1, hc2, hc3⟩ := drop_at hlt
  rw [hr] at hc1 hc3
  refine chk_true (decide_eq_true (by omega)) ?_
  rw [Int.toNat_natCast, ← hc2]
  have hcl := c.toNat_lt
  have e5 : r.take (k + 1) = r.take k ++ [c] := by rw [List.take_add_one, hc3]; rfl
  refine brB_of (fun h3 => ⟨rfl, by simp at h1; omega, by omega, ?_⟩) (fun h3 => ?_)
  · rw [e5]
    intro d hd
    rcases List.mem_append.1 hd with h | h
    · exact hh d h
    · simp at h; subst h; simp at h3; omega
  have hc : c.toNat < 128 := by simp at h3; omega
  refine brB_of (fun h4 => by simp at h1 h4; omega) (fun h4 => brB_of (fun h5 => by simp at h5; omega) (fun h5 => ?_))
  have hl1 : (r.take (k + 1)).length = k + 1 := by rw [List.length_take]; omega
  generalize hw : r.take (k + 1) = w at e5 hl1
  refine ⟨fun vs H' => match vs with
      | [.int _ v, .int _ i] => ∃ j : Nat, i = (j : Int) - 1 ∧ j ≤ k + 1 ∧ v = ((valL (w.drop j) : Nat) : Int) ∧ valL (w.drop j) < 18446744073709551616 ∧ H' = H2
      | _ => False,
    fun vs _ => match vs with | [_, .int _ i] => (i + 1).toNat | _ => 0, ⟨k + 1, by omega, by omega, by rw [List.drop_of_length_le (by omega)]; rfl, by rw [List.drop_of_length_le (by omega)]; simp [valL], rfl⟩, ?_⟩
  rintro J v i H3 ⟨j, rfl, hjk, rfl, hv, rfl⟩
  refine brB_of (fun h6 => ?_) (fun h6 => ?_)
  · have hj0 : 0 < j := by simp at h6; omega
    obtain ⟨j, rfl⟩ : ∃ j', j = j' + 1 := ⟨j - 1, by omega⟩
    obtain ⟨d, hd1, hd2, hd3⟩ := drop_at (s := s) (a := a) (k := j) (by omega)
    have hwj : w[j]? = some d := by
      rw [← hw, List.getElem?_take, if_pos (by omega), ← hr]; exact hd3
    have hvd := valL_drop hwj
    have hdl := d.toNat_lt
    rw [show ((j + 1 : Nat) : Int) - 1 = (j : Int) by omega]
    have ew2 : IntKind.i64.wrap ((a : Int) + j) = ((a + j : Nat) : Int) := by rw [wrap64_of (by omega) (by omega)]; omega
    rw [ew2, Int.toNat_natCast, ← hd2]
    refine brB_of (fun h7 => ⟨_, _, _, rfl, hk _ _ _ _ (.inr (.inr ?_)) (Fr.refl _ _)⟩) (fun h7 => ?_)
    · refine ⟨rfl, rfl, rfl, ?_⟩
      rw [hc1]
      refine noU_big hh hc ?_
      have := valL_drop_le w j
      rw [e5] at this hvd h7
      simp at h7
      omega
    · refine chk_true (decide_eq_true (by omega)) ?_
      simp at h7
      have e7 : IntKind.u64.wrap (IntKind.u64.wrap (((valL (w.drop (j + 1)) : Nat) : Int) * 128) + IntKind.u64.wrap (Int.tmod (d.toNat : Int) 128)) = ((valL (w.drop j) : Nat) : Int) := by
        have : Int.tmod (d.toNat : Int) 128 = ((d.toNat % 128 : Nat) : Int) := by
          rw [Int.tmod_eq_emod_of_nonneg (by omega)]; omega
        rw [this, wrapU64 (n := ((d.toNat % 128 : Nat) : Int)) (by omega) (by omega), wrapU64 (n := ((valL (w.drop (j + 1)) : Nat) : Int) * 128) (by omega) (by omega), wrapU64 (by omega) (by omega)]
        omega
      rw [e7]
      rw [wrap64_of (by omega) (by omega)]
      refine ⟨⟨j, rfl, by omega, rfl, by omega, rfl⟩, ?_⟩
      show ((j : Int) - 1 + 1).toNat < ((j : Int) + 1).toNat
      omega
  · have hj0 : j = 0 := by simp at h6; omega
    subst hj0
    rw [List.drop_zero] at hv ⊢
    rw [succ64 (by omega)]
    refine chk_true (decide_eq_true (by omega)) (rUint_ok hv fun H4 hf4 => ?_)
    have eb : bl (s.extract ((a : Int)).toNat ((a + k + 1 : Nat) : Int).toNat) = w := by
      rw [bl_ext, Int.toNat_natCast, Int.toNat_natCast, List.drop_take, hr, show a + k + 1 - a = k + 1 by omega, hw]
    refine brB_of (fun h7 => ⟨_, _, _, rfl, hk _ _ _ _ (.inr (.inr ?_)) hf4⟩) (fun h7 => ⟨_, _, _, rfl, hk _ _ _ _ ?_ hf4⟩)
    · refine ⟨rfl, rfl, rfl, ?_⟩
      rw [hc1]
      refine noU_odd hh hc ?_
      intro e
      have : (⟨(uintL (valL w)).toArray⟩ : ByteArray) = s.extract ((a : Int)).toNat ((a + k + 1 : Nat) : Int).toNat := by
        apply bl_inj
        rw [eb, bl_mk, e5, e]
      rw [this] at h7
      simp at h7
    · have e8 : uintL (valL w) = w := by
        have : (⟨(uintL (valL w)).toArray⟩ : ByteArray) = s.extract ((a : Int)).toNat ((a + k + 1 : Nat) : Int).toNat := by
          rw [beqS] at h7
          simpa using h7
        have := congrArg bl this
        rw [eb, bl_mk] at this
        exact this
      refine .inl ⟨valL w, rfl, hv, ?_, ?_, ?_, rfl⟩
      · rw [e8, hl1]
        rw [← hw, List.take_append_drop]
      · rw [e8]; omega
      · rw [e8, hl1]; omega



abbrev Lbls := List Lbl
structure WfI (L : List Lbls) : Prop where
  nodup : L.Nodup
  chk : ∀ l ∈ L, ChkP l
  len : L.length ≤ 200
theorem WfI.nil : WfI [] := ⟨by simp, by simp, by simp⟩





def foldN (v : Int) : Nat := if 0 ≤ v then (2 * v).toNat else (2 * (-(v + 1)) + 1).toNat
def unfoldN (n : Nat) : Int := if n % 2 = 0 then (n / 2 : Nat) else -((n / 2 : Nat) : Int) - 1
def intL (v : Int) : List UInt8 := uintL (foldN v)
def I64 (v : Int) : Prop := -9223372036854775808 ≤ v ∧ v ≤ 9223372036854775807
theorem foldN_lt {v : Int} (h : I64 v) : foldN v < 18446744073709551616 := by unfold foldN I64 at *; split <;> omega
theorem unfold_fold (v : Int) : unfoldN (foldN v) = v := by unfold unfoldN foldN; split <;> split <;> omega
theorem unfold_64 {n : Nat} (h : n < 18446744073709551616) : I64 (unfoldN n) := by unfold unfoldN I64; split <;> omega

theorem wrapU_neg {n : Int} (h : -18446744073709551616 ≤ n) (h2 : n < 0) : IntKind.u64.wrap n = n + 18446744073709551616 := by
  unfold IntKind.wrap
  simp [IntKind.bits, IntKind.signed]
  omega
theorem wrapI_big {n : Int} (h : 9223372036854775808 ≤ n) (h2 : n < 18446744073709551616) : IntKind.i64.wrap n = n - 18446744073709551616 := by
  unfold IntKind.wrap
  simp [IntKind.bits, IntKind.signed]
  omega
theorem xor_ones {m : Nat} (h : m < 18446744073709551616) : (BitVec.ofInt 64 (m : Int) ^^^ BitVec.ofInt 64 18446744073709551615).toNat = 18446744073709551615 - m := by
  have e : BitVec.ofInt 64 18446744073709551615 = BitVec.allOnes 64 := by decide
  rw [e, BitVec.xor_allOnes, BitVec.toNat_not, bvN h]
theorem xor_ones' {m : Nat} (h : m < 18446744073709551616) : (BitVec.ofInt 64 (m : Int) ^^^ BitVec.ofInt 64 (-1)).toNat = 18446744073709551615 - m := by
  have e : BitVec.ofInt 64 (-1) = BitVec.allOnes 64 := by decide
  rw [e, BitVec.xor_allOnes, BitVec.toNat_not, bvN h]
theorem xor_zero {m : Nat} (h : m < 18446744073709551616) : (BitVec.ofInt 64 (m : Int) ^^^ BitVec.ofInt 64 0).toNat = m := by
  have e : BitVec.ofInt 64 0 = 0#64 := by decide
  rw [e, BitVec.xor_zero, bvN h]

theorem Fold_ok {v : Int} {H : Heap} {K : Int → Heap → Prop} (hv : I64 v) (hk : K (foldN v : Nat) H) : CallH Tryz.prog fn_zig_Fold ⟨[.int .i64 v]⟩ H fun w H' => ∃ n, w = .int .u64 n ∧ K n H' := by
  apply vc_zig_Fold
  refine ⟨_, rfl, ?_⟩
  obtain ⟨h1, h2⟩ := hv
  by_cases h0 : 0 ≤ v
  · have e1 : Int.fdiv v (2 ^ 63) = 0 := by rw [Int.fdiv_eq_ediv_of_nonneg _ (by decide)]; omega
    have e2 : IntKind.u64.wrap (IntKind.i64.wrap (v * 2 ^ 1)) = ((2 * v).toNat : Int) := by
      by_cases h3 : v * 2 < 9223372036854775808
      · rw [wrap64_of (by omega) (by omega), wrapU64 (by omega) (by omega)]; omega
      · rw [wrapI_big (by omega) (by omega), wrapU_neg (by omega) (by omega)]; omega
    rw [e1, e2, wrapU64 (n := 0) (by omega) (by omega), xor_zero (by omega), wrapU64 (by omega) (by omega)]
    unfold foldN at hk
    rwa [if_pos h0] at hk
  · have e1 : Int.fdiv v (2 ^ 63) = -1 := by rw [Int.fdiv_eq_ediv_of_nonneg _ (by decide)]; omega
    have e2 : IntKind.u64.wrap (IntKind.i64.wrap (v * 2 ^ 1)) = ((2 * v + 18446744073709551616).toNat : Int) := by
      by_cases h3 : -9223372036854775808 ≤ v * 2
      · rw [wrap64_of (by omega) (by omega), wrapU_neg (by omega) (by omega)]; omega
      · have : IntKind.i64.wrap (v * 2 ^ 1) = v * 2 + 18446744073709551616 := by
          unfold IntKind.wrap
          simp [IntKind.bits, IntKind.signed]
          omega
        rw [this, wrapU64 (by omega) (by omega)]; omega
    rw [e1, e2, wrapU_neg (n := -1) (by omega) (by omega)]
    rw [show (-1 : Int) + 18446744073709551616 = 18446744073709551615 from rfl, xor_ones (by omega), wrapU64 (by omega) (by omega)]
    unfold foldN at hk
    rw [if_neg h0] at hk
    have e3 : (18446744073709551615 - (2 * v + 18446744073709551616).toNat : Nat) = (2 * (-(v + 1)) + 1).toNat := by omega
    rw [e3]; exact hk
theorem rFold_ok {v : Int} {H : Heap} {K : Int → Heap → Prop} (hv : I64 v) (hk : K (foldN v : Nat) H) : CallH Tryz.prog fn_ref01_Fold ⟨[.int .i64 v]⟩ H fun w H' => ∃ n, w = .int .u64 n ∧ K n H' := by
  apply vc_ref01_Fold
  obtain ⟨h1, h2⟩ := hv
  unfold foldN at hk
  refine brB_of (fun h => ⟨_, rfl, ?_⟩) (fun h => ⟨_, rfl, ?_⟩)
  · have h0 : 0 ≤ v := by simpa using h
    rw [if_pos h0] at hk
    rw [wrapU64 (n := v) (by omega) (by omega), wrapU64 (by omega) (by omega)]
    have : ((2 * v).toNat : Int) = 2 * v := by omega
    rwa [this] at hk
  · have h0 : ¬ 0 ≤ v := by simpa using h
    rw [if_neg h0] at hk
    rw [wrap64_of (n := v + 1) (by omega) (by omega), wrap64_of (by omega) (by omega), wrapU64 (n := 0 - (v + 1)) (by omega) (by omega), wrapU64 (n := 2 * (0 - (v + 1))) (by omega) (by omega), wrapU64 (by omega) (by omega)]
    have : ((2 * (-(v + 1)) + 1).toNat : Int) = 2 * (0 - (v + 1)) + 1 := by omega
    rwa [this] at hk
theorem Int_ok {v : Int} {H : Heap} {K : ByteArray → Heap → Prop} (hv : I64 v) (hk : ∀ H', Fr [] H H' → K ⟨(intL v).toArray⟩ H') : CallH Tryz.prog fn_zig_Int ⟨[.int .i64 v]⟩ H fun w H' => ∃ s, w = .string s ∧ K s H' := by
  apply vc_zig_Int
  exact Fold_ok hv (Uint_ok (foldN_lt hv) fun H' hf => ⟨_, rfl, hk H' hf⟩)
theorem rInt_ok {v : Int} {H : Heap} {K : ByteArray → Heap → Prop} (hv : I64 v) (hk : ∀ H', Fr [] H H' → K ⟨(intL v).toArray⟩ H') : CallH Tryz.prog fn_ref01_Int ⟨[.int .i64 v]⟩ H fun w H' => ∃ s, w = .string s ∧ K s H' := by
  apply vc_ref01_Int
  exact rFold_ok hv (rUint_ok (foldN_lt hv) fun H' hf => ⟨_, rfl, hk H' hf⟩)
theorem and_one (n : Nat) (h : n < 18446744073709551616) : (BitVec.ofInt 64 (n : Int) &&& BitVec.ofInt 64 1).toNat = n % 2 := by
  have e : BitVec.ofInt 64 1 = 1#64 := by decide
  rw [e, BitVec.toNat_and, bvN h]
  show n &&& 1 = n % 2
  rw [Nat.and_one_is_mod]
theorem Unfold_ok {n : Nat} {H : Heap} {K : Int → Heap → Prop} (hn : n < 18446744073709551616) (hk : K (unfoldN n) H) : CallH Tryz.prog fn_zig_Unfold ⟨[.int .u64 n]⟩ H fun w H' => ∃ v, w = .int .i64 v ∧ K v H' := by
  apply vc_zig_Unfold
  refine ⟨_, rfl, ?_⟩
  unfold unfoldN at hk
  have e1 : Int.fdiv (n : Int) (2 ^ 1) = ((n / 2 : Nat) : Int) := by rw [Int.fdiv_eq_ediv_of_nonneg _ (by decide)]; omega
  rw [e1, and_one n hn, wrapU64 (n := ((n % 2 : Nat) : Int)) (by omega) (by omega), wrap64_of (n := ((n % 2 : Nat) : Int)) (by omega) (by omega), wrap64_of (n := ((n / 2 : Nat) : Int)) (by omega) (by omega)]
  by_cases h0 : n % 2 = 0
  · rw [if_pos h0] at hk
    rw [h0, wrap64_of (n := 0 - ((0 : Nat) : Int)) (by omega) (by omega)]
    show K (IntKind.i64.wrap ((BitVec.ofInt 64 ((n / 2 : Nat) : Int) ^^^ BitVec.ofInt 64 0).toNat : Nat)) H
    rw [xor_zero (by omega), wrap64_of (by omega) (by omega)]
    exact hk
  · rw [if_neg h0] at hk
    have e2 : n % 2 = 1 := by omega
    rw [e2, wrap64_of (n := 0 - ((1 : Nat) : Int)) (by omega) (by omega)]
    show K (IntKind.i64.wrap ((BitVec.ofInt 64 ((n / 2 : Nat) : Int) ^^^ BitVec.ofInt 64 (-1)).toNat : Nat)) H
    rw [xor_ones' (by omega), wrapI_big (by omega) (by omega)]
    have : ((18446744073709551615 - n / 2 : Nat) : Int) - 18446744073709551616 = -((n / 2 : Nat) : Int) - 1 := by omega
    rw [this]; exact hk
theorem rUnfold_ok {n : Nat} {H : Heap} {K : Int → Heap → Prop} (hn : n < 18446744073709551616) (hk : K (unfoldN n) H) : CallH Tryz.prog fn_ref01_Unfold ⟨[.int .u64 n]⟩ H fun w H' => ∃ v, w = .int .i64 v ∧ K v H' := by
  apply vc_ref01_Unfold
  unfold unfoldN at hk
  have e1 : Int.tmod (n : Int) 2 = ((n % 2 : Nat) : Int) := by rw [Int.tmod_eq_emod_of_nonneg (by omega)]; omega
  have e2 : Int.tdiv (n : Int) 2 = ((n / 2 : Nat) : Int) := by rw [Int.tdiv_eq_ediv_of_nonneg (by omega)]; omega
  rw [e1, e2, wrapU64 (n := ((n / 2 : Nat) : Int)) (by omega) (by omega), wrap64_of (n := ((n / 2 : Nat) : Int)) (by omega) (by omega)]
  refine brB_of (fun h => ⟨_, rfl, ?_⟩) (fun h => ⟨_, rfl, ?_⟩)
  · have h0 : n % 2 = 0 := by have := eq_of_beq h; omega
    rwa [if_pos h0] at hk
  · have h0 : ¬ n % 2 = 0 := fun e => by rw [e] at h; simp at h
    rw [if_neg h0] at hk
    rw [wrap64_of (n := 0 - ((n / 2 : Nat) : Int)) (by omega) (by omega), wrap64_of (by omega) (by omega)]
    have : (0 : Int) - ((n / 2 : Nat) : Int) - 1 = -((n / 2 : Nat) : Int) - 1 := by omega
    rw [this]; exact hk
theorem GetInt_ok {s : ByteArray} {at' : Int} {H : Heap} {K : Int → Int → Int → Heap → Prop} (hs : s.size ≤ 100000000000) (hbad : ¬ (0 ≤ at' ∧ at' ≤ s.size) → K 0 0 1 H)
    (hk : ∀ a : Nat, at' = a → a ≤ s.size → ∀ (v : Nat) n e, GU ((bl s).drop a) a v n e → v < 18446744073709551616 → K (unfoldN v) n e H) :
    CallH Tryz.prog fn_zig_GetInt ⟨[.string s, .int .i64 at']⟩ H fun v H' => ∃ n m e, v = .tuple ⟨[.int .i64 n, .int .i64 m, .int .i64 e]⟩ ∧ K n m e H' := by
  apply vc_zig_GetInt
  refine GetUint_ok hs (fun h => ?_) fun a ea ha v n e hg => ?_
  · have := Unfold_ok (n := 0) (H := H) (K := fun w H' => K w 0 1 H') (by omega) (hbad h)
    exact this.mono fun v H' ⟨w, h1, h2⟩ => ⟨w, h1, _, _, _, rfl, h2⟩
  · obtain ⟨m, rfl, hm⟩ : ∃ m : Nat, v = m ∧ m < 18446744073709551616 := by
      rcases hg with ⟨m, h1, h2, _⟩ | ⟨h, _⟩ | ⟨h, _⟩
      · exact ⟨m, h1, h2⟩
      · exact ⟨0, h, by omega⟩
      · exact ⟨0, h, by omega⟩
    have := Unfold_ok (n := m) (H := H) (K := fun w H' => K w n e H') hm (hk a ea ha m n e hg hm)
    exact this.mono fun v H' ⟨w, h1, h2⟩ => ⟨w, h1, _, _, _, rfl, h2⟩
theorem rGetInt_ok {s : ByteArray} {at' : Int} {H : Heap} {K : Int → Int → Int → Heap → Prop} (hs : s.size ≤ 100000000000) (hbad : ¬ (0 ≤ at' ∧ at' ≤ s.size) → K 0 0 1 H)
    (hk : ∀ a : Nat, at' = a → a ≤ s.size → ∀ (v : Nat) n e H', GU ((bl s).drop a) a v n e → v < 18446744073709551616 → Fr [] H H' → K (unfoldN v) n e H') :
    CallH Tryz.prog fn_ref01_GetInt ⟨[.string s, .int .i64 at']⟩ H fun v H' => ∃ n m e, v = .tuple ⟨[.int .i64 n, .int .i64 m, .int .i64 e]⟩ ∧ K n m e H' := by
  apply vc_ref01_GetInt
  refine rGetUint_ok hs (fun h => brB_of (fun _ => ⟨_, _, _, rfl, hbad h⟩) (fun h => by simp at h)) fun a ea ha v n e H' hg hf => ?_
  rcases id hg with ⟨m, rfl, h2, _, _, _, rfl⟩ | ⟨rfl, rfl, rfl, _⟩ | ⟨rfl, rfl, rfl, _⟩
  · refine brB_of (fun h => by simp at h) (fun _ => ?_)
    have := rUnfold_ok (n := m) (H := H') (K := fun w H' => K w n 0 H') h2 (hk a ea ha m n 0 H' hg h2 hf)
    exact this.mono fun v H' ⟨w, h1, h2⟩ => ⟨w, h1, _, _, _, rfl, h2⟩
  · exact brB_of (fun _ => ⟨_, _, _, rfl, hk a ea ha 0 0 10 H' hg (by omega) hf⟩) (fun h => by simp at h)
  · exact brB_of (fun _ => ⟨_, _, _, rfl, hk a ea ha 0 0 11 H' hg (by omega) hf⟩) (fun h => by simp at h)
end Go.Proofs
