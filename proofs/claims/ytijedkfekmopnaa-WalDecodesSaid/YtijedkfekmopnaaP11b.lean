/- Turned by a program of mine (port.py) out of the same text of another seat: numbers of types and functions. -/
import Derived.Test.YtijedkfekmopnaaP11a
set_option linter.unusedVariables false
set_option maxRecDepth 100000
open Go Go.GV
namespace Go.Proofs

theorem succ64 {i : Nat} (h : i ≤ 1000000000000) : IntKind.i64.wrap ((i : Int) + 1) = ((i + 1 : Nat) : Int) := by
  rw [wrap64_of (by omega) (by omega)]; omega
theorem pred64 {i : Nat} (h : i ≤ 1000000000000) (h0 : 0 < i) : IntKind.i64.wrap ((i : Int) - 1) = ((i - 1 : Nat) : Int) := by
  rw [wrap64_of (by omega) (by omega)]; omega
theorem mu_lt {n i : Nat} (h : i < n) : n - ((i + 1 : Nat) : Int).toNat < n - ((i : Nat) : Int).toNat := by omega
theorem wrapU8 {n : Int} (h : 0 ≤ n) : IntKind.u8.wrap n = n % 256 := by
  unfold IntKind.wrap
  simp [IntKind.bits, IntKind.signed]
theorem wrapU64 {n : Int} (h : 0 ≤ n) (h2 : n < 18446744073709551616) : IntKind.u64.wrap n = n := by
  unfold IntKind.wrap
  simp [IntKind.bits, IntKind.signed]
  omega
theorem or128 : ∀ m : Nat, m < 256 → (BitVec.ofNat 8 m ||| BitVec.ofNat 8 128).toNat = m % 128 + 128 := by decide +kernel
theorem byteN (n : Nat) (h : n < 256) : (n : Int) = ((UInt8.ofNat n).toNat : Int) := by
  rw [UInt8.toNat_ofNat']
  omega

theorem Uint_ok {n : Nat} {H : Heap} {K : ByteArray → Heap → Prop} (hn : n < 18446744073709551616) (hk : ∀ H', Fr [] H H' → K ⟨(uintL n).toArray⟩ H') :
    CallH Try.prog fn_zig_Uint ⟨[.int .u64 n]⟩ H fun v H' => ∃ s, v = .string s ∧ K s H' := by
  apply vc_zig_Uint
  have e5 : elemB Try.prog 5 1 1 = true := by kernel_rfl
  refine mk_own (E := encByte) bT.sl e5 (by omega) (by decide) fun b0 H1 ho1 hf1 => ?_
  refine ⟨fun vs H' => match vs with
      | [.int _ m, .slice o p q] => ∃ (k : Nat) (xs : List UInt8) (j : Nat), m = k ∧ Own encByte 5 H.size H' o p q xs ∧ xs.length = j ∧ k < 128 ^ (10 - j) ∧ j < 10 ∧ xs ++ uintL k = uintL n ∧ Fr [] H H'
      | _ => False,
    fun vs _ => match vs with | [.int _ m, _] => m.toNat | _ => 0, ⟨n, [], 0, rfl, ho1, rfl, by omega, by omega, rfl, hf1⟩, ?_⟩
  rintro J m o p q H2 ⟨k, xs, j, rfl, ho, hj, hk2, hj9, he, hf⟩
  have hp := ho.1
  refine brB_of (fun h0 => ?_) (fun h0 => ?_)
  · have h0' : ¬ k < 128 := by simp at h0; omega
    have hb : IntKind.u8.wrap ((BitVec.toNat (BitVec.ofInt 8 (IntKind.u8.wrap (k : Int)) ||| BitVec.ofInt 8 128) : Nat) : Int) = ((UInt8.ofNat (k % 128 + 128)).toNat : Int) := by
      rw [wrapU8 (n := (k : Int)) (by omega)]
      have e1 : BitVec.ofInt 8 ((k : Int) % 256) = BitVec.ofNat 8 (k % 256) := by
        rw [show (k : Int) % 256 = ((k % 256 : Nat) : Int) by omega]; rfl
      have e2 : BitVec.ofInt 8 128 = BitVec.ofNat 8 128 := rfl
      rw [e1, e2, or128 _ (Nat.mod_lt _ (by omega)), wrapU8 (by omega), UInt8.toNat_ofNat']
      omega
    rw [hb]
    have hj8 : j < 9 := by
      rcases Nat.lt_or_ge j 9 with h | h
      · exact h
      · have : j = 9 := by omega
        subst this
        simp at hk2
        omega
    refine ap_one (E := encByte) (bytes := 1) (UInt8.ofNat (k % 128 + 128)) bT.sl e5 ho hf rfl (by omega) fun _ o2 p2 q2 H4 hw2 hf2 _ => ?_
    have hdiv : Int.fdiv (k : Int) (2 ^ 7) = ((k / 128 : Nat) : Int) := by
      rw [Int.fdiv_eq_ediv_of_nonneg _ (by decide)]
      omega
    rw [hdiv]
    refine ⟨⟨k / 128, _, j + 1, rfl, hw2, by simp [hj], ?_, by omega, ?_, hf2⟩, ?_⟩
    · rw [Nat.div_lt_iff_lt_mul (by omega), ← Nat.pow_succ]
      rw [show (10 - (j + 1)).succ = 10 - j by omega]
      exact hk2
    · rw [uintL_big h0'] at he
      rw [← he]; simp
    · show ((k / 128 : Nat) : Int).toNat < ((k : Nat) : Int).toNat
      omega
  · have h0' : k < 128 := by simp at h0; omega
    have hb : IntKind.u8.wrap (k : Int) = ((UInt8.ofNat k).toNat : Int) := by
      rw [wrapU8 (by omega), UInt8.toNat_ofNat']
      omega
    rw [hb]
    refine ap_one (E := encByte) (bytes := 1) (UInt8.ofNat k) bT.sl e5 ho hf rfl (by omega) fun _ o2 p2 q2 H4 hw2 hf2 _ => ?_
    rw [uintL_small h0'] at he
    rw [he] at hw2
    exact cv_bs (e := 5) bT.sl bT.str (by kernel_rfl) hw2.sl ⟨_, rfl, hk H4 hf2⟩

theorem uintL_len10 {n : Nat} (hn : n < 18446744073709551616) : (uintL n).length ≤ 10 := uintL_len 9 n (by omega)
theorem Text_ok {s : ByteArray} {H : Heap} {K : ByteArray → Heap → Prop} (hs : s.size ≤ 140737488355328) (hk : ∀ H', Fr [] H H' → K ⟨(textL s).toArray⟩ H') :
    CallH Try.prog fn_zig_Text ⟨[.string s]⟩ H fun v H' => ∃ s, v = .string s ∧ K s H' := by
  apply vc_zig_Text
  rw [wrapU64 (by omega) (by omega)]
  refine Uint_ok (n := s.size) (by omega) fun H' hf => ?_
  have := uintL_len10 (n := s.size) (by omega)
  refine chk_true (decide_eq_true (by show (uintL s.size).length + s.size ≤ _; omega)) ⟨_, rfl, ?_⟩
  have e : (⟨(uintL s.size).toArray⟩ ++ s : ByteArray) = ⟨(textL s).toArray⟩ := by apply bl_inj; simp [bl, textL]
  rw [e]
  exact hk H' hf

theorem rUint_ok {n : Nat} {H : Heap} {K : ByteArray → Heap → Prop} (hn : n < 18446744073709551616) (hk : ∀ H', Fr [] H H' → K ⟨(uintL n).toArray⟩ H') :
    CallH Try.prog fn_ref01_Uint ⟨[.int .u64 n]⟩ H fun v H' => ∃ s, v = .string s ∧ K s H' := by
  apply vc_ref01_Uint
  refine ⟨fun vs H' => match vs with
      | [.int _ m, .string s] => ∃ (k : Nat), m = k ∧ k < 18446744073709551616 ∧ k < 128 ^ (10 - s.size) ∧ s.size < 10 ∧ bl s ++ uintL k = uintL n ∧ Fr [] H H'
      | _ => False,
    fun vs _ => match vs with | [.int _ m, _] => m.toNat | _ => 0, ⟨n, rfl, hn, by show n < 128 ^ (10 - 0); omega, by show 0 < 10; omega, rfl, Fr.refl _ _⟩, ?_⟩
  rintro J m s H2 ⟨k, rfl, hk64, hk2, hj9, he, hf⟩
  have one : ∀ (x : Nat) (b : Nat) (H3 : Heap) (K' : ByteArray → Heap → Prop), x < 256 → New H2 b (.cells ⟨[.int .u8 x]⟩ 5) H3 → K' ⟨#[UInt8.ofNat x]⟩ H3 → SemWp Try.prog (convert 79 9 (.slice (some ⟨b, 0, none⟩) 1 1)) H3 fun v H' => ∃ s, v = .string s ∧ K' s H' := by
    intro x b H3 K' hx hn1 hK
    have hs1 : Sl encByte H3 (some ⟨b, 0, none⟩) 1 1 [UInt8.ofNat x] := sl_one encByte _ hn1 (by rw [byteN x hx]; rfl)
    exact cv_bs (e := 5) bT.sl bT.str (by kernel_rfl) hs1 hK
  have hsz : ∀ x : Nat, (s ++ ⟨#[UInt8.ofNat x]⟩ : ByteArray).size = s.size + 1 := fun x => by rw [← bl_len, bl_app, List.length_append, bl_len]; rfl
  refine brB_of (fun h0 => ?_) (fun h0 => ?_)
  · have h0' : ¬ k < 128 := by simp at h0; omega
    intro b H3 hn1
    have e1 : IntKind.u8.wrap (IntKind.u64.wrap (Int.tmod (k : Int) 128 + 128)) = ((k % 128 + 128 : Nat) : Int) := by
      have : Int.tmod (k : Int) 128 = ((k % 128 : Nat) : Int) := by rw [Int.tmod_eq_emod_of_nonneg (by omega)]; omega
      rw [this, wrapU64 (by omega) (by omega), wrapU8 (by omega)]
      omega
    rw [e1] at hn1
    have e2 : IntKind.u64.wrap (Int.tdiv (k : Int) 128) = ((k / 128 : Nat) : Int) := by
      have : Int.tdiv (k : Int) 128 = ((k / 128 : Nat) : Int) := by rw [Int.tdiv_eq_ediv_of_nonneg (by omega)]; omega
      rw [this, wrapU64 (by omega) (by omega)]
    rw [e2]
    have hj8 : s.size < 9 := by
      rcases Nat.lt_or_ge s.size 9 with h | h
      · exact h
      · have : s.size = 9 := by omega
        rw [this] at hk2
        simp at hk2
        omega
    refine one _ b H3 _ (by omega) hn1 (chk_true (decide_eq_true (by show s.size + 1 ≤ _; omega)) ⟨⟨k / 128, rfl, by omega, ?_, by rw [hsz]; omega, ?_, hf.keep0 hn1.fr⟩, ?_⟩)
    · rw [hsz, Nat.div_lt_iff_lt_mul (by omega), ← Nat.pow_succ, show (10 - (s.size + 1)).succ = 10 - s.size by omega]
      exact hk2
    · rw [uintL_big h0'] at he
      rw [← he, bl_app]; simp [bl]
    · show ((k / 128 : Nat) : Int).toNat < ((k : Nat) : Int).toNat
      omega
  · have h0' : k < 128 := by simp at h0; omega
    intro b H3 hn1
    rw [wrapU8 (by omega), show (k : Int) % 256 = k by omega] at hn1
    refine one _ b H3 _ (by omega) hn1 (chk_true (decide_eq_true (by show s.size + 1 ≤ _; omega)) ⟨_, rfl, ?_⟩)
    rw [uintL_small h0'] at he
    have e : (s ++ ⟨#[UInt8.ofNat k]⟩ : ByteArray) = ⟨(uintL n).toArray⟩ := by apply bl_inj; rw [bl_app]; simpa [bl] using he
    rw [e]
    exact hk H3 (hf.keep0 hn1.fr)
theorem rText_ok {s : ByteArray} {H : Heap} {K : ByteArray → Heap → Prop} (hs : s.size ≤ 140737488355328) (hk : ∀ H', Fr [] H H' → K ⟨(textL s).toArray⟩ H') :
    CallH Try.prog fn_ref01_Text ⟨[.string s]⟩ H fun v H' => ∃ s, v = .string s ∧ K s H' := by
  apply vc_ref01_Text
  rw [wrapU64 (by omega) (by omega)]
  refine rUint_ok (n := s.size) (by omega) fun H' hf => ?_
  have := uintL_len10 (n := s.size) (by omega)
  refine chk_true (decide_eq_true (by show (uintL s.size).length + s.size ≤ _; omega)) ⟨_, rfl, ?_⟩
  have e : (⟨(uintL s.size).toArray⟩ ++ s : ByteArray) = ⟨(textL s).toArray⟩ := by apply bl_inj; simp [bl, textL]
  rw [e]
  exact hk H' hf

/-! names and values -/
def runeLenI (c : Int) : Int := if c < 0 then -1 else if c ≤ 127 then 1 else if c ≤ 2047 then 2 else if 55296 ≤ c ∧ c ≤ 57343 then -1 else if c ≤ 65535 then 3 else if c ≤ 1114111 then 4 else -1
theorem RuneLen_ok {c : Int} {H : Heap} {K : Int → Heap → Prop} (hk : K (runeLenI c) H) : CallH Try.prog fn_unicode_utf8_RuneLen ⟨[.int .i32 c]⟩ H fun v H' => ∃ n, v = .int .i64 n ∧ K n H' := by
  apply vc_unicode_utf8_RuneLen
  unfold runeLenI at hk
  refine brB_of (fun h => ⟨_, rfl, ?_⟩) (fun h => ?_)
  · rwa [if_pos (by simpa using h)] at hk
  rw [if_neg (by simpa using h)] at hk
  refine brB_of (fun h => ⟨_, rfl, ?_⟩) (fun h => ?_)
  · rwa [if_pos (by simpa using h)] at hk
  rw [if_neg (by simpa using h)] at hk
  refine brB_of (fun h => ⟨_, rfl, ?_⟩) (fun h => ?_)
  · rwa [if_pos (by simpa using h)] at hk
  rw [if_neg (by simpa using h)] at hk
  have rest : ¬ (55296 ≤ c ∧ c ≤ 57343) → brB (decide (c ≤ 65535)) (∃ n, Value.int .i64 3 = .int .i64 n ∧ K n H) (brB (decide (c ≤ 1114111)) (∃ n, Value.int .i64 4 = .int .i64 n ∧ K n H) (∃ n, Value.int .i64 (-1) = .int .i64 n ∧ K n H)) := fun h5 => by
    rw [if_neg h5] at hk
    refine brB_of (fun h => ⟨_, rfl, ?_⟩) (fun h => ?_)
    · rwa [if_pos (by simpa using h)] at hk
    rw [if_neg (by simpa using h)] at hk
    refine brB_of (fun h => ⟨_, rfl, ?_⟩) (fun h => ⟨_, rfl, ?_⟩)
    · rwa [if_pos (by simpa using h)] at hk
    · rwa [if_neg (by simpa using h)] at hk
  refine brB_of (fun h3 => brB_of (fun h4 => ⟨_, rfl, ?_⟩) (fun h4 => rest ?_)) (fun h3 => rest ?_)
  · rwa [if_pos ⟨by simpa using h3, by simpa using h4⟩] at hk
  · simp at h4; omega
  · simp at h3; omega
theorem runeLenI_N (c : Nat) (h : ¬ (55296 ≤ c ∧ c ≤ 57343)) (h2 : c ≤ 1114111) : runeLenI c = runeLenN c := by
  unfold runeLenI runeLenN
  repeat' split
  all_goals omega

def itMu (r : Nat) (s : ByteArray) (H : Heap) : Nat := match H[r]? with | some (.stringIter _ p) => s.size - p | _ => 0
theorem itMu_of {r p : Nat} {s t : ByteArray} {H : Heap} (h : H[r]? = some (.stringIter t p)) : itMu r s H = s.size - p := by unfold itMu; rw [h]

theorem Name_ok {s : ByteArray} {H : Heap} {K : Bool → Heap → Prop} (hk : ∀ H', Fr [] H H' → K (decide (NameP s)) H') :
    CallH Try.prog fn_label_Name ⟨[.string s]⟩ H fun v H' => ∃ b, v = .bool b ∧ K b H' := by
  apply vc_label_Name
  have no : ∀ H', Fr [] H H' → ¬ NameP s → ∃ b, Value.bool false = .bool b ∧ K b H' := fun H' hf h => ⟨_, rfl, by have := hk H' hf; rwa [decide_eq_false h] at this⟩
  refine ⟨fun vs H' => H' = H ∧ 1 ≤ s.size ∧ s.size ≤ 16, ?_, ?_⟩
  · rw [beqS]
    refine brB_of (fun h => no H (Fr.refl _ _) fun h' => ?_) (fun h => brB_of (fun h2 => no H (Fr.refl _ _) fun h' => ?_) (fun h2 => ⟨rfl, ?_, ?_⟩))
    · have := of_decide_eq_true h; subst this; have := h'.1; simp [ByteArray.size] at this
    · have := h'.2.1; simp at h2; omega
    · have : s.size ≠ 0 := fun e => by
        have h3 : s = ⟨#[]⟩ := by apply bl_inj; show bl s = []; exact List.eq_nil_of_length_eq_zero (by rw [bl_len]; exact e)
        rw [decide_eq_true h3] at h; cases h
      omega
    · simp at h2; omega
  rintro J H1 ⟨rfl, g1, g2⟩
  refine rg_str bT.str fun r H2 hr h2 hf2 => ?_
  refine ⟨fun _ H' => ∃ p, H'[r]? = some (.stringIter s p) ∧ p ≤ s.size ∧ (∀ i, i < p → nchN (atB s i)) ∧ (0 < p → lowN (atB s 0)) ∧ Fr [] H1 H', fun _ H' => itMu r s H', ⟨0, h2, by omega, fun i h => by omega, fun h => by omega, hf2⟩, ?_⟩
  rintro J H3 ⟨p, h3, hp, hall, hlow, hf3⟩
  refine nx_str h3 (fun hend => .inl ⟨rfl, _, rfl, ?_⟩) (fun hlt H4 h4 hf4 => .inr ⟨_, _, rfl, _, rfl, _, rfl, ?_⟩)
  · have : NameP s := ⟨g1, g2, hlow (by omega), fun i hi => hall i (by omega)⟩
    have := hk H3 hf3
    rwa [decide_eq_true ‹NameP s›] at this
  have hf4' : Fr [] H1 H4 := hf3.keep hf4 (fun k hk => by simp at hk; omega)
  have hd := decode_ok s p hlt
  have hatb := atB_lt s p
  generalize Utf8.decode s p = d at hd h4 ⊢
  obtain ⟨c, w⟩ := d
  obtain ⟨_, _, hd3, hd4, hd5⟩ := hd
  simp only at hd3 hd4 hd5 h4 ⊢
  have hcb : (c < 128 ∧ c = atB s p ∧ w = 1) ∨ (128 ≤ c ∧ 128 ≤ atB s p) := by
    rcases Nat.lt_or_ge c 128 with h | h
    · exact .inl ⟨h, hd3 h⟩
    · refine .inr ⟨h, ?_⟩
      rcases Nat.lt_or_ge (atB s p) 128 with h' | h'
      · have := hd4 h'; omega
      · exact h'
  refine ⟨fun vs H' => vs = [.bool (decide (lowN c))] ∧ H' = H4, ?_, ?_⟩
  · refine brB_of (fun h => ⟨?_, rfl⟩) (fun h => ⟨?_, rfl⟩)
    · simp at h; congr 2; exact decide_eq_decide.2 (by unfold lowN; omega)
    · simp at h; congr 2; exact (decide_eq_false (by unfold lowN; omega)).symm
  rintro J b H5 ⟨hb, rfl⟩
  simp only [List.cons.injEq, Value.bool.injEq, and_true] at hb
  subst hb
  have go : nchN c → (p = 0 → lowN c) → (∃ p, H5[r]? = some (.stringIter s p) ∧ p ≤ s.size ∧ (∀ i, i < p → nchN (atB s i)) ∧ (0 < p → lowN (atB s 0)) ∧ Fr [] H1 H5) ∧ itMu r s H5 < itMu r s H3 := by
    intro hn hl
    have hc : c < 128 := by unfold nchN at hn; omega
    rcases hcb with ⟨_, e1, e2⟩ | ⟨h, _⟩
    · subst e2
      refine ⟨⟨p + 1, h4, by omega, fun i hi => ?_, fun _ => ?_, hf4'⟩, by rw [itMu_of h4, itMu_of h3]; omega⟩
      · rcases Nat.lt_or_ge i p with h | h
        · exact hall i h
        · have : i = p := by omega
          subst this; rw [← e1]; exact hn
      · rcases Nat.eq_zero_or_pos p with h | h
        · subst h; rw [← e1]; exact hl rfl
        · exact hlow h
    · omega
  have bad : ¬ nchN c → ∃ b, Value.bool false = .bool b ∧ K b H5 := fun h => no H5 hf4' fun hN => h (by
    have := hN.2.2.2 p hlt
    rcases hcb with ⟨_, e1, _⟩ | ⟨_, h'⟩
    · rwa [e1]
    · unfold nchN at this; omega)
  refine brB_of (fun h => ?_) (fun h => go ?_ ?_)
  · have hl : ¬ lowN c := by simpa using h
    refine brB_of (fun h2 => no H5 hf4' fun hN => ?_) (fun h2 => ?_)
    · have hp0 : p = 0 := by have h2 : (p : Int) = 0 := by simpa using h2
                             omega
      subst hp0
      have := hN.2.2.1
      rcases hcb with ⟨_, e1, _⟩ | ⟨_, h'⟩
      · exact hl (by rwa [e1])
      · unfold lowN at this; omega
    have hp0 : p ≠ 0 := fun e => by subst e; simp at h2
    refine brB_of (fun h3 => ?_) (fun h3 => go ?_ (fun e => absurd e hp0))
    · have h3 : (c : Int) ≠ 95 := by simpa using h3
      refine brB_of (fun h4 => bad ?_) (fun h4 => brB_of (fun h5 => bad ?_) (fun h5 => go ?_ (fun e => absurd e hp0)))
      · simp at h4; unfold nchN; unfold lowN at hl; omega
      · simp at h5; unfold nchN; unfold lowN at hl; omega
      · simp at h4 h5; unfold nchN; omega
    · have h3 : (c : Int) = 95 := by simpa using h3
      unfold nchN; omega
  · have : lowN c := by simpa using h
    unfold nchN; unfold lowN at this; omega
  · intro _; simpa using h

theorem Value_ok {s : ByteArray} {H : Heap} {K : Bool → Heap → Prop} (hk : ∀ H', Fr [] H H' → K (decide (ValP s)) H') :
    CallH Try.prog fn_label_Value ⟨[.string s]⟩ H fun v H' => ∃ b, v = .bool b ∧ K b H' := by
  apply vc_label_Value
  refine brB_of (fun h => ⟨_, rfl, ?_⟩) (fun h => ?_)
  · have : ¬ ValP s := fun h' => by have := h'.1; simp at h; omega
    have h2 := hk H (Fr.refl _ _)
    rwa [decide_eq_false this] at h2
  have hsz : s.size ≤ 32 := by simp at h; omega
  refine rg_str bT.str fun r H2 hr h2 hf2 => ?_
  refine ⟨fun vs H' => match vs with
      | [.int _ n] => ∃ (p m : Nat), n = m ∧ H'[r]? = some (.stringIter s p) ∧ p ≤ s.size ∧ m ≤ 4 * p ∧ ((m = p ∧ okRunes s 0 = okRunes s p) ∨ (p < m ∧ okRunes s 0 = false)) ∧ Fr [] H H'
      | _ => False, fun _ H' => itMu r s H', ⟨0, 0, rfl, h2, by omega, by omega, .inl ⟨rfl, rfl⟩, hf2⟩, ?_⟩
  rintro J n H3 ⟨p, m, rfl, h3, hp, hm4, hm, hf3⟩
  refine nx_str h3 (fun hend => .inl ⟨rfl, _, rfl, ?_⟩) (fun hlt H4 h4 hf4 => .inr ⟨_, _, rfl, _, rfl, ?_⟩)
  · have hpe : p = s.size := by omega
    have e : ((m : Int) == (s.size : Int)) = decide (ValP s) := by
      rcases hm with ⟨h1, h2⟩ | ⟨h1, h2⟩
      · have : ValP s := ⟨hsz, by rw [h2]; exact okRunes_end (by omega)⟩
        rw [decide_eq_true this]; simp; omega
      · have : ¬ ValP s := fun h => by rw [h.2] at h2; cases h2
        rw [decide_eq_false this]; simp; omega
    rw [e]; exact hk H3 hf3
  have hf4' : Fr [] H H4 := hf3.keep hf4 (fun k hk => by simp at hk; omega)
  have hd := decode_ok s p hlt
  generalize Utf8.decode s p = d at hd h4 ⊢
  obtain ⟨c, w⟩ := d
  obtain ⟨hd1, hd2, hd3, hd4, hd5⟩ := hd
  simp only at hd1 hd2 hd3 hd4 hd5 h4 ⊢
  refine RuneLen_ok ?_
  have key : ∃ q : Nat, runeLenI c = q ∧ q ≤ 4 ∧ p + w ≤ s.size ∧ ((q = w ∧ okRunes s p = okRunes s (p + w)) ∨ (w < q ∧ okRunes s p = false)) := by
    by_cases hw : wideR s p = 0
    · obtain ⟨rfl, rfl⟩ := hd2 hw
      exact ⟨3, by decide, by omega, by omega, .inr ⟨by omega, okRunes_bad hlt hw⟩⟩
    · obtain ⟨h5, h6⟩ := hd1 hw
      refine ⟨w, ?_, ?_, by rw [h5]; exact wideR_le hlt, .inl ⟨rfl, by rw [h5]; exact okRunes_next hlt hw⟩⟩
      · have hc : ¬ (55296 ≤ c ∧ c ≤ 57343) ∧ c ≤ 1114111 := by
          unfold runeLenN at h6
          refine ⟨fun h => ?_, ?_⟩
          · rw [if_neg (by omega), if_neg (by omega), if_pos (by omega)] at h6; omega
          · by_cases hb : c ≤ 1114111
            · exact hb
            · rw [if_neg (by omega), if_neg (by omega), if_neg (by omega), if_neg (by omega), if_neg (by omega)] at h6; omega
        rw [runeLenI_N c hc.1 hc.2, h6]
      · rw [← h6]; unfold runeLenN; repeat' split
        all_goals omega
  obtain ⟨q, hq, hq4, hpw, hqw⟩ := key
  rw [hq, wrap64_of (by omega) (by omega)]
  refine ⟨⟨p + w, m + q, by omega, h4, hpw, by omega, ?_, hf4'⟩, ?_⟩
  · rcases hm with ⟨h1, h2⟩ | ⟨h1, h2⟩
    · rcases hqw with ⟨h3, h5⟩ | ⟨h3, h5⟩
      · exact .inl ⟨by omega, by rw [h2, h5]⟩
      · exact .inr ⟨by omega, by rw [h2, h5]⟩
    · refine .inr ⟨?_, h2⟩
      rcases hqw with ⟨h3, h5⟩ | ⟨h3, h5⟩ <;> omega
  · rw [itMu_of h4, itMu_of h3]; omega
end Go.Proofs
