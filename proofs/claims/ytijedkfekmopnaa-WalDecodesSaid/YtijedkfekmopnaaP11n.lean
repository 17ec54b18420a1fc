/- Turned by a program of mine (port.py) out of the same text of another seat: numbers of types and functions. -/
import Derived.Test.YtijedkfekmopnaaP11d
import Derived.Test.YtijedkfekmopnaaVc11
set_option linter.unusedVariables false
set_option maxRecDepth 100000
open Go Go.GV
namespace Go.Proofs

/-! a builder that is made larger before anything is written -/
theorem makeNoZero_ok {H : Heap} {n : Nat} {K : Option Addr → Nat → Nat → Heap → Prop} (hn : n ≤ 140737488355328)
    (hk : ∀ b (cs : Array Value) H', New H b (.cells cs 5) H' → n ≤ cs.size → cs.size ≤ maxLen → K (some ⟨b, 0, none⟩) n cs.size H') :
    ExtH Try.prog 80 ⟨[.int .i64 (n : Int)]⟩ H fun v H' => ∃ a n c, v = .slice a n c ∧ K a n c H' := by
  intro E d
  obtain ⟨cs, hr, h1, h2⟩ := Lib.run_makeNoZero (P := Try.prog) (mkW E H d) #[3] 79 5 (sliceB_out bT.sl) n (by omega)
  refine ⟨_, H.push (.cells cs 5), ⟨d.1 + 2, Nat.le_trans d.2 (by omega)⟩, ?_, _, _, _, rfl, hk H.size cs _ ⟨rfl, rfl⟩ h1 (h2 (by simp only [maxLen]; omega))⟩
  rw [run_callFunc_extern (fn := Try.f80) Try.func80 (by kernel_rfl) (by kernel_rfl) (by kernel_rfl) (e := Extern.BytealgMakeNoZero.makeNoZero #[3] #[79]) (by kernel_rfl)]
  have hr' : (Extern.BytealgMakeNoZero.makeNoZero #[3] #[79] ⟨[.int .i64 (n : Int)]⟩).run Try.prog (mkW E H d) = _ := hr
  rw [hr']
  rfl
theorem copy_none {H : Heap} {a : Option Addr} {c : Nat} {K : Int → Heap → Prop} (hk : K 0 H) :
    SemWp Try.prog (Builtin.copy_ ⟨[79, 79]⟩ 3 ⟨[.slice a 0 c, .slice none 0 0]⟩) H fun v H' => ∃ n, v = .int .i64 n ∧ K n H' := by
  intro E d
  obtain ⟨i, hi, _⟩ := byteB_out bT.byte
  refine ⟨.int .i64 0, H, d, ?_, _, rfl, hk⟩
  cases a with
  | none => simp [Builtin.copy_, run_underlying' (sliceB_out bT.sl), Builtin.lenOf, sizeOf_run hi, Builtin.firstCells, goInt]
  | some ad => simp [Builtin.copy_, run_underlying' (sliceB_out bT.sl), Builtin.lenOf, sizeOf_run hi, Builtin.firstCells, goInt, storeCells]

theorem Grow_ok {H : Heap} {b m : Nat} {K : Heap → Prop} (hb : H[b]? = some (.cells ⟨[.pointer none, .slice none 0 0]⟩ 81 (0, 0))) (hm : m ≤ 140737488355328)
    (hk : ∀ H' S, BldH H' b S [] → Fr [b] H H' → Grow H [b] S → K H') :
    CallH Try.prog fn_strings_Builder_Grow ⟨[.pointer (some ⟨b, 0, none⟩), .int .i64 (m : Int)]⟩ H fun v H' => v = .tuple ⟨[]⟩ ∧ K H' := by
  apply vc_strings_Builder_Grow
  have h0 : BldH H b [b] [] := ⟨none, none, 0, 0, 81, hb, .inl ⟨rfl, rfl⟩, Own.nil _ _ _ _, rfl, by simp [blkL]⟩
  refine copyCheck_ok h0 fun H1 o n c te h1 h2 hS h3 hf1 => ?_
  have ho : o = none ∧ n = 0 ∧ c = 0 := by
    obtain ⟨h4, ⟨h5, h6, h7⟩ | ⟨g, cur, h5, _⟩⟩ := h2
    · exact ⟨h5, h6, h7⟩
    · subst h5; simp [blkL] at hS
  obtain ⟨rfl, rfl, rfl⟩ := ho
  have hB : Blk H1 ⟨b, 0, none⟩ [.pointer (some ⟨b, 0, none⟩), .slice none 0 0] := ⟨b, _, rfl, h1⟩
  refine brB_of (fun h => by simp at h; omega) (fun _ => ⟨_, _, _, hB.ld bT.ab (j := 1) rfl, _, _, _, hB.ld bT.ab (j := 1) rfl, brB_of (fun h4 => ?_) (fun h4 => ?_)⟩)
  · apply vc_strings_Builder_grow
    refine ⟨_, _, _, hB.ld bT.ab (j := 1) rfl, _, _, _, hB.ld bT.ab (j := 1) rfl, ?_⟩
    have e : IntKind.i64.wrap (IntKind.i64.wrap (2 * ((0 : Nat) : Int)) + (m : Int)) = ((m : Nat) : Int) := by
      rw [wrap64_of (n := 2 * ((0 : Nat) : Int)) (by omega) (by omega), wrap64_of (by omega) (by omega)]; omega
    rw [e]
    refine makeNoZero_ok hm fun b2 cs H2 hn2 hc1 hc2 => ?_
    have hB2 := hB.keep hn2.fr
    refine ⟨hB2.ld bT.ab (j := 1) rfl, chk_of ⟨by omega, by omega, by omega⟩ ⟨_, _, _, hB2.ld bT.ab (j := 1) rfl, ?_⟩⟩
    refine copy_none ?_
    refine hB2.st (j := 1) (v := .slice (some ⟨b2, 0, none⟩) 0 cs.size) bT.s1 bT.si (fun x hx => by simp [Value.cells] at hx; subst hx; rfl) (by simp [Value.cells]) fun H3 hb3 hf3 => ⟨rfl, rfl, ?_⟩
    obtain ⟨b', te', e, hg⟩ := hb3
    cases e
    have hlt : b < H1.size := lt_of_get h1
    have hb2 : b2 = H1.size := hn2.eq
    have hg2 : H3[b2]? = some (.cells cs 5 (0, 0)) := hf3.get hn2.get (by simp; omega)
    refine hk H3 [b, b2] ⟨_, some ⟨b2, 0, none⟩, 0, cs.size, te', hg, .inr rfl, ⟨rfl, .inr ⟨b2, cs, rfl, Nat.zero_le _, hg2, Nat.zero_le _, hc2, by show cs.size = cs.size * 1; omega, by simp⟩⟩, rfl, by simp [blkL]; omega⟩ ?_ ?_
    · exact (hf1.trans' hn2.fr (T := [b]) (fun k hk _ => hk) (by simp)).trans' hf3 (fun k hk _ => hk) (fun k hk _ => hk)
    · intro k hk
      have := hf1.size
      simp at hk
      rcases hk with rfl | rfl
      · exact .inl (by simp)
      · exact .inr (by omega)
  · exact ⟨rfl, hk H1 [b] ⟨_, none, 0, 0, te, h1, .inr rfl, Own.nil _ _ _ _, rfl, by simp [blkL]⟩ hf1 (Grow.refl _ _)⟩

/-! texts that are joined -/
def joinL (sep : List UInt8) : List ByteArray → List UInt8
  | [] => []
  | x :: l => bl x ++ l.flatMap fun s => sep ++ bl s
def sumS (l : List ByteArray) : Nat := (l.map ByteArray.size).sum
theorem sumS_take {l : List ByteArray} {k : Nat} {x : ByteArray} (h : l[k]? = some x) : sumS (l.take (k + 1)) = sumS (l.take k) + x.size := by
  unfold sumS
  rw [List.take_add_one, h]; simp
theorem sumS_le (l : List ByteArray) (k : Nat) : sumS (l.take k) ≤ sumS l := by
  have : sumS l = sumS (l.take k) + sumS (l.drop k) := by
    unfold sumS
    rw [← List.sum_append, ← List.map_append, List.take_append_drop]
  omega
theorem flat_len (sep : List UInt8) (l : List ByteArray) : (l.flatMap fun s => sep ++ bl s).length = l.length * sep.length + sumS l := by
  induction l with
  | nil => simp [sumS]
  | cons x l ih =>
    rw [List.flatMap_cons, List.length_append, ih, List.length_append, bl_len]
    unfold sumS
    simp only [List.map_cons, List.sum_cons, List.length_cons, Nat.succ_mul]
    omega

theorem Join_ok {a : Option Addr} {n c : Nat} {l : List ByteArray} {sep : ByteArray} {H : Heap} {K : ByteArray → Heap → Prop} (hx : Sl encStr H a n c l) (hn : n ≤ 1000000) (hs : sep.size = 1) (htot : sumS l ≤ 1000000000)
    (hk : ∀ H', Fr [] H H' → K ⟨(joinL (bl sep) l).toArray⟩ H') :
    CallH Try.prog fn_strings_Join ⟨[.slice a n c, .string sep]⟩ H fun v H' => ∃ s, v = .string s ∧ K s H' := by
  apply vc_strings_Join
  have hlx := hx.len
  have hcx := hx.cap
  refine brB_of (fun h => ?_) (fun h => brB_of (fun h1 => ?_) (fun h1 => ?_))
  · have h : (n : Int) = 0 := by simpa using h
    have : l = [] := List.eq_nil_of_length_eq_zero (by omega)
    subst this
    exact ⟨_, rfl, hk H (Fr.refl _ _)⟩
  · have h1 : (n : Int) = 1 := by simpa using h1
    have hl1 : l.length = 1 := by omega
    match l, hl1, hx, hk with
    | [x], _, hx, hk =>
      refine hx.head (decide_eq_true (by omega)) fun ad ea hc => ⟨_, ld_one (by kernel_rfl) hc, _, rfl, ?_⟩
      have e : (⟨(joinL (bl sep) [x]).toArray⟩ : ByteArray) = x := by apply bl_inj; simp [joinL, bl]
      have := hk H (Fr.refl _ _)
      rwa [e] at this
  have hn2 : 2 ≤ n := by
    have h : (n : Int) ≠ 0 := by simpa using h
    have h1 : (n : Int) ≠ 1 := by simpa using h1
    omega
  refine ⟨fun vs H' => ∃ m : Nat, vs = [.int .i64 m] ∧ m ≤ 1000000 ∧ H' = H, ?_, ?_⟩
  · rw [hs]
    refine brB_of (fun _ => ?_) (fun h => by simp at h)
    have e1 : IntKind.i64.wrap ((n : Int) - 1) = ((n - 1 : Nat) : Int) := by rw [wrap64_of (by omega) (by omega)]; omega
    rw [e1]
    refine chk_of (by omega) ?_
    have hd : Int.tdiv 9223372036854775807 ((n - 1 : Nat) : Int) = ((9223372036854775807 / (n - 1) : Nat) : Int) := by
      rw [Int.tdiv_eq_ediv_of_nonneg (by decide)]; rfl
    have hq : 9223372036854 ≤ 9223372036854775807 / (n - 1) := by
      rw [Nat.le_div_iff_mul_le (by omega)]
      omega
    have hq2 : 9223372036854775807 / (n - 1) ≤ 9223372036854775807 := Nat.div_le_self _ _
    rw [hd, wrap64_of (by omega) (by omega)]
    refine brB_of (fun h => by have h := of_decide_eq_true h; generalize 9223372036854775807 / (n - 1) = q at *; omega) (fun _ => ⟨n - 1, ?_, by omega, rfl⟩)
    rw [wrap64_of (n := ((1 : Nat) : Int) * ((n - 1 : Nat) : Int)) (by omega) (by omega), wrap64_of (by omega) (by omega)]
    congr 2; omega
  rintro J m0 H1 ⟨m, e, hm, rfl⟩
  simp only [List.cons.injEq, Value.int.injEq, true_and, and_true] at e
  subst e
  refine ⟨fun vs H' => match vs with | [.int _ t, .int _ i] => ∃ (t' k : Nat), t = t' ∧ i = k ∧ k ≤ n ∧ t' = m + sumS (l.take k) ∧ H' = H1 | _ => False,
    fun vs _ => match vs with | [_, .int _ i] => n - i.toNat | _ => 0, ⟨m, 0, rfl, rfl, by omega, by simp [sumS], rfl⟩, ?_⟩
  rintro J t i H2 ⟨t', k, rfl, rfl, hle, ht, rfl⟩
  have hsk := sumS_le l k
  refine brB_of (fun h0 => ?_) (fun h0 => ?_)
  · have h0' : k < n := by simpa using h0
    have hx1 : l[k]? = some (l[k]'(by omega)) := by simp
    generalize l[k]'(by omega) = x at hx1
    have hsk1 := sumS_le l (k + 1)
    have hst := sumS_take hx1
    refine hx.get rfl hx1 (decide_eq_true (by omega)) fun ad ea hc => ⟨_, ld_one (by kernel_rfl) hc, ?_⟩
    rw [wrap64_of (n := 9223372036854775807 - (t' : Int)) (by omega) (by omega)]
    refine brB_of (fun h => by simp at h; omega) (fun _ => ?_)
    rw [wrap64_of (n := (t' : Int) + (x.size : Int)) (by omega) (by omega), succ64 (by omega)]
    exact ⟨⟨t' + x.size, k + 1, by omega, rfl, by omega, by rw [hst, ht]; omega, rfl⟩, mu_lt h0'⟩
  · intro b H3 hn3
    refine Grow_ok hn3.get (by omega) fun H4 S4 hb4 hf4 hg4 => ?_
    have hbH : b = H2.size := hn3.eq
    have hf24 : Fr [] H2 H4 := hn3.fr.keep hf4 (fun k hk => by simp at hk; omega)
    have hS4 : ∀ k ∈ S4, H2.size ≤ k := fun k hk => by
      rcases hg4 k hk with h | h
      · simp at h; omega
      · have := hn3.size; omega
    match l, hlx, hx, hk, htot with
    | [], hlx, _, _, _ => simp at hlx; omega
    | x :: l, hlx, hx, hk, htot =>
    refine (hx.keep hf24).head (decide_eq_true (by omega)) fun ad ea hc => ⟨_, ld_one (by kernel_rfl) hc, ?_⟩
    have hsum : sumS (x :: l) = x.size + sumS l := by simp [sumS]
    refine WriteString_ok hb4 (by simp; omega) fun H5 S5 hb5 hf5 hg5 => chk_of ⟨by omega, by omega, by omega⟩ ?_
    have hf25 : Fr [] H2 H5 := hf24.keep hf5 hS4
    have hS5 : ∀ k ∈ S5, H2.size ≤ k := fun k hk => by
      rcases hg5 k hk with h | h
      · exact hS4 k h
      · have := hf24.size; omega
    have hxt : Sl encStr H2 (slA c 1 1 a) (n - 1) (c - 1) l := hx.drop (k := 1) (by omega)
    have hll : l.length = n - 1 := by simp at hlx; omega
    refine ⟨fun vs H' => match vs with | [.int _ i] => ∃ (k : Nat) (S : List Nat), i = k ∧ k ≤ n - 1 ∧ BldH H' b S (bl x ++ (l.take k).flatMap fun s => bl sep ++ bl s) ∧ (∀ j ∈ S, H2.size ≤ j) ∧ Fr [] H2 H' | _ => False,
      fun vs _ => match vs with | [.int _ i] => n - 1 - i.toNat | _ => 0, ⟨0, S5, rfl, by omega, by simpa using hb5, hS5, hf25⟩, ?_⟩
    rintro J i H6 ⟨k, S6, rfl, hk1, hb6, hS6, hf6⟩
    have hfl := flat_len (bl sep) (l.take k)
    have hsl := sumS_le l k
    rw [List.length_take, bl_len, hs] at hfl
    have en : Int.toNat (n : Int) - Int.toNat 1 = n - 1 := by omega
    have en2 : Int.toNat (n : Int) - 1 = n - 1 := by omega
    rw [en, en2]
    refine brB_of (fun h7 => ?_) (fun h7 => ?_)
    · have h7' : k < n - 1 := by simp at h7; omega
      have hy1 : l[k]? = some (l[k]'(by omega)) := by simp
      generalize l[k]'(by omega) = y at hy1
      have hst := sumS_take hy1
      have hsl1 := sumS_le l (k + 1)
      refine (hxt.keep hf6).get rfl hy1 (decide_eq_true (by omega)) fun ad ea hc => ⟨_, ld_one (by kernel_rfl) hc, ?_⟩
      refine WriteString_ok hb6 (by rw [List.length_append, hfl, bl_len]; omega) fun H7 S7 hb7 hf7 hg7 => ?_
      have hf27 := hf6.keep hf7 hS6
      have hS7 : ∀ k ∈ S7, H2.size ≤ k := fun k hk => by
        rcases hg7 k hk with h | h
        · exact hS6 k h
        · have := hf6.size; omega
      refine WriteString_ok hb7 (by rw [List.length_append, List.length_append, hfl, bl_len, bl_len]; omega) fun H8 S8 hb8 hf8 hg8 => ?_
      rw [succ64 (by omega)]
      refine ⟨⟨k + 1, S8, rfl, by omega, ?_, fun j hj => ?_, hf27.keep hf8 hS7⟩, mu_lt h7'⟩
      · rw [List.take_add_one, hy1]
        simpa using hb8
      · rcases hg8 j hj with h | h
        · exact hS7 j h
        · have := hf27.size; omega
    · have hkn : l.take k = l := List.take_of_length_le (by simp at h7; omega)
      rw [hkn] at hb6 hfl
      exact BString_ok hb6 (by rw [List.length_append, hfl, bl_len]; omega) fun H7 hf7 => ⟨_, rfl, hk H7 (hf6.keep hf7 hS6)⟩
end Go.Proofs
