/- Turned by a program of mine (port.py) out of the same text of another seat: numbers of types and functions. -/
import Derived.Test.YtijedkfekmopnaaP11n
set_option linter.unusedVariables false
set_option maxRecDepth 100000
open Go Go.GV
namespace Go.Proofs

theorem bl_mk (l : List UInt8) : bl ⟨l.toArray⟩ = l := by simp [bl]
theorem mk_bl (s : ByteArray) : (⟨(bl s).toArray⟩ : ByteArray) = s := by apply bl_inj; rw [bl_mk]
theorem size_mk (l : List UInt8) : (⟨l.toArray⟩ : ByteArray).size = l.length := by rw [← bl_len, bl_mk]
theorem size_app (s t : ByteArray) : (s ++ t).size = s.size + t.size := by rw [← bl_len, bl_app, List.length_append, bl_len, bl_len]
theorem bodyL_len (v : List UInt8) : v.length ≤ (bodyL v).length ∧ (bodyL v).length ≤ 2 * v.length := by
  induction v with
  | nil => simp [bodyL]
  | cons b v ih =>
    rw [bodyL_cons, List.length_append, List.length_cons]
    have : (quoteB b).length = 1 ∨ (quoteB b).length = 2 := by
      rcases quoteB_cases b with ⟨e, _⟩ | ⟨_, e⟩ | ⟨_, e⟩ | ⟨_, e⟩ <;> rw [e] <;> simp
    omega
theorem quoteL_len (v : List UInt8) : (quoteL v).length ≤ 2 * v.length + 2 := by
  have := bodyL_len v
  unfold quoteL
  simp only [List.length_append, List.length_cons, List.length_nil]
  omega
theorem body_take {l : List UInt8} {k : Nat} {x : UInt8} (hx : l[k]? = some x) : bodyL (l.take (k + 1)) = bodyL (l.take k) ++ quoteB x := by
  rw [List.take_add_one, hx, bodyL_app]; simp [bodyL]
theorem ldB {H : Heap} {ad : Addr} {x : UInt8} (h : CellsAt H ad (encByte.cells x)) : Ld Try.prog 5 H ad (.int .u8 x.toNat) := ld_one (by kernel_rfl) h
theorem u8_eq (x : UInt8) (n : Nat) (h : n < 256) : ((x.toNat : Int) == (n : Int)) = decide (x = UInt8.ofNat n) := by
  by_cases e : x = UInt8.ofNat n
  · rw [decide_eq_true e]; subst e; simp; omega
  · rw [decide_eq_false e]
    simp
    intro h'
    apply e
    apply UInt8.toNat_inj.1
    rw [UInt8.toNat_ofNat']
    omega

theorem sl_blk_lt {α : Type} {E : Enc α} {H : Heap} {b n c : Nat} {xs : List α} (h : Sl E H (some ⟨b, 0, none⟩) n c xs) (hx : xs ≠ []) : b < H.size := by
  obtain ⟨b', off, e, hlt⟩ := h.arr.lt hx
  cases e; exact hlt
theorem Quote_ok {s : ByteArray} {H : Heap} {K : ByteArray → Heap → Prop} (hs : s.size ≤ 1000000000) (hk : ∀ H', Fr [] H H' → K ⟨(quoteL (bl s)).toArray⟩ H') :
    CallH Try.prog fn_label_Quote ⟨[.string s]⟩ H fun v H' => ∃ t, v = .string t ∧ K t H' := by
  apply vc_label_Quote
  intro b H1 hn1
  have hbH := hn1.eq
  have hbl := bl_len s
  refine WriteByte_ok (x := 34) (Bld.new hn1) rfl (by simp) fun H2 S2 hb2 hf2 hg2 => ?_
  have hf12 : Fr [] H H2 := hn1.fr.keep hf2 (fun k hk => by simp at hk; omega)
  have hS2 : ∀ k ∈ S2, H.size ≤ k := fun k hk => by
    rcases hg2 k hk with h | h
    · simp at h; omega
    · have := hn1.size; omega
  refine cv_sb bT.str bT.sl (by kernel_rfl) fun b3 c3 H3 hb3 hx3 hf3 => ?_
  have hb3' := hb2.keep hf3
  have hb3S : b3 ∉ S2 := fun hk => by have := hb2.lt b3 hk; omega
  refine ⟨fun vs H' => match vs with | [.int _ i] => ∃ (k : Nat) (S : List Nat), i = k ∧ k ≤ s.size ∧ BldH H' b S (34 :: bodyL ((bl s).take k)) ∧ (∀ j ∈ S, H.size ≤ j) ∧ b3 ∉ S ∧ Sl encByte H' (some ⟨b3, 0, none⟩) s.size c3 (bl s) ∧ Fr [] H H' | _ => False,
    fun vs _ => match vs with | [.int _ i] => s.size - i.toNat | _ => 0, ⟨0, S2, rfl, by omega, hb3', hS2, hb3S, hx3, hf12.keep0 hf3⟩, ?_⟩
  rintro J i H4 ⟨k, S4, rfl, hle, hb4, hS4, hbS4, hx4, hf4⟩
  have hbody := bodyL_len ((bl s).take k)
  rw [List.length_take, hbl] at hbody
  refine brB_of (fun h0 => ?_) (fun h0 => ?_)
  · have h0' : k < s.size := by simpa using h0
    have hx1 : (bl s)[k]? = some ((bl s)[k]'(by omega)) := by simp
    generalize (bl s)[k]'(by omega) = x at hx1
    have hne : bl s ≠ [] := fun e => by rw [e] at hx1; cases hx1
    refine hx4.get rfl hx1 (decide_eq_true (by omega)) fun ad ea hc => ⟨_, ldB hc, ?_⟩
    rw [succ64 (by omega)]
    -- behind a write
    have wr : ∀ {H5 : Heap} {S5 : List Nat} {H' : Heap} {S : List Nat} {xs : List UInt8}, BldH H' b S5 xs → (∀ j ∈ S, H.size ≤ j) → b3 ∉ S → Sl encByte H5 (some ⟨b3, 0, none⟩) s.size c3 (bl s) → Fr [] H H5 → Fr S H5 H' → Grow H5 S S5 →
        (∀ j ∈ S5, H.size ≤ j) ∧ b3 ∉ S5 ∧ Sl encByte H' (some ⟨b3, 0, none⟩) s.size c3 (bl s) ∧ Fr [] H H' := fun {H5 S5 H' S xs} _ hS hbS hx hf hf' hg => ⟨fun j hj => by
        rcases hg j hj with h | h
        · exact hS j h
        · have := hf.size; omega, fun hk => by
        rcases hg b3 hk with h | h
        · exact hbS h
        · have := sl_blk_lt hx hne; omega, hx.fr hf' (fun ad e => by cases e; exact hbS), hf.keep hf' hS⟩
    have fin : ∀ {H' : Heap} {S : List Nat} {xs : List UInt8}, BldH H' b S xs → xs = 34 :: bodyL ((bl s).take k) ++ quoteB x → ((∀ j ∈ S, H.size ≤ j) ∧ b3 ∉ S ∧ Sl encByte H' (some ⟨b3, 0, none⟩) s.size c3 (bl s) ∧ Fr [] H H') →
        (∃ (k_1 : Nat) (S : List Nat), ((k + 1 : Nat) : Int) = k_1 ∧ k_1 ≤ s.size ∧ BldH H' b S (34 :: bodyL ((bl s).take k_1)) ∧ (∀ j ∈ S, H.size ≤ j) ∧ b3 ∉ S ∧ Sl encByte H' (some ⟨b3, 0, none⟩) s.size c3 (bl s) ∧ Fr [] H H') ∧ s.size - ((k + 1 : Nat) : Int).toNat < s.size - ((k : Nat) : Int).toNat := fun {H' S xs} hB e h => by
      refine ⟨⟨k + 1, S, rfl, by omega, ?_, h.1, h.2.1, h.2.2.1, h.2.2.2⟩, mu_lt h0'⟩
      rw [body_take hx1]
      rw [e] at hB
      exact hB
    have q10 := u8_eq x 10 (by omega)
    have q34 := u8_eq x 34 (by omega)
    have q92 := u8_eq x 92 (by omega)
    simp only [Int.cast_ofNat_Int] at q10 q34 q92
    rw [q10, q34, q92]
    have byteTwo : quoteB x = [92, x] → CallH Try.prog 69 ⟨[.pointer (some ⟨b, 0, none⟩), .int .u8 92]⟩ H4 fun v H'_1 => ∃ v_2, v = v_2 ∧ CallH Try.prog 69 ⟨[.pointer (some ⟨b, 0, none⟩), .int .u8 x.toNat]⟩ H'_1 fun v H'_2 => ∃ v_3, v = v_3 ∧
        (∃ (k_1 : Nat) (S : List Nat), ((k + 1 : Nat) : Int) = k_1 ∧ k_1 ≤ s.size ∧ BldH H'_2 b S (34 :: bodyL ((bl s).take k_1)) ∧ (∀ j ∈ S, H.size ≤ j) ∧ b3 ∉ S ∧ Sl encByte H'_2 (some ⟨b3, 0, none⟩) s.size c3 (bl s) ∧ Fr [] H H'_2) ∧ s.size - ((k + 1 : Nat) : Int).toNat < s.size - ((k : Nat) : Int).toNat := fun hq => by
      refine WriteByte_ok (x := 92) hb4 rfl (by simp only [List.length_cons]; omega) fun H5 S5 hb5 hf5 hg5 => ?_
      obtain ⟨g1, g2, g3, g4⟩ := wr hb5 hS4 hbS4 hx4 hf4 hf5 hg5
      refine WriteByte_ok (x := x) hb5 rfl (by simp only [List.length_cons, List.length_append, List.length_nil]; omega) fun H6 S6 hb6 hf6 hg6 => ?_
      exact fin hb6 (by rw [hq]; simp) (wr hb6 g1 g2 g3 g4 hf6 hg6)
    have byteOne : quoteB x = [x] → CallH Try.prog 69 ⟨[.pointer (some ⟨b, 0, none⟩), .int .u8 x.toNat]⟩ H4 fun v H'_1 => ∃ v_2, v = v_2 ∧
        (∃ (k_1 : Nat) (S : List Nat), ((k + 1 : Nat) : Int) = k_1 ∧ k_1 ≤ s.size ∧ BldH H'_1 b S (34 :: bodyL ((bl s).take k_1)) ∧ (∀ j ∈ S, H.size ≤ j) ∧ b3 ∉ S ∧ Sl encByte H'_1 (some ⟨b3, 0, none⟩) s.size c3 (bl s) ∧ Fr [] H H'_1) ∧ s.size - ((k + 1 : Nat) : Int).toNat < s.size - ((k : Nat) : Int).toNat := fun hq => by
      refine WriteByte_ok (x := x) hb4 rfl (by simp only [List.length_cons]; omega) fun H5 S5 hb5 hf5 hg5 => ?_
      exact fin hb5 (by rw [hq]) (wr hb5 hS4 hbS4 hx4 hf4 hf5 hg5)
    refine brB_of (fun h => ?_) (fun h => ?_)
    · have h : x = 10 := of_decide_eq_true h
      refine WriteString_ok hb4 (by have : (⟨#[92, 110]⟩ : ByteArray).size = 2 := rfl; simp; omega) fun H5 S5 hb5 hf5 hg5 => ?_
      refine fin hb5 ?_ (wr hb5 hS4 hbS4 hx4 hf4 hf5 hg5)
      subst h; rfl
    have n10 : x ≠ 10 := of_decide_eq_false h
    refine brB_of (fun h => brB_of (fun h' => byteTwo ?_) (fun h' => by rw [h] at h'; cases h')) (fun h => brB_of (fun h' => byteTwo ?_) (fun h' => byteOne ?_))
    · have h : x = 34 := of_decide_eq_true h
      subst h; rfl
    · have h : x = 92 := of_decide_eq_true h'
      subst h; rfl
    · have h1 : x ≠ 34 := of_decide_eq_false h
      have h2 : x ≠ 92 := of_decide_eq_false h'
      unfold quoteB
      rw [if_neg h1, if_neg h2, if_neg n10]
  · have hkn : (bl s).take k = bl s := List.take_of_length_le (by simp at h0; omega)
    rw [hkn] at hb4 hbody
    refine WriteByte_ok (x := 34) hb4 rfl (by simp; have := bodyL_len (bl s); omega) fun H5 S5 hb5 hf5 hg5 => ?_
    have hf5' := hf4.keep hf5 hS4
    have hS5 : ∀ j ∈ S5, H.size ≤ j := fun j hj => by
      rcases hg5 j hj with h | h
      · exact hS4 j h
      · have := hf4.size; omega
    exact BString_ok hb5 (by have := bodyL_len (bl s); simp; omega) fun H6 hf6 => ⟨_, rfl, hk H6 (hf5'.keep hf6 hS5)⟩

theorem ext_one {s : ByteArray} {k : Nat} {x : UInt8} (hx : (bl s)[k]? = some x) : bl (s.extract k (k + 1)) = [x] := by
  rw [bl_ext, List.take_add_one, hx, List.drop_append]
  have hl := (List.getElem?_eq_some_iff.1 hx).1
  have h1 : ((bl s).take k).length = k := by rw [List.length_take]; omega
  rw [List.drop_of_length_le (by omega), h1]
  simp
theorem rQuote_ok {s : ByteArray} {H : Heap} {K : ByteArray → Heap → Prop} (hs : s.size ≤ 1000000000) (hk : K ⟨(quoteL (bl s)).toArray⟩ H) :
    CallH Try.prog fn_ref04_Quote ⟨[.string s]⟩ H fun v H' => ∃ t, v = .string t ∧ K t H' := by
  apply vc_ref04_Quote
  have hbl := bl_len s
  refine ⟨fun vs H' => match vs with | [.string t, .int _ i] => ∃ k : Nat, i = k ∧ k ≤ s.size ∧ bl t = bodyL ((bl s).take k) ∧ H' = H | _ => False,
    fun vs _ => match vs with | [_, .int _ i] => s.size - i.toNat | _ => 0, ⟨0, rfl, by omega, rfl, rfl⟩, ?_⟩
  rintro J t i H1 ⟨k, rfl, hle, ht, rfl⟩
  have hbody := bodyL_len ((bl s).take k)
  rw [List.length_take, hbl, ← ht, bl_len] at hbody
  refine brB_of (fun h0 => ?_) (fun h0 => ?_)
  · have h0' : k < s.size := by simpa using h0
    have hx1 : (bl s)[k]? = some ((bl s)[k]'(by omega)) := by simp
    generalize (bl s)[k]'(by omega) = x at hx1
    have hat : atB s k = x.toNat := atB_of (by rw [bl_get]; exact hx1)
    rw [Int.toNat_natCast, hat, succ64 (by omega)]
    have q10 := u8_eq x 10 (by omega)
    have q34 := u8_eq x 34 (by omega)
    have q92 := u8_eq x 92 (by omega)
    simp only [Int.cast_ofNat_Int] at q10 q34 q92
    rw [q10, q34, q92]
    have fin : ∀ u : ByteArray, bl u = quoteB x → (∃ k_1 : Nat, ((k + 1 : Nat) : Int) = k_1 ∧ k_1 ≤ s.size ∧ bl (t ++ u) = bodyL ((bl s).take k_1) ∧ H1 = H1) ∧ s.size - ((k + 1 : Nat) : Int).toNat < s.size - ((k : Nat) : Int).toNat := fun u hu =>
      ⟨⟨k + 1, rfl, by omega, by rw [bl_app, hu, body_take hx1, ht], rfl⟩, mu_lt h0'⟩
    refine chk_of ⟨by omega, by omega⟩ (brB_of (fun h => ?_) (fun h => brB_of (fun h2 => ?_) (fun h2 => brB_of (fun h3 => ?_) (fun h3 => ?_))))
    · have h : x = 34 := of_decide_eq_true h
      exact chk_true (decide_eq_true (by omega)) (fin ⟨#[92, 34]⟩ (by subst h; rfl))
    · have h : x = 92 := of_decide_eq_true h2
      exact chk_true (decide_eq_true (by omega)) (fin ⟨#[92, 92]⟩ (by subst h; rfl))
    · have h : x = 10 := of_decide_eq_true h3
      exact chk_true (decide_eq_true (by omega)) (fin ⟨#[92, 110]⟩ (by subst h; rfl))
    · refine chk_of ⟨by omega, by omega, by omega⟩ ?_
      rw [Int.toNat_natCast]
      have e := ext_one hx1
      have es : (s.extract k (k + 1)).size = 1 := by rw [← bl_len, e]; rfl
      refine chk_true (decide_eq_true (by omega)) (fin _ ?_)
      rw [e]
      have n1 : x ≠ 34 := of_decide_eq_false h
      have n2 : x ≠ 92 := of_decide_eq_false h2
      have n3 : x ≠ 10 := of_decide_eq_false h3
      unfold quoteB
      rw [if_neg n1, if_neg n2, if_neg n3]
  · have hkn : (bl s).take k = bl s := List.take_of_length_le (by simp at h0; omega)
    rw [hkn] at ht
    have e34 : (⟨#[34]⟩ : ByteArray).size = 1 := rfl
    refine chk_true (decide_eq_true (by omega)) (chk_true (decide_eq_true (by rw [size_app]; omega)) ⟨_, rfl, ?_⟩)
    have e : (⟨#[34]⟩ ++ t ++ ⟨#[34]⟩ : ByteArray) = ⟨(quoteL (bl s)).toArray⟩ := by
      apply bl_inj
      rw [bl_app, bl_app, ht, bl_mk]; rfl
    rw [e]; exact hk
end Go.Proofs
