/- Part of a proof. -/
import Derived.Test.YtgalnkecefpaoaaGreatDoorST
set_option linter.unusedVariables false
set_option linter.unusedSimpArgs false
set_option maxRecDepth 100000
namespace Go.SX
open Go Go.Proofs Go.Proofs.Fs
open Go.GV
def nOf (t v q : Int) : Nat → Int
  | 0 => t
  | 1 => v
  | 3 => ((Lib.itoa t).length : Int)
  | 5 => ((Lib.itoa v).length : Int)
  | 8 => ((uintL t.toNat).length : Int)
  | 10 => ((intL v).length : Int)
  | 20 => t.tdiv 100
  | 22 => q
  | _ => 0
def crc2 (l : List UInt8) : List UInt8 := [UInt8.ofNat (crcN l / 256), UInt8.ofNat (crcN l % 256)]
def sOf (t v : Int) : Nat → List UInt8
  | 2 => Lib.itoa t
  | 4 => Lib.itoa v
  | 6 => crc2 (byteL [0, 7, 123, 97, 61, 34, 120, 34, 125])
  | 7 => uintL t.toNat
  | 9 => intL v
  | 11 => uintL (3 + (uintL t.toNat).length + (intL v).length)
  | 12 => crc2 (byteL [1, 1] ++ (uintL t.toNat ++ (byteL [0] ++ intL v)))
  | 13 => uintL (18 + (uintL t.toNat).length + (intL v).length)
  | 14 => uintL (24 + (uintL t.toNat).length + (intL v).length)
  | 15 => uintL (1 + (uintL t.toNat).length + (intL v).length)
  | 16 => uintL (4 + (uintL t.toNat).length + (intL v).length)
  | 21 => uintL (t.toNat / 100)
  | _ => []
def VV (t v q : Int) (H : Heap) : Val := ⟨nOf t v q, sOf t v, fun _ => .cells #[] 0 (0, 0), fun x => H[x]?⟩
def AtD (V : Val) (j : Nat) : Def → Prop
  | .div x k => V.n j = (x.den V).tdiv k
  | .U x => ∃ n : Nat, x.den V = (n : Int) ∧ n < 18446744073709551616 ∧ V.s j = uintL n
  | .I x => Go.Proofs.I64 (x.den V) ∧ V.s j = intL (x.den V)
  | .D x => Go.Proofs.I64 (x.den V) ∧ V.s j = Lib.itoa (x.den V)
  | .C r => V.s j = [UInt8.ofNat (crcN (denR V r) / 256), UInt8.ofNat (crcN (denR V r) % 256)]
  | _ => True
def AtOk (V : Val) (j : Nat) (a : Atom) : Prop := (a.lo ≤ V.n j ∧ V.n j ≤ a.hi) ∧ a.size.den V = ((V.s j).length : Int) ∧ AtD V j a.d
def AllA (Q : Nat → Atom → Prop) : Nat → Tab → Prop
  | _, [] => True
  | i, a :: l => Q i a ∧ AllA Q (i + 1) l
theorem AllA_get {Q : Nat → Atom → Prop} : ∀ {l : Tab} {i j : Nat} {a : Atom}, AllA Q i l → l[j]? = some a → Q (i + j) a
  | [], i, j, a, h, e => by simp at e
  | x :: l, i, 0, a, h, e => by cases e; exact h.1
  | x :: l, i, j + 1, a, h, e => by
    have := AllA_get h.2 (show l[j]? = some a by simpa using e)
    rw [show i + (j + 1) = i + 1 + j by omega]; exact this
theorem nDig {u : Nat} (h : u < 100000) : 1 ≤ Lib.nDigits u ∧ Lib.nDigits u ≤ 5 ∧ (u < 1000 → Lib.nDigits u ≤ 3) := by
  refine ⟨Lib.nDigits_pos u, ?_, fun h3 => ?_⟩
  · by_cases h1 : u < 10
    · rw [Lib.nDigits_small h1]; omega
    by_cases h2 : u < 100
    · rw [Lib.nDigits_unique 1 u (by omega) (by omega)]; omega
    by_cases h3 : u < 1000
    · rw [Lib.nDigits_unique 2 u (by omega) (by omega)]; omega
    by_cases h4 : u < 10000
    · rw [Lib.nDigits_unique 3 u (by omega) (by omega)]; omega
    · rw [Lib.nDigits_unique 4 u (by omega) (by omega)]; omega
  · by_cases h1 : u < 10
    · rw [Lib.nDigits_small h1]; omega
    by_cases h2 : u < 100
    · rw [Lib.nDigits_unique 1 u (by omega) (by omega)]; omega
    · rw [Lib.nDigits_unique 2 u (by omega) (by omega)]; omega
theorem u1 {n : Nat} (h : n < 128) : (uintL n).length = 1 := by rw [uintL_small h]; rfl
section
variable {t v q : Int} {H : Heap}
theorem itoa_t (h : 0 ≤ t ∧ t ≤ 255) : 1 ≤ (Lib.itoa t).length ∧ (Lib.itoa t).length ≤ 3 := by
  obtain ⟨u, rfl⟩ : ∃ u : Nat, t = (u : Int) := ⟨t.toNat, by omega⟩
  rw [Lib.itoa_nonneg, Lib.decDigits_length]
  have := nDig (u := u) (by omega)
  exact ⟨this.1, this.2.2 (by omega)⟩
theorem itoa_v (h : -32768 ≤ v ∧ v ≤ 32767) : 1 ≤ (Lib.itoa v).length ∧ (Lib.itoa v).length ≤ 6 := by
  by_cases hn : v < 0
  · obtain ⟨u, rfl⟩ : ∃ u : Nat, v = -(u : Int) := ⟨v.natAbs, by omega⟩
    rw [Lib.itoa_neg u (by omega), List.length_cons, Lib.decDigits_length]
    have := nDig (u := u) (by omega)
    omega
  · obtain ⟨u, rfl⟩ : ∃ u : Nat, v = (u : Int) := ⟨v.natAbs, by omega⟩
    rw [Lib.itoa_nonneg, Lib.decDigits_length]
    have := nDig (u := u) (by omega)
    omega
theorem uint_t (h : 0 ≤ t ∧ t ≤ 255) : 1 ≤ (uintL t.toNat).length ∧ (uintL t.toNat).length ≤ 2 := ⟨uintL_pos _, uintL_len 1 _ (by omega)⟩
theorem int_v (h : -32768 ≤ v ∧ v ≤ 32767) : 1 ≤ (intL v).length ∧ (intL v).length ≤ 3 := ⟨uintL_pos _, uintL_len 2 _ (by unfold foldN; split <;> omega)⟩
theorem tok (ht : 0 ≤ t ∧ t ≤ 255) (hv : -32768 ≤ v ∧ v ≤ 32767) (hq : 0 ≤ q ∧ q ≤ 51) (h1 : ∃ cs te fz, H[1]? = some (.cells cs te fz) ∧ ∀ k, k < 16 → cs[k]? = some (.int .u16 (stN k)))
    (h4 : ∃ t f, H[4]? = some (.cells (Lib.pow10Tab.map fun z => Value.int .u64 z).toArray t f)) : Tok tab (VV t v q H) := by
  have a1 := itoa_t ht
  have a2 := itoa_v hv
  have a3 := uint_t ht
  have a4 := int_v hv
  have it : Go.Proofs.I64 t := by unfold Go.Proofs.I64; omega
  have iv : Go.Proofs.I64 v := by unfold Go.Proofs.I64; omega
  have sum2 : ∀ (c : Int), Lin.den (VV t v q H) (lin c [(8, 1), (10, 1)]) = c + ((uintL t.toNat).length : Int) + ((intL v).length : Int) := fun c => by
    simp [Lin.den, lin, sumL, VV, nOf]; omega
  have all : AllA (AtOk (VV t v q H)) 0 tab := by
    unfold tab
    have uu : ∀ (j c : Nat), c < 100 → (VV t v q H).s j = uintL (c + (uintL t.toNat).length + (intL v).length) → (VV t v q H).n j = 0 → AtOk (VV t v q H) j ⟨.U (lin c [(8, 1), (10, 1)]), 0, 0, lin 1 []⟩ := fun j c hc hs hn => by
      refine ⟨by rw [hn]; exact ⟨Int.le_refl _, Int.le_refl _⟩, ?_, c + (uintL t.toNat).length + (intL v).length, by rw [sum2]; omega, by omega, hs⟩
      rw [hs, u1 (by omega)]; rfl
    have inp : ∀ (j : Nat) (lo hi : Int), (VV t v q H).s j = [] → lo ≤ (VV t v q H).n j → (VV t v q H).n j ≤ hi → AtOk (VV t v q H) j ⟨.inp, lo, hi, lin 0 []⟩ := fun j lo hi h1 h2 h3 => ⟨⟨h2, h3⟩, by rw [h1]; rfl, trivial⟩
    have sz : ∀ (j k : Nat) (lo hi : Int), (VV t v q H).s j = [] → lo ≤ (VV t v q H).n j → (VV t v q H).n j ≤ hi → AtOk (VV t v q H) j ⟨.sz k, lo, hi, lin 0 []⟩ := fun j k lo hi h1 h2 h3 => ⟨⟨h2, h3⟩, by rw [h1]; rfl, trivial⟩
    refine ⟨inp 0 _ _ rfl ht.1 ht.2, inp 1 _ _ rfl hv.1 hv.2, ⟨⟨Int.le_refl _, Int.le_refl _⟩, ?_, ?_, ?_⟩, sz 3 _ _ _ rfl (by show (1 : Int) ≤ ((Lib.itoa t).length : Int); omega) (by show ((Lib.itoa t).length : Int) ≤ 3; omega), ⟨⟨Int.le_refl _, Int.le_refl _⟩, ?_, ?_, ?_⟩,
      sz 5 _ _ _ rfl (by show (1 : Int) ≤ ((Lib.itoa v).length : Int); omega) (by show ((Lib.itoa v).length : Int) ≤ 6; omega), ⟨⟨Int.le_refl _, Int.le_refl _⟩, ?_, ?_⟩, ⟨⟨Int.le_refl _, Int.le_refl _⟩, ?_, t.toNat, ?_, by omega, rfl⟩,
      sz 8 _ _ _ rfl (by show (1 : Int) ≤ ((uintL t.toNat).length : Int); omega) (by show ((uintL t.toNat).length : Int) ≤ 2; omega), ⟨⟨Int.le_refl _, Int.le_refl _⟩, ?_, ?_, ?_⟩, sz 10 _ _ _ rfl (by show (1 : Int) ≤ ((intL v).length : Int); omega) (by show ((intL v).length : Int) ≤ 3; omega),
      uu 11 3 (by omega) rfl rfl, ⟨⟨Int.le_refl _, Int.le_refl _⟩, ?_, ?_⟩, uu 13 18 (by omega) rfl rfl, uu 14 24 (by omega) rfl rfl, uu 15 1 (by omega) rfl rfl, uu 16 4 (by omega) rfl rfl, inp 17 _ _ rfl (Int.le_refl _) (Int.le_refl _), inp 18 _ _ rfl (Int.le_refl _) (Int.le_refl _), inp 19 _ _ rfl (Int.le_refl _) (Int.le_refl _),
      ⟨⟨?_, ?_⟩, rfl, ?_⟩, ⟨⟨Int.le_refl _, Int.le_refl _⟩, ?_, t.toNat / 100, ?_, by omega, rfl⟩, inp 22 _ _ rfl hq.1 hq.2, trivial⟩
    · simp [Lin.den, lin, sumL, VV, nOf, sOf]
    · simp [Lin.den, lin, sumL, VV, nOf]; exact it
    · simp [Lin.den, lin, sumL, VV, nOf, sOf]
    · simp [Lin.den, lin, sumL, VV, nOf, sOf]
    · simp [Lin.den, lin, sumL, VV, nOf]; exact iv
    · simp [Lin.den, lin, sumL, VV, nOf, sOf]
    · rfl
    · show crc2 _ = _
      simp [crc2, denR, Seg.den]
    · simp [Lin.den, lin, sumL, VV, nOf, sOf]
    · simp [Lin.den, lin, sumL, VV, nOf]; omega
    · simp [Lin.den, lin, sumL, VV, nOf, sOf]
    · simp [Lin.den, lin, sumL, VV, nOf]; exact iv
    · simp [Lin.den, lin, sumL, VV, nOf, sOf]
    · rfl
    · show crc2 _ = _
      simp [crc2, denR, Seg.den, VV, sOf]
    · show (0 : Int) ≤ t.tdiv 100
      exact Int.tdiv_nonneg ht.1 (by decide)
    · show t.tdiv 100 ≤ 2
      rw [Int.tdiv_eq_ediv_of_nonneg ht.1]; omega
    · show t.tdiv 100 = (Lin.den (VV t v q H) (lin 0 [(0, 1)])).tdiv (100 : Nat)
      simp [Lin.den, lin, sumL, VV, nOf]
    · show (Lin.den (VV t v q H) (lin 1 [])) = ((uintL (t.toNat / 100)).length : Int)
      rw [u1 (by omega)]; rfl
    · show Lin.den (VV t v q H) (lin 0 [(20, 1)]) = ((t.toNat / 100 : Nat) : Int)
      simp [Lin.den, lin, sumL, VV, nOf]
      rw [Int.tdiv_eq_ediv_of_nonneg ht.1]; omega
  have at_ : ∀ j a, tab[j]? = some a → AtOk (VV t v q H) j a := fun j a h => by simpa using AllA_get all h
  refine { rng := fun j a h => (at_ j a h).1, size := fun j a h => (at_ j a h).2.1, div := fun j a x k h e => ?_, U := fun j a x h e => ?_, I := fun j a x h e => ?_, D := fun j a x h e => ?_, C := fun j a r h e => ?_, st := ?_, p10 := ?_ }
  · have := (at_ j a h).2.2; rw [e] at this; exact this
  · have := (at_ j a h).2.2; rw [e] at this; exact this
  · have := (at_ j a h).2.2; rw [e] at this; exact this
  · have := (at_ j a h).2.2; rw [e] at this; exact this
  · have := (at_ j a h).2.2; rw [e] at this; exact this
  · exact h1
  · exact h4
theorem facts_ok (hK : Kts Tryz.prog) : ∀ f ∈ facts, FactOk f := by
  intro f hf
  simp only [facts, List.mem_cons, List.mem_nil_iff, or_false] at hf
  rcases hf with rfl | rfl | rfl | rfl | rfl | rfl | rfl | rfl | rfl | rfl | rfl | rfl | rfl | rfl | rfl | rfl | rfl | rfl | rfl | rfl | rfl | rfl | rfl
  · exact runF_ok hK fc0_ok
  · exact runF_ok hK fc1_ok
  · exact runF_ok hK fc2_ok
  · exact runF_ok hK fc3_ok
  · exact runF_ok hK fc4_ok
  · exact runF_ok hK fc5_ok
  · exact runF_ok hK fc6_ok
  · exact runF_ok hK fc7_ok
  · exact runF_ok hK fc8_ok
  · exact runF_ok hK fc9_ok
  · exact runF_ok hK fc10_ok
  · exact runF_ok hK fc11_ok
  · exact runF_ok hK fc12_ok
  · exact runF_ok hK fc13_ok
  · exact runF_ok hK fc14_ok
  · exact runF_ok hK fc15_ok
  · exact runF_ok hK fc16_ok
  · exact runF_ok hK fc17_ok
  · exact runF_ok hK fc18_ok
  · exact runF_ok hK fc19_ok
  · exact runF_ok hK fc20_ok
  · exact runF_ok hK fc21_ok
  · exact runF_ok hK fc22_ok
theorem trueO_mem : ∀ {l : List (SV × St)}, trueO l = true → ∀ r ∈ l, r.1 = .lit (.bool true)
  | [], _, r, hr => by simp at hr
  | x :: l, h, r, hr => by
    unfold trueO at h
    split at h
    · rename_i e; cases e
    · rename_i s l' e
      cases e
      rcases List.mem_cons.1 hr with rfl | hr
      · rfl
      · exact trueO_mem h r hr
    · cases h
theorem says_ok {n r : Int} (hr : runT facts [.int .u8 ⟨0, [(0, 1)]⟩, .int .i16 ⟨0, [(1, 1)]⟩, .int .u8 ⟨r, [(22, 5)]⟩] = true) (hn : n = r + 5 * q) (h0 : 0 < H.size) (hT : Tok tab (VV t v q H)) :
    CallH Tryz.prog 3 ⟨[.int .u8 t, .int .i16 v, .int .u8 n]⟩ H fun w H' => w = .bool true ∧ Go.GV.Fr [] H H' := by
  have hK : Kts Tryz.prog := ⟨⟨3, Tryz.underlying3⟩, ⟨9, Tryz.underlying9⟩⟩
  unfold runT at hr
  split at hr
  · rename_i l hl
    let π : Pl := ⟨fun _ => 0, fun _ => 0, fun _ => 0⟩
    have hd : ∀ i, (Tr.n .dead .e .e).get i = .dead := fun i => by
      unfold Tr.get
      cases Nat.beq i 0 with
      | true => rfl
      | false => simp only [cond_false]; cases Nat.beq (Nat.mod i 2) 1 <;> rfl
    have hR : Rel (VV t v q H) ⟨.n .dead .e .e, 1⟩ π H := by
      refine ⟨fun i hi => by rw [hd]; trivial, fun i hi => h0, fun i j hi hj hij h1 h2 => absurd (hd i) h1, fun i hi e he => by rw [hd] at he; simp [exC] at he, fun i j hi hj hij e he => by rw [hd] at he; simp [exC] at he, fun i hi => hd i, fun x o ho => ⟨ho, fun i hi => ⟨fun hl => absurd (hd i) hl, fun e he => by rw [hd] at he; simp [exC] at he⟩⟩⟩
    have ha : okSL (VV t v q H) π 1 [.int .u8 ⟨0, [(0, 1)]⟩, .int .i16 ⟨0, [(1, 1)]⟩, .int .u8 ⟨r, [(22, 5)]⟩] [.int .u8 t, .int .i16 v, .int .u8 n] := by
      refine ⟨_, _, rfl, ?_, _, _, rfl, ?_, _, _, rfl, ?_, rfl⟩
      · show Value.int _ _ = Value.int _ _; simp [Lin.den, sumL, VV, nOf]
      · show Value.int _ _ = Value.int _ _; simp [Lin.den, sumL, VV, nOf]
      · show Value.int _ _ = Value.int _ _; simp [Lin.den, sumL, VV, nOf]; exact hn
    have hc := rn_call (px := px1 facts) (fun V hT => px1_ok (facts_ok hK) hT) hT hK 3 _ _ l hl π H _ hR ha
    rcases hc with ⟨_, hc⟩ | ⟨hc, _⟩
    · refine hc.mono fun w H' => ?_
      rintro ⟨y, hy, _, π', _, hR', hw⟩
      have e := trueO_mem hr y hy
      rw [e] at hw
      have hall : ∀ x, x < H.size → H'[x]? = H[x]? := fun x hx => by
        have ho : H[x]? = some H[x] := Array.getElem?_eq_getElem hx
        rw [ho]; exact (hR'.fr x H[x] ho).1
      refine ⟨hw, ?_, fun x hx _ => hall x hx⟩
      have h1 := hall (H.size - 1) (by omega)
      rw [Array.getElem?_eq_getElem (by omega : H.size - 1 < H.size)] at h1
      have := lt_of_get h1
      omega
    · have : okFn Tryz.prog 3 = true := by kernel_rfl
      rw [this] at hc; cases hc
  · cases hr
theorem saysWalk {vs : List Value} (h : OkArgs Tryz.prog H [5, 22, 5] vs) (h1 : ∃ cs te fz, H[1]? = some (.cells cs te fz) ∧ ∀ k, k < 16 → cs[k]? = some (.int .u16 (stN k)))
    (h4 : ∃ t f, H[4]? = some (.cells (Lib.pow10Tab.map fun z => Value.int .u64 z).toArray t f)) : CallH Tryz.prog 3 ⟨vs⟩ H fun v H' => v = .bool true ∧ Go.GV.Fr [] H H' := by
  obtain ⟨v1, _, rfl, a1, v2, _, rfl, a2, v3, _, rfl, a3, rfl⟩ := h
  obtain ⟨t, rfl, wt⟩ := a1.int Tryz.underlying5
  obtain ⟨v, rfl, wv⟩ := a2.int Tryz.underlying22
  obtain ⟨n, rfl, wn⟩ := a3.int Tryz.underlying5
  have wt : 0 ≤ t ∧ t ≤ 255 := by simp only [Lit.wf, Bool.and_eq_true, decide_eq_true_eq] at wt; exact wt
  have wv : -32768 ≤ v ∧ v ≤ 32767 := by simp only [Lit.wf, Bool.and_eq_true, decide_eq_true_eq] at wv; exact wv
  have wn : 0 ≤ n ∧ n ≤ 255 := by simp only [Lit.wf, Bool.and_eq_true, decide_eq_true_eq] at wn; exact wn
  have h0 : 0 < H.size := by obtain ⟨_, _, _, e, _⟩ := h1; have := lt_of_get e; omega
  have hT := fun q hq => tok (q := q) wt wv hq h1 h4
  have hq : 0 ≤ n / 5 ∧ n / 5 ≤ 51 := by omega
  rcases (by omega : n = 0 + 5 * (n / 5) ∨ n = 1 + 5 * (n / 5) ∨ n = 2 + 5 * (n / 5) ∨ n = 3 + 5 * (n / 5) ∨ n = 4 + 5 * (n / 5)) with e | e | e | e | e
  · exact says_ok top0 e h0 (hT _ hq)
  · exact says_ok top1 e h0 (hT _ hq)
  · exact says_ok top2 e h0 (hT _ hq)
  · exact says_ok top3 e h0 (hT _ hq)
  · exact says_ok top4 e h0 (hT _ hq)
end
end Go.SX
