/- A part of a proof: see the last text of this claim. -/
import Derived.Test.YtijedkfekmopnaaGreatDoorP11S
set_option linter.unusedVariables false
set_option maxRecDepth 100000
open Go Go.GV
namespace Go.Proofs

def dirLen (sz : Nat) (d : ByteArray) : Nat := 5 + (uintL d.size).length + (numsB ((freshF sz).take (nCh d.size))).length
theorem takesM_free : ∀ {l : List ByteArray} {t : Tk}, (takesM l t).1.fits = true → (takesM l t).2 ++ (takesM l t).1.free = t.free
  | [], _, _ => rfl
  | c :: l, t, hf => by
    have ih := takesM_free (l := l) hf
    obtain ⟨_, x, r, h2, h3⟩ := takeM_fits (takesM_fits (l := l) hf)
    rw [h3] at ih
    simp only [takesM, h3, h2]
    rw [List.cons_append]
    congr 1
theorem takesM_take {F : List Int} {l : List ByteArray} {t : Tk} (h : TkF F t 0 true) (hl : l.length ≤ F.length) : (takesM l t).2 = F.take l.length ∧ (takesM l t).1.fits = true ∧ TkF F (takesM l t).1 l.length true := by
  have hf := (takes_fits l h).1
  have hfit : (takesM l t).1.fits = true := by
    rw [hf, Bool.true_and]
    exact decide_eq_true (.inr (by omega))
  have hfr := takesM_free hfit
  have hlen := takesM_len l t
  have h0 : t.free = F := by rw [h.free]; rfl
  rw [h0] at hfr
  have e2 : (takesM l t).2 = F.take l.length := by
    rw [← hfr, List.take_append_of_le_length (by omega), List.take_of_length_le (by omega)]
  refine ⟨e2, hfit, ⟨by rw [(takes_fits l h).2]; omega, ?_, hfit⟩⟩
  have : F.drop l.length = (takesM l t).1.free := by
    conv => lhs; rw [← hfr, ← hlen]
    rw [List.drop_left]
  exact this.symm
theorem names_one (d : ByteArray) : namesOf (putN (fun _ => none) walN d) [walN] := ⟨by simp, fun y => by
  unfold putN
  split
  · rename_i h; simp [h]
  · rename_i h; simp [h]⟩
theorem putN_put (now : ByteArray → Option ByteArray) (k a b : ByteArray) : putN (putN now k a) k b = putN now k b := by
  funext x
  unfold putN
  split <;> rfl
theorem fits_one_iff {sz : Nat} {d : ByteArray} : (planM sz (fun _ => none) [] (putN (fun _ => none) walN d) [walN]).fits = true ↔
    nCh d.size ≤ sz - 2 ∧ nCh (dirLen sz d) ≤ 20 ∧ (nCh d.size : Int) + 2 * (nCh (dirLen sz d) : Int) ≤ (sz : Int) - 2 := by
  have hlk : ∀ x ∈ [((walN, d) : NF)], putN (fun _ => none) walN d x.1 = some x.2 := fun x hx => by
    rw [List.mem_singleton.1 hx]; unfold putN; rw [if_pos rfl]
  have hW := filesM_new [((walN, d) : NF)] (t0F sz) hlk
  have e1 : (sz : Int).toNat = sz := by omega
  unfold planM
  simp only
  rw [e1, freshF_eq]
  have hW' : filesM (fun _ => none) (putN (fun _ => none) walN d) [walN] { free := freshF sz, puts := [], need := 0, fits := true } = laidF [(walN, d)] (t0F sz) := hW
  rw [hW']
  simp only [laidF, List.map_cons, List.map_nil, List.sum_cons, List.sum_nil, Nat.add_zero, takesM_len]
  have hcl := chunksS_len d
  have hT := fresh_t0 sz
  have hFl := freshF_len sz
  by_cases hn : nCh d.size ≤ sz - 2
  · obtain ⟨h2, h3, h4⟩ := takesM_take (l := chunksS d) hT (by omega)
    have hzz : t0F sz = { free := freshF sz, puts := [], need := 0, fits := true } := rfl
    rw [← hzz] at h2 h3 h4
    generalize hz : takesM (chunksS d) (t0F sz) = z at *
    have hdl : (dirB [(walN, d, z.2)]).length = dirLen sz d := by
      rw [dirB_eq]
      have e2 : uintL ([(walN, d, z.2)] : List Fl10).length = [1] := uintL_small (by show 1 < 128; decide)
      have e3 : (textL walN).length = 4 := by
        unfold textL
        rw [List.length_append, bl_len]
        have : uintL walN.size = [3] := uintL_small (by decide)
        rw [this]; rfl
      rw [e2]
      simp only [List.flatMap_cons, List.flatMap_nil, List.append_nil, fileB, List.length_append, List.length_cons, List.length_nil]
      rw [e3, h2, hcl]
      unfold dirLen
      omega
    have hk : (chunksS (⟨(dirB [(walN, d, z.2)]).toArray⟩ : ByteArray)).length = nCh (dirLen sz d) := by rw [chunksS_len, mk_size, hdl]
    have hfit := (takes_fits (chunksS (⟨(dirB [(walN, d, z.2)]).toArray⟩ : ByteArray)) h4).1
    rw [hfit, hk, hcl]
    simp only [Bool.true_and, Bool.and_eq_true, decide_eq_true_eq]
    constructor
    · rintro ⟨⟨_, h5⟩, h6⟩; exact ⟨hn, h5, h6⟩
    · rintro ⟨_, h5, h6⟩; exact ⟨⟨.inr (by omega), h5⟩, h6⟩
  · have hf := (takes_fits (chunksS d) hT).1
    have hno : (takesM (chunksS d) { free := freshF sz, puts := [], need := 0, fits := true }).1.fits = false := by
      rw [hf, Bool.true_and]
      exact decide_eq_false (by
        rintro (h | h)
        · rw [h] at hcl; simp at hcl; omega
        · omega)
    have : (takesM (chunksS d) (t0F sz)).1.fits = false := hno
    constructor
    · intro h
      simp only [Bool.and_eq_true, decide_eq_true_eq] at h
      have h9 := takesM_fits h.1.1
      rw [this] at h9; cases h9
    · rintro ⟨h, _⟩; exact absurd h hn
theorem wrC_fits {sz : Nat} {now : ByteArray → Option ByteArray} {d e : ByteArray} (hn : now = (fun _ => none) ∨ now = putN (fun _ => none) walN e) : wrC sz now d = if (planM sz (fun _ => none) [] (putN (fun _ => none) walN d) [walN]).fits = true then 0 else 2 := by
  have hp : putN now walN d = putN (fun _ => none) walN d := by
    rcases hn with rfl | rfl
    · rfl
    · exact putN_put _ _ _ _
  unfold wrC writeS
  rw [if_pos walN_right]
  unfold changeM
  have e2 : (planN sz (stF now) (putN (stF now).now walN d)).fits = (planM sz (fun _ => none) [] (putN now walN d) (namesL (putN now walN d))).fits := rfl
  rw [e2, hp, namesL_eq (names_one d)]
  split <;> rfl
theorem nums_len (sz n : Nat) (h : sz ≤ 512) : (numsB ((freshF sz).take n)).length ≤ 2 * n := by
  have key : ∀ (l : List Int), (∀ z ∈ l, 0 ≤ z ∧ z < 512) → (numsB l).length ≤ 2 * l.length := by
    intro l
    induction l with
    | nil => intro _; simp [numsB]
    | cons x l ih =>
      intro h
      have ih := ih fun z hz => h z (by simp [hz])
      have hx := h x (by simp)
      have hw : IntKind.u64.wrap x = x := wrapU64 hx.1 (by omega)
      have := uintL_len 1 x.toNat (by omega)
      unfold numsB at ih ⊢
      simp only [List.flatMap_cons, List.length_append, List.length_cons, hw]
      omega
  have := key ((freshF sz).take n) fun z hz => by
    have := List.mem_of_mem_take hz
    unfold freshF at this
    obtain ⟨k, hk, rfl⟩ := List.mem_map.1 this
    rw [List.mem_range] at hk
    omega
  rw [List.length_take] at this
  omega
theorem fits_small {d : ByteArray} (h : d.size ≤ 1024) : (planM ((60 : Nat) : Int) (fun _ => none) [] (putN (fun _ => none) walN d) [walN]).fits = true := by
  rw [fits_one_iff]
  have h1 : nCh d.size ≤ 16 := by unfold nCh; omega
  have h2 : dirLen 60 d ≤ 64 := by
    unfold dirLen
    have := uintL_len 1 d.size (by omega)
    have := nums_len 60 (nCh d.size) (by omega)
    omega
  have h3 : nCh (dirLen 60 d) ≤ 1 := by unfold nCh; omega
  omega
end Go.Proofs
set_option linter.unusedVariables false
set_option maxRecDepth 100000
open Go Go.GV
namespace Go.Proofs

structure RQ (H : Heap) (X : List Nat) (s : Addr) (sz : Nat) (now : ByteArray → Option ByteArray) (N B : Nat) : Prop where
  it : ∃ d l, RS H X s d sz l ∧ OfL now l ∧ LB l N B
theorem RQ.frX {H H' : Heap} {X S : List Nat} {s : Addr} {sz N B : Nat} {now : ByteArray → Option ByteArray} (h : RQ H X s sz now N B) (hf : Fr S H H') (hS : ∀ k ∈ S, k ∈ X) : RQ H' X s sz now N B := by
  obtain ⟨d, l, h1, h2, h3⟩ := h.it
  exact ⟨d, l, h1.frX hf hS, h2, h3⟩
theorem RQ.keep {H H' : Heap} {X : List Nat} {s : Addr} {sz N B : Nat} {now : ByteArray → Option ByteArray} (h : RQ H X s sz now N B) (hf : Fr [] H H') : RQ H' X s sz now N B := h.frX hf (by simp)
theorem RQ.fresh {H : Heap} {X : List Nat} {s d : Addr} {sz B : Nat} (h : RS H X s d sz []) : RQ H X s sz (fun _ => none) 0 B := ⟨d, [], h, ofL_none, ⟨Nat.le_refl _, by simp⟩⟩
theorem RQ.blk {H : Heap} {X : List Nat} {s : Addr} {sz N B : Nat} {now : ByteArray → Option ByteArray} (h : RQ H X s sz now N B) : ∃ cs, Blk H s cs := by
  obtain ⟨d, l, h1, h2, h3⟩ := h.it
  obtain ⟨a, n, c, hb, _⟩ := h1.it
  exact ⟨_, hb⟩
theorem RQ.mono {H : Heap} {X : List Nat} {s : Addr} {sz N B N' B' : Nat} {now : ByteArray → Option ByteArray} (h : RQ H X s sz now N B) (hN : N ≤ N') (hB : B ≤ B') : RQ H X s sz now N' B' := by
  obtain ⟨d, l, h1, h2, h3⟩ := h.it
  exact ⟨d, l, h1, h2, ⟨by have := h3.len; omega, fun x hx => ⟨(h3.dat x hx).1, by have := (h3.dat x hx).2; omega⟩⟩⟩
theorem RQ.read {H : Heap} {X : List Nat} {s : Addr} {sz N B : Nat} {now : ByteArray → Option ByteArray} {K : ByteArray → Bool → Heap → Prop} (h : RQ H X s sz now N B) (hN : N ≤ 1000000) (hk : K (fileT now) (now walN).isSome H) :
    CallH Tryz.prog fn_ref10_Store_Read ⟨[.pointer (some s), .string walN]⟩ H fun v H' => ∃ t b, v = .tuple ⟨[.string t, .bool b]⟩ ∧ K t b H' := by
  obtain ⟨d, l, h1, h2, h3⟩ := h.it
  exact rRead_ok h1 h2 h3 hN hk
theorem RQ.write {H : Heap} {X : List Nat} {s : Addr} {sz N B : Nat} {now : ByteArray → Option ByteArray} {data : ByteArray} {K : Int → Heap → Prop} (h : RQ H X s sz now N B) (hsz : 8 ≤ sz ∧ sz ≤ 512) (hN : N ≤ 98) (hB : B ≤ 30000000) (hd : data.size ≤ B)
    (hk : ∀ H', RQ H' X s sz (wrN sz now data) (N + 1) B → Fr [s.block] H H' → K (wrC sz now data) H') :
    CallH Tryz.prog fn_ref10_Store_Write ⟨[.pointer (some s), .string walN, .string data]⟩ H fun v H' => ∃ n, v = .int .i64 n ∧ K n H' := by
  obtain ⟨d, l, h1, h2, h3⟩ := h.it
  exact rWrite_ok h1 hsz h2 h3 hN hB (by decide) hd fun l' H' a b c f => hk H' ⟨d, l', a, b, c⟩ f
theorem RQ.append {H : Heap} {X : List Nat} {s : Addr} {sz N B B' : Nat} {now : ByteArray → Option ByteArray} {data : ByteArray} {K : Int → Heap → Prop} (h : RQ H X s sz now N B) (hsz : 8 ≤ sz ∧ sz ≤ 512) (hN : N ≤ 98) (hB : B' ≤ 30000000) (hd : B + data.size ≤ B')
    (hk : ∀ H', RQ H' X s sz (wrN sz now (fileT now ++ data)) (N + 1) B' → Fr [s.block] H H' → K (wrC sz now (fileT now ++ data)) H') :
    CallH Tryz.prog fn_ref10_Store_Append ⟨[.pointer (some s), .string walN, .string data]⟩ H fun v H' => ∃ n, v = .int .i64 n ∧ K n H' := by
  obtain ⟨d, l, h1, h2, h3⟩ := h.it
  exact rAppend_ok h1 hsz h2 h3 hN hd hB (by decide) fun l' H' a b c f => hk H' ⟨d, l', a, b, c⟩ f
theorem RQ.delete {H : Heap} {X : List Nat} {s : Addr} {sz N B : Nat} {now : ByteArray → Option ByteArray} {K : Int → Heap → Prop} (h : RQ H X s sz now N B) (hsz : 8 ≤ sz ∧ sz ≤ 512) (hN : N ≤ 98) (hB : B ≤ 30000000)
    (hk : ∀ H', RQ H' X s sz (dlN sz now) N B → Fr [s.block] H H' → K (dlC sz now) H') :
    CallH Tryz.prog fn_ref10_Store_Delete ⟨[.pointer (some s), .string walN]⟩ H fun v H' => ∃ n, v = .int .i64 n ∧ K n H' := by
  obtain ⟨d, l, h1, h2, h3⟩ := h.it
  exact rDelete_ok h1 hsz h2 h3 hN hB (by decide) fun l' H' a b c f => hk H' ⟨d, l', a, b, c⟩ f

theorem encR_pos (r : Rc) : 0 < (encR r).length := by
  have := uintL_pos r.k.toNat
  unfold encR uL
  rw [List.length_append]; omega
theorem none_dec {y : Rc} (hy : GoodR y) : bl (⟨#[]⟩ : ByteArray) ≠ encR y := fun e => by
  have := encR_pos y
  rw [← e] at this
  simp [bl] at this
theorem Replays_ok {H : Heap} {s : ByteArray} (htab : TabH H) : CallH Tryz.prog 4 ⟨[.string s]⟩ H fun v H' => v = .bool true ∧ Fr [] H H' := by
  apply vc_law11_WalReplays
  refine brB_of (fun _ => ⟨rfl, Fr.refl _ _⟩) (fun hs => ?_)
  have hs : s.size ≤ 1024 := by simp at hs; omega
  refine stores_ok (sz := 60) (X := []) (by decide) (by decide) (by intro k hk; simp at hk) fun s1 s2 d2 Sd H1 hp hr g1 g2 g3 g4 g5 hf1 => ?_
  have hnone : NB (fun _ => none) 1024 := fun y d e => by cases e
  have hc0 : wrC 60 (fun _ => none) s = 0 := by rw [wrC_fits (e := ⟨#[]⟩) (.inl rfl), if_pos (fits_small hs)]
  have hn0 : wrN 60 (fun _ => none) s = putN (fun _ => none) walN s := by
    rcases wr_cases 60 (fun _ => none) s with ⟨_, e⟩ | ⟨e, _⟩
    · exact e
    · rw [hc0] at e; cases e
  have hft : fileT (wrN 60 (fun _ => none) s) = s := by
    rw [hn0]
    unfold fileT putN
    rw [if_pos rfl]; rfl
  refine ⟨fun _ H' => Fr [] H H' ∧ PS H' s1 Sd 60 (wrN 60 (fun _ => none) s) 1 ∧ RQ H' [s1.block] s2 60 (wrN 60 (fun _ => none) s) 1 1024, brB_of (fun h => by simp at h) fun _ => ?_, ?_⟩
  · have hq : RQ H1 [s1.block] s2 60 (fun _ => none) 0 1024 := RQ.fresh hr
    refine hp.write (by decide) hnone (by decide) hs fun H2 hp2 hb2 hf2 => ?_
    rw [hc0]
    refine brB_of (fun h => by simp at h) fun _ => ?_
    have hq2 := hq.frX hf2 (by simp)
    refine hq2.write (by decide) (by decide) (by decide) hs fun H3 hq3 hf3 => ?_
    rw [hc0]
    refine brB_of (fun h => by simp at h) fun _ => ?_
    obtain ⟨cs, hb⟩ := hq2.blk
    refine ⟨?_, hp2.off hb g4 g5 hf3, hq3⟩
    exact hf1.keep ((hf2.mono (S' := [s1.block, s2.block]) (by simp)).trans' hf3 (fun k hk _ => hk) (fun k hk _ => by simp at hk; simp [hk])) fun k hk => by simp at hk; omega
  · rintro J H2 ⟨hf2, hp2, hq2⟩
    have htab2 := htab.keep hf2
    have dec : ∀ {H' : Heap} {K : Int → Option Addr → Nat → Nat → Option Addr → Nat → Nat → Option Addr → Nat → Nat → Int → Int → Heap → Prop}, (∀ H'', Fr [] H' H'' → K 0 none 0 0 none 0 0 none 0 0 0 11 H'') → CallH Tryz.prog fn_wal_Decode ⟨[.string ⟨#[]⟩]⟩ H' fun v H' => ∃ n a n_1 c a_1 n_2 c_1 a_2 n_3 c_2 n_4 n_5, v = .tuple ⟨[.agg ⟨[.int .i64 n, .slice a n_1 c, .slice a_1 n_2 c_1, .slice a_2 n_3 c_2, .int .i64 n_4]⟩, .int .i64 n_5]⟩ ∧ K n a n_1 c a_1 n_2 c_1 a_2 n_3 c_2 n_4 n_5 H' := fun hk =>
      DecodeN_ok (by simp [ByteArray.size]) (fun _ H9 hf9 => hk H9 hf9) fun r m H9 hG e9 => absurd e9 (none_dec hG)
    have fin : ∀ {o : Option Addr} {n c : Nat} {o' : Option Addr} {n' c' : Nat} {e : Int} {rs ms ms' H5}, Sl encR5 H5 o n c ms → RcsH H5 ms rs → Sl encR5 H5 o' n' c' ms' → RcsH H5 ms' rs → (∀ m ∈ ms, Small m) → n ≤ 1000000000 → Fr [] H H5 →
        CallH Tryz.prog fn_wal_Decode ⟨[.string ⟨#[]⟩]⟩ H5 fun v H' => ∃ n_4 a_4 n_5 c_2 a_5 n_6 c_3 a_6 n_7 c_4 n_8 n_9, v = .tuple ⟨[.agg ⟨[.int .i64 n_4, .slice a_4 n_5 c_2, .slice a_5 n_6 c_3, .slice a_6 n_7 c_4, .int .i64 n_8]⟩, .int .i64 n_9]⟩ ∧ ∀ (b : Nat) (H'_1 : Heap), New H' b (.cells ⟨[.int .i64 0, .slice none 0 0, .slice none 0 0, .slice none 0 0, .int .i64 0]⟩ 39) H'_1 → ∃ H', St Tryz.prog 39 H'_1 ⟨b, 0, none⟩ (.agg ⟨[.int .i64 n_4, .slice a_4 n_5 c_2, .slice a_5 n_6 c_3, .slice a_6 n_7 c_4, .int .i64 n_8]⟩) H' ∧
          brB (e == e) (CallH Tryz.prog 10 ⟨[.slice o n c]⟩ H' fun v H' => ∃ a n c, v = .slice a n c ∧ CallH Tryz.prog 17 ⟨[.slice a n c, .slice o' n' c']⟩ H' fun v H' => ∃ b, v = .bool b ∧ brB b (Value.bool (n_9 == 11) = .bool true ∧ Fr [] H H') (Value.bool false = .bool true ∧ Fr [] H H')) (Value.bool false = .bool true ∧ Fr [] H H') := by
      intro o n c o' n' c' e rs ms ms' H5 hx hR hx' hR' hsm hn hf5
      refine dec fun H6 hf6 => ?_
      intro b H7 hn7
      refine st26 (m := m0 0) (m' := m0 0) hn7.blk fun H8 hb8 hf8 => brB_of (fun _ => ?_) (fun h => by simp at h)
      have hf58 : Fr [] H5 H8 := hf6.keep0 (hn7.fr.keep hf8 fun k hk => by simp at hk; have := hn7.eq; omega)
      refine theirs_ok (hx.keep hf58) hn fun o1 l1 d1 H9 ho9 hf9 => ?_
      have hf59 := hf58.keep0 hf9
      have hl := ho9.sl.len
      refine rSame_ok ho9.sl (hx'.keep hf59) (hR.keep hf59) (hR'.keep hf59) (by have := hx.len; omega) hsm fun H10 hf10 => brB_of (fun _ => ⟨rfl, (hf5.keep0 hf59).keep0 hf10⟩) (fun h => by cases h)
    refine wReplay_ok (s := s) htab2 (by omega) (fun K' hK' => hp2.read (by rw [hft]; exact hK' _)) (fun hno H3 hf3 => ?_) fun rs ms o n c H3 hG hlog ho hR hsm hf3 => ?_
    · have hq3 := hq2.keep hf3
      refine rwReplay_ok (s := s) (by omega) (fun K' hK' => hq3.read (by decide) (by rw [hft]; exact hK' _)) (fun _ H4 hf4 => ?_) fun rs ms o n c H4 hG hlog => absurd hlog (hno rs hG)
      exact fin (rs := []) (ms := []) (ms' := []) Sl.zero ⟨rfl, fun i x y h => by simp at h⟩ Sl.zero ⟨rfl, fun i x y h => by simp at h⟩ (by simp) (by decide) ((hf2.keep0 hf3).keep0 hf4)
    · have hq3 := hq2.keep hf3
      refine rwReplay_ok (s := s) (by omega) (fun K' hK' => hq3.read (by decide) (by rw [hft]; exact hK' _)) (fun hno => absurd hlog (hno rs hG)) fun rs' ms' o' n' c' H4 hG' hlog' ho' hR' hsm' hf4 => ?_
      have er : rs' = rs := logB_inj hG' hG (hlog'.symm.trans hlog)
      subst er
      have hnl := ho.sl.len
      have hrl := hR.1
      have hll : rs'.length ≤ s.size := by
        have := congrArg List.length hlog
        rw [bl_len] at this
        rw [this, logB_frames]
        have := flat_frames_len (rs'.map encB)
        rw [List.length_map] at this
        exact this
      exact fin (ho.sl.keep hf4) (hR.keep hf4) ho'.sl hR' hsm (by omega) ((hf2.keep0 hf3).keep0 hf4)
end Go.Proofs
