/- A part of a proof: see the last text of this claim. -/
import Derived.Test.YtmclknfhehoadaaP12
set_option linter.unusedVariables false
open Go Go.GV
namespace Go.Proofs

theorem add_add (a : Addr) (i j : Nat) : (a.add i).add j = a.add (i + j) := by
  unfold Addr.add
  by_cases hi : i = 0
  · subst hi; simp
  · by_cases hj : j = 0
    · subst hj; simp
    · simp [hi, hj, Nat.add_assoc]
theorem ldF {H : Heap} {ad : Addr} {x : Tmb} (h : CellsAt H ad (encT.cells x)) : Ld Try.prog 3 H (ad.add 1) (.int .i64 x.2.1) := ld_part (j := 1) (by kernel_rfl) h rfl
theorem ldTo {H : Heap} {ad : Addr} {x : Tmb} (h : CellsAt H ad (encT.cells x)) : Ld Try.prog 3 H ((ad.add 1).add 1) (.int .i64 x.2.2) := by
  rw [add_add]; exact ld_part (j := 2) (by kernel_rfl) h rfl

/-- Does one join the last of others? -/
def joins (out : List Tmb) (x : Tmb) : Bool := match out.getLast? with
  | none => false
  | some l => decide (l.1 = x.1) && decide (x.2.1 ≤ l.2.2)
theorem addT_join {m : List Tmb} {l x : Tmb} (h : joins (m ++ [l]) x = true) : addT (m ++ [l]) x = m ++ [(l.1, l.2.1, max l.2.2 x.2.2)] := by
  unfold joins at h
  unfold addT
  rw [List.getLast?_concat] at h ⊢
  simp only [Bool.and_eq_true, decide_eq_true_eq] at h
  simp only
  rw [if_pos h, List.dropLast_concat]
theorem addT_none {out : List Tmb} {x : Tmb} (h : joins out x = false) : addT out x = out ++ [x] := by
  unfold joins at h
  unfold addT
  cases hl : out.getLast? with
  | none =>
    have : out = [] := by simpa using hl
    subst this; rfl
  | some l =>
    rw [hl] at h
    simp only [Bool.and_eq_false_iff, decide_eq_false_iff_not] at h
    simp only
    rw [if_neg (by omega)]
theorem joins_ne {out : List Tmb} {x : Tmb} (h : joins out x = true) : ∃ m l, out = m ++ [l] := by
  unfold joins at h
  cases hl : out.getLast? with
  | none => rw [hl] at h; cases h
  | some l =>
    obtain ⟨m, rfl⟩ := List.getLast?_eq_some_iff.1 hl
    exact ⟨m, l, rfl⟩
theorem max_if (a b : Int) : (if b > a then b else a) = max a b := by split <;> omega

/-- The last one's end is set. -/
theorem st_last {base : Nat} {H : Heap} {o : Option Addr} {p q : Nat} {m : List Tmb} {l : Tmb} {v : Int} {b : Bool} {i : Int} {X : Heap → Prop} (ho : Own encT 28 base H o p q (m ++ [l])) (hi : i = ((p - 1 : Nat) : Int)) (hb : b = true)
    (k : ∀ H', Own encT 28 base H' o p q (m ++ [(l.1, l.2.1, v)]) → Fr (blkL o) H H' → X H') :
    exSome o fun ad => chk b (∃ H', St Try.prog 3 H (((ad.add (i.toNat * 3)).add 1).add 1) (.int .i64 v) H' ∧ X H') := by
  have hl := ho.1
  simp at hl
  have hx : (m ++ [l])[p - 1]? = some l := by rw [show p - 1 = m.length by omega]; simp
  cases o with
  | none =>
    obtain ⟨_, ⟨_, h0, _⟩ | ⟨_, _, e, _⟩⟩ := ho
    · omega
    · cases e
  | some ad =>
    refine exSome_of rfl (chk_true hb ?_)
    rw [add_add]
    refine own_st (x' := (l.1, l.2.1, v)) (j := 2) ho rfl hi hx (by kernel_rfl) (by kernel_rfl) (by simp [Value.cells, Value.oneCell']) (Nat.le_refl 3) rfl fun H' ho' hf => k H' ?_ hf
    have e : (m ++ [l]).set (p - 1) (l.1, l.2.1, v) = m ++ [(l.1, l.2.1, v)] := by
      rw [show p - 1 = m.length by omega]; simp
    rwa [e] at ho'

theorem Norm_ok {a : Option Addr} {n c : Nat} {xs : List Tmb} {H : Heap} {K : Option Addr → Nat → Nat → Heap → Prop} (hx : Sl encT H a n c xs) (hn : n ≤ 100000)
    (hk : ∀ a' n' c' H' ys, Own encT 28 H.size H' a' n' c' ys → IsN xs ys → n' ≤ n → Fr [] H H' → K a' n' c' H') :
    CallH Try.prog fn_cover_Norm ⟨[.slice a n c]⟩ H fun v H' => ∃ a n c, v = .slice a n c ∧ K a n c H' := by
  apply vc_cover_Norm
  have hlx := hx.len
  refine Clone_ok hx (by omega) fun a1 n1 c1 H1 ho1 hf1 => ?_
  have hn1 := ho1.1
  refine DeleteFunc_ok (G := fun _ => True) tells_hollow (fun _ _ => trivial) ho1 (by omega) fun n2 H2 ho2 hn2 hf2 => ?_
  have hf02 : Fr [] H H2 := hf1.keep hf2 fun k hk => (ho1.ge k hk).1
  refine sortK_ok Try.sortT (kf := 24) rfl (E := encT) (t := 28) rfl (by kernel_rfl) ⟨_, Try.underlying28⟩ (by kernel_rfl) (by kernel_rfl) cmpT swoT (enters_of Try.func25 (by kernel_rfl) rfl) cmpT_ok ho2 (by omega) fun H3 ys ho3 hperm hpw hf3 => ?_
  have hf03 : Fr [] H H3 := hf02.keep hf3 fun k hk => (ho2.ge k hk).1
  have hord : ys.Pairwise ord := hpw.imp fun {x y} h => by
    rw [cmpT_neg] at h
    unfold ord
    omega
  have hN : IsN xs (ys.foldl addT []) := isN_sorted (s := ys) hperm hord
  have hny := ho3.1
  refine ⟨fun vs H' => match vs with | [.slice o p q, .int _ i] => ∃ (i' : Nat) (out : List Tmb), i = i' ∧ i' ≤ n2 ∧ p ≤ i' ∧ Own encT 28 H3.size H' o p q out ∧ (ys.drop i').foldl addT out = ys.foldl addT [] ∧ Fr [] H3 H' | _ => False,
    fun vs _ => match vs with | [_, .int _ i] => n2 - i.toNat | _ => 0, ⟨0, [], rfl, by omega, by omega, Own.nil _ _ _ _, rfl, Fr.refl _ _⟩, ?_⟩
  rintro J o p q i H4 ⟨i', out, rfl, hi, hpi, ho, he, hf⟩
  have hs4 := (ho3.keep hf).sl
  have hpl := ho.1
  refine brB_of (fun g => ?_) (fun g => ⟨_, _, _, rfl, ?_⟩)
  · have g' : i' < n2 := by simpa using g
    have hxi : ys[i']? = some (ys[i']'(by omega)) := by simp
    have hdr : ys.drop i' = ys[i']'(by omega) :: ys.drop (i' + 1) := List.drop_eq_getElem_cons (by omega)
    generalize ys[i']'(by omega) = x at hxi hdr
    rw [hdr, List.foldl_cons] at he
    obtain ⟨IM, hIM⟩ : ∃ M : List Value → Heap → Prop, M = fun vs H' => match vs with | [.slice o p q] => p ≤ i' + 1 ∧ Own encT 28 H3.size H' o p q (addT out x) ∧ Fr [] H3 H' | _ => False := ⟨_, rfl⟩
    refine ⟨IM, ?_, ?_⟩
    · refine hs4.get rfl hxi (decide_eq_true (by omega)) fun ad ea hc => ⟨_, _, _, ldV hc, ?_⟩
      refine var_blk (by kernel_rfl) (by kernel_rfl) (by simp [Value.cells, Value.oneCell']) rfl fun b H5 hb hB hf5 => ?_
      have ho5 := ho.keep hf5
      have hf35 := hf.keep0 hf5
      refine ⟨fun _ H' => H' = H5 ∧ joins out x = false, ⟨fun vs H' => vs = [.bool (joins out x)] ∧ H' = H5, ?_, ?_⟩, ?_⟩
      · refine brB_of (fun h0 => ?_) (fun h0 => ⟨?_, rfl⟩)
        · have h0' : 0 < p := by simpa using h0
          rw [pred64 (by omega) h0']
          obtain ⟨m, l, rfl⟩ : ∃ m l, out = m ++ [l] := by
            rcases List.eq_nil_or_concat out with h | ⟨m, l, h⟩
            · subst h; simp at hpl; omega
            · exact ⟨m, l, by simpa using h⟩
          have hll : (m ++ [l])[p - 1]? = some l := by simp at hpl; rw [show p - 1 = m.length by omega]; simp
          have hj : joins (m ++ [l]) x = (decide (l.1 = x.1) && decide (x.2.1 ≤ l.2.2)) := by unfold joins; rw [List.getLast?_concat]
          refine ho5.sl.get rfl hll (decide_eq_true (by omega)) fun ad ea hc => ⟨_, ldI hc, _, hB.ldK (j := 0) (by kernel_rfl) rfl, brB_of (fun h1 => ?_) (fun h1 => ⟨?_, rfl⟩)⟩
          · refine ho5.sl.get rfl hll (decide_eq_true (by omega)) fun ad ea hc => ⟨_, ldTo hc, _, hB.ldK (j := 1) (by kernel_rfl) rfl, ?_, rfl⟩
            rw [hj, decide_eq_true (p := l.1 = x.1) (by simpa using h1), Bool.true_and]
          · rw [hj, decide_eq_false (p := l.1 = x.1) (by simpa using h1), Bool.false_and]
        · have : out = [] := List.eq_nil_of_length_eq_zero (by simp at h0; omega)
          subst this
          rfl
      · rintro J2 b1 H6 ⟨hb1, rfl⟩
        have hb1 : b1 = joins out x := by simpa using hb1
        refine brB_of (fun hj => ?_) (fun hj => ⟨rfl, by rw [← hb1]; exact hj⟩)
        rw [hb1] at hj
        obtain ⟨m, l, rfl⟩ := joins_ne hj
        simp at hpl
        rw [pred64 (by omega) (by omega)]
        have hll : (m ++ [l])[p - 1]? = some l := by rw [show p - 1 = m.length by omega]; simp
        refine ho5.sl.get rfl hll (decide_eq_true (by omega)) fun ad ea hc => ⟨_, ldTo hc, _, hB.ldK (j := 2) (by kernel_rfl) rfl, ?_⟩
        rw [max_if]
        refine st_last ho5 rfl (decide_eq_true (by omega)) fun H7 ho7 hf7 => ?_
        rw [hIM]
        refine ⟨by omega, ?_, hf35.keep hf7 fun k hk => (ho.ge k hk).1⟩
        rw [addT_join hj]
        exact ho7
      · rintro J2 H6 ⟨rfl, hj⟩
        refine ⟨_, _, _, hB.ldAK (j := 0) (us := [.int .i64 x.1, .int .i64 x.2.1, .int .i64 x.2.2]) (by kernel_rfl) (by kernel_rfl) rfl, ?_⟩
        refine ap_one (E := encT) x slice22 elem28 ho5 hf35 rfl (by omega) fun _ o2 p2 q2 H7 ho7 hf7 _ => ?_
        have hp7 := ho7.1
        simp at hp7
        rw [hIM]
        refine ⟨by omega, ?_, hf7⟩
        rw [addT_none hj]
        exact ho7
    · intro J2 o2 p2 q2 H5 hh
      rw [hIM] at hh
      obtain ⟨hp2, ho2, hf2⟩ := hh
      rw [succ64 (by omega)]
      exact ⟨⟨i' + 1, _, rfl, by omega, hp2, ho2, he, hf2⟩, mu_lt g'⟩
  · have hin : i' = n2 := by simp at g; omega
    have e : ys.drop i' = [] := List.drop_eq_nil_of_le (by omega)
    rw [e] at he
    simp only [List.foldl_nil] at he
    subst he
    exact hk _ _ _ _ _ (ho.base hf03.size) hN (by omega) (hf03.keep0 hf)
end Go.Proofs
