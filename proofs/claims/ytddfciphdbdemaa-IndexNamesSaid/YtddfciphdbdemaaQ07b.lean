/- A part of a proof: see the last text of this claim. -/
import Derived.Test.YtddfciphdbdemaaP07m
import Derived.Test.YtddfciphdbdemaaQ07
set_option linter.unusedVariables false
set_option maxRecDepth 100000
open Go Go.GV
namespace Go.Proofs

def AllM (ms : List Mch) : Prop := ∀ m ∈ ms, ChkM m
/-- What a Select comes to. -/
def SelR (L : List Lbls) (ms : List Mch) (e : Int) (os : List Int) : Prop := (e = 0 ∧ AllM ms ∧ SetL os (HitAll L ms)) ∨ (e = 50 ∧ ¬ AllM ms ∧ os = [])
theorem SelR.e0 {L : List Lbls} {ms : List Mch} {e : Int} {os : List Int} (h : SelR L ms e os) : e = 0 ↔ AllM ms := by
  rcases h with ⟨h1, h2, _⟩ | ⟨h1, h2, _⟩
  · simp [h1, h2]
  · simp [h1, h2]
theorem SelR.same {L : List Lbls} {ms : List Mch} {e e' : Int} {os os' : List Int} (h : SelR L ms e os) (h' : SelR L ms e' os') : e = e' ∧ os = os' := by
  rcases h with ⟨h1, h2, h3⟩ | ⟨h1, h2, h3⟩ <;> rcases h' with ⟨h1', h2', h3'⟩ | ⟨h1', h2', h3'⟩
  · exact ⟨h1.trans h1'.symm, h3.eq h3'⟩
  · exact absurd h2 h2'
  · exact absurd h2' h2
  · exact ⟨h1.trans h1'.symm, h3.trans h3'.symm⟩
theorem Select_any {H : Heap} {xb : Nat} {U : List Nat} {L : List Lbls} {a : Option Addr} {n c : Nat} {xs : List Mat} {ms : List Mch} {K : Option Addr → Nat → Nat → Int → Heap → Prop} (h : IdxH H xb U L) (hx : Sl encM H a n c xs) (hm : MsH H xs ms) (hn : n ≤ 1000000000)
    (hk : ∀ a' n' c' H' os e, Own encInt 3 H.size H' a' n' c' os → SelR L ms e os → n' ≤ 200 → Fr [] H H' → K a' n' c' e H') :
    CallH Try.prog fn_index_Index_Select ⟨[.pointer (some ⟨xb, 0, none⟩), .slice a n c]⟩ H fun v H' => ∃ a n c e, v = .tuple ⟨[.slice a n c, .int .i64 e]⟩ ∧ K a n c e H' :=
  Select_ok h hx hm hn (fun hno H' hf => hk none 0 0 H' [] 50 (Own.nil _ _ _ _) (.inr ⟨rfl, hno, rfl⟩) (by omega) hf) fun hy a' n' c' H' os h1 h2 h3 h4 => hk a' n' c' H' os 0 h1 (.inl ⟨rfl, hy, h2⟩) h3 h4
theorem rSelect_any {H : Heap} {yb : Nat} {U : List Nat} {L : List Lbls} {a : Option Addr} {n c : Nat} {xs : List Mat} {ms : List Mch} {K : Option Addr → Nat → Nat → Int → Heap → Prop} (h : RefH H yb U L) (hw : WfI L) (hx : Sl encM H a n c xs) (hm : MsH H xs ms) (hn : n ≤ 1000000000)
    (hk : ∀ a' n' c' H' os e, Own encInt 3 H.size H' a' n' c' os → SelR L ms e os → n' ≤ 200 → Fr [] H H' → K a' n' c' e H') :
    CallH Try.prog fn_ref07_Index_Select ⟨[.pointer (some ⟨yb, 0, none⟩), .slice a n c]⟩ H fun v H' => ∃ a n c e, v = .tuple ⟨[.slice a n c, .int .i64 e]⟩ ∧ K a n c e H' :=
  rSelect_ok h hw hx hm hn (fun hno H' hf => hk none 0 0 H' [] 50 (Own.nil _ _ _ _) (.inr ⟨rfl, hno, rfl⟩) (by omega) hf) fun hy a' n' c' H' os h1 h2 h3 h4 => hk a' n' c' H' os 0 h1 (.inl ⟨rfl, hy, h2⟩) h3 h4

theorem slice38 : sliceB Try.prog 38 47 = true := by kernel_rfl
abbrev mat0 : Mat := (0, ⟨#[]⟩, ⟨#[]⟩, (none, 0, 0))
/-- A Select of one matcher that says nothing. -/
theorem odd_ok {H : Heap} {xb : Nat} {U : List Nat} {L : List Lbls} {K : Option Addr → Nat → Nat → Int → Heap → Prop} (h : IdxH H xb U L) (hk : ∀ a n c H', Fr [] H H' → K a n c 50 H') :
    SemWp Try.prog (Instr.makeSlice 38 (.int .i64 1) (.int .i64 1)) H fun v H' => ∃ a_4 n_4 c_2, v = .slice a_4 n_4 c_2 ∧ CallH Try.prog 22 ⟨[.pointer (some ⟨xb, 0, none⟩), .slice a_4 n_4 c_2]⟩ H' fun v H' => ∃ a n c e, v = .tuple ⟨[.slice a n c, .int .i64 e]⟩ ∧ K a n c e H' := by
  refine mk_fullA (E := encM) (n := 1) mat0 slice38 elem47 (u := vM mat0) (by kernel_rfl) rfl rfl (by omega) fun b H1 hb ho hf => ?_
  have hM : MsH H1 (List.replicate 1 mat0) [((0, ⟨#[]⟩, ⟨#[]⟩, []) : Mch)] := ⟨rfl, fun i x m hx hm => by
    match i, hx, hm with
    | 0, hx, hm => simp at hx hm; subst hx hm; exact ⟨rfl, rfl, rfl, Sl.zero, by simp⟩
    | i + 1, hx, hm => simp at hm⟩
  refine Select_any (h.keep hf) ho.sl hM (by omega) fun a' n' c' H' os e h1 h2 h3 h4 => ?_
  rcases h2 with ⟨_, h2, _⟩ | ⟨rfl, _, _⟩
  · have := (h2 _ (List.mem_singleton.2 rfl)).1.1
    simp [ByteArray.size] at this
  · exact hk a' n' c' H' (hf.keep0 h4)

theorem Selects_ok {aa ba : Option Addr} {an ac bn bc : Nat} {hs : List Hd} {L : List Lbls} {xs : List Mat} {ms : List Mch} {H : Heap} (ha : Sl encH H aa an ac hs) (hl : LLs H hs L) (hx : Sl encM H ba bn bc xs) (hm : MsS H xs ms) :
    CallH Try.prog fn_law07_IndexSelects ⟨[.slice aa an ac, .slice ba bn bc]⟩ H fun v H' => v = .bool true ∧ Fr [] H H' := by
  apply vc_law07_IndexSelects
  refine ⟨fun _ H' => H' = H ∧ Light L ∧ bn ≤ 20 ∧ MsH H xs ms, ?_, ?_⟩
  · exact heavy_ok ha hl ⟨rfl, Fr.refl _ _⟩ fun hL => large_ok hx hm ⟨rfl, Fr.refl _ _⟩ fun h1 h2 => ⟨rfl, hL, h1, hm.to h2⟩
  rintro J H1 ⟨rfl, hL, hbn, hM⟩
  refine made_ok ha hl hL fun H2 xb yb U V hb => ?_
  refine brB_of (fun h => by cases h) (fun _ => ?_)
  have hW := hb.idx.1
  refine Select_any hb.idx (hx.keep hb.fr) (hM.keep hb.fr) (by omega) fun a1 n1 c1 H3 os1 e1 ho1 hs1 hn1 hf3 => ?_
  have hb3 := hb.keep hf3
  refine rSelect_any hb3.ref hW (hx.keep hb3.fr) (hM.keep hb3.fr) (by omega) fun a2 n2 c2 H4 os2 e2 ho2 hs2 hn2 hf4 => ?_
  have hb4 := hb3.keep hf4
  obtain ⟨rfl, rfl⟩ := hs1.same hs2
  refine odd_ok hb4.idx fun a n c H5 hf5 => ?_
  refine brB_of (fun _ => rSameI_ok ((ho1.keep hf4).keep hf5).sl (ho2.keep hf5).sl (by omega) ?_) (fun h => by simp at h)
  rw [decide_eq_true rfl]
  exact brB_of (fun _ => ⟨rfl, hb4.fr.keep0 hf5⟩) (fun h => by cases h)

theorem setL_split {a b : List Int} {p q : Int → Prop} {N : Nat} (ha : SetL a p) (hb : SetL b q) (hd : ∀ z, p z → ¬ q z) (hu : ∀ z, (p z ∨ q z) ↔ ∃ k : Nat, z = k ∧ k < N) : a.length + b.length = N := by
  have nd : ∀ {l : List Int} {r : Int → Prop}, SetL l r → l.Nodup := fun h => by unfold List.Nodup; exact h.1.imp fun h => by omega
  have h1 : (a ++ b).Nodup := by
    rw [List.nodup_append]
    exact ⟨nd ha, nd hb, fun x hx y hy e => by subst e; exact hd x ((ha.2 x).1 hx) ((hb.2 x).1 hy)⟩
  have e := every_set N
  have h2 := nodup_len (m := (List.range N).map fun k : Nat => (k : Int)) h1 fun z hz => (e.2 z).2 ((hu z).1 (by
    rcases List.mem_append.1 hz with h | h
    · exact .inl ((ha.2 z).1 h)
    · exact .inr ((hb.2 z).1 h)))
  have h3 := nodup_len (m := a ++ b) (nd e) fun z hz => by
    rw [List.mem_append]
    rcases (hu z).2 ((e.2 z).1 hz) with h | h
    · exact .inl ((ha.2 z).2 h)
    · exact .inr ((hb.2 z).2 h)
  simp at h2 h3
  omega

theorem ri_lt {l : List Int} (h : Ri l) {i j : Nat} {x y : Int} (hij : i < j) (hx : l[i]? = some x) (hy : l[j]? = some y) : x < y := by
  obtain ⟨hi, rfl⟩ := List.getElem?_eq_some_iff.1 hx
  obtain ⟨hj, rfl⟩ := List.getElem?_eq_some_iff.1 hy
  exact (List.pairwise_iff_getElem.1 h) i j hi hj hij
theorem mem_take_iff {l : List Int} {k : Nat} {x : Int} (hx : l[k]? = some x) (z : Int) : z ∈ l.take (k + 1) ↔ z ∈ l.take k ∨ z = x := by
  rw [List.take_add_one, hx]; simp

theorem rOr_ok {a b : Option Addr} {n c m d : Nat} {A B : List Int} {H : Heap} {K : Option Addr → Nat → Nat → Heap → Prop} (hx : Sl encInt H a n c A) (hy : Sl encInt H b m d B) (hA : Ri A) (hB : Ri B) (hlen : n + m ≤ 1000000000)
    (hk : ∀ a' n' c' H' os, Own encInt 3 H.size H' a' n' c' os → SetL os (fun z => z ∈ A ∨ z ∈ B) → Fr [] H H' → K a' n' c' H') :
    CallH Try.prog fn_ref06_Or ⟨[.slice a n c, .slice b m d]⟩ H fun v H' => ∃ a n c, v = .slice a n c ∧ K a n c H' := by
  apply vc_ref06_Or
  have hlx := hx.len
  have hly := hy.len
  have hcy := hy.cap
  intro b0 H1 hn1
  refine ⟨fun vs H' => match vs with
      | [.slice o p q, .int _ k, .int _ i] => ∃ (k' i' : Nat) (os : List Int), k = k' ∧ i = i' ∧ k' ≤ m ∧ i' ≤ n ∧ Own encInt 3 H.size H' o p q os ∧ SetL os (fun z => z ∈ A.take i' ∨ z ∈ B.take k') ∧ (∀ x ∈ A.take i', ∀ j y, k' ≤ j → B[j]? = some y → x < y) ∧ (∀ y ∈ B.take k', ∀ j x, i' ≤ j → A[j]? = some x → y < x) ∧ p ≤ i' + k' ∧ Fr [] H H'
      | _ => False,
    fun vs _ => match vs with | [_, _, .int _ i] => n - i.toNat | _ => 0, ⟨0, 0, [], rfl, rfl, by omega, by omega, Own.made encInt 3 hn1 (Nat.le_refl _), ⟨Ri.nil, by simp⟩, by simp, by simp, by omega, hn1.fr⟩, ?_⟩
  rintro J o p q kk ii H2 ⟨k, i, os, rfl, rfl, hkm, hin, ho, hs, hAB, hBA, hp, hf⟩
  refine brB_of (fun h0 => ?_) (fun h0 => ?_)
  · have h0' : i < n := by simpa using h0
    have hx1 : A[i]? = some (A[i]'(by omega)) := by simp
    generalize A[i]'(by omega) = x at hx1
    refine ⟨fun vs H' => match vs with
        | [.slice o p q, .int _ k] => ∃ (k' : Nat) (os : List Int), k = k' ∧ k' ≤ m ∧ Own encInt 3 H.size H' o p q os ∧ SetL os (fun z => z ∈ A.take (i + 1) ∨ z ∈ B.take k') ∧ (∀ x ∈ A.take (i + 1), ∀ j y, k' ≤ j → B[j]? = some y → x < y) ∧ (∀ y ∈ B.take k', ∀ j x, i + 1 ≤ j → A[j]? = some x → y < x) ∧ p ≤ i + 1 + k' ∧ Fr [] H H'
        | _ => False, ?_, ?_⟩
    · refine ⟨fun vs H' => match vs with
          | [.slice o p q, .int _ k] => ∃ (k' : Nat) (os : List Int), k = k' ∧ k' ≤ m ∧ Own encInt 3 H.size H' o p q os ∧ SetL os (fun z => z ∈ A.take i ∨ z ∈ B.take k') ∧ (∀ x ∈ A.take i, ∀ j y, k' ≤ j → B[j]? = some y → x < y) ∧ (∀ y ∈ B.take k', ∀ j x, i ≤ j → A[j]? = some x → y < x) ∧ p ≤ i + k' ∧ Fr [] H H'
          | _ => False,
        fun vs _ => match vs with | [_, .int _ k] => m - k.toNat | _ => 0, ⟨k, os, rfl, hkm, ho, hs, hAB, hBA, hp, hf⟩, ?_⟩
      rintro J o p q kk H3 ⟨k, os, rfl, hkm, ho, hs, hAB, hBA, hp, hf⟩
      have hol := ho.1
      -- A's next one is appended; k moves where it is B's too
      have last : ∀ (k2 : Nat) (H4 : Heap), H4 = H3 → (k2 = k ∧ (∀ y, B[k]? = some y → x < y)) ∨ (k2 = k + 1 ∧ B[k]? = some x) →
          exSome a fun ad => chk (decide ((0 : Int) ≤ i ∧ (i : Int) < n)) (∃ n_7, Ld Try.prog 3 H4 (ad.add ((i : Int).toNat * 1)) (.int .i64 n_7) ∧ ∀ (b1 : Nat) (H5 : Heap), New H4 b1 (.cells ⟨[.int .i64 n_7]⟩ 3) H5 → SemWp Try.prog (Builtin.append_ ⟨[40, 40]⟩ 40 ⟨[.slice o p q, .slice (some ⟨b1, 0, none⟩) 1 1]⟩) H5 fun v H' => ∃ a1 n1 c1, v = .slice a1 n1 c1 ∧
            ∃ (k' : Nat) (os : List Int), ((k2 : Nat) : Int) = k' ∧ k' ≤ m ∧ Own encInt 3 H.size H' a1 n1 c1 os ∧ SetL os (fun z => z ∈ A.take (i + 1) ∨ z ∈ B.take k') ∧ (∀ x ∈ A.take (i + 1), ∀ j y, k' ≤ j → B[j]? = some y → x < y) ∧ (∀ y ∈ B.take k', ∀ j x, i + 1 ≤ j → A[j]? = some x → y < x) ∧ n1 ≤ i + 1 + k' ∧ Fr [] H H') := by
        rintro k2 H4 rfl hk2
        refine (hx.keep hf).get rfl hx1 (decide_eq_true (by omega)) fun ad ea hc => ⟨_, ldI hc, ?_⟩
        refine ap_one (E := encInt) x slice40 elem3 ho hf rfl (by omega) fun _ o5 p5 q5 H5 ho5 hf5 _ => ?_
        have hlt : ∀ z ∈ os, z < x := fun z hz => by
          rcases (hs.2 z).1 hz with h | h
          · obtain ⟨j, hj⟩ := List.mem_iff_getElem?.1 h
            rw [List.getElem?_take] at hj
            split at hj
            · exact ri_lt hA ‹_› hj hx1
            · cases hj
          · exact hBA z h i x (Nat.le_refl _) hx1
        have hk2m : k2 ≤ m := by
          rcases hk2 with ⟨h, _⟩ | ⟨h, h'⟩
          · omega
          · have := (List.getElem?_eq_some_iff.1 h').1; omega
        have hBk : ∀ z, z ∈ B.take k2 ↔ z ∈ B.take k ∨ (k2 = k + 1 ∧ z = x) := fun z => by
          rcases hk2 with ⟨h, _⟩ | ⟨h, h'⟩
          · subst h; simp
          · subst h; rw [mem_take_iff h']; simp
        refine ⟨k2, _, rfl, hk2m, ho5, ⟨hs.1.snoc hlt, fun z => ?_⟩, fun u hu j y hj hy => ?_, fun y hy j u hj hu => ?_, ?_, hf5⟩
        · rw [List.mem_append, hs.2 z]
          show (z ∈ A.take i ∨ z ∈ B.take k) ∨ z ∈ [x] ↔ (z ∈ A.take (i + 1) ∨ z ∈ B.take k2)
          rw [mem_take_iff hx1, hBk]
          simp only [List.mem_singleton]
          constructor
          · rintro ((h | h) | h)
            · exact .inl (.inl h)
            · exact .inr (.inl h)
            · exact .inl (.inr h)
          · rintro ((h | h) | (h | ⟨_, h⟩))
            · exact .inl (.inl h)
            · exact .inr h
            · exact .inl (.inr h)
            · exact .inr h
        · rcases (mem_take_iff hx1 u).1 hu with h | h
          · exact hAB u h j y (by omega) hy
          · subst h
            rcases hk2 with ⟨h, h'⟩ | ⟨h, h'⟩
            · subst h
              rcases Nat.lt_or_ge k2 j with h2 | h2
              · have hbk : B[k2]? = some (B[k2]'(by have := (List.getElem?_eq_some_iff.1 hy).1; omega)) := by simp
                have := ri_lt hB h2 hbk hy
                have := h' _ hbk
                omega
              · have : j = k2 := by omega
                subst this
                exact h' y hy
            · exact ri_lt hB (by omega) h' hy
        · rcases (hBk y).1 hy with h | ⟨_, h⟩
          · exact hBA y h j u (by omega) hu
          · subst h; exact ri_lt hA (by omega) hx1 hu
        · have := ho5.1
          simp at this
          rcases hk2 with ⟨h, _⟩ | ⟨h, _⟩ <;> omega
      let M2 : List Value → Heap → Prop := fun vs H' => ∃ k2 : Nat, vs = [.int .i64 k2] ∧ H' = H3 ∧ ((k2 = k ∧ (∀ y, B[k]? = some y → x < y)) ∨ (k2 = k + 1 ∧ B[k]? = some x))
      have m2a : (∀ y, B[k]? = some y → ¬ y < x) → brB (decide ((k : Int) < m)) (exSome b fun ad => chk (decide ((0 : Int) ≤ k ∧ (k : Int) < m)) (∃ n_9, Ld Try.prog 3 H3 (ad.add ((k : Int).toNat * 1)) (.int .i64 n_9) ∧ exSome a fun ad => chk (decide ((0 : Int) ≤ i ∧ (i : Int) < n)) (∃ n_6, Ld Try.prog 3 H3 (ad.add ((i : Int).toNat * 1)) (.int .i64 n_6) ∧ brB (n_9 == n_6) (M2 [.int .i64 (IntKind.i64.wrap ((k : Int) + 1))] H3) (M2 [.int .i64 (k : Int)] H3)))) (M2 [.int .i64 (k : Int)] H3) := fun hno => by
        refine brB_of (fun h1 => ?_) (fun h1 => ⟨k, rfl, rfl, .inl ⟨rfl, fun y hy => ?_⟩⟩)
        · have h1' : k < m := by simpa using h1
          have hy1 : B[k]? = some (B[k]'(by omega)) := by simp
          generalize B[k]'(by omega) = y at hy1
          refine (hy.keep hf).get rfl hy1 (decide_eq_true (by omega)) fun ad ea hc => ⟨_, ldI hc, ?_⟩
          refine (hx.keep hf).get rfl hx1 (decide_eq_true (by omega)) fun ad ea hc => ⟨_, ldI hc, ?_⟩
          rw [succ64 (by omega)]
          have := hno y hy1
          refine brB_of (fun h2 => ⟨k + 1, rfl, rfl, .inr ⟨rfl, ?_⟩⟩) (fun h2 => ⟨k, rfl, rfl, .inl ⟨rfl, fun z hz => ?_⟩⟩)
          · have h2 : y = x := by simpa using h2
            rw [hy1, h2]
          · have h2 : y ≠ x := by simpa using h2
            rw [hy1] at hz; cases hz; omega
        · have := (List.getElem?_eq_some_iff.1 hy).1
          simp at h1; omega
      refine ⟨fun _ H' => H' = H3 ∧ ∃ y, B[k]? = some y ∧ y < x, ?_, ?_⟩
      · refine brB_of (fun h1 => ?_) (fun h1 => ⟨M2, m2a fun y hy => ?_, ?_⟩)
        · have h1' : k < m := by simpa using h1
          have hy1 : B[k]? = some (B[k]'(by omega)) := by simp
          generalize B[k]'(by omega) = y at hy1
          refine (hy.keep hf).get rfl hy1 (decide_eq_true (by omega)) fun ad ea hc => ⟨_, ldI hc, ?_⟩
          refine (hx.keep hf).get rfl hx1 (decide_eq_true (by omega)) fun ad ea hc => ⟨_, ldI hc, ?_⟩
          refine brB_of (fun h2 => ⟨rfl, y, hy1, by simpa using h2⟩) (fun h2 => ⟨M2, m2a fun z hz => ?_, ?_⟩)
          · rw [hy1] at hz; cases hz; simpa using h2
          · rintro J n6 H4 ⟨k2, e, rfl, hk2⟩
            simp only [List.cons.injEq, Value.int.injEq, true_and, and_true] at e
            subst e
            exact last k2 H4 rfl hk2
        · have := (List.getElem?_eq_some_iff.1 hy).1
          simp at h1; omega
        · rintro J n6 H4 ⟨k2, e, rfl, hk2⟩
          simp only [List.cons.injEq, Value.int.injEq, true_and, and_true] at e
          subst e
          exact last k2 H4 rfl hk2
      · rintro J H4 ⟨rfl, y, hy1, hyx⟩
        have h1' : k < m := by have := (List.getElem?_eq_some_iff.1 hy1).1; omega
        refine (hy.keep hf).get rfl hy1 (decide_eq_true (by omega)) fun ad ea hc => ⟨_, ldI hc, ?_⟩
        refine ap_one (E := encInt) y slice40 elem3 ho hf rfl (by omega) fun _ o5 p5 q5 H5 ho5 hf5 _ => ?_
        rw [succ64 (by omega)]
        have hlt : ∀ z ∈ os, z < y := fun z hz => by
          rcases (hs.2 z).1 hz with h | h
          · exact hAB z h k y (Nat.le_refl _) hy1
          · obtain ⟨j, hj⟩ := List.mem_iff_getElem?.1 h
            rw [List.getElem?_take] at hj
            split at hj
            · exact ri_lt hB ‹_› hj hy1
            · cases hj
        refine ⟨⟨k + 1, _, rfl, by omega, ho5, ⟨hs.1.snoc hlt, fun z => ?_⟩, fun u hu j w hj hw => hAB u hu j w (by omega) hw, fun w hw j u hj hu => ?_, ?_, hf5⟩, mu_lt h1'⟩
        · rw [List.mem_append, hs.2 z]
          show (z ∈ A.take i ∨ z ∈ B.take k) ∨ z ∈ [y] ↔ (z ∈ A.take i ∨ z ∈ B.take (k + 1))
          rw [mem_take_iff hy1, or_assoc, List.mem_singleton]
        · rcases (mem_take_iff hy1 w).1 hw with h | h
          · exact hBA w h j u hj hu
          · subst h
            rcases Nat.lt_or_ge i j with h2 | h2
            · have := ri_lt hA h2 hx1 hu; omega
            · have : j = i := by omega
              subst this
              rw [hx1] at hu; cases hu; exact hyx
        · have := ho5.1; simp at this; omega
    · rintro J o p q kk H3 ⟨k, os, rfl, hkm, ho, hs, hAB, hBA, hp, hf⟩
      rw [succ64 (by omega)]
      exact ⟨⟨k, i + 1, os, rfl, rfl, hkm, by omega, ho, hs, hAB, hBA, hp, hf⟩, mu_lt h0'⟩
  · have hin' : i = n := by simp at h0; omega
    subst hin'
    have hAt : A.take i = A := List.take_of_length_le (by omega)
    rw [hAt] at hAB
    have hs' : SetL os (fun z => z ∈ A ∨ z ∈ B.take k) := by rw [hAt] at hs; exact hs
    refine chk_of ⟨by omega, by omega, by omega⟩ ?_
    rw [Int.toNat_natCast, Int.toNat_natCast]
    have hol := ho.1
    refine ap_own (E := encInt) slice40 elem3 ho hf ((hy.drop (k := k) hkm).keep hf) (by omega) fun o5 p5 q5 H5 ho5 hf5 _ => ⟨_, _, _, rfl, hk o5 p5 q5 H5 _ ho5 ⟨?_, fun z => ?_⟩ hf5⟩
    · unfold Ri
      rw [List.pairwise_append]
      refine ⟨hs'.1, List.Pairwise.sublist (List.drop_sublist _ _) hB, fun u hu w hw => ?_⟩
      obtain ⟨j, hj⟩ := List.mem_iff_getElem?.1 hw
      rw [List.getElem?_drop] at hj
      rcases (hs'.2 u).1 hu with h | h
      · exact hAB u h (k + j) w (by omega) hj
      · obtain ⟨j', hj'⟩ := List.mem_iff_getElem?.1 h
        rw [List.getElem?_take] at hj'
        split at hj'
        · exact ri_lt hB (by omega) hj' hj
        · cases hj'
    · rw [List.mem_append, hs'.2 z, or_assoc, ← List.mem_append, List.take_append_drop]
end Go.Proofs
