/- A part of a proof: see the last text of this claim. -/
import Derived.Test.YtijedkfekmopnaaGreatDoorRange
import Derived.Test.YtijedkfekmopnaaGreatDoorGvStr
set_option linter.unusedVariables false
open Go Go.GV
namespace Go.GV

theorem Lp.fr {H H' : Heap} {l : Nat} {R0 : Loop} {st : LoopState} {j : Option Code} {T : List Nat} (h : Lp H l R0 st j) (hf : Fr T H H') (hn : l ∉ T) : Lp H' l R0 st j := hf.get h hn
theorem Lp.lt {H : Heap} {l : Nat} {R0 : Loop} {st : LoopState} {j : Option Code} (h : Lp H l R0 st j) : l < H.size := lt_of_get h
theorem setLp_fr (H : Heap) (l : Nat) (R0 : Loop) (st : LoopState) (j : Option Code) : Fr [l] H (setLp H l R0 st j) := set_fr H l _
theorem setLp_get {H : Heap} {l : Nat} {R0 : Loop} {st : LoopState} {j : Option Code} (h : l < H.size) : Lp (setLp H l R0 st j) l R0 st j := by
  simp [Lp, setLp, h]
theorem setLp_size (H : Heap) (l : Nat) (R0 : Loop) (st : LoopState) (j : Option Code) : (setLp H l R0 st j).size = H.size := by simp [setLp]
theorem Dq.fr {H H' : Heap} {D : Nat} {T : List Nat} (h : Dq H D) (hf : Fr T H H') (hn : D ∉ T) : Dq H' D := hf.get h hn
theorem shutD_fr (H : Heap) (D : Nat) : Fr [D] H (shutD H D) := set_fr H D _
theorem NewL.out {H H' : Heap} {D l : Nat} {R0 : Loop} (h : NewL H D l R0 H') : Fr [] H H' ∧ Lp H' l R0 .ready none ∧ Dq H' D ∧ D = H.size ∧ l = H.size + 1 ∧ H'.size = H.size + 2 := by
  obtain ⟨rfl, rfl, rfl⟩ := h
  refine ⟨(push_fr _ _).keep0 (push_fr _ _), ?_, ?_, rfl, rfl, by simp⟩
  · unfold Lp
    rw [show H.size + 1 = (H.push (.deferred (some []))).size by simp]
    exact Array.getElem?_push_size
  · simp [Dq, Array.getElem?_push]

def SeqOk {α : Type} (P : Program) (enc : α → Value) (seq : Value) (A F : List α → Prop) (Q : List Nat) (G : Heap → Prop) : Prop :=
  ∀ (l : Nat) (H : Heap) (I : List α → List Nat → Heap → Prop) (K : Heap → Prop) (S : List Nat), G H → In H S → Dj S Q → I [] S H →
    (∀ ys S H1 H2 T, I ys S H1 → Fr T H1 H2 → Dj S T → (∀ k ∈ T, H.size ≤ k) → I ys S H2) →
    (∀ ys x S H1, A (ys ++ [x]) → In H1 S → I ys S H1 → YieldH P l [enc x] H1 fun v H2 => v = .bool true ∧ ∃ S2, I (ys ++ [x]) S2 H2 ∧ Fr S H1 H2 ∧ Grow H1 S S2 ∧ In H2 S2) →
    (∀ xs S1 H1, F xs → I xs S1 H1 → In H1 S1 → Fr S H H1 → Grow H S S1 → K H1) →
    CallV P seq [.func (.yield l) #[] #[]] H fun v H' => v = .tuple ⟨[]⟩ ∧ K H'

structure ColI {α : Type} (E : Enc α) (t base : Nat) (l D b : Nat) (R0 : Loop) (H0 : Heap) (ys : List α) (S : List Nat) (H : Heap) : Prop where
  fr : Fr [] H0 H
  lp : Lp H l R0 .ready none
  dq : Dq H D
  it : ∃ a n c, Blk H ⟨b, 0, none⟩ [.slice a n c] ∧ Own E t base H a n c ys ∧ S = b :: l :: D :: blkL a ∧ b ∉ blkL a ∧ l ∉ blkL a ∧ D ∉ blkL a
  bl : b ≠ l
  bD : b ≠ D
  lD : l ≠ D
  lo : ∀ k ∈ S, H0.size ≤ k

theorem collect_loop {α : Type} {P : Program} {E : Enc α} {enc : α → Value} {ts t bytes : Nat} {seq : Value} {A F : List α → Prop} {Q : List Nat} {G : Heap → Prop} {H0 : Heap} {K : Option Addr → Nat → Nat → Heap → Prop}
    (hsl : sliceB P ts t = true) (hel : elemB P t E.sz bytes = true) (hab : aggB P ts = false) (hsz : szOf P ts = 1) (hinf : (P.info? ts).isSome = true) (henc : ∀ x, E.cells x = [enc x]) (hq : SeqOk P enc seq A F Q G)
    (hA : ∀ ys, A ys → ys.length * bytes ≤ 140737488355328) (hG : ∀ H', Fr [] H0 H' → G H') (hQ : ∀ k ∈ Q, k < H0.size)
    (hk : ∀ xs a n c H', F xs → Own E t H0.size H' a n c xs → Fr [] H0 H' → K a n c H') :
    ∀ (b : Nat) (H' : Heap), New H0 b (.cells ⟨[.slice none 0 0]⟩ ts) H' → ∀ (D l : Nat) (R0 : Loop) (H1 : Heap), NewL H' D l R0 H1 →
      (∀ (x : α) (H2 : Heap) (K2 : Value → Heap → Prop), Lp H2 l R0 .ready none →
        (Lp H2 l R0 .ready none ∧ ∃ a n c, Ld P ts (setLp H2 l R0 .busy none) ⟨b, 0, none⟩ (.slice a n c) ∧
          ∀ (b1 : Nat) (H' : Heap), New (setLp H2 l R0 .busy none) b1 (.cells ⟨[enc x]⟩ t) H' →
            SemWp P (Builtin.append_ ⟨[ts, ts]⟩ ts ⟨[.slice a n c, .slice (some ⟨b1, 0, none⟩) 1 1]⟩) H' fun v H' => ∃ a n c, v = .slice a n c ∧
              ∃ H3, St P ts H' ⟨b, 0, none⟩ (.slice a n c) H3 ∧ Lp H3 l R0 .busy none ∧ K2 (.bool true) (setLp H3 l R0 .ready none)) →
        YieldH P l [enc x] H2 fun a a_1 => K2 a a_1) →
      CallV P seq [.func (.yield l) ⟨[]⟩ ⟨[]⟩] H1 fun x H4 =>
        (Lp H4 l R0 .ready none ∧ ∃ a n c, Ld P ts (setLp H4 l R0 .exhausted none) ⟨b, 0, none⟩ (.slice a n c) ∧ Dq (setLp H4 l R0 .exhausted none) D ∧ K a n c (shutD (setLp H4 l R0 .exhausted none) D)) ∨
        Lp H4 l R0 .done (some .ret) ∧ Dq (setLp H4 l R0 .exhausted (some .ret)) D ∧ K none 0 0 (shutD (setLp H4 l R0 .exhausted (some .ret)) D) := by
  intro b H' hn D l R0 H1 hnl hY
  obtain ⟨hf1, hlp, hdq, hD, hl, hs1⟩ := hnl.out
  have hb := hn.eq
  have hs0 := hn.size
  have hf01 : Fr [] H0 H1 := hn.fr.keep0 hf1
  have hblk : Blk H1 ⟨b, 0, none⟩ [.slice none 0 0] := hn.blk.keep hf1
  refine CallV.mono (hq l H1 (ColI E t H0.size l D b R0 H0) (fun H4 => _) [b, l, D] (hG H1 hf01) ?_ ?_ ?_ ?_ ?_ fun xs S1 H4 hF hI hin hfr hg => ?_) fun v H4 h => h.2
  · intro k hk
    simp only [List.mem_cons, List.mem_nil_iff, or_false] at hk
    omega
  · intro k hk hkq
    have := hQ k hkq
    simp only [List.mem_cons, List.mem_nil_iff, or_false] at hk
    omega
  · exact ⟨hf01, hlp, hdq, ⟨none, 0, 0, hblk, Own.nil .., rfl, by simp [blkL], by simp [blkL], by simp [blkL]⟩, by omega, by omega, by omega, fun k hk => by
      simp only [List.mem_cons, List.mem_nil_iff, or_false] at hk
      omega⟩
  · intro ys S Ha Hb T hI hf hd hT
    obtain ⟨h1, h2, h3, ⟨a, n, c, hbk, ho, hS, n1, n2, n3⟩, q1, q2, q3, q4⟩ := hI
    have m : ∀ k ∈ S, k ∉ T := hd
    have hbT : b ∉ T := m b (by simp [hS])
    have hlT : l ∉ T := m l (by simp [hS])
    have hDT : D ∉ T := m D (by simp [hS])
    refine ⟨h1.keep hf fun k hk => by have := hT k hk; omega, h2.fr hf hlT, h3.fr hf hDT, ⟨a, n, c, hbk.fr hf hbT, ho.fr hf fun ad e => m _ (by simp [hS, e, blkL]), hS, n1, n2, n3⟩, q1, q2, q3, q4⟩
  · intro ys x S H2 hAx hin hI
    obtain ⟨h1, h2, h3, ⟨a, n, c, hbk, ho, hS, n1, n2, n3⟩, q1, q2, q3, q4⟩ := hI
    subst hS
    refine hY x H2 _ h2 ⟨h2, a, n, c, ?_, fun b1 H3 hn3 => ?_⟩
    · have := (hbk.fr (setLp_fr H2 l R0 .busy none) (by simp [q1])).ld0 (t := ts) hab rfl
      exact this
    · have fL := setLp_fr H2 l R0 .busy none
      have sL := setLp_size H2 l R0 .busy none
      have ho2 := ho.fr fL (fun ad e hh => n2 (by simp only [List.mem_singleton] at hh; simp [e, blkL, hh]))
      have hbase : H0.size ≤ H3.size := by have := h1.size; have := hn3.size; omega
      have hlen := hA _ hAx
      refine ap_grow hsl hel (ho2.keep hn3.fr) (sl_one E x hn3 (henc x).symm) hbase (by rw [ho.1]; simpa using hlen) fun a' n' c' H4 ho4 hf4 hg4 => ?_
      have hb3 := ((hbk.fr fL (by simp [q1])).keep hn3.fr).fr hf4 n1
      refine hb3.st0 (v := .slice a' n' c') hsz hinf (fun x hx => by simp [Value.cells] at hx; subst hx; rfl) (by simp [Value.cells]) fun H5 hb5 hf5 => ?_
      have hlt := h2.lt
      have hnew : ∀ k ∈ blkL a', k ∈ blkL a ∨ H2.size ≤ k := fun k hk => (hg4 k hk).imp id fun h => by have := hn3.size; omega
      have hbl : b < H2.size := hin b (by simp)
      have hDl : D < H2.size := hin D (by simp)
      have nb : b ∉ blkL a' := fun hk => (hnew b hk).elim n1 fun h => by omega
      have nl : l ∉ blkL a' := fun hk => (hnew l hk).elim n2 fun h => by omega
      have nD : D ∉ blkL a' := fun hk => (hnew D hk).elim n3 fun h => by omega
      have lp3 : Lp H3 l R0 .busy none := (setLp_get hlt).fr hn3.fr (by simp)
      have lp5 : Lp H5 l R0 .busy none := (lp3.fr hf4 n2).fr hf5 (by simp; exact fun e => q1 e.symm)
      have fE := setLp_fr H5 l R0 .ready none
      have f25 : Fr (b :: l :: D :: blkL a) H2 H5 := by
        have g1 : Fr (b :: l :: D :: blkL a) H2 H3 := fL.trans' hn3.fr (fun k hk _ => by simp at hk; simp [hk]) (by simp)
        have g2 : Fr (b :: l :: D :: blkL a) H2 H4 := g1.trans' hf4 (fun k hk _ => hk) (fun k hk _ => by simp [hk])
        exact g2.trans' hf5 (fun k hk _ => hk) (fun k hk _ => by simp at hk; simp [hk])
      have f26 : Fr (b :: l :: D :: blkL a) H2 (setLp H5 l R0 .ready none) := f25.trans' fE (fun k hk _ => hk) (fun k hk _ => by simp at hk; simp [hk])
      refine ⟨lp5, rfl, b :: l :: D :: blkL a', ?_, f26, ?_, ?_⟩
      · refine ⟨h1.keep f26 q4, setLp_get lp5.lt, ?_, ⟨a', n', c', ?_, ?_, rfl, nb, nl, nD⟩, q1, q2, q3, ?_⟩
        · refine ((((h3.fr fL (by simp; exact fun e => q3 e.symm)).fr hn3.fr (by simp)).fr hf4 n3).fr hf5 (by simp; exact fun e => q2 e.symm)).fr fE (by simp; exact fun e => q3 e.symm)
        · have hb6 := hb5.fr fE (by simp [q1])
          simpa [Value.cells] using hb6
        · refine (ho4.fr hf5 fun ad e hh => nb (by simp only [List.mem_singleton] at hh; simp [e, blkL, hh])).fr fE fun ad e hh => nl (by simp only [List.mem_singleton] at hh; simp [e, blkL, hh])
        · intro k hk
          simp only [List.mem_cons] at hk
          rcases hk with rfl | rfl | rfl | hk
          · exact q4 _ (by simp)
          · exact q4 _ (by simp)
          · exact q4 _ (by simp)
          · exact (ho4.ge k hk).1
      · intro k hk
        simp only [List.mem_cons] at hk
        rcases hk with rfl | rfl | rfl | hk
        · exact .inl (by simp)
        · exact .inl (by simp)
        · exact .inl (by simp)
        · exact (hnew k hk).imp (fun h => by simp [h]) id
      · intro k hk
        have e6 := setLp_size H5 l R0 .ready none
        have e5 := f25.size
        have e45 := hf5.size
        simp only [List.mem_cons] at hk
        rcases hk with rfl | rfl | rfl | hk
        · omega
        · omega
        · omega
        · have := (ho4.ge k hk).2; omega
  · obtain ⟨h1, h2, h3, ⟨a, n, c, hbk, ho, hS, n1, n2, n3⟩, q1, q2, q3, q4⟩ := hI
    subst hS
    have fE := setLp_fr H4 l R0 .exhausted none
    have fD := shutD_fr (setLp H4 l R0 .exhausted none) D
    refine .inl ⟨h2, a, n, c, (hbk.fr fE (by simp [q1])).ld0 hab rfl, h3.fr fE (by simp; exact fun e => q3 e.symm), hk xs a n c _ hF ?_ ?_⟩
    · exact (ho.fr fE fun ad e hh => n2 (by simp only [List.mem_singleton] at hh; simp [e, blkL, hh])).fr fD fun ad e hh => n3 (by simp only [List.mem_singleton] at hh; simp [e, blkL, hh])
    · refine (h1.keep fE fun k hk => ?_).keep fD fun k hk => ?_
      · simp at hk; subst hk; exact q4 _ (by simp)
      · simp at hk; subst hk; exact q4 _ (by simp)

theorem ColI.stay {α : Type} {E : Enc α} {t base l D b : Nat} {R0 : Loop} {H0 Ha Hb : Heap} {ys : List α} {S T : List Nat} (hI : ColI E t base l D b R0 H0 ys S Ha) (hf : Fr T Ha Hb) (hd : Dj S T) (hT : ∀ k ∈ T, H0.size ≤ k) : ColI E t base l D b R0 H0 ys S Hb := by
  obtain ⟨h1, h2, h3, ⟨a, n, c, hbk, ho, hS, n1, n2, n3⟩, q1, q2, q3, q4⟩ := hI
  have m : ∀ k ∈ S, k ∉ T := hd
  have hbT : b ∉ T := m b (by simp [hS])
  have hlT : l ∉ T := m l (by simp [hS])
  have hDT : D ∉ T := m D (by simp [hS])
  exact ⟨h1.keep hf hT, h2.fr hf hlT, h3.fr hf hDT, ⟨a, n, c, hbk.fr hf hbT, ho.fr hf fun ad e => m _ (by simp [hS, e, blkL]), hS, n1, n2, n3⟩, q1, q2, q3, q4⟩
theorem ColI.start {α : Type} {E : Enc α} {t l D b : Nat} {R0 : Loop} {H0 H' H1 : Heap} (hf0 : Fr [] H0 H') (hb : Blk H' ⟨b, 0, none⟩ [.slice none 0 0]) (hlo : H0.size ≤ b) (hnl : NewL H' D l R0 H1) : ColI E t H0.size l D b R0 H0 ([] : List α) [b, l, D] H1 ∧ In H1 [b, l, D] := by
  obtain ⟨hf1, hlp, hdq, hD, hl, hs1⟩ := hnl.out
  have hlt := hb.lt
  have hs0 := hf0.size
  refine ⟨⟨hf0.keep0 hf1, hlp, hdq, ⟨none, 0, 0, hb.keep hf1, Own.nil .., rfl, by simp [blkL], by simp [blkL], by simp [blkL]⟩, by simp at hlt; omega, by simp at hlt; omega, by omega, fun k hk => ?_⟩, fun k hk => ?_⟩
  · simp only [List.mem_cons, List.mem_nil_iff, or_false] at hk
    omega
  · simp only [List.mem_cons, List.mem_nil_iff, or_false] at hk
    simp at hlt
    omega
theorem ColI.more {α : Type} {P : Program} {E : Enc α} {v : Value} {ts t bytes l D b : Nat} {R0 : Loop} {H0 H2 Hx : Heap} {ys : List α} {x : α} {S : List Nat} {a : Option Addr} {n c : Nat} {K : Heap → Prop}
    (hsl : sliceB P ts t = true) (hel : elemB P t E.sz bytes = true) (hsz : szOf P ts = 1) (hinf : (P.info? ts).isSome = true) (henc : E.cells x = [v])
    (hI : ColI E t H0.size l D b R0 H0 ys S H2) (hin : In H2 S) (hbk : Blk H2 ⟨b, 0, none⟩ [.slice a n c]) (ho : Own E t H0.size H2 a n c ys) (hS : S = b :: l :: D :: blkL a) (n1 : b ∉ blkL a) (n2 : l ∉ blkL a) (n3 : D ∉ blkL a) (hlen : (ys.length + 1) * bytes ≤ 140737488355328)
    (hx : Fr [] (setLp H2 l R0 .busy none) Hx)
    (hk : ∀ H5 S2, Lp H5 l R0 .busy none → ColI E t H0.size l D b R0 H0 (ys ++ [x]) S2 (setLp H5 l R0 .ready none) → Fr S H2 (setLp H5 l R0 .ready none) → Grow H2 S S2 → In (setLp H5 l R0 .ready none) S2 → K H5) :
    ∀ b1 H3, New Hx b1 (.cells ⟨[v]⟩ t) H3 → SemWp P (Builtin.append_ ⟨[ts, ts]⟩ ts ⟨[.slice a n c, .slice (some ⟨b1, 0, none⟩) 1 1]⟩) H3 fun v H' => ∃ a n c, v = .slice a n c ∧ ∃ H5, St P ts H' ⟨b, 0, none⟩ (.slice a n c) H5 ∧ K H5 := by
  intro b1 H3 hn3
  obtain ⟨h1, h2, h3, _, q1, q2, q3, q4⟩ := hI
  subst hS
  have fL := setLp_fr H2 l R0 .busy none
  have sL := setLp_size H2 l R0 .busy none
  have fx : Fr [] (setLp H2 l R0 .busy none) H3 := hx.keep0 hn3.fr
  have ho2 := ho.fr fL (fun ad e hh => n2 (by simp only [List.mem_singleton] at hh; simp [e, blkL, hh]))
  have hbase : H0.size ≤ H3.size := by have := h1.size; have := fx.size; omega
  refine ap_grow hsl hel (ho2.keep fx) (sl_one E x hn3 henc.symm) hbase (by rw [ho.1]; exact hlen) fun a' n' c' H4 ho4 hf4 hg4 => ?_
  have hb3 := ((hbk.fr fL (by simp [q1])).keep fx).fr hf4 n1
  refine hb3.st0 (v := .slice a' n' c') hsz hinf (fun x hx => by simp [Value.cells] at hx; subst hx; rfl) (by simp [Value.cells]) fun H5 hb5 hf5 => ?_
  have hlt := h2.lt
  have s3 := fx.size
  have hnew : ∀ k ∈ blkL a', k ∈ blkL a ∨ H2.size ≤ k := fun k hk => (hg4 k hk).imp id fun h => by omega
  have hbl : b < H2.size := hin b (by simp)
  have hDl : D < H2.size := hin D (by simp)
  have nb : b ∉ blkL a' := fun hk => (hnew b hk).elim n1 fun h => by omega
  have nl : l ∉ blkL a' := fun hk => (hnew l hk).elim n2 fun h => by omega
  have nD : D ∉ blkL a' := fun hk => (hnew D hk).elim n3 fun h => by omega
  have lp3 : Lp H3 l R0 .busy none := (setLp_get hlt).fr fx (by simp)
  have lp5 : Lp H5 l R0 .busy none := (lp3.fr hf4 n2).fr hf5 (by simp; exact fun e => q1 e.symm)
  have fE := setLp_fr H5 l R0 .ready none
  have f25 : Fr (b :: l :: D :: blkL a) H2 H5 := by
    have g1 : Fr (b :: l :: D :: blkL a) H2 H3 := fL.trans' fx (fun k hk _ => by simp at hk; simp [hk]) (by simp)
    have g2 : Fr (b :: l :: D :: blkL a) H2 H4 := g1.trans' hf4 (fun k hk _ => hk) (fun k hk _ => by simp [hk])
    exact g2.trans' hf5 (fun k hk _ => hk) (fun k hk _ => by simp at hk; simp [hk])
  have f26 : Fr (b :: l :: D :: blkL a) H2 (setLp H5 l R0 .ready none) := f25.trans' fE (fun k hk _ => hk) (fun k hk _ => by simp at hk; simp [hk])
  refine hk H5 (b :: l :: D :: blkL a') lp5 ?_ f26 ?_ ?_
  · refine ⟨h1.keep f26 q4, setLp_get lp5.lt, ?_, ⟨a', n', c', ?_, ?_, rfl, nb, nl, nD⟩, q1, q2, q3, ?_⟩
    · refine ((((h3.fr fL (by simp; exact fun e => q3 e.symm)).fr fx (by simp)).fr hf4 n3).fr hf5 (by simp; exact fun e => q2 e.symm)).fr fE (by simp; exact fun e => q3 e.symm)
    · have hb6 := hb5.fr fE (by simp [q1])
      simpa [Value.cells] using hb6
    · refine (ho4.fr hf5 fun ad e hh => nb (by simp only [List.mem_singleton] at hh; simp [e, blkL, hh])).fr fE fun ad e hh => nl (by simp only [List.mem_singleton] at hh; simp [e, blkL, hh])
    · intro k hk
      simp only [List.mem_cons] at hk
      rcases hk with rfl | rfl | rfl | hk
      · exact q4 _ (by simp)
      · exact q4 _ (by simp)
      · exact q4 _ (by simp)
      · exact (ho4.ge k hk).1
  · intro k hk
    simp only [List.mem_cons] at hk
    rcases hk with rfl | rfl | rfl | hk
    · exact .inl (by simp)
    · exact .inl (by simp)
    · exact .inl (by simp)
    · exact (hnew k hk).imp (fun h => by simp [h]) id
  · intro k hk
    have e6 := setLp_size H5 l R0 .ready none
    have e5 := f25.size
    have e45 := hf5.size
    simp only [List.mem_cons] at hk
    rcases hk with rfl | rfl | rfl | hk
    · omega
    · omega
    · omega
    · have := (ho4.ge k hk).2; omega
theorem ColI.done {α : Type} {P : Program} {E : Enc α} {ts t l D b : Nat} {R0 : Loop} {H0 H4 : Heap} {ys : List α} {S : List Nat} {K : Option Addr → Nat → Nat → Heap → Prop} (hab : aggB P ts = false) (hI : ColI E t H0.size l D b R0 H0 ys S H4)
    (hk : ∀ a n c H', Own E t H0.size H' a n c ys → Fr [] H0 H' → Fr S H4 H' → K a n c H') :
    Lp H4 l R0 .ready none ∧ ∃ a n c, Ld P ts (setLp H4 l R0 .exhausted none) ⟨b, 0, none⟩ (.slice a n c) ∧ Dq (setLp H4 l R0 .exhausted none) D ∧ K a n c (shutD (setLp H4 l R0 .exhausted none) D) := by
  obtain ⟨h1, h2, h3, ⟨a, n, c, hbk, ho, hS, n1, n2, n3⟩, q1, q2, q3, q4⟩ := hI
  subst hS
  have fE := setLp_fr H4 l R0 .exhausted none
  have fD := shutD_fr (setLp H4 l R0 .exhausted none) D
  refine ⟨h2, a, n, c, (hbk.fr fE (by simp [q1])).ld0 hab rfl, h3.fr fE (by simp; exact fun e => q3 e.symm), hk a n c _ ?_ ?_ ?_⟩
  · exact (ho.fr fE fun ad e hh => n2 (by simp only [List.mem_singleton] at hh; simp [e, blkL, hh])).fr fD fun ad e hh => n3 (by simp only [List.mem_singleton] at hh; simp [e, blkL, hh])
  · refine (h1.keep fE fun k hk => ?_).keep fD fun k hk => ?_
    · simp at hk; subst hk; exact q4 _ (by simp)
    · simp at hk; subst hk; exact q4 _ (by simp)
  · exact fE.trans' fD (fun k hk _ => by simp at hk; simp [hk]) (fun k hk _ => by simp at hk; simp [hk])
end Go.GV
