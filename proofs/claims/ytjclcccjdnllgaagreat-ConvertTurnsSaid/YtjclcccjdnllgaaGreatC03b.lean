/- A part of a proof: see the last text of this claim. -/
import Derived.Test.YtjclcccjdnllgaaGreatC02e
import Derived.Test.YtjclcccjdnllgaaGreatL02
set_option linter.unusedVariables false
set_option maxRecDepth 100000
open Go Go.GV
namespace Go.Proofs

theorem slice138 : sliceB Tryz.prog 138 89 = true := by kernel_rfl
theorem elem89 : elemB Tryz.prog 89 encN.sz 8 = true := by kernel_rfl
theorem one_slice {a : Option Addr} {n c : Nat} : ∀ x ∈ (Value.slice a n c).cells.toList, x.oneCell' = true := fun x hx => by simp [Value.cells] at hx; subst hx; rfl
theorem blk_of_ne {a : Option Addr} {S : List Nat} (h : ∀ k ∈ blkL a, k ∉ S) : ∀ ad, a = some ad → ad.block ∉ S := fun ad e => h _ (by simp [blkL, e])
structure Two (xs : List Smp) (b b1 l D : Nat) (R0 : Loop) (H0 : Heap) (i : Nat) (S : List Nat) (H : Heap) : Prop where
  fr : Fr [] H0 H
  lp : Lp H l R0 .ready none
  dq : Dq H D
  it : ∃ a n c a' n' c', Blk H ⟨b, 0, none⟩ [.slice a n c] ∧ Blk H ⟨b1, 0, none⟩ [.slice a' n' c'] ∧ Own encN 89 H0.size H a n c ((tsL xs).take i) ∧ Own encN 89 H0.size H a' n' c' ((vsL xs).take i) ∧ S = b :: b1 :: l :: D :: (blkL a ++ blkL a') ∧ S.Nodup
  lo : ∀ k ∈ S, H0.size ≤ k
theorem Two.stab {xs : List Smp} {b b1 l D : Nat} {R0 : Loop} {H0 : Heap} (i : Nat) (S : List Nat) (H1 H2 : Heap) (h : Two xs b b1 l D R0 H0 i S H1) (hf : Fr [] H1 H2) : Two xs b b1 l D R0 H0 i S H2 := by
  obtain ⟨h1, h2, h3, ⟨a, n, c, a', n', c', q1, q2, q3, q4, q5, q6⟩, h5⟩ := h
  exact ⟨h1.keep0 hf, h2.fr hf (by simp), h3.fr hf (by simp), ⟨a, n, c, a', n', c', q1.keep hf, q2.keep hf, q3.keep hf, q4.keep hf, q5, q6⟩, h5⟩
theorem grown_nodup {H : Heap} {X A B A2 B2 : List Nat} (h : (X ++ (A ++ B)).Nodup) (hX : In H X) (hA : ∀ k ∈ A2, k ∈ A ∨ H.size ≤ k) (hB : ∀ k ∈ B2, k ∈ B ∨ H.size ≤ k) (hAB : ∀ k ∈ A2, k ∈ B2 → H.size ≤ k → False) (nA : A2.Nodup) (nB : B2.Nodup) (hiA : In H A) (hiB : In H B) : (X ++ (A2 ++ B2)).Nodup := by
  rw [List.nodup_append] at h ⊢
  obtain ⟨hx, hab, hd⟩ := h
  rw [List.nodup_append] at hab ⊢
  obtain ⟨ha, hb, hd2⟩ := hab
  refine ⟨hx, ⟨nA, nB, fun p hp q hq e => ?_⟩, fun p hp q hq e => ?_⟩
  · subst e
    rcases hA p hp with h1 | h1
    · rcases hB p hq with h2 | h2
      · exact hd2 p h1 p h2 rfl
      · have := hiA p h1; omega
    · exact hAB p hp hq h1
  · subst e
    have hlt := hX p hp
    rcases List.mem_append.1 hq with h1 | h1
    · rcases hA p h1 with h2 | h2
      · exact hd p hp p (List.mem_append_left _ h2) rfl
      · omega
    · rcases hB p h1 with h2 | h2
      · exact hd p hp p (List.mem_append_right _ h2) rfl
      · omega
theorem blkL_nodup (a : Option Addr) : (blkL a).Nodup := by cases a <;> simp [blkL]
theorem two_done {xs : List Smp} {b b1 l D i : Nat} {R0 : Loop} {H0 H2 H3 : Heap} {S : List Nat} {a : Option Addr} {n c : Nat} {a' : Option Addr} {n' c' : Nat} {p : Option Addr} {m d : Nat} {p' : Option Addr} {m' d' : Nat} {K2 : Value → Heap → Prop} (h : Two xs b b1 l D R0 H0 i S H2) (hin : In H2 S)
    (hS : S = b :: b1 :: l :: D :: (blkL a ++ blkL a')) (hb : Blk H2 ⟨b, 0, none⟩ [.slice a n c]) (hb1 : Blk H2 ⟨b1, 0, none⟩ [.slice a' n' c'])
    (h3 : Own encN 89 H0.size H3 p m d ((tsL xs).take (i + 1))) (h3' : Own encN 89 H0.size H3 p' m' d' ((vsL xs).take (i + 1)))
    (f3 : Fr (blkL a ++ blkL a') (setLp H2 l R0 .busy none) H3) (g : ∀ k ∈ blkL p, k ∈ blkL a ∨ H2.size ≤ k) (g' : ∀ k ∈ blkL p', k ∈ blkL a' ∨ H2.size ≤ k) (gg : ∀ k ∈ blkL p, k ∈ blkL p' → H2.size ≤ k → False)
    (hk : ∀ H4, (∃ S2, Two xs b b1 l D R0 H0 (i + 1) S2 H4 ∧ Fr S H2 H4 ∧ Grow H2 S S2 ∧ In H4 S2) → K2 (.bool true) H4) :
    ∃ H4, sT 138 H3 ⟨b, 0, none⟩ (.slice p m d) H4 ∧ ∃ H5, sT 138 H4 ⟨b1, 0, none⟩ (.slice p' m' d') H5 ∧ Lp H5 l R0 .busy none ∧ K2 (.bool true) (setLp H5 l R0 .ready none) := by
  obtain ⟨h1, h2, hdq, ⟨_, _, _, _, _, _, q1, q2, q3, q4, q5, q6⟩, h5⟩ := h
  subst hS
  have ninS : ∀ k, k ∈ [b, b1, l, D] → k ∉ blkL a ++ blkL a' := by
    have := (List.nodup_append (l₁ := [b, b1, l, D]) (l₂ := blkL a ++ blkL a')).1 q6
    exact fun k hk hk2 => this.2.2 k hk k hk2 rfl
  have q6' := q6
  simp only [List.nodup_cons, List.mem_cons, not_or] at q6'
  obtain ⟨⟨nbb1, nbl, nbD, nb⟩, ⟨nb1l, nb1D, nb1⟩, ⟨nlD, nl⟩, nD, _⟩ := q6'
  have hlt := h2.lt
  have fL := setLp_fr H2 l R0 .busy none
  have sL := setLp_size H2 l R0 .busy none
  have f23 : Fr (b :: b1 :: l :: D :: (blkL a ++ blkL a')) H2 H3 := fL.trans' f3 (fun k hk _ => by simp at hk; simp [hk]) fun k hk _ => by simp only [List.mem_cons]; simp [hk]
  have hbH3 : Blk H3 ⟨b, 0, none⟩ [.slice a n c] := (hb.fr fL (by simpa using nbl)).fr f3 nb
  have hb1H3 : Blk H3 ⟨b1, 0, none⟩ [.slice a' n' c'] := (hb1.fr fL (by simpa using nb1l)).fr f3 nb1
  have lp3 : Lp H3 l R0 .busy none := (setLp_get hlt).fr f3 nl
  have dq3 : Dq H3 D := (hdq.fr fL (by simpa using fun e => nlD e.symm)).fr f3 nD
  have hX : In H2 [b, b1, l, D] := fun k hk => hin k (List.mem_append_left (blkL a ++ blkL a') hk)
  have hiA : In H2 (blkL a) := fun k hk => hin k (by simp [hk])
  have hiB : In H2 (blkL a') := fun k hk => hin k (by simp [hk])
  have nd : (b :: b1 :: l :: D :: (blkL p ++ blkL p')).Nodup := grown_nodup (X := [b, b1, l, D]) q6 hX g g' gg (blkL_nodup _) (blkL_nodup _) hiA hiB
  have nd' := nd
  simp only [List.nodup_cons, List.mem_cons, not_or, List.mem_append] at nd'
  obtain ⟨⟨_, _, _, npb, npb'⟩, ⟨_, _, npb1, npb1'⟩, ⟨_, npl, npl'⟩, ⟨npD, npD'⟩, _⟩ := nd'
  refine hbH3.st0 (v := .slice p m d) (by kernel_rfl) (by kernel_rfl) one_slice (by simp [Value.cells]) fun H4 hb4 f4 => ?_
  have hb14 := hb1H3.fr f4 (by simpa using fun e => nbb1 e.symm)
  refine hb14.st0 (v := .slice p' m' d') (by kernel_rfl) (by kernel_rfl) one_slice (by simp [Value.cells]) fun H5 hb5 f5 => ?_
  have hbb5 := hb4.fr f5 (by simpa using nbb1)
  have lp5 : Lp H5 l R0 .busy none := (lp3.fr f4 (by simpa using fun e => nbl e.symm)).fr f5 (by simpa using fun e => nb1l e.symm)
  have dq5 : Dq H5 D := (dq3.fr f4 (by simpa using fun e => nbD e.symm)).fr f5 (by simpa using fun e => nb1D e.symm)
  have fE := setLp_fr H5 l R0 .ready none
  have sE := setLp_size H5 l R0 .ready none
  have f24 : Fr (b :: b1 :: l :: D :: (blkL a ++ blkL a')) H2 H4 := f23.trans' f4 (fun k hk _ => hk) fun k hk _ => by simp at hk; simp [hk]
  have f25 : Fr (b :: b1 :: l :: D :: (blkL a ++ blkL a')) H2 H5 := f24.trans' f5 (fun k hk _ => hk) fun k hk _ => by simp at hk; simp [hk]
  have f26 : Fr (b :: b1 :: l :: D :: (blkL a ++ blkL a')) H2 (setLp H5 l R0 .ready none) := f25.trans' fE (fun k hk _ => hk) fun k hk _ => by simp at hk; simp [hk]
  refine ⟨lp5, hk _ ⟨b :: b1 :: l :: D :: (blkL p ++ blkL p'), ⟨h1.keep f26 h5, setLp_get lp5.lt, dq5.fr fE (by simpa using fun e => nlD e.symm), ⟨p, m, d, p', m', d', ?_, ?_, ?_, ?_, rfl, nd⟩, ?_⟩, f26, ?_, ?_⟩⟩
  · simpa [Value.cells] using hbb5.fr fE (by simpa using nbl)
  · simpa [Value.cells] using hb5.fr fE (by simpa using nb1l)
  · exact ((h3.fr f4 (blk_of_ne fun k kk hm => npb (by simp at hm; subst hm; exact kk))).fr f5 (blk_of_ne fun k kk hm => npb1 (by simp at hm; subst hm; exact kk))).fr fE (blk_of_ne fun k kk hm => npl (by simp at hm; subst hm; exact kk))
  · exact ((h3'.fr f4 (blk_of_ne fun k kk hm => npb' (by simp at hm; subst hm; exact kk))).fr f5 (blk_of_ne fun k kk hm => npb1' (by simp at hm; subst hm; exact kk))).fr fE (blk_of_ne fun k kk hm => npl' (by simp at hm; subst hm; exact kk))
  · intro k hk
    have : k ∈ [b, b1, l, D] ∨ k ∈ blkL p ∨ k ∈ blkL p' := by simpa [or_assoc] using hk
    rcases this with h | h | h
    · exact h5 k (List.mem_append_left (blkL a ++ blkL a') h)
    · exact (h3.ge k h).1
    · exact (h3'.ge k h).1
  · intro k hk
    have : k ∈ [b, b1, l, D] ∨ k ∈ blkL p ∨ k ∈ blkL p' := by simpa [or_assoc] using hk
    rcases this with h | h | h
    · exact .inl (List.mem_append_left (blkL a ++ blkL a') h)
    · exact (g k h).imp (fun h => by simp [h]) id
    · exact (g' k h).imp (fun h => by simp [h]) id
  · intro k hk
    have e5 := f25.size
    have e35 := Nat.le_trans f4.size f5.size
    have : k ∈ [b, b1, l, D] ∨ k ∈ blkL p ∨ k ∈ blkL p' := by simpa [or_assoc] using hk
    rcases this with h | h | h
    · have := hX k h; omega
    · have := (h3.ge k h).2; omega
    · have := (h3'.ge k h).2; omega

section
variable {xs : List Smp} {b b1 l D i : Nat} {R0 : Loop} {H0 H2 Hx : Heap} {S : List Nat} {a : Option Addr} {n c : Nat} {a' : Option Addr} {n' c' : Nat} {K2 : Value → Heap → Prop}
theorem two_keep (hS : S = b :: b1 :: l :: D :: (blkL a ++ blkL a')) (nd : S.Nodup) (ho : Own encN 89 H0.size H2 a n c ((tsL xs).take i)) (ho' : Own encN 89 H0.size H2 a' n' c' ((vsL xs).take i)) (hb1 : Blk H2 ⟨b1, 0, none⟩ [.slice a' n' c']) (hb : Blk H2 ⟨b, 0, none⟩ [.slice a n c])
    (hx : Fr [] (setLp H2 l R0 .busy none) Hx) : Own encN 89 H0.size Hx a n c ((tsL xs).take i) ∧ Own encN 89 H0.size Hx a' n' c' ((vsL xs).take i) ∧ Blk Hx ⟨b1, 0, none⟩ [.slice a' n' c'] ∧ Blk Hx ⟨b, 0, none⟩ [.slice a n c] ∧ (∀ k ∈ blkL a, k ∉ blkL a') ∧ b1 ∉ blkL a ∧ b1 ∉ blkL a' := by
  subst hS
  have fL := setLp_fr H2 l R0 .busy none
  have q := nd
  simp only [List.nodup_cons, List.mem_cons, not_or, List.mem_append] at q
  obtain ⟨⟨nbb1, nbl, nbD, nb, nb'⟩, ⟨nb1l, nb1D, nb1, nb1'⟩, ⟨nlD, nl, nl'⟩, _, q5⟩ := q
  refine ⟨(ho.fr fL (blk_of_ne fun k kk hm => nl (by simp at hm; subst hm; exact kk))).keep hx, (ho'.fr fL (blk_of_ne fun k kk hm => nl' (by simp at hm; subst hm; exact kk))).keep hx, (hb1.fr fL (by simpa using nb1l)).keep hx, (hb.fr fL (by simpa using nbl)).keep hx, fun k h1 h2 => ?_, nb1, nb1'⟩
  exact (List.nodup_append.1 q5).2.2 k h1 k h2 rfl
theorem two_app (h : Two xs b b1 l D R0 H0 i S H2) (hin : In H2 S) (hS : S = b :: b1 :: l :: D :: (blkL a ++ blkL a')) (nd : S.Nodup) (ho : Own encN 89 H0.size H2 a n c ((tsL xs).take i)) (ho' : Own encN 89 H0.size H2 a' n' c' ((vsL xs).take i)) (hb : Blk H2 ⟨b, 0, none⟩ [.slice a n c]) (hb1 : Blk H2 ⟨b1, 0, none⟩ [.slice a' n' c'])
    (hi : i + 1 < xs.length) (hP : SmpP xs) (hx : Fr [] (setLp H2 l R0 .busy none) Hx) {p1 p2 : Nat} (s1 : Sl encN Hx (some ⟨p1, 0, none⟩) 1 1 [tN xs i]) (s2 : Sl encN Hx (some ⟨p2, 0, none⟩) 1 1 [vN xs i]) (hp2 : H2.size ≤ p2)
    (hk : ∀ H4, (∃ S2, Two xs b b1 l D R0 H0 (i + 1) S2 H4 ∧ Fr S H2 H4 ∧ Grow H2 S S2 ∧ In H4 S2) → K2 (.bool true) H4) :
    SemWp Tryz.prog (Builtin.append_ ⟨[138, 138]⟩ 138 ⟨[.slice a n c, .slice (some ⟨p1, 0, none⟩) 1 1]⟩) Hx fun v H' => ∃ p m d, v = .slice p m d ∧ lD 138 H' ⟨b1, 0, none⟩ (.slice a' n' c') ∧
      SemWp Tryz.prog (Builtin.append_ ⟨[138, 138]⟩ 138 ⟨[.slice a' n' c', .slice (some ⟨p2, 0, none⟩) 1 1]⟩) H' fun v H' => ∃ p' m' d', v = .slice p' m' d' ∧
        ∃ H4, sT 138 H' ⟨b, 0, none⟩ (.slice p m d) H4 ∧ ∃ H5, sT 138 H4 ⟨b1, 0, none⟩ (.slice p' m' d') H5 ∧ Lp H5 l R0 .busy none ∧ K2 (.bool true) (setLp H5 l R0 .ready none) := by
  obtain ⟨k1, k2, k3, _, k5, k6, k7⟩ := two_keep hS nd ho ho' hb1 hb hx
  have sL := setLp_size H2 l R0 .busy none
  have sx := hx.size
  have hlen := hP.len
  have l1 := ho.1
  have l2 := ho'.1
  rw [List.length_take] at l1 l2
  have hbase : H0.size ≤ Hx.size := by have := h.fr.size; omega
  refine ap_grow slice138 elem89 k1 s1 hbase (by omega) fun p m d H3 h3 f3 g3 => ⟨(k3.fr f3 k6).ld0 (by kernel_rfl) rfl, ?_⟩
  have k2' := k2.fr f3 (blk_of_ne fun k kk hm => k5 k hm kk)
  have hinA : In H2 (blkL a) := fun k hk => hin k (by rw [hS]; simp [hk])
  have hinB : In H2 (blkL a') := fun k hk => hin k (by rw [hS]; simp [hk])
  have s2' := s2.fr f3 fun ad e hm => by cases e; have := hinA _ hm; simp at this; omega
  refine ap_grow slice138 elem89 k2' s2' (by have := f3.size; omega) (by omega) fun p' m' d' H4 h4 f4 g4 => ?_
  have gA : ∀ k ∈ blkL p, k ∈ blkL a ∨ H2.size ≤ k := fun k hk => (g3 k hk).imp id fun h => by omega
  have gB : ∀ k ∈ blkL p', k ∈ blkL a' ∨ H2.size ≤ k := fun k hk => (g4 k hk).imp id fun h => by have := f3.size; omega
  have pA : ∀ k ∈ blkL p, k ∉ blkL a' := fun k hk hk2 => (gA k hk).elim (fun h => k5 k h hk2) fun h => by have := hinB k hk2; omega
  have t1 := tsL_get hi
  have t2 := vsL_get hi
  refine two_done h hin hS hb hb1 (p := p) (m := m) (d := d) (p' := p') (m' := m') (d' := d') ?_ ?_ ?_ gA gB (fun k hk hk2 hge => ?_) hk
  · have := h3.fr f4 (blk_of_ne pA)
    rw [List.take_add_one, t1]; exact this
  · rw [List.take_add_one, t2]; exact h4
  · have f13 : Fr (blkL a ++ blkL a') (setLp H2 l R0 .busy none) H3 := hx.trans' f3 (by simp) fun k hk _ => List.mem_append_left _ hk
    exact f13.trans' f4 (fun k hk _ => hk) fun k hk _ => List.mem_append_right _ hk
  · rcases g4 k hk2 with h5 | h5
    · have := hinB k h5; omega
    · have := (h3.ge k hk).2; omega
theorem two_app1 (h : Two xs b b1 l D R0 H0 i S H2) (hin : In H2 S) (hS : S = b :: b1 :: l :: D :: (blkL a ++ blkL a')) (nd : S.Nodup) (ho : Own encN 89 H0.size H2 a n c ((tsL xs).take i)) (ho' : Own encN 89 H0.size H2 a' n' c' ((vsL xs).take i)) (hb : Blk H2 ⟨b, 0, none⟩ [.slice a n c]) (hb1 : Blk H2 ⟨b1, 0, none⟩ [.slice a' n' c'])
    (hi : i + 1 < xs.length) (hP : SmpP xs) (hx : Fr [] (setLp H2 l R0 .busy none) Hx) {p1 : Nat} (s1 : Sl encN Hx (some ⟨p1, 0, none⟩) 1 1 [tN xs i])
    (hk : ∀ H4, (∃ S2, Two xs b b1 l D R0 H0 (i + 1) S2 H4 ∧ Fr S H2 H4 ∧ Grow H2 S S2 ∧ In H4 S2) → K2 (.bool true) H4) :
    SemWp Tryz.prog (Builtin.append_ ⟨[138, 138]⟩ 138 ⟨[.slice a n c, .slice (some ⟨p1, 0, none⟩) 1 1]⟩) Hx fun v H' => ∃ p m d, v = .slice p m d ∧ lD 138 H' ⟨b1, 0, none⟩ (.slice a' n' c') ∧
      ∀ (b3 : Nat) (H'_2 : Heap), New H' b3 (.cells ⟨[.int .u64 (vN xs i : Nat)]⟩ 89) H'_2 → lD 138 H'_2 ⟨b1, 0, none⟩ (.slice a' n' c') ∧
      SemWp Tryz.prog (Builtin.append_ ⟨[138, 138]⟩ 138 ⟨[.slice a' n' c', .slice (some ⟨b3, 0, none⟩) 1 1]⟩) H'_2 fun v H' => ∃ p' m' d', v = .slice p' m' d' ∧
        ∃ H4, sT 138 H' ⟨b, 0, none⟩ (.slice p m d) H4 ∧ ∃ H5, sT 138 H4 ⟨b1, 0, none⟩ (.slice p' m' d') H5 ∧ Lp H5 l R0 .busy none ∧ K2 (.bool true) (setLp H5 l R0 .ready none) := by
  obtain ⟨k1, k2, k3, _, k5, k6, k7⟩ := two_keep hS nd ho ho' hb1 hb hx
  have sL := setLp_size H2 l R0 .busy none
  have sx := hx.size
  have hlen := hP.len
  have l1 := ho.1
  have l2 := ho'.1
  rw [List.length_take] at l1 l2
  have hbase : H0.size ≤ Hx.size := by have := h.fr.size; omega
  refine ap_grow slice138 elem89 k1 s1 hbase (by omega) fun p m d H3 h3 f3 g3 => ⟨(k3.fr f3 k6).ld0 (by kernel_rfl) rfl, fun b3 H3' hn3 => ⟨((k3.fr f3 k6).keep hn3.fr).ld0 (by kernel_rfl) rfl, ?_⟩⟩
  have k2' := (k2.fr f3 (blk_of_ne fun k kk hm => k5 k hm kk)).keep hn3.fr
  have h3' := h3.keep hn3.fr
  have sn := hn3.size
  have hinA : In H2 (blkL a) := fun k hk => hin k (by rw [hS]; simp [hk])
  have hinB : In H2 (blkL a') := fun k hk => hin k (by rw [hS]; simp [hk])
  refine ap_grow slice138 elem89 k2' (sl_one encN (vN xs i) hn3 rfl) (by have := f3.size; omega) (by omega) fun p' m' d' H4 h4 f4 g4 => ?_
  have gA : ∀ k ∈ blkL p, k ∈ blkL a ∨ H2.size ≤ k := fun k hk => (g3 k hk).imp id fun h => by omega
  have gB : ∀ k ∈ blkL p', k ∈ blkL a' ∨ H2.size ≤ k := fun k hk => (g4 k hk).imp id fun h => by have := f3.size; omega
  have pA : ∀ k ∈ blkL p, k ∉ blkL a' := fun k hk hk2 => (gA k hk).elim (fun h => k5 k h hk2) fun h => by have := hinB k hk2; omega
  have t1 := tsL_get hi
  have t2 := vsL_get hi
  refine two_done h hin hS hb hb1 (p := p) (m := m) (d := d) (p' := p') (m' := m') (d' := d') ?_ ?_ ?_ gA gB (fun k hk hk2 hge => ?_) hk
  · have := h3'.fr f4 (blk_of_ne pA)
    rw [List.take_add_one, t1]; exact this
  · rw [List.take_add_one, t2]; exact h4
  · have f13 : Fr (blkL a ++ blkL a') (setLp H2 l R0 .busy none) H3 := hx.trans' f3 (by simp) fun k hk _ => List.mem_append_left _ hk
    exact (f13.trans' hn3.fr (fun k hk _ => hk) (by simp)).trans' f4 (fun k hk _ => hk) fun k hk _ => List.mem_append_right _ hk
  · rcases g4 k hk2 with h5 | h5
    · have := hinB k h5; omega
    · have := (h3.ge k hk).2; omega
end

theorem str_app {s t : ByteArray} {x y : List UInt8} (hs : bl s = x) (ht : bl t = y) : s ++ t = ⟨(x ++ y).toArray⟩ := bl_inj (by rw [bl_app, hs, ht, bl_mk])
theorem mk_app (x y : List UInt8) : (⟨x.toArray⟩ : ByteArray) ++ ⟨y.toArray⟩ = ⟨(x ++ y).toArray⟩ := str_app (bl_mk x) (bl_mk y)
theorem tN_all {xs : List Smp} (h : SmpP xs) : ∀ x ∈ tsL xs, x < 18446744073709551616 := fun x hx => by
  unfold tsL at hx
  obtain ⟨i, hi, rfl⟩ := List.mem_map.1 hx
  exact h.tN (by have := List.mem_range.1 hi; omega)
theorem vN_all (xs : List Smp) : ∀ x ∈ vsL xs, x < 18446744073709551616 := fun x hx => by
  unfold vsL at hx
  obtain ⟨i, hi, rfl⟩ := List.mem_map.1 hx
  exact vN_lt _ _
theorem pack_le (l : List Bool) : (pack l).length ≤ l.length := pack_len l
theorem headL_len {xs : List Smp} (h : SmpP xs) : (headL xs).length ≤ 20 := by
  cases xs with
  | nil => simp [headL]
  | cons x l =>
    unfold headL
    rw [List.length_append]
    have h1 := (h.lo x (by simp))
    have h2 := uintL_len10 (n := x.1.toNat) (by omega)
    have h3 := uintL_len10 (foldN_lt (h.v x (by simp)))
    unfold intL; omega
theorem byteOf {k : Nat} (h : k ≤ 40) : IntKind.wrap .u8 ((k : Nat) : Int) = ((UInt8.ofNat k).toNat : Int) := by
  rw [wrapU8 (Int.natCast_nonneg _), UInt8.toNat_ofNat']; omega
theorem ab_str {A B b : Nat} {H H' H2 : Heap} {K : ByteArray → Heap → Prop} (hA : A ≤ 40) (hB : B ≤ 40) (hn : New H b (.cells ⟨[.int .u8 (IntKind.wrap .u8 ((A : Nat) : Int)), .int .u8 (IntKind.wrap .u8 ((B : Nat) : Int))]⟩ 5) H') {S : List Nat} (hf : Fr S H' H2) (hS : In H S) (hk : K ⟨[UInt8.ofNat A, UInt8.ofNat B].toArray⟩ H2) :
    SemWp Tryz.prog (convert 81 9 (.slice (some ⟨b, 0, none⟩) 2 2)) H2 fun v H' => ∃ s, v = .string s ∧ K s H' := by
  rw [byteOf hA, byteOf hB] at hn
  have hs : Sl encByte H' (some ⟨b, 0, none⟩) 2 2 [UInt8.ofNat A, UInt8.ofNat B] := by
    refine ⟨rfl, Nat.le_refl _, .inr ⟨b, 0, rfl, fun i x hx j v hv => ?_⟩⟩
    rw [cell_of_blk hn.get]
    match i, hx with
    | 0, hx => cases hx; match j, hv with | 0, hv => cases hv; rfl
    | 1, hx => cases hx; match j, hv with | 0, hv => cases hv; rfl
  refine cv_bs (e := 5) slice81 bT.str (by kernel_rfl) (hs.fr hf fun ad e hm => ?_) hk
  cases e
  have := hS _ hm
  have := hn.eq
  simp at *
  omega
def TwoK (xs : List Smp) (b b1 l D : Nat) (R0 : Loop) (H0 : Heap) (i : Nat) (S : List Nat) (H : Heap) (v : Value) (H' : Heap) : Prop := v = .bool true ∧ ∃ S2, Two xs b b1 l D R0 H0 (i + 1) S2 H' ∧ Fr S H H' ∧ Grow H S S2 ∧ In H' S2
theorem Encode_ok {H : Heap} {a : Option Addr} {n c : Nat} {xs : List Smp} {K : ByteArray → Int → Heap → Prop} (hx : Sl encS H a n c xs) (hv : ∀ x ∈ xs, I64 x.2) (hn : n ≤ 1000000000)
    (hbig : 5000 < n → K ⟨#[]⟩ 1 H) (hbad : n ≤ 5000 → ¬ SmpP xs → ∀ H', Fr [] H H' → K ⟨#[]⟩ 30 H') (hok : SmpP xs → ∀ H', Fr [] H H' → K ⟨(encD xs).toArray⟩ 0 H') :
    CallH Tryz.prog fn_delta_Encode ⟨[.slice a n c]⟩ H fun v H' => ∃ s e, v = .tuple ⟨[.string s, .int .i64 e]⟩ ∧ K s e H' := by
  apply vc_delta_Encode
  have hlen := hx.len
  refine brB_of (fun h => ⟨_, _, rfl, hbig (by simp at h; omega)⟩) (fun h => ?_)
  have hn5 : n ≤ 5000 := by simp at h; omega
  clear h
  refine ⟨fun vs H' => match vs with | [.int _ last, .int _ i] => ∃ j : Nat, i = j ∧ j ≤ n ∧ last = (if j = 0 then -1 else tAt xs (j - 1)) ∧ okTo xs j ∧ Fr [] H H' | _ => False, fun vs _ => match vs with | [_, .int _ i] => n - i.toNat | _ => 0,
    ⟨0, rfl, by omega, rfl, okTo_zero _, Fr.refl _ _⟩, ?_⟩
  rintro J last i H1 ⟨j, rfl, hj, rfl, hok1, f1⟩
  refine brB_of (fun hlt => ?_) (fun hge => ?_)
  · have hlt : j < n := by simp at hlt; omega
    have hs := smp_at (l := xs) (i := j) (by omega)
    refine (hx.keep f1).get rfl hs (decide_eq_true (by omega)) fun ad ea hc => ⟨_, _, ldS hc, ?_⟩
    refine var_blk (by kernel_rfl) (by kernel_rfl) pair_one (by rfl) fun v H2 hvl hvb fv => ⟨_, hvb.ld0 (by kernel_rfl) rfl, ?_⟩
    have f2 := f1.keep0 fv
    have hlast : -1 ≤ (if j = 0 then (-1 : Int) else tAt xs (j - 1)) := by
      split
      · omega
      · have := (hok1 (j - 1) (by omega)).1; omega
    refine brB_of (fun h => ⟨_, _, rfl, hbad hn5 (fun hP => ?_) H2 f2⟩) (fun h => ⟨_, hvb.ld0 (by kernel_rfl) rfl, brB_of (fun h2 => ⟨_, _, rfl, hbad hn5 (fun hP => ?_) H2 f2⟩) fun h2 => ⟨_, hvb.ld0 (by kernel_rfl) rfl, ?_⟩⟩)
    · have h := of_decide_eq_true h
      have h3 := hP.okTo j (by omega)
      split at h
      · simp only at h; omega
      · have := h3.2 (by omega); simp only at h; omega
    · have h2 := of_decide_eq_true h2
      have h3 := hP.okTo j (by omega)
      simp only at h2; omega
    · have h := of_decide_eq_false h
      have h2 := of_decide_eq_false h2
      simp only at h h2
      rw [succ64 (by omega)]
      have hmu : n - ((j + 1 : Nat) : Int).toNat < n - ((j : Nat) : Int).toNat := by omega
      refine ⟨⟨j + 1, rfl, by omega, by rw [if_neg (by omega)]; rfl, okTo_succ hok1 ⟨by omega, by omega⟩ (fun h0 => ?_), f2⟩, hmu⟩
      rw [if_neg (by omega)] at h
      omega
  · have : j = n := by simp at hge; omega
    subst this
    have hP : SmpP xs := smpP_of (by omega) (by rw [← hlen]; exact hok1) hv
    have hok := hok hP
    rw [nat_wrapU (n := j) (by omega)]
    refine Uint_ok (by omega) fun H2 g2 => ?_
    have f2 := f1.keep0 g2
    refine brB_of (fun hpos => ?_) (fun hz => ?_)
    · have hpos : 0 < j := by simp at hpos; omega
      have hs := smp_at (l := xs) (i := 0) (by omega)
      have h0 := hP.at (i := 0) (by omega)
      refine (hx.keep f2).get (k := 0) rfl hs (decide_eq_true (by omega)) fun ad ea hc => ⟨tAt xs 0, by have := ldT hc; simpa [Addr.add] using this, ?_⟩
      refine (hx.keep f2).get (k := 0) rfl hs (decide_eq_true (by omega)) fun ad2 ea2 hc2 => ⟨vAt xs 0, by have := ld_part (P := Tryz.prog) (t := 3) (by kernel_rfl) hc2 (j := 1) rfl; simpa [Addr.add] using this, ?_⟩
      have eT : tAt xs 0 = (((tAt xs 0).toNat : Nat) : Int) := by omega
      rw [show IntKind.wrap .u64 (tAt xs 0) = IntKind.wrap .u64 (((tAt xs 0).toNat : Nat) : Int) by rw [← eT], nat_wrapU (n := (tAt xs 0).toNat) (by omega)]
      refine Uint_ok (by omega) fun H3 g3 => ⟨by have := ld_part (P := Tryz.prog) (t := 3) (by kernel_rfl) (hc2.keep g3) (j := 1) rfl; simpa [Addr.add] using this, ?_⟩
      have f3 := f2.keep0 g3
      refine Int_ok h0.2 fun H4 g4 => ?_
      have f4 := f3.keep0 g4
      have z1 := uintL_len10 (n := j) (by omega)
      have z2 := uintL_len10 (n := (tAt xs 0).toNat) (by omega)
      have z3 := uintL_len10 (foldN_lt h0.2)
      have ehd : headL xs = uintL (tAt xs 0).toNat ++ intL (vAt xs 0) := by
        cases xs with
        | nil => simp at hs
        | cons x l => rfl
      have ej : uintL j = uintL xs.length := by rw [← hlen]
      rw [mk_app, mk_app, ← ehd, ej]
      rw [ej] at z1
      have zh := headL_len hP
      refine chk_true (decide_eq_true (by rw [size_mk, size_mk]; unfold intL; omega)) (chk_true (decide_eq_true (by rw [size_mk, size_mk]; omega)) (brB_of (fun h1 => ⟨_, _, rfl, ?_⟩) (fun h1 => ?_)))
      · have : tailL xs = [] := by unfold tailL; rw [if_pos (by simp at h1; omega)]
        have e : encD xs = uintL xs.length ++ headL xs := by unfold encD; rw [this, List.append_nil]
        rw [← e]
        exact hok _ f4
      · have h2 : 2 ≤ xs.length := by simp at h1; omega
        intro b H5 hn5' b1 H6 hn6
        apply vc_delta_numbers
        intro b2 H7 hn7
        refine ⟨_, rfl, fun D l R0 H8 hnl hY => ?_⟩
        obtain ⟨f78, lp8, dq8, eD, el, s8⟩ := hnl.out
        have eb := hn5'.eq
        have eb1 := hn6.eq
        have eb2 := hn7.eq
        have s5 := hn5'.size
        have s6 := hn6.size
        have s7 := hn7.size
        have g48 : Fr [] H4 H8 := ((hn5'.fr.keep0 hn6.fr).keep0 hn7.fr).keep0 f78
        have f8 := f4.keep0 g48
        have hbk := ((hn5'.blk.keep hn6.fr).keep hn7.fr).keep f78
        have hbk1 := (hn6.blk.keep hn7.fr).keep f78
        have hbk2 := hn7.blk.keep f78
        have nd0 : (b :: b1 :: l :: D :: (blkL (none : Option Addr) ++ blkL (none : Option Addr))).Nodup := by
          simp only [List.nodup_cons, List.mem_cons, blkL, List.append_nil, List.not_mem_nil, or_false, not_or]
          refine ⟨⟨by omega, by omega, by omega⟩, ⟨by omega, by omega⟩, by omega, by simp, List.nodup_nil⟩
        have hlo : ∀ k ∈ [b, b1, l, D], H4.size ≤ k ∧ k < H8.size ∧ k ≠ b2 := fun k hk => by
          simp only [List.mem_cons, List.mem_nil_iff, or_false] at hk
          omega
        have hxa : ∀ k ∈ blkL a, k < H.size := fun k hk => by
          cases a with
          | none => simp [blkL] at hk
          | some ad =>
            simp [blkL] at hk
            obtain ⟨bb, off, e1, e2⟩ := hx.arr.lt (by intro e; rw [e] at h2; simp at h2)
            cases e1
            simp at hk
            omega
        have s4 := f4.size
        refine CallV.mono (numbers_ok (K := fun H9 => ∃ S1, Two xs b b1 l D R0 H4 (j - 1) S1 H9 ∧ In H9 S1 ∧ Fr [] H4 H9) hbk2 (hx.keep f8) hP (by omega) (S := [b, b1, l, D]) (fun k hk => (hlo k hk).2.1) ⟨fun hk => (hlo b2 hk).2.2 rfl, fun k hk hk2 => by
            have := hxa k hk
            have := (hlo k hk2).1
            omega⟩ (I := Two xs b b1 l D R0 H4) ?_ ⟨Two.stab, ?_⟩ (fun S1 H9 hT hin hf hg => ⟨S1, hT, hin, g48.keep hf fun k hk => (hlo k hk).1⟩)) fun v H9 => ?_
        · exact ⟨g48, lp8, dq8, ⟨none, 0, 0, none, 0, 0, hbk, hbk1, Own.nil .., Own.nil .., rfl, nd0⟩, fun k hk => (hlo k hk).1⟩
        · intro i S H9 hi hin hT
          have hT' := hT
          obtain ⟨t1, t2, t3, ⟨p, m, d, p', m', d', q1, q2, q3, q4, q5, q6⟩, t5⟩ := hT'
          have nbl : b ≠ l := by rw [q5] at q6; simp only [List.nodup_cons, List.mem_cons, not_or] at q6; exact q6.1.2.1
          have nb1l : b1 ≠ l := by rw [q5] at q6; simp only [List.nodup_cons, List.mem_cons, not_or] at q6; exact q6.2.1.1
          have fL := setLp_fr H9 l R0 .busy none
          have sL := setLp_size H9 l R0 .busy none
          have hbL := q1.fr fL (by simpa using nbl)
          have hb1L := q2.fr fL (by simpa using nb1l)
          have ld := fun {H' : Heap} (hf : Fr [] (setLp H9 l R0 .busy none) H') => (hbL.keep hf).ld0 (P := Tryz.prog) (t := 138) (by kernel_rfl) rfl
          have ld1 := fun {H' : Heap} (hf : Fr [] (setLp H9 l R0 .busy none) H') => (hb1L.keep hf).ld0 (P := Tryz.prog) (t := 138) (by kernel_rfl) rfl
          have hk : ∀ H4', (∃ S2, Two xs b b1 l D R0 H4 (i + 1) S2 H4' ∧ Fr S H9 H4' ∧ Grow H9 S S2 ∧ In H4' S2) → TwoK xs b b1 l D R0 H4 i S H9 (.bool true) H4' := fun H4' h => ⟨rfl, h⟩
          refine hY _ _ H9 (TwoK xs b b1 l D R0 H4 i S H9) t2 ⟨t2, p, m, d, ld (Fr.refl _ _), p', m', d', ld1 (Fr.refl _ _), ?_, ?_⟩
          · intro b3 H10 hn10
            have f10 := hn10.fr
            refine ⟨ld1 f10, ld f10, ?_, ?_⟩
            · exact two_app1 hT hin q5 q6 q3 q4 q1 q2 (by omega) hP f10 (sl_one encN (tN xs i) hn10 rfl) hk
            · intro b4 H11 hn11
              have f11 := f10.keep0 hn11.fr
              exact ⟨ld1 f11, ld f11, two_app hT hin q5 q6 q3 q4 q1 q2 (by omega) hP f11 ((sl_one encN (tN xs i) hn10 rfl).keep hn11.fr) (sl_one encN (vN xs i) hn11 rfl) (by have := hn11.eq; have := hn10.size; omega) hk⟩
          · intro b3 H10 hn10
            have f10 := hn10.fr
            refine ⟨ld1 f10, ld f10, ?_⟩
            intro b4 H11 hn11
            have f11 := f10.keep0 hn11.fr
            exact ⟨ld1 f11, ld f11, two_app hT hin q5 q6 q3 q4 q1 q2 (by omega) hP f11 (sl_one encN (tN xs i) hn11 rfl) ((sl_one encN (vN xs i) hn10 rfl).keep hn11.fr) (by have := hn10.eq; omega) hk⟩
        · rintro ⟨rfl, S1, hT, hin9, f9⟩
          obtain ⟨t1, t2, t3, ⟨p, m, d, p', m', d', q1, q2, q3, q4, q5, q6⟩, t5⟩ := hT
          have hj1 : j - 1 = (tsL xs).length := by rw [tsL_len]; omega
          have hj2 : j - 1 = (vsL xs).length := by rw [vsL_len]; omega
          rw [List.take_of_length_le (by omega)] at q3 q4
          have q7 := q6
          rw [q5] at q7
          simp only [List.nodup_cons, List.mem_cons, not_or, List.mem_append] at q7
          obtain ⟨⟨nbb1, nbl, nbD, nb, nb'⟩, ⟨nb1l, nb1D, nb1, nb1'⟩, ⟨nlD, nl, nl'⟩, _, _⟩ := q7
          have fE := setLp_fr H9 l R0 .exhausted none
          generalize hHx : setLp H9 l R0 .exhausted none = Hx at *
          have hbX := q1.fr fE (by simpa using nbl)
          have hb1X := q2.fr fE (by simpa using nb1l)
          have dqX := t3.fr fE (by simpa using fun e => nlD e.symm)
          have oX := q3.fr fE (blk_of_ne fun k kk hm => nl (by simp at hm; subst hm; exact kk))
          have oX' := q4.fr fE (blk_of_ne fun k kk hm => nl' (by simp at hm; subst hm; exact kk))
          have fX : Fr [] H4 Hx := f9.keep fE fun k hk => by simp at hk; subst hk; exact t5 _ (by rw [q5]; simp)
          have hm := oX.1
          have hm' := oX'.1
          rw [tsL_len] at hm
          rw [vsL_len] at hm'
          refine .inl ⟨t2, p, m, d, hbX.ld0 (by kernel_rfl) rfl, p', m', d', hb1X.ld0 (by kernel_rfl) rfl, ?_⟩
          refine Best_ok oX.sl (tN_all hP) (by omega) fun H10 f10 => ⟨(hb1X.keep f10).ld0 (by kernel_rfl) rfl, ?_⟩
          refine Best_ok (oX'.keep f10).sl (vN_all xs) (by omega) fun H11 f11 => ?_
          refine New02_ok fun w H12 hw hW f12 => ?_
          have fX12 : Fr [] Hx H12 := (f10.keep0 f11).keep0 f12
          refine ⟨p, m, d, (hbX.keep fX12).ld0 (by kernel_rfl) rfl, ?_⟩
          have hA := bestN_le (tsL xs)
          have hB := bestN_le (vsL xs)
          have sX11 := (f10.keep0 f11).size
          refine ⟨fun vs H' => match vs with | [.int _ i] => ∃ (q : Nat) (S' : List Nat), i = q ∧ q ≤ j - 1 ∧ WrH H' w S' (bitsTo xs (bestN (tsL xs)) (bestN (vsL xs)) q) ∧ Fr [] Hx H' ∧ (∀ k ∈ S', Hx.size ≤ k) ∧ In H' S' | _ => False, fun vs _ => match vs with | [.int _ i] => j - i.toNat | _ => 0,
            ⟨0, [w], rfl, by omega, hW, fX12, fun k hk => by simp at hk; omega, fun k hk => by
              simp at hk; subst hk
              obtain ⟨_, _, _, _, _, hh⟩ := hW.it
              obtain ⟨_, _, _, _, _, hh, _⟩ := hh.it
              exact lt_of_get hh⟩, ?_⟩
          rintro J2 i H13 ⟨q, S', rfl, hq, hWq, fq, hSq, hiq⟩
          have hbl := bitsTo_len xs hA hB q
          refine brB_of (fun hlt => ?_) (fun hge => ?_)
          · have hqm : q < m := by simp at hlt; omega
            refine (oX.keep fq).idx rfl (tsL_get (l := xs) (i := q) (by omega)) (decide_eq_true (by omega)) fun ad3 ea3 hc3 => ⟨_, ld_one (by kernel_rfl) hc3, ?_⟩
            refine WRice_ok hWq rfl rfl hA (hP.tN (by omega)) (by omega) fun H14 S14 hW14 f14 g14 => ?_
            have fq14 : Fr [] Hx H14 := fq.keep f14 hSq
            refine ⟨p', m', d', (hb1X.keep fq14).ld0 (by kernel_rfl) rfl, ?_⟩
            refine (oX'.keep fq14).idx rfl (vsL_get (l := xs) (i := q) (by omega)) (decide_eq_true (by omega)) fun ad4 ea4 hc4 => ⟨_, ld_one (by kernel_rfl) hc4, ?_⟩
            have hcl := codeB_le (n := tN xs q) hA
            have hs14 : ∀ k ∈ S14, Hx.size ≤ k := fun k hk => (g14 k hk).elim (hSq k) fun h => by have := fq.size; omega
            refine WRice_ok hW14 rfl rfl hB (vN_lt _ _) (by rw [List.length_append]; omega) fun H15 S15 hW15 f15 g15 => ?_
            rw [succ64 (by omega)]
            have hmu : j - ((q + 1 : Nat) : Int).toNat < j - ((q : Nat) : Int).toNat := by omega
            refine ⟨⟨q + 1, S15, rfl, by omega, by rw [bitsTo_succ, ← List.append_assoc]; exact hW15, fq14.keep f15 hs14, fun k hk => (g15 k hk).elim (hs14 k) fun h => by have := fq14.size; omega, ?_⟩, hmu⟩
            obtain ⟨_, _, _, _, _, hB15⟩ := hW15.it
            obtain ⟨_, _, _, _, _, hg15, _, ho, eS, _⟩ := hB15.it
            intro k hk
            rw [eS] at hk
            rcases List.mem_cons.1 hk with e | hk
            · rw [e]; exact lt_of_get hg15
            · exact (ho.ge k hk).2
          · have : q = j - 1 := by simp at hge; omega
            subst this
            have zt : tailL xs = UInt8.ofNat (bestN (tsL xs)) :: UInt8.ofNat (bestN (vsL xs)) :: pack (bitsTo xs (bestN (tsL xs)) (bestN (vsL xs)) (j - 1)) := by
              unfold tailL; rw [if_neg (by omega), hlen]
            have ze : (⟨(uintL xs.length ++ headL xs).toArray⟩ : ByteArray) ++ ⟨[UInt8.ofNat (bestN (tsL xs)), UInt8.ofNat (bestN (vsL xs))].toArray⟩ ++ ⟨(pack (bitsTo xs (bestN (tsL xs)) (bestN (vsL xs)) (j - 1))).toArray⟩ = ⟨(encD xs).toArray⟩ := by
              rw [mk_app, mk_app]
              unfold encD
              rw [zt]; simp
            have zp := pack_le (bitsTo xs (bestN (tsL xs)) (bestN (vsL xs)) (j - 1))
            have zz : (uintL xs.length ++ headL xs).length ≤ 30 := by rw [List.length_append]; omega
            have zs1 : (⟨(uintL xs.length ++ headL xs).toArray⟩ : ByteArray).size + (⟨[UInt8.ofNat (bestN (tsL xs)), UInt8.ofNat (bestN (vsL xs))].toArray⟩ : ByteArray).size ≤ 9223372036854775807 := by
              rw [size_mk, size_mk]; simp only [List.length_cons, List.length_nil]; omega
            have zs2 : ((⟨(uintL xs.length ++ headL xs).toArray⟩ : ByteArray) ++ ⟨[UInt8.ofNat (bestN (tsL xs)), UInt8.ofNat (bestN (vsL xs))].toArray⟩).size + (⟨(pack (bitsTo xs (bestN (tsL xs)) (bestN (vsL xs)) (j - 1))).toArray⟩ : ByteArray).size ≤ 9223372036854775807 := by
              rw [mk_app, size_mk, size_mk, List.length_append]; simp only [List.length_cons, List.length_nil]; omega
            have fin : ∀ H', Fr [] Hx H' → Dq H' D ∧ ∃ s e, Value.tuple ⟨[.string (⟨(uintL xs.length ++ headL xs).toArray⟩ ++ ⟨[UInt8.ofNat (bestN (tsL xs)), UInt8.ofNat (bestN (vsL xs))].toArray⟩ ++ ⟨(pack (bitsTo xs (bestN (tsL xs)) (bestN (vsL xs)) (j - 1))).toArray⟩), .int .i64 0]⟩ = .tuple ⟨[.string s, .int .i64 e]⟩ ∧ K s e (shutD H' D) := fun H' hf => by
              refine ⟨dqX.fr hf (by simp), _, _, rfl, ?_⟩
              rw [ze]
              exact hok _ ((f4.keep0 (fX.keep0 hf)).keep (shutD_fr H' D) fun k hk => by simp at hk; omega)
            refine ⟨fun b5 H14 hn14 => ⟨?_, ?_⟩, ?_⟩
            · refine ab_str hA hB hn14 (S := []) (Fr.refl _ _) (fun k hk => by simp at hk) (chk_true (decide_eq_true zs1) ?_)
              refine Bytes_ok ⟨hWq.it.imp fun _ h => h.imp fun _ h => ⟨h.1, h.2.1, h.2.2.1, h.2.2.2.keep hn14.fr⟩⟩ (by omega) fun H15 f15 => chk_true (decide_eq_true zs2) (fin H15 ((fq.keep0 hn14.fr).keep f15 hSq))
            · refine Bytes_ok ⟨hWq.it.imp fun _ h => h.imp fun _ h => ⟨h.1, h.2.1, h.2.2.1, h.2.2.2.keep hn14.fr⟩⟩ (by omega) fun H15 f15 => ?_
              exact ab_str hA hB hn14 f15 hiq (chk_true (decide_eq_true zs1) (chk_true (decide_eq_true zs2) (fin H15 ((fq.keep0 hn14.fr).keep f15 hSq))))
            · refine Bytes_ok hWq (by omega) fun H15 f15 b5 H16 hn16 => ?_
              exact ab_str hA hB hn16 (S := []) (Fr.refl _ _) (fun k hk => by simp at hk) (chk_true (decide_eq_true zs1) (chk_true (decide_eq_true zs2) (fin H16 ((fq.keep f15 hSq).keep0 hn16.fr))))
    · have hj0 : j = 0 := by simp at hz; omega
      subst hj0
      have e : xs = [] := List.eq_nil_of_length_eq_zero (by omega)
      subst e
      refine brB_of (fun _ => ⟨_, _, rfl, ?_⟩) (fun h => by simp at h)
      have e : encD [] = uintL 0 := by simp [encD, headL, tailL]
      rw [← e]
      exact hok _ f2

structure TwoR (xs : List Smp) (base : Nat) (H : Heap) (a : Option Addr) (n c : Nat) (a' : Option Addr) (n' c' : Nat) (i : Nat) : Prop where
  own : Own encN 89 base H a n c ((tsL xs).take i)
  own' : Own encN 89 base H a' n' c' ((vsL xs).take i)
  dj : ∀ k ∈ blkL a, k ∉ blkL a'
theorem rEncode_ok {H : Heap} {a : Option Addr} {n c : Nat} {xs : List Smp} {K : ByteArray → Int → Heap → Prop} (hx : Sl encS H a n c xs) (hv : ∀ x ∈ xs, I64 x.2) (hn : n ≤ 1000000000)
    (hbig : 5000 < n → K ⟨#[]⟩ 1 H) (hbad : n ≤ 5000 → ¬ SmpP xs → ∀ H', Fr [] H H' → K ⟨#[]⟩ 30 H') (hok : SmpP xs → ∀ H', Fr [] H H' → K ⟨(encD xs).toArray⟩ 0 H') :
    CallH Tryz.prog fn_ref03_Encode ⟨[.slice a n c]⟩ H fun v H' => ∃ s e, v = .tuple ⟨[.string s, .int .i64 e]⟩ ∧ K s e H' := by
  apply vc_ref03_Encode
  have hlen := hx.len
  refine brB_of (fun h => ⟨_, _, rfl, hbig (by simp at h; omega)⟩) (fun h => ?_)
  have hn5 : n ≤ 5000 := by simp at h; omega
  clear h
  refine ⟨fun vs H' => match vs with | [.int _ i] => ∃ j : Nat, i = j ∧ j ≤ n ∧ okTo xs j ∧ H' = H | _ => False, fun vs _ => match vs with | [.int _ i] => n - i.toNat | _ => 0,
    ⟨0, rfl, by omega, okTo_zero _, rfl⟩, ?_⟩
  rintro J i H1 ⟨j, rfl, hj, hok1, rfl⟩
  refine brB_of (fun hlt => ?_) (fun hge => ?_)
  · have hlt : j < n := by simp at hlt; omega
    have hs := smp_at (l := xs) (i := j) (by omega)
    refine ⟨fun _ H' => H' = H1 ∧ (0 ≤ tAt xs j ∧ tAt xs j < 1099511627776) ∧ (0 < j → tAt xs (j - 1) < tAt xs j), ⟨fun vs H' => match vs with | [.bool b] => H' = H1 ∧ (b = false ↔ (0 ≤ tAt xs j ∧ tAt xs j < 1099511627776) ∧ (0 < j → tAt xs (j - 1) < tAt xs j)) | _ => False, ?_, ?_⟩, ?_⟩
    · refine hx.get rfl hs (decide_eq_true (by omega)) fun ad ea hc => ⟨_, ldT hc, ?_⟩
      refine brB_of (fun h => ⟨rfl, by simp at h; simp; omega⟩) fun h => ?_
      have h := of_decide_eq_false h
      refine hx.get rfl hs (decide_eq_true (by omega)) fun ad ea hc => ⟨_, ldT hc, ?_⟩
      refine brB_of (fun h2 => ⟨rfl, by simp at h2; simp; omega⟩) fun h2 => ?_
      have h2 := of_decide_eq_false h2
      simp only at h h2
      refine brB_of (fun h0 => ?_) fun h0 => ⟨rfl, ?_⟩
      · have h0 : 0 < j := by simp at h0; omega
        have hs0 := smp_at (l := xs) (i := j - 1) (by omega)
        refine hx.get rfl hs (decide_eq_true (by omega)) fun ad ea hc => ⟨_, ldT hc, ?_⟩
        rw [pred64 (by omega) h0]
        refine hx.get rfl hs0 (decide_eq_true (by omega)) fun ad ea hc => ⟨_, ldT hc, rfl, ?_⟩
        simp only [decide_eq_false_iff_not]
        omega
      · have : j = 0 := by simp at h0; omega
        subst this
        simp
        omega
    · rintro J b H2 ⟨rfl, hb⟩
      refine brB_of (fun h => ⟨_, _, rfl, hbad hn5 (fun hP => ?_) H2 (Fr.refl _ _)⟩) (fun h => ⟨rfl, hb.1 h⟩)
      have := hb.2 (hP.okTo j (by omega))
      rw [this] at h
      cases h
    · rintro J H2 ⟨rfl, h1, h2⟩
      rw [succ64 (by omega)]
      have hmu : n - ((j + 1 : Nat) : Int).toNat < n - ((j : Nat) : Int).toNat := by omega
      exact ⟨⟨j + 1, rfl, by omega, okTo_succ hok1 h1 h2, rfl⟩, hmu⟩
  · have : j = n := by simp at hge; omega
    subst this
    have hP : SmpP xs := smpP_of (by omega) (by rw [← hlen]; exact hok1) hv
    have hok := hok hP
    rw [nat_wrapU (n := j) (by omega)]
    refine rUint_ok (by omega) fun H2 f2 => ?_
    refine brB_of (fun hz => ⟨_, _, rfl, ?_⟩) (fun hpos => ?_)
    · have hj0 : j = 0 := by simp at hz; omega
      subst hj0
      have e : xs = [] := List.eq_nil_of_length_eq_zero (by omega)
      subst e
      have e : encD [] = uintL 0 := by simp [encD, headL, tailL]
      rw [← e]
      exact hok _ f2
    · have hpos : 0 < j := by simp at hpos; omega
      have hs := smp_at (l := xs) (i := 0) (by omega)
      have h0 := hP.at (i := 0) (by omega)
      refine (hx.keep f2).get (k := 0) rfl hs (decide_eq_true (by omega)) fun ad ea hc => ⟨tAt xs 0, by have := ldT hc; simpa [Addr.add] using this, ?_⟩
      refine (hx.keep f2).get (k := 0) rfl hs (decide_eq_true (by omega)) fun ad2 ea2 hc2 => ⟨vAt xs 0, by have := ld_part (P := Tryz.prog) (t := 3) (by kernel_rfl) hc2 (j := 1) rfl; simpa [Addr.add] using this, ?_⟩
      have eT : tAt xs 0 = (((tAt xs 0).toNat : Nat) : Int) := by omega
      rw [show IntKind.wrap .u64 (tAt xs 0) = IntKind.wrap .u64 (((tAt xs 0).toNat : Nat) : Int) by rw [← eT], nat_wrapU (n := (tAt xs 0).toNat) (by omega)]
      refine rUint_ok (by omega) fun H3 g3 => ⟨by have := ld_part (P := Tryz.prog) (t := 3) (by kernel_rfl) (hc2.keep g3) (j := 1) rfl; simpa [Addr.add] using this, ?_⟩
      have f3 := f2.keep0 g3
      have z1 := uintL_len10 (n := j) (by omega)
      have z2 := uintL_len10 (n := (tAt xs 0).toNat) (by omega)
      have z3 := uintL_len10 (foldN_lt h0.2)
      refine chk_true (decide_eq_true (by rw [size_mk, size_mk]; omega)) ?_
      refine rInt_ok h0.2 fun H4 g4 => ?_
      have f4 := f3.keep0 g4
      have ehd : headL xs = uintL (tAt xs 0).toNat ++ intL (vAt xs 0) := by
        cases xs with
        | nil => simp at hs
        | cons x l => rfl
      have ej : uintL j = uintL xs.length := by rw [← hlen]
      rw [mk_app, mk_app, List.append_assoc, ← ehd, ej]
      rw [ej] at z1
      have zh := headL_len hP
      refine chk_true (decide_eq_true (by rw [size_mk, size_mk, List.length_append]; unfold intL; omega)) (brB_of (fun h1 => ⟨_, _, rfl, ?_⟩) (fun h1 => ?_))
      · have : tailL xs = [] := by unfold tailL; rw [if_pos (by simp at h1; omega)]
        have e : encD xs = uintL xs.length ++ headL xs := by unfold encD; rw [this, List.append_nil]
        rw [← e]
        exact hok _ f4
      · have h2 : 2 ≤ xs.length := by simp at h1; omega
        intro b H5 hn5' b1 H6 hn6
        have s4 := f4.size
        have eb := hn5'.eq
        have eb1 := hn6.eq
        have s5 := hn5'.size
        refine ⟨fun vs H' => match vs with | [.slice p m d, .slice p' m' d', .int _ ah, .int _ i] => ∃ q : Nat, i = ((q + 1 : Nat) : Int) ∧ q + 1 ≤ j ∧ ah = aAt xs q ∧ TwoR xs H1.size H' p m d p' m' d' q ∧ Fr [] H1 H' | _ => False, fun vs _ => match vs with | [_, _, _, .int _ i] => j - i.toNat | _ => 0,
          ⟨0, rfl, by omega, rfl, ⟨(Own.made encN 89 hn5' (by omega)).keep hn6.fr, Own.made encN 89 hn6 (by omega), fun k hk hk2 => by simp [blkL] at hk hk2; omega⟩, (f4.keep0 hn5'.fr).keep0 hn6.fr⟩, ?_⟩
        rintro J3 p m d p' m' d' ah i H7 ⟨q, rfl, hq, rfl, ⟨o1, o2, od⟩, f7⟩
        have hm := o1.1
        have hm' := o2.1
        rw [List.length_take, tsL_len] at hm
        rw [List.length_take, vsL_len] at hm'
        refine brB_of (fun hlt => ?_) (fun hge => ?_)
        · have hlt : q + 1 < xs.length := by simp at hlt; omega
          have hsq := smp_at (l := xs) (i := q) (by omega)
          have hsq1 := smp_at (l := xs) (i := q + 1) (by omega)
          have e1 : IntKind.wrap .i64 (((q + 1 : Nat) : Int) - 1) = ((q : Nat) : Int) := by rw [wrap64_of (by omega) (by omega)]; omega
          rw [e1, succ64 (by omega)]
          refine (hx.keep f7).get rfl hsq1 (decide_eq_true (by omega)) fun ad3 ea3 hc3 => ⟨_, ldT hc3, ?_⟩
          refine (hx.keep f7).get rfl hsq (decide_eq_true (by omega)) fun ad4 ea4 hc4 => ⟨_, ldT hc4, ?_⟩
          have hdi := hP.dist (i := q) (by omega)
          have hah := hP.ahead (i := q) (by omega)
          have e3 : IntKind.wrap .i64 (tAt xs (q + 1) - tAt xs q) = dAt xs q := wrap64_of (n := dAt xs q) (by omega) (by omega)
          have e4 : IntKind.wrap .i64 (dAt xs q - aAt xs q) = dAt xs q - aAt xs q := wrap64_of (by omega) (by omega)
          rw [e3, e4]
          refine rFold_ok ⟨by omega, by omega⟩ fun b3 H8 hn8 => ?_
          have f8 := f7.keep0 hn8.fr
          refine ap_grow slice138 elem89 (o1.keep hn8.fr) (sl_one encN (tN xs q) hn8 rfl) (by have := f8.size; omega) (by omega) fun p2 m2 d2 H9 h9 g9 w9 => ?_
          have f9 : Fr [] H1 H9 := f8.keep g9 fun k hk => (o1.ge k hk).1
          refine (hx.keep f9).get rfl hsq1 (decide_eq_true (by omega)) fun ad5 ea5 hc5 => ⟨_, ld_part (by kernel_rfl) hc5 (j := 1) rfl, ?_⟩
          refine (hx.keep f9).get rfl hsq (decide_eq_true (by omega)) fun ad6 ea6 hc6 => ⟨_, ld_part (by kernel_rfl) hc6 (j := 1) rfl, ?_⟩
          refine rFold_ok (wrap_I64 _) fun b4 H10 hn10 => ?_
          have f10 := f9.keep0 hn10.fr
          have o2' := ((o2.keep hn8.fr).fr g9 (blk_of_ne fun k kk hm => od k hm kk)).keep hn10.fr
          refine ap_grow slice138 elem89 o2' (sl_one encN (vN xs q) hn10 rfl) (by have := f10.size; omega) (by omega) fun p3 m3 d3 H11 h11 g11 w11 => ?_
          have s8 := hn8.size
          have s10 := hn10.size
          have s9 := g9.size
          have djn : ∀ k ∈ blkL p2, k ∉ blkL p' := fun k hk hk2 => (w9 k hk).elim (fun h => od k h hk2) fun h => by have := (o2.ge k hk2).2; omega
          have t1 := tsL_get hlt
          have t2 := vsL_get hlt
          have hmu : j - ((q + 1 + 1 : Nat) : Int).toNat < j - ((q + 1 : Nat) : Int).toNat := by omega
          refine ⟨⟨q + 1, rfl, by omega, by unfold aAt; rw [if_neg (by omega)]; rfl, ⟨?_, ?_, fun k hk hk2 => ?_⟩, f10.keep g11 fun k hk => (o2'.ge k hk).1⟩, hmu⟩
          · rw [List.take_add_one, t1]
            exact (h9.keep hn10.fr).fr g11 (blk_of_ne djn)
          · rw [List.take_add_one, t2]; exact h11
          · rcases w11 k hk2 with h | h
            · exact djn k hk h
            · have := (h9.ge k hk).2; omega
        · have hqj : q + 1 = j := by simp at hge; omega
          rw [List.take_of_length_le (by rw [tsL_len]; omega)] at o1
          rw [List.take_of_length_le (by rw [vsL_len]; omega)] at o2
          refine rBest_ok o1.sl (tN_all hP) (by omega) fun H10 f10 => ?_
          refine rBest_ok (o2.keep f10).sl (vN_all xs) (by omega) fun H11 f11 => ?_
          refine rNew02_ok fun w H12 hw hW f12 => ?_
          have fX12 : Fr [] H7 H12 := (f10.keep0 f11).keep0 f12
          have hA := bestN_le (tsL xs)
          have hB := bestN_le (vsL xs)
          have sX11 := (f10.keep0 f11).size
          refine ⟨fun vs H' => match vs with | [.int _ i] => ∃ (q : Nat) (S' : List Nat), i = q ∧ q ≤ j - 1 ∧ RwH H' w S' (bitsTo xs (bestN (tsL xs)) (bestN (vsL xs)) q) ∧ Fr [] H7 H' ∧ (∀ k ∈ S', H7.size ≤ k) | _ => False, fun vs _ => match vs with | [.int _ i] => j - i.toNat | _ => 0,
            ⟨0, [w], rfl, by omega, hW, fX12, fun k hk => by simp at hk; omega⟩, ?_⟩
          rintro J2 i H13 ⟨q2, S', rfl, hq2, hWq, fq, hSq⟩
          have hbl := bitsTo_len xs hA hB q2
          refine brB_of (fun hlt => ?_) (fun hge => ?_)
          · have hqm : q2 < m := by simp at hlt; omega
            refine (o1.keep fq).idx rfl (tsL_get (l := xs) (i := q2) (by omega)) (decide_eq_true (by omega)) fun ad3 ea3 hc3 => ⟨_, ld_one (by kernel_rfl) hc3, ?_⟩
            refine rWRice_ok hWq rfl rfl hA (hP.tN (by omega)) (by omega) fun H14 S14 hW14 f14 g14 => ?_
            have fq14 : Fr [] H7 H14 := fq.keep f14 hSq
            refine (o2.keep fq14).idx rfl (vsL_get (l := xs) (i := q2) (by omega)) (decide_eq_true (by omega)) fun ad4 ea4 hc4 => ⟨_, ld_one (by kernel_rfl) hc4, ?_⟩
            have hcl := codeB_le (n := tN xs q2) hA
            have hs14 : ∀ k ∈ S14, H7.size ≤ k := fun k hk => (g14 k hk).elim (hSq k) fun h => by have := fq.size; omega
            refine rWRice_ok hW14 rfl rfl hB (vN_lt _ _) (by rw [List.length_append]; omega) fun H15 S15 hW15 f15 g15 => ?_
            rw [succ64 (by omega)]
            have hmu : j - ((q2 + 1 : Nat) : Int).toNat < j - ((q2 : Nat) : Int).toNat := by omega
            exact ⟨⟨q2 + 1, S15, rfl, by omega, by rw [bitsTo_succ, ← List.append_assoc]; exact hW15, fq14.keep f15 hs14, fun k hk => (g15 k hk).elim (hs14 k) fun h => by have := fq14.size; omega⟩, hmu⟩
          · have : q2 = j - 1 := by simp at hge; omega
            subst this
            have zt : tailL xs = UInt8.ofNat (bestN (tsL xs)) :: UInt8.ofNat (bestN (vsL xs)) :: pack (bitsTo xs (bestN (tsL xs)) (bestN (vsL xs)) (j - 1)) := by
              unfold tailL; rw [if_neg (by omega), hlen]
            have ze : (⟨(uintL xs.length ++ headL xs).toArray⟩ : ByteArray) ++ ⟨[UInt8.ofNat (bestN (tsL xs)), UInt8.ofNat (bestN (vsL xs))].toArray⟩ ++ ⟨(pack (bitsTo xs (bestN (tsL xs)) (bestN (vsL xs)) (j - 1))).toArray⟩ = ⟨(encD xs).toArray⟩ := by
              rw [mk_app, mk_app]
              unfold encD
              rw [zt]; simp
            have zp := pack_le (bitsTo xs (bestN (tsL xs)) (bestN (vsL xs)) (j - 1))
            have zz : (uintL xs.length ++ headL xs).length ≤ 30 := by rw [List.length_append]; omega
            have zs1 : (⟨(uintL xs.length ++ headL xs).toArray⟩ : ByteArray).size + (⟨[UInt8.ofNat (bestN (tsL xs)), UInt8.ofNat (bestN (vsL xs))].toArray⟩ : ByteArray).size ≤ 9223372036854775807 := by
              rw [size_mk, size_mk]; simp only [List.length_cons, List.length_nil]; omega
            have zs2 : ((⟨(uintL xs.length ++ headL xs).toArray⟩ : ByteArray) ++ ⟨[UInt8.ofNat (bestN (tsL xs)), UInt8.ofNat (bestN (vsL xs))].toArray⟩).size + (⟨(pack (bitsTo xs (bestN (tsL xs)) (bestN (vsL xs)) (j - 1))).toArray⟩ : ByteArray).size ≤ 9223372036854775807 := by
              rw [mk_app, size_mk, size_mk, List.length_append]; simp only [List.length_cons, List.length_nil]; omega
            have fin : ∀ H', Fr [] H7 H' → ∃ s e, Value.tuple ⟨[.string (⟨(uintL xs.length ++ headL xs).toArray⟩ ++ ⟨[UInt8.ofNat (bestN (tsL xs)), UInt8.ofNat (bestN (vsL xs))].toArray⟩ ++ ⟨(pack (bitsTo xs (bestN (tsL xs)) (bestN (vsL xs)) (j - 1))).toArray⟩), .int .i64 0]⟩ = .tuple ⟨[.string s, .int .i64 e]⟩ ∧ K s e H' := fun H' hf => by
              refine ⟨_, _, rfl, ?_⟩
              rw [ze]
              exact hok _ (f7.keep0 hf)
            have keepR : ∀ {H'}, Fr [] H13 H' → RwH H' w S' (bitsTo xs (bestN (tsL xs)) (bestN (vsL xs)) (j - 1)) := fun hf => by
              obtain ⟨o, l, c, r1, r2, r3, r4⟩ := hWq.it
              exact ⟨o, l, c, r1.keep hf, r2.keep hf, r3, r4⟩
            refine ⟨fun b5 H14 hn14 => ⟨?_, ?_⟩, ?_⟩
            · refine ab_str hA hB hn14 (S := []) (Fr.refl _ _) (fun k hk => by simp at hk) (chk_true (decide_eq_true zs1) ?_)
              exact rBytes_ok (keepR hn14.fr) (by omega) fun H15 f15 => chk_true (decide_eq_true zs2) (fin H15 ((fq.keep0 hn14.fr).keep0 f15))
            · refine rBytes_ok (keepR hn14.fr) (by omega) fun H15 f15 => ?_
              exact ab_str hA hB hn14 f15 (fun k hk => by simp at hk) (chk_true (decide_eq_true zs1) (chk_true (decide_eq_true zs2) (fin H15 ((fq.keep0 hn14.fr).keep0 f15))))
            · refine rBytes_ok hWq (by omega) fun H15 f15 b5 H16 hn16 => ?_
              exact ab_str hA hB hn16 (S := []) (Fr.refl _ _) (fun k hk => by simp at hk) (chk_true (decide_eq_true zs1) (chk_true (decide_eq_true zs2) (fin H16 ((fq.keep0 f15).keep0 hn16.fr))))

def RdR (R : List Bool) (k p : Nat) (n e : Int) (p' : Nat) : Prop :=
  (∃ v m : Nat, n = v ∧ v < 18446744073709551616 ∧ e = 0 ∧ k ≤ 40 ∧ riceP (R.drop p) k = some (v, m) ∧ p' = p + m) ∨ (n = 0 ∧ e ≠ 0 ∧ p' = p ∧ (k > 40 ∨ riceP (R.drop p) k = none))
theorem RdR.nat {R : List Bool} {k p p' : Nat} {n e : Int} (h : RdR R k p n e p') : ∃ v : Nat, n = v ∧ v < 18446744073709551616 := by
  rcases h with ⟨v, m, h1, h2, _⟩ | ⟨h1, _⟩
  · exact ⟨v, h1, h2⟩
  · exact ⟨0, h1, by decide⟩
theorem RdR.of {R r : List Bool} {k p p' v : Nat} {n e : Int} (h : RdR R k p n e p') (hk : k ≤ 40) (hv : v < 18446744073709551616) (hr : R.drop p = codeB v k ++ r) : e = 0 ∧ n = v ∧ p' = p + (codeB v k).length := by
  have hc := rice_code (k := k) hv r
  rw [← hr] at hc
  rcases h with ⟨w, m, h1, h2, h3, h4, h5, h6⟩ | ⟨_, _, _, h | h⟩
  · rw [hc] at h5
    obtain ⟨rfl, rfl⟩ := Prod.mk.inj (Option.some.inj h5)
    exact ⟨h3, h1, h6⟩
  · omega
  · rw [hc] at h; cases h
theorem Rice_rd {H : Heap} {r : Nat} {s : ByteArray} {kk : Int} {a k : Nat} {K : Int → Int → Heap → Prop} (hb : Blk H ⟨r, 0, none⟩ [.string s, .int .i64 (a : Int)]) (ek : kk = k) (ha : a ≤ 8 * s.size) (hs : s.size ≤ 1000000000000)
    (hk : ∀ n e p' H', RdR (bitsL (bl s)) k a n e p' → p' ≤ 8 * s.size → Blk H' ⟨r, 0, none⟩ [.string s, .int .i64 (p' : Int)] → Fr [r] H H' → K n e H') :
    CallH Tryz.prog fn_rice_Reader_Rice ⟨[.pointer (some ⟨r, 0, none⟩), .int .i64 kk]⟩ H fun v H' => ∃ n e, v = .tuple ⟨[.int .u64 n, .int .i64 e]⟩ ∧ K n e H' :=
  Rice_ok hb rfl ek ha hs (fun h e he => hk 0 e a H (.inr ⟨rfl, he, rfl, h⟩) ha hb (Fr.refl _ _)) fun h40 n m H' h1 h2 h3 h4 h5 => hk n 0 (a + m) H' (.inl ⟨n, m, rfl, h2, rfl, h40, h1, rfl⟩) h3 h4 h5
structure HypB (A B : Nat) (s2 : ByteArray) (N : Nat) (x0 : Smp) (L : List Smp) : Prop where
  P : SmpP L
  len : L.length = N
  fst : L[0]? = some x0
  A40 : A ≤ 40
  B40 : B ≤ 40
  bits : ∃ m, m < 8 ∧ bitsL (bl s2) = bitsTo L A B (N - 1) ++ List.replicate m false
theorem HypB.next {A B N p p1 p2 j : Nat} {s2 : ByteArray} {x0 : Smp} {L : List Smp} {n1 e1 n2 e2 : Int} (hL : HypB A B s2 N x0 L) (hj : j + 1 < N) (hp : p = (bitsTo L A B j).length) (h1 : RdR (bitsL (bl s2)) A p n1 e1 p1) (h2 : RdR (bitsL (bl s2)) B p1 n2 e2 p2) :
    e1 = 0 ∧ e2 = 0 ∧ n1 = (tN L j : Nat) ∧ n2 = (vN L j : Nat) ∧ p2 = (bitsTo L A B (j + 1)).length := by
  obtain ⟨m, _, hb⟩ := hL.bits
  obtain ⟨r, hr⟩ := bitsTo_split L A B (i := j) (m := N - 1) (by omega)
  rw [hr] at hb
  have hlen := hL.len
  have d1 : (bitsL (bl s2)).drop p = codeB (tN L j) A ++ (codeB (vN L j) B ++ (r ++ List.replicate m false)) := by
    rw [hb, hp]; simp
  obtain ⟨q1, q2, q3⟩ := h1.of hL.A40 (hL.P.tN (i := j) (by omega)) d1
  have d2 : (bitsL (bl s2)).drop p1 = codeB (vN L j) B ++ (r ++ List.replicate m false) := by
    rw [q3, ← List.drop_drop, d1]; simp
  obtain ⟨q4, q5, q6⟩ := h2.of hL.B40 (vN_lt L j) d2
  refine ⟨q1, q4, q2, q5, ?_⟩
  rw [q6, q3, hp, bitsTo_succ, List.length_append, List.length_append]; omega
structure RdS (A B N : Nat) (s2 : ByteArray) (x0 : Smp) (r base : Nat) (H : Heap) (a : Option Addr) (n c : Nat) (l : List Smp) (d : Int) (p : Nat) : Prop where
  own : Own encS 107 base H a n c l
  rd : Blk H ⟨r, 0, none⟩ [.string s2, .int .i64 (p : Int)]
  rn : r ∉ blkL a
  len : 1 ≤ l.length ∧ l.length ≤ N
  pb : p ≤ 8 * s2.size
  db : 0 ≤ d ∧ d ≤ 1099511627776
  last : 0 ≤ tAt l (l.length - 1) ∧ tAt l (l.length - 1) < 1099511627776
  v : ∀ x ∈ l, I64 x.2
  cmp : ∀ L, HypB A B s2 N x0 L → l = L.take l.length ∧ p = (bitsTo L A B (l.length - 1)).length ∧ d = aAt L (l.length - 1)
theorem tAt_take {L : List Smp} {m i : Nat} (h : i < m) : tAt (L.take m) i = tAt L i := by unfold tAt; rw [List.getElem?_take, if_pos h]
theorem vAt_take {L : List Smp} {m i : Nat} (h : i < m) : vAt (L.take m) i = vAt L i := by unfold vAt; rw [List.getElem?_take, if_pos h]
theorem HypB.smp {A B N : Nat} {s2 : ByteArray} {x0 : Smp} {L l : List Smp} (hL : HypB A B s2 N x0 L) (h1 : 1 ≤ l.length) (hj : l.length < N) (hl : l = L.take l.length) {d : Int} (hd : d = aAt L (l.length - 1)) :
    d + unfoldN (tN L (l.length - 1)) = dAt L (l.length - 1) ∧ 1 ≤ d + unfoldN (tN L (l.length - 1)) ∧ d + unfoldN (tN L (l.length - 1)) < 1099511627776 ∧ tAt l (l.length - 1) + (d + unfoldN (tN L (l.length - 1))) < 1099511627776 ∧
      -1099511627776 < unfoldN (tN L (l.length - 1)) ∧ unfoldN (tN L (l.length - 1)) < 1099511627776 ∧
      L[l.length]? = some (tAt l (l.length - 1) + (d + unfoldN (tN L (l.length - 1))), IntKind.i64.wrap (vAt l (l.length - 1) + unfoldN (vN L (l.length - 1)))) := by
  have hlen := hL.len
  have e1 : tAt l (l.length - 1) = tAt L (l.length - 1) := by rw [hl, List.length_take, tAt_take (by omega)]
  have e2 : vAt l (l.length - 1) = vAt L (l.length - 1) := by rw [hl, List.length_take, vAt_take (by omega)]
  have hn := next_smp hL.P (i := l.length - 1) (by omega)
  have hdi := hL.P.dist (i := l.length - 1) (by omega)
  have hmo := hL.P.more (i := l.length - 1) (by omega)
  have h2 := (hL.P.at (i := l.length - 1 + 1) (by omega)).1
  have eu : unfoldN (tN L (l.length - 1)) = dAt L (l.length - 1) - aAt L (l.length - 1) := by unfold tN; rw [unfold_fold]
  have e3 : l.length - 1 + 1 = l.length := by omega
  have ed : tAt L (l.length - 1) + dAt L (l.length - 1) = tAt L (l.length - 1 + 1) := by unfold dAt; omega
  rw [e3] at hn
  refine ⟨by rw [eu, hd]; omega, by rw [eu, hd]; omega, by rw [eu, hd]; omega, by rw [eu, hd, e1]; omega, by rw [eu]; omega, by rw [eu]; omega, ?_⟩
  rw [e1, e2, hd]; exact hn
theorem zeros_val : ∀ m, valB (List.replicate m false) = 0 := fun m => by
  induction m with
  | zero => rfl
  | succ m ih => rw [List.replicate_succ, valB_cons, ih]; simp
theorem RdS.all {A B N r base n c p : Nat} {s2 : ByteArray} {x0 : Smp} {H : Heap} {a : Option Addr} {l : List Smp} {d : Int} (h : RdS A B N s2 x0 r base H a n c l d p) (hl : l.length = N) {L : List Smp} (hL : HypB A B s2 N x0 L) :
    l = L ∧ ((bitsL (bl s2)).drop p).length < 8 ∧ valB ((bitsL (bl s2)).drop p) = 0 := by
  obtain ⟨h1, h2, h3⟩ := h.cmp L hL
  obtain ⟨m, hm, hb⟩ := hL.bits
  have hlen := hL.len
  refine ⟨by rw [h1, List.take_of_length_le (by omega)], ?_⟩
  have : (bitsL (bl s2)).drop p = List.replicate m false := by
    rw [hb, h2, hl]; simp
  rw [this, List.length_replicate, zeros_val]
  exact ⟨hm, rfl⟩
theorem RdS.more {A B N r base n c p p1 p2 : Nat} {s2 : ByteArray} {x0 : Smp} {H H' : Heap} {a : Option Addr} {n' c' : Nat} {a' : Option Addr} {l : List Smp} {d n1 e1 n2 e2 : Int} {v1 v2 : Nat} (h : RdS A B N s2 x0 r base H a n c l d p) (hlt : l.length < N)
    (h1 : RdR (bitsL (bl s2)) A p n1 e1 p1) (h2 : RdR (bitsL (bl s2)) B p1 n2 e2 p2) (hv1 : n1 = v1) (hv2 : n2 = v2) (hv2' : v2 < 18446744073709551616) (hp2 : p2 ≤ 8 * s2.size)
    (hd : 1 ≤ d + unfoldN v1 ∧ d + unfoldN v1 ≤ 1099511627776) (hT : tAt l (l.length - 1) + (d + unfoldN v1) < 1099511627776)
    (ho : Own encS 107 base H' a' n' c' (l ++ [(tAt l (l.length - 1) + (d + unfoldN v1), IntKind.i64.wrap (vAt l (l.length - 1) + unfoldN v2))])) (hr : Blk H' ⟨r, 0, none⟩ [.string s2, .int .i64 (p2 : Int)]) (hrn : r ∉ blkL a') :
    RdS A B N s2 x0 r base H' a' n' c' (l ++ [(tAt l (l.length - 1) + (d + unfoldN v1), IntKind.i64.wrap (vAt l (l.length - 1) + unfoldN v2))]) (d + unfoldN v1) p2 := by
  have hl := h.len
  have hlast := h.last
  refine ⟨ho, hr, hrn, by simp; omega, hp2, by omega, ?_, ?_, ?_⟩
  · have : tAt (l ++ [(tAt l (l.length - 1) + (d + unfoldN v1), IntKind.i64.wrap (vAt l (l.length - 1) + unfoldN v2))]) ((l ++ [(tAt l (l.length - 1) + (d + unfoldN v1), IntKind.i64.wrap (vAt l (l.length - 1) + unfoldN v2))]).length - 1) = tAt l (l.length - 1) + (d + unfoldN v1) := by
      rw [List.length_append]
      unfold tAt
      simp
    rw [this]
    omega
  · intro x hx
    rcases List.mem_append.1 hx with hx | hx
    · exact h.v x hx
    · simp at hx; subst hx; exact wrap_I64 _
  · intro L hL
    obtain ⟨q1, q2, q3⟩ := h.cmp L hL
    have hN := hL.len
    obtain ⟨r1, r2, r3, r4, r5⟩ := hL.next (j := l.length - 1) (by omega) q2 h1 h2
    have ev1 : v1 = tN L (l.length - 1) := by omega
    have ev2 : v2 = vN L (l.length - 1) := by omega
    obtain ⟨z1, z2, z3, z4, z5, z6, z7⟩ := hL.smp hl.1 hlt q1 q3
    rw [← ev1, ← ev2] at z7
    rw [← ev1] at z1
    refine ⟨?_, ?_, ?_⟩
    · rw [List.length_append, List.length_cons, List.length_nil, Nat.zero_add, List.take_add_one, ← q1, z7]; rfl
    · rw [r5, List.length_append]; simp; rw [show l.length - 1 + 1 = l.length by omega]
    · rw [z1, List.length_append]
      unfold aAt
      simp
      intro e; rw [e] at hl; simp at hl
theorem ldS_last {l : List Smp} (h : 1 ≤ l.length) : l[l.length - 1]? = some (tAt l (l.length - 1), vAt l (l.length - 1)) := smp_at (by omega)
theorem wrapU_nat {n : Nat} (h : n ≤ 1000000000) : IntKind.wrap .u64 ((n : Nat) : Int) = ((n : Nat) : Int) := nat_wrapU (by omega)
theorem tail_hyp {s : ByteArray} {k N : Nat} {x0 : Smp} {L : List Smp} (hP : SmpP L) (hl : L.length = N) (hN : 2 ≤ N) (h0 : L[0]? = some x0) (hs : (bl s).drop k = tailL L) :
    k + 2 ≤ s.size ∧ HypB (atB s k) (atB s (k + 1)) (s.extract (k + 2) s.size) N x0 L := by
  have hsl := bl_len s
  have ht : tailL L = UInt8.ofNat (bestN (tsL L)) :: UInt8.ofNat (bestN (vsL L)) :: pack (bitsTo L (bestN (tsL L)) (bestN (vsL L)) (L.length - 1)) := by
    unfold tailL; rw [if_neg (by omega)]
  rw [ht] at hs
  have hlen := congrArg List.length hs
  rw [List.length_drop, List.length_cons, List.length_cons] at hlen
  have hA := bestN_le (tsL L)
  have hB := bestN_le (vsL L)
  have a0 : atB s k = bestN (tsL L) := by
    have : (bl s)[k]? = some (UInt8.ofNat (bestN (tsL L))) := by
      have := congrArg (fun l => l[0]?) hs
      simpa [List.getElem?_drop] using this
    rw [atB_of (by rw [bl_get]; exact this), UInt8.toNat_ofNat']; omega
  have a1 : atB s (k + 1) = bestN (vsL L) := by
    have : (bl s)[k + 1]? = some (UInt8.ofNat (bestN (vsL L))) := by
      have := congrArg (fun l => l[1]?) hs
      simpa [List.getElem?_drop] using this
    rw [atB_of (by rw [bl_get]; exact this), UInt8.toNat_ofNat']; omega
  refine ⟨by omega, hP, hl, h0, by omega, by omega, ?_⟩
  have e2 : bl (s.extract (k + 2) s.size) = pack (bitsTo L (bestN (tsL L)) (bestN (vsL L)) (L.length - 1)) := by
    rw [bl_ext, List.take_of_length_le (by omega), ← List.drop_drop, hs]; rfl
  rw [e2, a0, a1, ← hl]
  exact bits_pack _ _ (Nat.le_refl _)

theorem atB_i64 (s : ByteArray) (i : Nat) : IntKind.wrap .i64 (atB s i : Int) = ((atB s i : Nat) : Int) := by
  have := atB_lt s i
  exact wrap64_of (by omega) (by omega)
theorem rest_ok {H : Heap} {a : Option Addr} {c base : Nat} {x0 : Smp} {N : Nat} {nn : Int} {s : ByteArray} {K : Option Addr → Nat → Nat → Bool → Heap → Prop} (ho : Own encS 107 base H a 1 c [x0]) (hbase : base ≤ H.size) (en : nn = N) (hN : 2 ≤ N ∧ N ≤ 5000) (hs : s.size ≤ 100000000000)
    (hx0 : 0 ≤ x0.1 ∧ x0.1 < 1099511627776) (hv0 : I64 x0.2)
    (hno : (∀ L, SmpP L → L.length = N → L[0]? = some x0 → bl s ≠ tailL L) → ∀ H', Fr (blkL a) H H' → K none 0 0 false H')
    (hyes : ∀ a' c' l b H', Own encS 107 base H' a' N c' l → (∀ x ∈ l, I64 x.2) → Fr (blkL a) H H' → (∀ L, SmpP L → L.length = N → L[0]? = some x0 → bl s = tailL L → l = L ∧ b = true) → K a' N c' b H') :
    CallH Tryz.prog fn_delta_rest ⟨[.slice a 1 c, .int .i64 nn, .string s]⟩ H fun v H' => ∃ a n c b, v = .tuple ⟨[.slice a n c, .bool b]⟩ ∧ K a n c b H' := by
  subst en
  apply vc_delta_rest
  have hyp : ∀ L, SmpP L → L.length = N → L[0]? = some x0 → bl s = tailL L → 2 ≤ s.size ∧ HypB (atB s 0) (atB s 1) (s.extract 2 s.size) N x0 L := fun L h1 h2 h3 h4 => by
    have := tail_hyp (s := s) (k := 0) h1 h2 hN.1 h3 h4
    simpa using this
  refine brB_of (fun h => ⟨_, _, _, _, rfl, hno (fun L h1 h2 h3 h4 => ?_) H (Fr.refl _ _)⟩) (fun h => ?_)
  · have := (hyp L h1 h2 h3 h4).1
    simp at h; omega
  have h2 : 2 ≤ s.size := by simp at h; omega
  refine chk_true (decide_eq_true (by omega)) (chk_true (decide_eq_true (by omega)) (chk_true (decide_eq_true (by omega)) ?_))
  rw [Int.toNat_natCast, atB_i64, atB_i64]
  have hsz : (s.extract 2 s.size).size ≤ s.size := by rw [size_ext]; omega
  generalize hs2 : s.extract 2 s.size = s2 at *
  generalize hA : atB s 0 = A at *
  generalize hB : atB s 1 = B at *
  refine Read02_ok fun r H1 hr hb1 f1 => ?_
  have hin : ∀ k ∈ blkL a, k < H.size := fun k hk => (ho.ge k hk).2
  refine ⟨fun vs H' => match vs with | [.slice p m d, .int _ dd] => ∃ (l : List Smp) (q : Nat) , m = l.length ∧ RdS A B N s2 x0 r base H' p m d l dd q ∧ Fr (blkL a) H H' ∧ Grow H (blkL a) (blkL p) | _ => False, fun vs _ => match vs with | [.slice _ m _, _] => N - m | _ => 0,
    ⟨[x0], 0, rfl, ⟨ho.keep f1, hb1, fun hk => by have := hin r hk; omega, by simp; omega, by omega, by omega, ?_, fun x hx => by simp at hx; subst hx; exact hv0, fun L hL => ⟨?_, rfl, rfl⟩⟩, f1.mono (by simp), Grow.refl _ _⟩, ?_⟩
  · have : tAt [x0] ([x0].length - 1) = x0.1 := rfl
    rw [this]; exact hx0
  · have := hL.fst
    cases L with
    | nil => simp at this
    | cons y L => simp at this; subst this; simp
  rintro J p m d dd H2 ⟨l, q, rfl, hS, f2, g2⟩
  have hl := hS.len
  have noS : (∀ L, HypB A B s2 N x0 L → False) → ∀ H', Fr (blkL a) H H' → K none 0 0 false H' := fun h H' hf => hno (fun L h1 h2' h3 h4 => h L (hyp L h1 h2' h3 h4).2) H' hf
  refine brB_of (fun hlt => ?_) (fun hge => ?_)
  · have hlt : l.length < N := by simp at hlt; omega
    have hrH : H.size ≤ r := hr
    have frG : ∀ {X Y : Heap}, Fr (blkL a) H X → Fr [r] X Y → Fr (blkL a) H Y := fun h1 h2 => h1.trans' h2 (fun k hk _ => hk) fun k hk hlt' => by simp at hk; omega
    refine Rice_rd hS.rd rfl hS.pb (by omega) fun n1 e1 p1 H3 hR1 hp1 hb3 f3 => ?_
    refine Rice_rd hb3 rfl hp1 (by omega) fun n2 e2 p2 H4 hR2 hp2 hb4 f4 => ?_
    have f4' := frG (frG f2 f3) f4
    have fr4 : Fr [r] H2 H4 := f3.trans' f4 (fun k hk _ => hk) fun k hk _ => hk
    obtain ⟨v1, rfl, hv1⟩ := hR1.nat
    obtain ⟨v2, rfl, hv2⟩ := hR2.nat
    have o4 := hS.own.fr fr4 (blk_of_ne fun k kk hm => by simp at hm; subst hm; exact hS.rn kk)
    have e1' : IntKind.wrap .i64 (((l.length : Nat) : Int) - 1) = ((l.length - 1 : Nat) : Int) := pred64 (by omega) (by omega)
    rw [e1']
    refine o4.idx rfl (ldS_last hl.1) (decide_eq_true (by omega)) fun ad ea hc => ⟨_, _, ldS hc, ?_⟩
    refine var_blk (by kernel_rfl) (by kernel_rfl) pair_one (by rfl) fun vb H5 hvl hvb fv => ?_
    have f5 := f4'.trans' fv (T := blkL a) (fun k hk _ => hk) (by simp)
    refine Unfold_ok hv1 ⟨fun _ H' => H' = H5 ∧ unfoldN v1 ≤ 1099511627776 ∧ -1099511627776 ≤ unfoldN v1, ?_, ?_⟩
    · have nx := fun L (hL : HypB A B s2 N x0 L) => hL.next (j := l.length - 1) (by have := hL.len; omega) (hS.cmp L hL).2.1 hR1 hR2
      have mo := fun L (hL : HypB A B s2 N x0 L) => hL.smp hl.1 hlt (hS.cmp L hL).1 (hS.cmp L hL).2.2
      refine brB_of (fun h => ⟨_, _, _, _, rfl, noS (fun L hL => ?_) _ f5⟩) fun h => brB_of (fun h => ⟨_, _, _, _, rfl, noS (fun L hL => ?_) _ f5⟩) fun h => brB_of (fun h => ⟨_, _, _, _, rfl, noS (fun L hL => ?_) _ f5⟩) fun h3 => brB_of (fun h => ⟨_, _, _, _, rfl, noS (fun L hL => ?_) _ f5⟩) fun h4 => ⟨rfl, ?_, ?_⟩
      · have := (nx L hL).1; simp at h; omega
      · have := (nx L hL).2.1; simp at h; omega
      · have e := (nx L hL).2.2.1
        have := mo L hL
        have ev : v1 = tN L (l.length - 1) := by omega
        rw [← ev] at this
        simp at h; omega
      · have e := (nx L hL).2.2.1
        have := mo L hL
        have ev : v1 = tN L (l.length - 1) := by omega
        rw [← ev] at this
        simp at h; omega
      · simp at h3; omega
      · simp at h4; omega
    · rintro J3 H6 ⟨rfl, hm1, hm2⟩
      have hdd := hS.db
      have ed : IntKind.wrap .i64 (dd + unfoldN v1) = dd + unfoldN v1 := wrap64_of (by omega) (by omega)
      rw [ed]
      have hla := hS.last
      have nx := fun L (hL : HypB A B s2 N x0 L) => hL.next (j := l.length - 1) (by have := hL.len; omega) (hS.cmp L hL).2.1 hR1 hR2
      have mo := fun L (hL : HypB A B s2 N x0 L) => hL.smp hl.1 hlt (hS.cmp L hL).1 (hS.cmp L hL).2.2
      refine ⟨fun vs H' => vs = [.int .i64 (dd + unfoldN v1)] ∧ H' = H6 ∧ 1 ≤ dd + unfoldN v1 ∧ dd + unfoldN v1 ≤ 1099511627776 ∧ tAt l (l.length - 1) + (dd + unfoldN v1) < 1099511627776, ?_, ?_⟩
      · refine brB_of (fun h => ⟨_, _, _, _, rfl, noS (fun L hL => ?_) _ f5⟩) fun h1 => brB_of (fun h => ⟨_, _, _, _, rfl, noS (fun L hL => ?_) _ f5⟩) fun h2 => ⟨_, hvb.ld0 (by kernel_rfl) rfl, ?_⟩
        · have e := (nx L hL).2.2.1
          have := mo L hL
          have ev : v1 = tN L (l.length - 1) := by omega
          rw [← ev] at this
          simp at h; omega
        · have e := (nx L hL).2.2.1
          have := mo L hL
          have ev : v1 = tN L (l.length - 1) := by omega
          rw [← ev] at this
          simp at h; omega
        · have h1 := of_decide_eq_false h1
          have h2 := of_decide_eq_false h2
          have et : IntKind.wrap .i64 (tAt l (l.length - 1) + (dd + unfoldN v1)) = tAt l (l.length - 1) + (dd + unfoldN v1) := wrap64_of (by omega) (by omega)
          simp only
          rw [et]
          refine brB_of (fun h => ⟨_, _, _, _, rfl, noS (fun L hL => ?_) _ f5⟩) fun h3 => ⟨trivial, trivial, by omega, by omega, by simp at h3; omega⟩
          have e := (nx L hL).2.2.1
          have := mo L hL
          have ev : v1 = tN L (l.length - 1) := by omega
          rw [← ev] at this
          simp at h; omega
      · rintro J4 nd H7 ⟨e, rfl, hd1, hd2, hT⟩
        simp only [List.cons.injEq, Value.int.injEq, true_and, and_true] at e
        subst e
        refine ⟨_, hvb.ld0 (by kernel_rfl) rfl, _, hvb.ldK (j := 1) (by kernel_rfl) rfl, ?_⟩
        refine Unfold_ok hv2 ⟨hvb.ldK (j := 1) (by kernel_rfl) rfl, hvb.ld0 (by kernel_rfl) rfl, ?_⟩
        have et : IntKind.wrap .i64 (tAt l (l.length - 1) + (dd + unfoldN v1)) = tAt l (l.length - 1) + (dd + unfoldN v1) := wrap64_of (by omega) (by omega)
        simp only
        rw [et]
        intro b9 H9 hn9
        have s9 := f5.size
        have s10 := hn9.size
        refine ap_grow slice22 elem26 ((o4.keep fv).keep hn9.fr) (sl_one encS (tAt l (l.length - 1) + (dd + unfoldN v1), IntKind.i64.wrap (vAt l (l.length - 1) + unfoldN v2)) hn9 rfl) (by omega) (by omega) fun p' m' d' H10 h10 f10 g10 => ?_
        have hm' := h10.1
        have hrl : r < H7.size := Nat.lt_of_lt_of_le hb4.lt fv.size
        have hnr : r ∉ blkL p' := fun hk => (g10 r hk).elim hS.rn fun h => by omega
        have hmo := hS.more hlt hR1 hR2 rfl rfl hv2 hp2 ⟨hd1, hd2⟩ hT h10 (((hb4.keep fv).keep hn9.fr).fr f10 hS.rn) hnr
        refine ⟨⟨_, p2, hm', hmo, (f5.trans' hn9.fr (fun k hk _ => hk) (by simp)).trans' f10 (fun k hk _ => hk) fun k hk hlt' => (g2 k hk).elim id fun h => by omega, fun k hk => (g10 k hk).elim (fun h => g2 k h) fun h => .inr (by omega)⟩, ?_⟩
        · show N - m' < N - l.length
          rw [hm', List.length_append]; simp; omega
  · have hlN : l.length = N := by simp at hge; omega
    refine End_ok hS.rd hS.pb (by omega) (fun hne => ⟨_, _, _, _, rfl, ?_⟩) (fun h1 h2' => ⟨_, _, _, _, rfl, ?_⟩)
    · rw [hlN]
      refine hyes _ _ l _ _ (by have := hS.own; rw [hlN] at this; exact this) hS.v f2 fun L h1 h2' h3 h4 => ?_
      have := hS.all hlN (hyp L h1 h2' h3 h4).2
      exact absurd ⟨this.2.1, this.2.2⟩ hne
    · rw [hlN]
      refine hyes _ _ l _ _ (by have := hS.own; rw [hlN] at this; exact this) hS.v f2 fun L h1 h2'' h3 h4 => ?_
      exact ⟨(hS.all hlN (hyp L h1 h2'' h3 h4).2).1, rfl⟩

theorem GU.ok {r : List UInt8} {a : Nat} {v next e : Int} (h : GU r a v next e) (he : e = 0) : ∃ m : Nat, v = m ∧ m < 18446744073709551616 ∧ r = uintL m ++ r.drop (uintL m).length ∧ (uintL m).length ≤ r.length ∧ next = ((a + (uintL m).length : Nat) : Int) := by
  rcases h with ⟨m, h1, h2, h3, h4, h5, _⟩ | ⟨_, _, h, _⟩ | ⟨_, _, h, _⟩
  · exact ⟨m, h1, h2, h3, h4, h5⟩
  · omega
  · omega
theorem GU.bad {r t : List UInt8} {a n : Nat} {v next e : Int} (h : GU r a v next e) (he : ¬ e = 0) (hn : n < 18446744073709551616) (hr : r = uintL n ++ t) : False := he (h.of hn hr).2.2
theorem headL_cons {L : List Smp} (h : L ≠ []) : headL L = uintL (tAt L 0).toNat ++ intL (vAt L 0) := by
  cases L with
  | nil => exact absurd rfl h
  | cons x l => rfl
theorem drop_pre {x y : List UInt8} {l : List UInt8} {k : Nat} (h : l.drop k = x ++ y) : l.drop (k + x.length) = y := by rw [← List.drop_drop, h]; simp
theorem encD_zero {L : List Smp} (h : L.length = 0) : L = [] ∧ encD L = uintL 0 := by
  have e : L = [] := List.eq_nil_of_length_eq_zero h
  subst e
  exact ⟨rfl, by simp [encD, headL, tailL]⟩
theorem encD_beg {s : ByteArray} {L : List Smp} {v n e : Int} (hP : SmpP L) (hs : bl s = encD L) (h : GU ((bl s).drop 0) 0 v n e) : v = L.length ∧ e = 0 ∧ n = ((uintL L.length).length : Nat) ∧ (bl s).drop (uintL L.length).length = headL L ++ tailL L := by
  have hr : (bl s).drop 0 = uintL L.length ++ (headL L ++ tailL L) := by rw [List.drop_zero, hs]; rfl
  obtain ⟨h1, h2, h3⟩ := h.of (by have := hP.len; omega) hr
  refine ⟨h1, h3, by rw [h2, Nat.zero_add], ?_⟩
  have := drop_pre hr
  rwa [Nat.zero_add] at this
theorem sized {s t : ByteArray} (h : s = t) : (!s.toList == t.toList) = false := by subst h; simp
theorem sized_ne {s t : ByteArray} (h : s ≠ t) : (!s.toList == t.toList) = true := by rw [beqS]; simp [h]

theorem Decode_ok {s : ByteArray} {H : Heap} {K : Option Addr → Nat → Nat → Int → Heap → Prop} (hs : s.size ≤ 100000000000)
    (hno : (∀ L, SmpP L → bl s ≠ encD L) → ∀ H', Fr [] H H' → K none 0 0 11 H')
    (hyes : ∀ L a n c H', SmpP L → bl s = encD L → Own encS 107 H.size H' a n c L → Fr [] H H' → K a n c 0 H') :
    CallH Tryz.prog fn_delta_Decode ⟨[.string s]⟩ H fun v H' => ∃ a n c e, v = .tuple ⟨[.slice a n c, .int .i64 e]⟩ ∧ K a n c e H' := by
  apply vc_delta_Decode
  have hsl := bl_len s
  refine GetUint_ok hs (fun h => (h ⟨by omega, by omega⟩).elim) fun a0 ea0 ha0 v n1 e1 hG1 => ?_
  have : a0 = 0 := by omega
  subst this
  have eb := fun L (hP : SmpP L) (hL : bl s = encD L) => encD_beg hP hL hG1
  refine ⟨fun _ H' => H' = H ∧ e1 = 0 ∧ 1 ≤ v ∧ v ≤ 5000, ⟨fun vs H' => match vs with | [.bool b] => H' = H ∧ (b = true → (∀ L, SmpP L → bl s ≠ encD L)) ∧ (b = false → e1 = 0 ∧ v ≤ 5000 ∧ (v = 0 → (s.size : Int) ≤ n1)) | _ => False, ?_, ?_⟩, ?_⟩
  · refine brB_of (fun h => ⟨rfl, fun _ L hP hL => ?_, fun h => by cases h⟩) fun h1 => brB_of (fun h => ⟨rfl, fun _ L hP hL => ?_, fun h => by cases h⟩) fun h2 => brB_of (fun h => ⟨rfl, fun h4 L hP hL => ?_, fun h4 => ?_⟩) fun h3 => ⟨rfl, (fun h => by cases h), fun _ => ?_⟩
    · have := (eb L hP hL).2.1; simp at h; omega
    · have := (eb L hP hL).1; have := hP.len; simp at h; omega
    · have h5 := of_decide_eq_true h4
      obtain ⟨q1, q2, q3, q4⟩ := eb L hP hL
      have hz : L.length = 0 := by simp at h; omega
      have := congrArg List.length hL
      rw [(encD_zero hz).2, hsl] at this
      rw [hz] at q3
      omega
    · have h5 := of_decide_eq_false h4
      simp at h1 h2 h
      exact ⟨h1, by omega, fun _ => by omega⟩
    · simp at h1 h2 h3
      exact ⟨h1, by omega, fun h => absurd h h3⟩
  · rintro J b H1 ⟨rfl, hb1, hb2⟩
    refine brB_of (fun h => ⟨_, _, _, _, rfl, hno (hb1 h) _ (Fr.refl _ _)⟩) fun h => ?_
    obtain ⟨he, hv5, hz⟩ := hb2 h
    obtain ⟨m, rfl, hm, hr, hrl, hn⟩ := hG1.ok he
    refine brB_of (fun h0 => ⟨_, _, _, _, rfl, ?_⟩) fun h0 => ⟨rfl, he, by simp at h0; omega, hv5⟩
    have h0 : m = 0 := by simp at h0; omega
    subst h0
    have hz := hz rfl
    rw [List.drop_zero] at hr hrl
    have hd : (bl s).drop (uintL 0).length = [] := List.drop_of_length_le (by omega)
    rw [hd, List.append_nil] at hr
    exact hyes [] _ _ _ _ ⟨by simp, Ris.nil, by simp, by simp⟩ (by rw [hr]; simp [encD, headL, tailL]) (Own.nil ..) (Fr.refl _ _)
  · rintro J H1 ⟨rfl, rfl, hv1, hv5⟩
    obtain ⟨N, rfl, hm, hr, hrl, rfl⟩ := hG1.ok rfl
    rw [List.drop_zero] at hr hrl
    rw [Nat.zero_add] at *
    generalize ha1 : (uintL N).length = a1 at *
    have eb1 : ∀ L, SmpP L → bl s = encD L → L.length = N ∧ L ≠ [] ∧ (bl s).drop a1 = uintL (tAt L 0).toNat ++ (intL (vAt L 0) ++ tailL L) ∧ L[0]? = some (tAt L 0, vAt L 0) ∧ (0 ≤ tAt L 0 ∧ tAt L 0 < 1099511627776) ∧ I64 (vAt L 0) := fun L hP hL => by
      obtain ⟨q1, q2, q3, q4⟩ := eb L hP hL
      have hlN : L.length = N := by omega
      have hne : L ≠ [] := by intro e; rw [e] at hlN; simp at hlN; omega
      rw [hlN, ha1, headL_cons hne, List.append_assoc] at q4
      exact ⟨hlN, hne, q4, smp_at (by omega), hP.at (by omega)⟩
    refine GetUint_ok hs (fun h => (h ⟨by omega, by omega⟩).elim) fun a' ea' ha' T n2 e2 hG2 => ?_
    have : a' = a1 := by omega
    subst this
    refine ⟨fun _ H' => H' = H1 ∧ e2 = 0 ∧ T < 1099511627776, ?_, ?_⟩
    · refine brB_of (fun h => ⟨_, _, _, _, rfl, hno (fun L hP hL => ?_) _ (Fr.refl _ _)⟩) fun h => brB_of (fun h => ⟨_, _, _, _, rfl, hno (fun L hP hL => ?_) _ (Fr.refl _ _)⟩) fun h2 => ⟨rfl, by simpa using h, by simp at h2; omega⟩
      · obtain ⟨q1, q2, q3, q4, q5, q6⟩ := eb1 L hP hL
        exact hG2.bad (by simpa using h) (by omega) q3
      · obtain ⟨q1, q2, q3, q4, q5, q6⟩ := eb1 L hP hL
        have := (hG2.of (by omega) q3).1
        simp at h; omega
    · rintro J H2 ⟨rfl, rfl, hT⟩
      obtain ⟨t, rfl, ht, hr2, hrl2, rfl⟩ := hG2.ok rfl
      rw [List.length_drop, hsl] at hrl2
      generalize ha2 : a' + (uintL t).length = a2 at *
      have eb2 : ∀ L, SmpP L → bl s = encD L → tAt L 0 = t ∧ (bl s).drop a2 = uintL (foldN (vAt L 0)) ++ tailL L := fun L hP hL => by
        obtain ⟨q1, q2, q3, q4, q5, q6⟩ := eb1 L hP hL
        have h1 := (hG2.of (by omega) q3).1
        have e : (tAt L 0).toNat = t := by omega
        refine ⟨by omega, ?_⟩
        have := drop_pre q3
        rw [e, ha2] at this
        exact this
      refine GetInt_ok hs (fun h => (h ⟨by omega, by omega⟩).elim) fun a'' ea'' ha'' w n3 e3 hG3 hw => ?_
      have : a'' = a2 := by omega
      subst this
      refine brB_of (fun h => ⟨_, _, _, _, rfl, hno (fun L hP hL => ?_) _ (Fr.refl _ _)⟩) fun h b H3 hn3 => ?_
      · exact hG3.bad (by simpa using h) (foldN_lt (eb1 L hP hL).2.2.2.2.2) (eb2 L hP hL).2
      · have he3 : e3 = 0 := by simpa using h
        obtain ⟨w', ew, hw', hr3, hrl3, rfl⟩ := hG3.ok he3
        have : w' = w := by omega
        subst this
        rw [List.length_drop, hsl] at hrl3
        generalize ha3 : a'' + (uintL w').length = a3 at *
        have eb3 : ∀ L, SmpP L → bl s = encD L → L.length = N ∧ L[0]? = some ((t : Int), unfoldN w') ∧ (bl s).drop a3 = tailL L := fun L hP hL => by
          obtain ⟨q1, q2, q3, q4, q5, q6⟩ := eb1 L hP hL
          obtain ⟨q7, q8⟩ := eb2 L hP hL
          have h1 := (hG3.of (foldN_lt q6) q8).1
          have e : foldN (vAt L 0) = w' := by omega
          refine ⟨q1, ?_, ?_⟩
          · rw [q4, q7, ← e, unfold_fold]
          · have := drop_pre q8
            rwa [e, ha3] at this
        have ewt : IntKind.wrap .i64 ((t : Nat) : Int) = t := wrap64_of (by omega) (by omega)
        rw [ewt] at hn3
        have ewN : IntKind.wrap .i64 ((N : Nat) : Int) = N := wrap64_of (by omega) (by omega)
        have hOw : Own encS 107 H2.size H3 (some ⟨b, 0, none⟩) 1 1 [((t : Int), unfoldN w')] := by
          refine ⟨rfl, .inr ⟨b, _, rfl, by rw [hn3.eq]; exact Nat.le_refl _, hn3.get, Nat.le_refl _, by decide, rfl, rfl⟩⟩
        have hvw := unfold_64 hw'
        have hsne : s ≠ ⟨#[]⟩ := by
          intro e
          have : s.size = 0 := by rw [e]; rfl
          have := uintL_pos N
          omega
        have fin : ∀ (a : Option Addr) (n c : Nat) (l : List Smp) (H4 : Heap), n = N → Own encS 107 H2.size H4 a n c l → (∀ x ∈ l, I64 x.2) → Fr [] H2 H4 → (∀ L, SmpP L → bl s = encD L → l = L) →
            CallH Tryz.prog 46 ⟨[.slice a n c]⟩ H4 fun v H' => ∃ s_1 n_9, v = .tuple ⟨[.string s_1, .int .i64 n_9]⟩ ∧ brB (!ByteArray.toList s_1 == ByteArray.toList s) (∃ a n c e, Value.tuple ⟨[.slice none 0 0, .int .i64 11]⟩ = .tuple ⟨[.slice a n c, .int .i64 e]⟩ ∧ K a n c e H') (∃ a_1 n_1 c_1 e, Value.tuple ⟨[.slice a n c, .int .i64 0]⟩ = .tuple ⟨[.slice a_1 n_1 c_1, .int .i64 e]⟩ ∧ K a_1 n_1 c_1 e H') := by
          intro a n c l H4 hnN ho hv hf hcmp
          have hl := ho.1
          have bad : ¬ SmpP l → ∀ H', Fr [] H2 H' → brB (!ByteArray.toList (⟨#[]⟩ : ByteArray) == ByteArray.toList s) (∃ a n c e, Value.tuple ⟨[.slice none 0 0, .int .i64 11]⟩ = .tuple ⟨[.slice a n c, .int .i64 e]⟩ ∧ K a n c e H') (∃ a_1 n_1 c_1 e, Value.tuple ⟨[.slice a n c, .int .i64 0]⟩ = .tuple ⟨[.slice a_1 n_1 c_1, .int .i64 e]⟩ ∧ K a_1 n_1 c_1 e H') := fun hnP H' hf' => by
            rw [sized_ne (fun e => hsne e.symm)]
            refine ⟨_, _, _, _, rfl, hno (fun L hP hL => hnP ?_) _ hf'⟩
            rw [hcmp L hP hL]; exact hP
          refine Encode_ok ho.sl hv (by omega) (fun h => by omega) (fun _ hnP H' hf' => bad hnP H' (hf.keep0 hf')) fun hP H' hf' => ?_
          by_cases e : s = ⟨(encD l).toArray⟩
          · rw [sized e.symm]
            exact ⟨_, _, _, _, rfl, hyes l _ _ _ _ hP (by rw [e]) (ho.keep hf') (hf.keep0 hf')⟩
          · rw [sized_ne (fun h => e h.symm)]
            refine ⟨_, _, _, _, rfl, hno (fun L hP' hL => e ?_) _ (hf.keep0 hf')⟩
            rw [hcmp L hP' hL]
            exact bl_inj hL
        refine brB_of (fun h1 => ?_) (fun h1 => ?_)
        · have h2 : 2 ≤ N := by simp at h1; omega
          refine chk_true (decide_eq_true ⟨by omega, by omega, by omega⟩) ?_
          rw [ewN, Int.toNat_natCast, Int.toNat_natCast]
          have hbe : bl (s.extract a3 s.size) = (bl s).drop a3 := by rw [bl_ext, List.take_of_length_le (by omega)]
          have hes : (s.extract a3 s.size).size ≤ s.size := by rw [size_ext]; omega
          refine rest_ok hOw hn3.fr.size rfl ⟨h2, by omega⟩ (by omega) ⟨by simp only; omega, hT⟩ hvw (fun hn H4 f4 => brB_of (fun _ => ⟨_, _, _, _, rfl, hno (fun L hP hL => ?_) _ ?_⟩) fun h => by cases h) fun a' c' l b' H4 ho hv f4 hcmp => ?_
          · obtain ⟨q1, q2, q3⟩ := eb3 L hP hL
            exact hn L hP q1 q2 (by rw [hbe]; exact q3)
          · exact hn3.fr.keep f4 fun k hk => by simp [blkL] at hk; have := hn3.eq; omega
          · have hf4 : Fr [] H2 H4 := hn3.fr.keep f4 fun k hk => by simp [blkL] at hk; have := hn3.eq; omega
            refine brB_of (fun hb => ⟨_, _, _, _, rfl, hno (fun L hP hL => ?_) _ hf4⟩) fun hb => ?_
            · obtain ⟨q1, q2, q3⟩ := eb3 L hP hL
              have := (hcmp L hP q1 q2 (by rw [hbe]; exact q3)).2
              rw [this] at hb; cases hb
            · exact fin _ _ _ l H4 rfl ho hv hf4 fun L hP hL => by
                obtain ⟨q1, q2, q3⟩ := eb3 L hP hL
                exact (hcmp L hP q1 q2 (by rw [hbe]; exact q3)).1
        · have hN1 : N = 1 := by simp at h1; omega
          subst hN1
          refine brB_of (fun h => ⟨_, _, _, _, rfl, hno (fun L hP hL => ?_) _ hn3.fr⟩) fun h => ?_
          · obtain ⟨q1, q2, q3⟩ := eb3 L hP hL
            have : tailL L = [] := by unfold tailL; rw [if_pos (by omega)]
            rw [this] at q3
            have := congrArg List.length q3
            rw [List.length_drop, hsl] at this
            simp at h this; omega
          · exact fin _ _ _ _ _ rfl hOw (fun x hx => by simp at hx; subst hx; exact hvw) hn3.fr fun L hP hL => by
              obtain ⟨q1, q2, q3⟩ := eb3 L hP hL
              cases L with
              | nil => simp at q1
              | cons x L => simp at q2 q1; subst q1; rw [q2]
end Go.Proofs
