/- A part of a proof: see the last text of this claim. -/
import Derived.Test.YtnkkjfgelgdgcaaP18
set_option linter.unusedVariables false
open Go Go.GV
namespace Go.Proofs

abbrev Day3 := Int × Int × Int
def encD : Enc Day3 := ⟨fun x => [.int .i64 x.1, .int .i64 x.2.1, .int .i64 x.2.2], 3, fun _ => rfl, by decide, fun _ v h => by simp at h; rcases h with rfl | rfl | rfl <;> rfl⟩

def look (d : Int) : List Day3 → Int × Int
  | [] => (0, 0)
  | x :: l => if x.1 = d then x.2 else look d l

/-- The counts, as the reference holds them. -/
structure RefL (H : Heap) (q : Addr) (a : Option Addr) (n c : Nat) (L : List Day3) (cnt : Cnt) (m : Nat) : Prop where
  cell : Blk H q [.slice a n c]
  own : Own encD 53 0 H a n c L
  ne : q.block ∉ blkL a
  say : ∀ d, look d L = cnt d
  bd : Bd cnt
  len : L.length ≤ m
  all : ∀ x ∈ L, bdX x.2
def RefRep (H : Heap) (q : Addr) (S : List Nat) (cnt : Cnt) (m : Nat) : Prop := ∃ a n c L, RefL H q a n c L cnt m ∧ S = q.block :: blkL a

theorem blkL_not {a : Option Addr} {S : List Nat} (h : Dj (blkL a) S) : ∀ ad, a = some ad → ad.block ∉ S := fun ad e => h ad.block (by simp [blkL, e])

theorem RefL.fr {H H' : Heap} {q : Addr} {a : Option Addr} {n c m : Nat} {L : List Day3} {cnt : Cnt} {S : List Nat} (h : RefL H q a n c L cnt m) (hf : Fr S H H') (hn : Dj (q.block :: blkL a) S) : RefL H' q a n c L cnt m :=
  ⟨h.cell.fr hf (hn _ (by simp)), h.own.fr hf (blkL_not fun k hk => hn k (by simp [hk])), h.ne, h.say, h.bd, h.len, h.all⟩
theorem RefL.keep {H H' : Heap} {q : Addr} {a : Option Addr} {n c m : Nat} {L : List Day3} {cnt : Cnt} (h : RefL H q a n c L cnt m) (hf : Fr [] H H') : RefL H' q a n c L cnt m := h.fr hf (fun _ _ => by simp)
theorem RefRep.fr {H H' : Heap} {q : Addr} {S T : List Nat} {cnt : Cnt} {m : Nat} (h : RefRep H q S cnt m) (hf : Fr T H H') (hn : Dj S T) : RefRep H' q S cnt m := by
  obtain ⟨a, n, c, L, h, rfl⟩ := h
  exact ⟨a, n, c, L, h.fr hf hn, rfl⟩
theorem RefRep.keep {H H' : Heap} {q : Addr} {S : List Nat} {cnt : Cnt} {m : Nat} (h : RefRep H q S cnt m) (hf : Fr [] H H') : RefRep H' q S cnt m := h.fr hf (fun _ _ => by simp)
theorem RefRep.inH {H : Heap} {q : Addr} {S : List Nat} {cnt : Cnt} {m : Nat} (h : RefRep H q S cnt m) : In H S := by
  obtain ⟨a, n, c, L, h, rfl⟩ := h
  intro k hk
  rcases List.mem_cons.1 hk with rfl | hk
  · exact h.cell.lt
  · exact (h.own.ge k hk).2
theorem RefRep.mono {H : Heap} {q : Addr} {S : List Nat} {cnt : Cnt} {m m' : Nat} (h : RefRep H q S cnt m) (hm : m ≤ m') : RefRep H q S cnt m' := by
  obtain ⟨a, n, c, L, h, rfl⟩ := h
  exact ⟨a, n, c, L, ⟨h.cell, h.own, h.ne, h.say, h.bd, Nat.le_trans h.len hm, h.all⟩, rfl⟩
theorem RefRep.bd {H : Heap} {q : Addr} {S : List Nat} {cnt : Cnt} {m : Nat} (h : RefRep H q S cnt m) : Bd cnt := let ⟨_, _, _, _, h, _⟩ := h; h.bd

theorem RefL.ld {H : Heap} {q : Addr} {a : Option Addr} {n c m : Nat} {L : List Day3} {cnt : Cnt} (h : RefL H q a n c L cnt m) : Ld Try.prog 48 H q (.slice a n c) := h.cell.ld0 (by kernel_rfl) rfl

theorem rNew_ok {H : Heap} {K : Option Addr → Heap → Prop} (hk : ∀ b H', H.size ≤ b → RefRep H' ⟨b, 0, none⟩ [b] (fun _ => (0, 0)) 0 → Fr [] H H' → K (some ⟨b, 0, none⟩) H') :
    CallH Try.prog fn_ref18_New ⟨[]⟩ H fun v H' => ∃ a, v = .pointer a ∧ K a H' := by
  apply vc_ref18_New
  intro b H1 hn
  exact ⟨_, rfl, hk b H1 (Nat.le_of_eq hn.eq.symm) ⟨none, 0, 0, [], ⟨hn.blk, Own.nil _ _ _ _, by simp [blkL], fun _ => rfl, fun _ => by simp [bdX], by simp, by simp⟩, rfl⟩ hn.fr⟩

theorem look_drop {d : Int} {L : List Day3} {i : Nat} {x : Day3} (h : L[i]? = some x) : look d (L.drop i) = if x.1 = d then x.2 else look d (L.drop (i + 1)) := by
  obtain ⟨h1, rfl⟩ := List.getElem?_eq_some_iff.1 h
  rw [List.drop_eq_getElem_cons h1]
  rfl

theorem succ_wrap {i : Nat} (h : i ≤ 1000000000000) : IntKind.i64.wrap ((i : Int) + 1) = ((i + 1 : Nat) : Int) := by
  rw [wrap64_of (by omega) (by omega)]; omega

theorem rCounts_ok {q : Addr} {S : List Nat} {c : Cnt} {m : Nat} {day : Int} {H : Heap} {K : Int → Int → Heap → Prop} (h : RefRep H q S c m) (hm : m ≤ 1000000) (hk : K (c day).1 (c day).2 H) :
    CallH Try.prog fn_ref18_Policy_Counts ⟨[.pointer (some q), .int .i64 day]⟩ H fun v H' => ∃ n m, v = .tuple ⟨[.int .i64 n, .int .i64 m]⟩ ∧ K n m H' := by
  apply vc_ref18_Policy_Counts
  obtain ⟨a, n, cc, L, h, rfl⟩ := h
  have hl := h.own.1
  have hlen := h.len
  have hs := h.own.sl
  refine ⟨fun vs H' => ∃ i : Nat, vs = [.int .i64 i] ∧ i ≤ n ∧ H' = H ∧ look day (L.drop i) = look day L,
    fun vs _ => match vs with | [.int _ i] => n - i.toNat | _ => 0, ⟨0, rfl, by omega, rfl, rfl⟩, ?_⟩
  rintro J x H' ⟨i, hi, hle, rfl, hd⟩
  simp only [List.cons.injEq, Value.int.injEq, and_true, true_and] at hi
  subst hi
  refine ⟨a, n, cc, h.ld, brB_of (fun h0 => ?_) (fun h0 => ?_)⟩
  · have h0' : i < n := by simpa using h0
    have hx : L[i]? = some (L[i]'(by omega)) := by simp
    refine ⟨a, n, cc, h.ld, hs.get rfl hx (decide_eq_true (by omega)) fun ad ea hc => ⟨_, ld_part (j := 0) (by kernel_rfl) hc rfl, brB_of (fun h1 => ?_) (fun h1 => ?_)⟩⟩
    · refine ⟨a, n, cc, h.ld, hs.get rfl hx (decide_eq_true (by omega)) fun ad ea hc => ⟨_, ld_part (j := 1) (by kernel_rfl) hc rfl, ?_⟩⟩
      refine ⟨a, n, cc, h.ld, hs.get rfl hx (decide_eq_true (by omega)) fun ad ea hc => ⟨_, ld_part (j := 2) (by kernel_rfl) hc rfl, ?_⟩⟩
      refine ⟨_, _, rfl, ?_⟩
      rw [← h.say, ← hd, look_drop hx, if_pos (by simpa using h1)] at hk
      exact hk
    · rw [succ_wrap (by omega)]
      refine ⟨⟨i + 1, rfl, by omega, rfl, ?_⟩, ?_⟩
      · rw [← hd, look_drop hx, if_neg (by simpa using h1)]
      · show n - ((i + 1 : Nat) : Int).toNat < n - ((i : Nat) : Int).toNat
        omega
  · refine ⟨_, _, rfl, ?_⟩
    have e : L.drop i = [] := List.drop_eq_nil_of_le (by simp only [decide_eq_false_iff_not] at h0; omega)
    rw [← h.say, ← hd, e] at hk
    exact hk

theorem look_filter {d day : Int} : ∀ (L : List Day3), look d (L.filter fun x => decide (x.1 ≠ day)) = if d = day then (0, 0) else look d L
  | [] => by simp [look]
  | x :: L => by
    rw [List.filter_cons]
    by_cases hx : x.1 = day
    · rw [if_neg (by simpa using hx), look_filter L]
      by_cases hd : d = day
      · rw [if_pos hd, if_pos hd]
      · rw [if_neg hd, if_neg hd, look, if_neg (by omega)]
    · rw [if_pos (by simpa using hx), look, look_filter L]
      by_cases hd : d = day
      · rw [if_pos hd, if_neg (by omega)]; simp [hd]
      · rw [if_neg hd, if_neg hd, look]
theorem look_append {d : Int} {y : Day3} : ∀ (L : List Day3), (∀ x ∈ L, x.1 ≠ y.1) → look d (L ++ [y]) = if d = y.1 then y.2 else look d L
  | [], _ => by
    simp only [List.nil_append, look]
    by_cases h : d = y.1
    · rw [if_pos h.symm, if_pos h]
    · rw [if_neg (Ne.symm h), if_neg h]
  | x :: L, h => by
    rw [List.cons_append, look, look_append L fun x hx => h x (by simp [hx]), look]
    have := h x (by simp)
    by_cases h1 : x.1 = d
    · rw [if_pos h1, if_neg (by omega), if_pos h1]
    · rw [if_neg h1, if_neg h1]

theorem elem53 : elemB Try.prog 53 3 24 = true := by kernel_rfl
theorem slice48 : sliceB Try.prog 48 53 = true := by kernel_rfl

theorem set_ok {q : Addr} {S : List Nat} {c : Cnt} {m : Nat} {day x y : Int} {H : Heap} {K : Heap → Prop} (h : RefRep H q S c m) (hm : m ≤ 1000000) (hb : bdX (x, y))
    (hk : ∀ H' S', RefRep H' q S' (setC c day (x, y)) (m + 1) → Fr S H H' → Grow H S S' → K H') :
    CallH Try.prog fn_ref18_Policy_set ⟨[.pointer (some q), .int .i64 day, .int .i64 x, .int .i64 y]⟩ H fun v H' => v = .tuple ⟨[]⟩ ∧ K H' := by
  apply vc_ref18_Policy_set
  obtain ⟨a, n, cc, L, h, rfl⟩ := h
  have hl := h.own.1
  have hlen := h.len
  have hqlt := h.cell.lt
  intro b0 H0 hn0
  refine ⟨fun vs H' => ∃ (a2 : Option Addr) (n2 c2 i : Nat), vs = [.slice a2 n2 c2, .int .i64 i] ∧ i ≤ n ∧ Fr [] H H' ∧ Own encD 53 H.size H' a2 n2 c2 ((L.take i).filter fun x => decide (x.1 ≠ day)),
    fun vs _ => match vs with | [_, .int _ i] => n - i.toNat | _ => 0, ⟨_, 0, 0, 0, rfl, by omega, hn0.fr, Own.made encD 53 hn0 (Nat.le_refl _)⟩, ?_⟩
  rintro J a2 n2 c2 i' H' ⟨a2', n2', c2', i, hi, hle, hf, hown⟩
  simp only [List.cons.injEq, Value.int.injEq, Value.slice.injEq, and_true, true_and] at hi
  obtain ⟨⟨rfl, rfl, rfl⟩, rfl⟩ := hi
  have h' := h.keep hf
  have hs := h'.own.sl
  have hn2 : n2 = ((L.take i).filter fun x => decide (x.1 ≠ day)).length := hown.1
  have hn2' : n2 ≤ i := by
    rw [hn2]
    exact Nat.le_trans (List.length_filter_le _ _) (by simp; omega)
  have app : ∀ {H1 : Heap} {b1 : Nat} {z : Day3} {Kx : Option Addr → Nat → Nat → Heap → Prop}, New H' b1 (.cells ⟨encD.cells z⟩ 53) H1 →
      (∀ a3 n3 c3 H2, Own encD 53 H.size H2 a3 n3 c3 (((L.take i).filter fun x => decide (x.1 ≠ day)) ++ [z]) → Fr [] H H2 → Kx a3 n3 c3 H2) →
      SemWp Try.prog (Builtin.append_ ⟨[48, 48]⟩ 48 ⟨[.slice a2 n2 c2, .slice (some ⟨b1, 0, none⟩) 1 1]⟩) H1 fun v H2 => ∃ a n c, v = .slice a n c ∧ Kx a n c H2 := by
    intro H1 b1 z Kx hn1 hkx
    refine ap_raw (E := encD) (t := 53) (bytes := 24) (base := H.size) slice48 elem53 (hown.keep hn1.fr) (sl_one encD z hn1 rfl) (Nat.le_trans hf.size hn1.fr.size) (by omega) fun a3 n3 c3 H2 ho2 hf2 => hkx a3 n3 c3 H2 ho2 ?_
    exact (hf.keep0 hn1.fr).keep hf2 fun k hk => ((hown.keep hn1.fr).ge k hk).1
  refine ⟨a, n, cc, h'.ld, brB_of (fun h0 => ?_) (fun h0 => ?_)⟩
  · have h0' : i < n := by simpa using h0
    have hx : L[i]? = some (L[i]'(by omega)) := by simp
    have htake : L.take (i + 1) = L.take i ++ [L[i]'(by omega)] := by rw [List.take_add_one, hx]; rfl
    refine ⟨a, n, cc, h'.ld, hs.get rfl hx (decide_eq_true (by omega)) fun ad ea hc => ⟨_, ld_part (j := 0) (by kernel_rfl) hc rfl, brB_of (fun h1 => ?_) (fun h1 => ?_)⟩⟩
    · refine ⟨a, n, cc, h'.ld, hs.get rfl hx (decide_eq_true (by omega)) fun ad ea hc => ⟨_, _, _, ld_many (by kernel_rfl) (by kernel_rfl) hc, fun b1 H1 hn1 => ?_⟩⟩
      refine app hn1 fun a3 n3 c3 H2 ho2 hf2 => ?_
      rw [succ_wrap (by omega)]
      refine ⟨⟨a3, n3, c3, i + 1, rfl, by omega, hf2, ?_⟩, ?_⟩
      · rw [htake, List.filter_append, List.filter_cons, if_pos (by simpa using h1)]
        exact ho2
      · show n - ((i + 1 : Nat) : Int).toNat < n - ((i : Nat) : Int).toNat
        omega
    · rw [succ_wrap (by omega)]
      refine ⟨⟨a2, n2, c2, i + 1, rfl, by omega, hf, ?_⟩, ?_⟩
      · rw [htake, List.filter_append, List.filter_cons, if_neg (by simpa using h1)]
        simpa using hown
      · show n - ((i + 1 : Nat) : Int).toNat < n - ((i : Nat) : Int).toNat
        omega
  · have e : L.take i = L := List.take_of_length_le (by simp only [decide_eq_false_iff_not] at h0; omega)
    rw [e] at app hn2
    intro b1 H1 hn1
    refine app (z := (day, x, y)) hn1 fun a3 n3 c3 H2 ho2 hf2 => ?_
    have hq2 := h.cell.keep hf2
    refine hq2.st0 (by kernel_rfl) (by kernel_rfl) (by simp [Value.cells, Value.oneCell']) (by simp [Value.cells]) fun H3 hg3 hf3 => ⟨rfl, ?_⟩
    have hne3 : q.block ∉ blkL a3 := fun hk => by have := (ho2.ge _ hk).1; omega
    refine hk H3 (q.block :: blkL a3) ⟨a3, n3, c3, _, ⟨hg3, (ho2.fr hf3 fun ad e => ?_).base (Nat.zero_le _), hne3, fun d => ?_, h.bd.set hb, ?_, ?_⟩, rfl⟩ (hf2.trans' hf3 (by simp) (by simp)) ?_
    · simp only [List.mem_singleton]
      intro e2
      exact hne3 (by rw [e]; simp [blkL, e2])
    · rw [look_append _ (fun z hz => by simpa using (List.mem_filter.1 hz).2), look_filter]
      unfold setC
      simp only
      split
      · rfl
      · exact h.say d
    · rw [List.length_append]
      have := List.length_filter_le (fun x : Day3 => decide (x.1 ≠ day)) L
      simp at this ⊢; omega
    · intro z hz
      rcases List.mem_append.1 hz with hz | hz
      · exact h.all z (List.mem_filter.1 hz).1
      · simp at hz; subst hz; exact hb
    · intro k hk
      rcases List.mem_cons.1 hk with rfl | hk
      · exact .inl (by simp)
      · exact .inr (ho2.ge k hk).1

theorem rForget_ok {q : Addr} {S : List Nat} {c : Cnt} {m : Nat} {day : Int} {H : Heap} {K : Heap → Prop} (h : RefRep H q S c m) (hm : m ≤ 1000000)
    (hk : ∀ H' S', RefRep H' q S' (setC c day (0, 0)) (m + 1) → Fr S H H' → Grow H S S' → K H') :
    CallH Try.prog fn_ref18_Policy_Forget ⟨[.pointer (some q), .int .i64 day]⟩ H fun v H' => v = .tuple ⟨[]⟩ ∧ K H' := by
  apply vc_ref18_Policy_Forget
  exact set_ok h hm (by simp [bdX]) fun H' S' h' hf hg => ⟨rfl, hk H' S' h' hf hg⟩

theorem rNote_ok {q : Addr} {S : List Nat} {c : Cnt} {m : Nat} {day kind n : Int} {H : Heap} {K : Heap → Prop} (h : RefRep H q S c m) (hm : m ≤ 1000000)
    (hk : ∀ H' S', RefRep H' q S' (noteC c day kind n) (m + 1) → Fr S H H' → Grow H S S' → K H') :
    CallH Try.prog fn_ref18_Policy_Note ⟨[.pointer (some q), .int .i64 day, .int .i64 kind, .int .i64 n]⟩ H fun v H' => v = .tuple ⟨[]⟩ ∧ K H' := by
  apply vc_ref18_Policy_Note
  refine rCounts_ok h hm ?_
  have hbd := h.bd day
  rw [min_if, min_if]
  have stays : kind < 0 ∨ 1 < kind ∨ n < 1 → K H := fun h0 => hk H S (by unfold noteC; rw [if_pos h0]; exact h.mono (Nat.le_succ _)) (Fr.refl _ _) (Grow.refl _ _)
  have hW : ∀ x : Int, 1 ≤ n → 0 ≤ x → x ≤ 1073741824 → IntKind.i64.wrap (x + min n 1073741824) = x + min n 1073741824 := by
    intro x h0 h1 h2
    exact wrap64_of (by omega) (by omega)
  refine brB_of (fun h0 => ⟨rfl, stays (by simp only [decide_eq_true_eq] at h0; omega)⟩) (fun h0 => ?_)
  have hn : 1 ≤ n := by simp only [decide_eq_false_iff_not] at h0; omega
  have hX := noteX_bd (kind := kind) hbd hn
  refine brB_of (fun h1 => ?_) (fun h1 => brB_of (fun h2 => ?_) (fun h2 => ⟨rfl, stays (by simp at h1 h2; omega)⟩))
  · simp only [beq_iff_eq] at h1
    subst h1
    have hC : noteC c day 0 n = setC c day (noteX (c day) 0 n) := by unfold noteC; rw [if_neg (by omega)]
    rw [hW _ hn hbd.1 hbd.2.1]
    refine set_ok h hm (by simpa [noteX] using hX) fun H' S' h' hf hg => ⟨rfl, hk H' S' ?_ hf hg⟩
    rw [hC]
    simpa [noteX] using h'
  · simp only [beq_iff_eq] at h2
    subst h2
    have hC : noteC c day 1 n = setC c day (noteX (c day) 1 n) := by unfold noteC; rw [if_neg (by omega)]
    rw [hW _ hn hbd.2.2.1 hbd.2.2.2, min_if]
    refine set_ok h hm (by simpa [noteX] using hX) fun H' S' h' hf hg => ⟨rfl, hk H' S' ?_ hf hg⟩
    rw [hC]
    simpa [noteX] using h'

theorem rWants_ok {q : Addr} {S : List Nat} {c : Cnt} {m : Nat} {day k : Int} {H : Heap} {K : Int → Heap → Prop} (h : RefRep H q S c m) (hm : m ≤ 1000000) (hk : K (wantX (c day) k) H) :
    CallH Try.prog fn_ref18_Policy_Wants ⟨[.pointer (some q), .int .i64 day, .int .i64 k]⟩ H fun v H' => ∃ n, v = .int .i64 n ∧ K n H' := by
  apply vc_ref18_Policy_Wants
  refine rCounts_ok h hm ?_
  have hbd := h.bd day
  have hW : ∀ y : Int, 0 ≤ y → y ≤ 1073741824 → IntKind.i64.wrap (IntKind.i64.wrap (2 * y) + 8) = 2 * y + 8 := by
    intro y h1 h2
    rw [wrap64_of (n := 2 * y) (by omega) (by omega), wrap64_of (by omega) (by omega)]
  rw [hW _ hbd.1 hbd.2.1, hW _ hbd.2.2.1 hbd.2.2.2]
  unfold wantX at hk
  refine brB_of (fun h1 => brB_of (fun h2 => ⟨_, rfl, ?_⟩) (fun h2 => brB_of (fun h3 => ?_) (fun h3 => ⟨_, rfl, ?_⟩))) (fun h1 => brB_of (fun h2 => brB_of (fun h3 => ⟨_, rfl, ?_⟩) (fun h3 => ⟨_, rfl, ?_⟩)) (fun h2 => ⟨_, rfl, ?_⟩))
  · rw [if_pos ⟨by simpa using h1, by simpa using h2⟩] at hk
    exact hk
  · simp at h1 h3; omega
  · rw [if_neg (by simp at h2; omega), if_neg (by simp at h1; omega)] at hk
    exact hk
  · rw [if_neg (by simp at h1; omega), if_pos ⟨by simpa using h2, by simpa using h3⟩] at hk
    exact hk
  · rw [if_neg (by simp at h1; omega), if_neg (by simp at h3; omega)] at hk
    exact hk
  · rw [if_neg (by simp at h1; omega), if_neg (by simp at h2; omega)] at hk
    exact hk

theorem rNext_ok {q : Addr} {S : List Nat} {c : Cnt} {m : Nat} {da ka : Option Addr} {dn dc kn kc : Nat} {ds ks : List Int} {H : Heap} {K : Int → Int → Bool → Heap → Prop} (h : RefRep H q S c m) (hm : m ≤ 1000000)
    (hd : Sl encInt H da dn dc ds) (hks : Sl encInt H ka kn kc ks) (hl1 : dn ≤ 1000) (hl2 : kn ≤ 1000)
    (hk : K (nextC c ds ks).1 (nextC c ds ks).2.1 (nextC c ds ks).2.2 H) :
    CallH Try.prog fn_ref18_Policy_Next ⟨[.pointer (some q), .slice da dn dc, .slice ka kn kc]⟩ H fun v H' => ∃ n m b, v = .tuple ⟨[.int .i64 n, .int .i64 m, .bool b]⟩ ∧ K n m b H' := by
  apply vc_ref18_Policy_Next
  have e1 := hd.len
  have e2 := hks.len
  refine ⟨fun vs H' => ∃ i : Nat, vs = [.int .i64 i] ∧ i ≤ min dn kn ∧ H' = H ∧ nextC c (ds.drop i) (ks.drop i) = nextC c ds ks,
    fun vs _ => match vs with | [.int _ i] => min dn kn - i.toNat | _ => 0, ⟨0, rfl, by omega, rfl, rfl⟩, ?_⟩
  rintro J n H' ⟨i, hi, hle, rfl, hn⟩
  simp only [List.cons.injEq, Value.int.injEq, and_true, true_and] at hi
  subst hi
  have fin : min dn kn ≤ i → K 0 0 false H' := fun h0 => by
    rw [← hn, nextC_end (by omega)] at hk
    exact hk
  refine brB_of (fun h0 => brB_of (fun h00 => ?_) (fun h00 => ⟨_, _, _, rfl, fin (by simp at h0 h00; omega)⟩)) (fun h0 => ⟨_, _, _, rfl, fin (by simp at h0; omega)⟩)
  simp only [decide_eq_true_eq] at h0 h00
  have hi1 : i < ds.length := by omega
  have hi2 : i < ks.length := by omega
  have g1 : ds[i]? = some ds[i] := by simp [hi1]
  have g2 : ks[i]? = some ks[i] := by simp [hi2]
  refine hd.get rfl g1 (decide_eq_true (by omega)) fun ad ea hc => ⟨_, ld_one (by kernel_rfl) hc, ?_⟩
  refine hks.get rfl g2 (decide_eq_true (by omega)) fun ad2 ea2 hc2 => ⟨_, ld_one (by kernel_rfl) hc2, ?_⟩
  refine rWants_ok h hm ?_
  refine hks.get rfl g2 (decide_eq_true (by omega)) fun ad3 ea3 hc3 => ⟨_, ld_one (by kernel_rfl) hc3, ?_⟩
  refine brB_of (fun h1 => ?_) (fun h1 => ?_)
  · refine hd.get rfl g1 (decide_eq_true (by omega)) fun ad ea hc => ⟨_, ld_one (by kernel_rfl) hc, ?_⟩
    refine ⟨_, _, _, rfl, ?_⟩
    rw [← hn, nextC_drop g1 g2, if_pos (by simpa using h1)] at hk
    exact hk
  · rw [succ_wrap (by omega)]
    refine ⟨⟨i + 1, rfl, by omega, rfl, ?_⟩, ?_⟩
    · rw [← hn, nextC_drop g1 g2, if_neg (by simpa using h1)]
    · show min dn kn - ((i + 1 : Nat) : Int).toNat < min dn kn - ((i : Nat) : Int).toNat
      omega

theorem look_map {d : Int} : ∀ (L : List Day3), look d (L.map fun x => (x.1, x.2.1 / 2, x.2.2 / 2)) = halveX (look d L)
  | [] => rfl
  | x :: L => by
    simp only [List.map_cons, look]
    split
    · rfl
    · exact look_map L

def hv3 (x : Day3) : Day3 := (x.1, x.2.1 / 2, x.2.2 / 2)


theorem rHalve_ok {q : Addr} {S : List Nat} {c : Cnt} {m : Nat} {H : Heap} {K : Heap → Prop} (h : RefRep H q S c m) (hm : m ≤ 1000000)
    (hk : ∀ H', RefRep H' q S (halveC c) m → Fr S H H' → K H') :
    CallH Try.prog fn_ref18_Policy_Halve ⟨[.pointer (some q)]⟩ H fun v H' => v = .tuple ⟨[]⟩ ∧ K H' := by
  apply vc_ref18_Policy_Halve
  obtain ⟨a, n, cc, L, h, rfl⟩ := h
  have hl := h.own.1
  have hlen := h.len
  refine ⟨fun vs H' => ∃ i : Nat, vs = [.int .i64 i] ∧ i ≤ n ∧ Fr (q.block :: blkL a) H H' ∧ Blk H' q [.slice a n cc] ∧ Own encD 53 0 H' a n cc ((L.take i).map hv3 ++ L.drop i),
    fun vs _ => match vs with | [.int _ i] => n - i.toNat | _ => 0, ⟨0, rfl, by omega, Fr.refl _ _, h.cell, by simpa using h.own⟩, ?_⟩
  rintro J i' H' ⟨i, hi, hle, hf, hcell, hown⟩
  simp only [List.cons.injEq, Value.int.injEq, and_true, true_and] at hi
  subst hi
  have ld : ∀ {Hx : Heap}, Blk Hx q [.slice a n cc] → Ld Try.prog 48 Hx q (.slice a n cc) := fun hc => hc.ld0 (by kernel_rfl) rfl
  refine ⟨a, n, cc, ld hcell, brB_of (fun h0 => ?_) (fun h0 => ⟨rfl, ?_⟩)⟩
  · have h0' : i < n := by simpa using h0
    have hiL : i < L.length := by omega
    have htl : ((L.take i).map hv3).length = i := by simp; omega
    have hx : ((L.take i).map hv3 ++ L.drop i)[i]? = some L[i] := by
      rw [List.getElem?_append_right (by omega), htl, Nat.sub_self, List.getElem?_drop]
      simp [hiL]
    have hb := h.all L[i] (by simp)
    have hW : ∀ y : Int, 0 ≤ y → y ≤ 1073741824 → IntKind.i64.wrap (y.tdiv 2) = y / 2 := by
      intro y h1 h2
      rw [Int.tdiv_eq_ediv_of_nonneg h1]
      exact wrap64_of (by omega) (by omega)
    have off : ∀ {Hx Hy : Heap} {vs : List Value}, Blk Hx q vs → Fr (blkL a) Hx Hy → Blk Hy q vs := fun hc hf => hc.fr hf h.ne
    refine ⟨a, n, cc, ld hcell, a, n, cc, ld hcell, hown.sl.get rfl hx (decide_eq_true (by omega)) fun ad ea hc => ⟨_, ld_part (j := 1) (by kernel_rfl) hc rfl, ?_⟩⟩
    refine hown.sl.get rfl hx (decide_eq_true (by omega)) fun ad ea hc => ?_
    rw [hW _ hb.1 hb.2.1]
    refine own_st (E := encD) (j := 1) (x' := (L[i].1, L[i].2.1 / 2, L[i].2.2)) hown ea rfl hx (by kernel_rfl) (by kernel_rfl) (by simp [Value.cells, Value.oneCell']) (by simp [Value.cells, encD]) rfl fun H1 ho1 hf1 => ?_
    have hcell1 := off hcell hf1
    have hx1 : (((L.take i).map hv3 ++ L.drop i).set i (L[i].1, L[i].2.1 / 2, L[i].2.2))[i]? = some (L[i].1, L[i].2.1 / 2, L[i].2.2) := by
      rw [List.getElem?_set_self (by simp; omega)]
    refine ⟨a, n, cc, ld hcell1, a, n, cc, ld hcell1, ho1.sl.get rfl hx1 (decide_eq_true (by omega)) fun ad ea hc => ⟨_, ld_part (j := 2) (by kernel_rfl) hc rfl, ?_⟩⟩
    refine ho1.sl.get rfl hx1 (decide_eq_true (by omega)) fun ad ea hc => ?_
    simp only
    rw [hW _ hb.2.2.1 hb.2.2.2]
    refine own_st (E := encD) (j := 2) (x' := hv3 L[i]) ho1 ea rfl hx1 (by kernel_rfl) (by kernel_rfl) (by simp [Value.cells, Value.oneCell']) (by simp [Value.cells, encD]) rfl fun H2 ho2 hf2 => ?_
    have hcell2 := off hcell1 hf2
    rw [succ_wrap (by omega)]
    refine ⟨⟨i + 1, rfl, by omega, hf.trans' (hf1.trans hf2) (fun _ hk _ => hk) (fun k hk _ => by simp at hk ⊢; exact .inr hk), hcell2, ?_⟩, ?_⟩
    · have e : (L.take (i + 1)).map hv3 ++ L.drop (i + 1) = (((L.take i).map hv3 ++ L.drop i).set i (L[i].1, L[i].2.1 / 2, L[i].2.2)).set i (hv3 L[i]) := by
        rw [List.set_set, List.set_append_right _ _ (by omega), htl, Nat.sub_self, List.drop_eq_getElem_cons hiL, List.set_cons_zero]
        have : L.take (i + 1) = L.take i ++ [L[i]] := by rw [List.take_add_one]; simp [hiL]
        rw [this, List.map_append, List.append_assoc]
        rfl
      rw [e]
      exact ho2
    · show n - ((i + 1 : Nat) : Int).toNat < n - ((i : Nat) : Int).toNat
      omega
  · have hi : i = n := by simp only [decide_eq_false_iff_not] at h0; omega
    subst hi
    have e : (L.take i).map hv3 ++ L.drop i = L.map hv3 := by
      rw [List.take_of_length_le (by omega), List.drop_eq_nil_of_le (by omega), List.append_nil]
    rw [e] at hown
    refine hk H' ⟨a, i, cc, _, ⟨hcell, hown, h.ne, fun d => ?_, fun d => halveX_bd (h.bd d), by simp; omega, ?_⟩, rfl⟩ hf
    · rw [show look d (L.map hv3) = halveX (look d L) from look_map L, h.say]
      rfl
    · intro x hx
      obtain ⟨y, hy, rfl⟩ := List.mem_map.1 hx
      exact halveX_bd (h.all y hy)

end Go.Proofs
