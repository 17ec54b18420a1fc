/- A part of a proof: see the last text of this claim. -/
import Derived.Test.YtjpjmpnlomkdbaaP13m
set_option linter.unusedVariables false
set_option maxRecDepth 100000
open Go Go.GV
namespace Go.Proofs

theorem elem62 : elemB Try.prog 62 2 32 = true := by kernel_rfl
theorem slice35 : sliceB Try.prog 35 62 = true := by kernel_rfl
theorem ldSr62 {H : Heap} {ad : Addr} {x : Sr} (h : CellsAt H ad (encSr.cells x)) : Ld Try.prog 62 H ad (vSr x) := ld_many (by kernel_rfl) (by kernel_rfl) h
theorem theirs_ok {H : Heap} {a : Option Addr} {n c : Nat} {hs : List Sr} {K : Option Addr → Nat → Nat → Heap → Prop} (hx : Sl encSr H a n c hs) (hn : n ≤ 1000000000)
    (hk : ∀ o l d H', Own encSr 62 H.size H' o l d hs → Fr [] H H' → K o l d H') : CallH Try.prog fn_law13_theirs ⟨[.slice a n c]⟩ H fun v H' => ∃ o l d, v = .slice o l d ∧ K o l d H' := by
  apply vc_law13_theirs
  intro b H1 hn1
  have hl := hx.len
  refine ⟨fun vs H' => match vs with | [.slice o l d, .int _ i] => ∃ k : Nat, i = k ∧ k ≤ n ∧ Own encSr 62 H.size H' o l d (hs.take k) ∧ Fr [] H H' | _ => False,
    fun vs _ => match vs with | [_, .int _ i] => n - i.toNat | _ => 0, ⟨0, rfl, by omega, Own.made _ _ hn1 (Nat.le_refl _), hn1.fr⟩, ?_⟩
  rintro J o l d i H2 ⟨k, rfl, hkn, ho, hf⟩
  refine brB_of (fun h0 => ?_) (fun h0 => ?_)
  · have h0' : k < n := by simpa using h0
    have hx1 : hs[k]? = some (hs[k]'(by omega)) := by simp
    generalize hs[k]'(by omega) = x at hx1
    refine (hx.keep hf).get rfl hx1 (decide_eq_true (by omega)) fun ad ea hc => ⟨_, ldSr0 hc, ?_⟩
    refine (hx.keep hf).get rfl hx1 (decide_eq_true (by omega)) fun ad ea hc => ⟨_, _, _, ldSr1 hc, ?_⟩
    have hol := ho.1
    rw [List.length_take] at hol
    refine ap_one (E := encSr) x slice35 elem62 ho hf rfl (by omega) fun _ o' n' c' H5 ho5 hf5 _ => ?_
    rw [succ64 (by omega)]
    exact ⟨⟨k + 1, rfl, by omega, by rw [List.take_add_one, hx1]; exact ho5, hf5⟩, mu_lt h0'⟩
  · rw [List.take_of_length_le (by simp at h0; omega)] at ho
    exact ⟨_, _, _, rfl, hk o l d H2 ho hf⟩
theorem ours_ok {H : Heap} {a : Option Addr} {n c : Nat} {hs : List Sr} {K : Option Addr → Nat → Nat → Heap → Prop} (hx : Sl encSr H a n c hs) (hn : n ≤ 1000000000)
    (hk : ∀ o l d H', Own encSr 68 H.size H' o l d hs → Fr [] H H' → K o l d H') : CallH Try.prog fn_law13_ours ⟨[.slice a n c]⟩ H fun v H' => ∃ o l d, v = .slice o l d ∧ K o l d H' := by
  apply vc_law13_ours
  intro b H1 hn1
  have hl := hx.len
  refine ⟨fun vs H' => match vs with | [.slice o l d, .int _ i] => ∃ k : Nat, i = k ∧ k ≤ n ∧ Own encSr 68 H.size H' o l d (hs.take k) ∧ Fr [] H H' | _ => False,
    fun vs _ => match vs with | [_, .int _ i] => n - i.toNat | _ => 0, ⟨0, rfl, by omega, Own.made _ _ hn1 (Nat.le_refl _), hn1.fr⟩, ?_⟩
  rintro J o l d i H2 ⟨k, rfl, hkn, ho, hf⟩
  refine brB_of (fun h0 => ?_) (fun h0 => ?_)
  · have h0' : k < n := by simpa using h0
    have hx1 : hs[k]? = some (hs[k]'(by omega)) := by simp
    generalize hs[k]'(by omega) = x at hx1
    refine (hx.keep hf).get rfl hx1 (decide_eq_true (by omega)) fun ad ea hc => ⟨_, ldSr0 hc, ?_⟩
    refine (hx.keep hf).get rfl hx1 (decide_eq_true (by omega)) fun ad ea hc => ⟨_, _, _, ldSr1 hc, ?_⟩
    have hol := ho.1
    rw [List.length_take] at hol
    refine ap_one (E := encSr) x slice37 elem68 ho hf rfl (by omega) fun _ o' n' c' H5 ho5 hf5 _ => ?_
    rw [succ64 (by omega)]
    exact ⟨⟨k + 1, rfl, by omega, by rw [List.take_add_one, hx1]; exact ho5, hf5⟩, mu_lt h0'⟩
  · rw [List.take_of_length_le (by simp at h0; omega)] at ho
    exact ⟨_, _, _, rfl, hk o l d H2 ho hf⟩
theorem Alike_ok {H : Heap} {a b : Option Addr} {n c m d : Nat} {hs hs' : List Sr} {ss : List Srs} {K : Bool → Heap → Prop} (hx : Sl encSr H a n c hs) (hy : Sl encSr H b m d hs') (h1 : SerH H hs ss) (h2 : SerH H hs' ss) (hn : n ≤ 1000000) (hsl : ∀ s ∈ ss, s.2.length ≤ 1000000000) (hk : K true H) :
    CallH Try.prog fn_ref13_Alike ⟨[.slice a n c, .slice b m d]⟩ H fun v H' => ∃ r, v = .bool r ∧ K r H' := by
  apply vc_ref13_Alike
  have e1 := hx.len
  have e2 := hy.len
  have e3 := h1.len
  have e4 := h2.len
  refine brB_of (fun h => by simp at h; omega) (fun _ => ?_)
  refine ⟨fun vs H' => match vs with | [.int _ i] => ∃ k : Nat, i = k ∧ k ≤ n ∧ H' = H | _ => False, fun vs _ => match vs with | [.int _ i] => n - i.toNat | _ => 0, ⟨0, rfl, by omega, rfl⟩, ?_⟩
  rintro J i H1 ⟨k, rfl, hkn, rfl⟩
  refine brB_of (fun h0 => ?_) (fun h0 => ⟨_, rfl, hk⟩)
  have h0' : k < n := by simpa using h0
  have hx1 : hs[k]? = some (hs[k]'(by omega)) := by simp
  generalize hs[k]'(by omega) = x at hx1
  obtain ⟨s, hs1, r1⟩ := h1.get hx1
  obtain ⟨y, hy1, r2⟩ := All2.get' h2 hs1
  have l1 := r1.2.len
  have l2 := hsl s (List.mem_of_getElem? hs1)
  refine ⟨fun _ H' => H' = H1, ?_, fun J H2 e => by subst e; rw [succ64 (by omega)]; exact ⟨⟨k + 1, rfl, by omega, rfl⟩, mu_lt h0'⟩⟩
  refine hx.get rfl hx1 (decide_eq_true (by omega)) fun ad ea hc => ⟨_, ldSr0 hc, hy.get rfl hy1 (decide_eq_true (by omega)) fun ad ea hc => ⟨_, ldSr0 hc, ?_⟩⟩
  rw [r1.1, r2.1]
  refine brB_of (fun h => by simp at h) (fun _ => ?_)
  refine hx.get rfl hx1 (decide_eq_true (by omega)) fun ad ea hc => ⟨_, _, _, ldSr1 hc, hy.get rfl hy1 (decide_eq_true (by omega)) fun ad ea hc => ⟨_, _, _, ldSr1 hc, ?_⟩⟩
  refine Same_ok r1.2 r2.2 (by omega) ?_
  exact brB_of (fun h => by simp at h) (fun _ => rfl)
theorem Right_ok {H : Heap} {a : Option Addr} {n c : Nat} {hs : List Sr} {ss : List Srs} {K : Bool → Heap → Prop} (hx : Sl encSr H a n c hs) (h1 : SerH H hs ss) (hR : RightS ss) (hn : n ≤ 1000000) (hsl : ∀ s ∈ ss, s.2.length ≤ 1000000000) (hk : K true H) :
    CallH Try.prog fn_ref13_Right ⟨[.slice a n c]⟩ H fun v H' => ∃ r, v = .bool r ∧ K r H' := by
  apply vc_ref13_Right
  have e1 := hx.len
  have e3 := h1.len
  have hpw := h1.pw hR.1
  refine ⟨fun vs H' => match vs with | [.int _ i] => ∃ k : Nat, i = k ∧ k ≤ n ∧ H' = H | _ => False, fun vs _ => match vs with | [.int _ i] => n - i.toNat | _ => 0, ⟨0, rfl, by omega, rfl⟩, ?_⟩
  rintro J i H1 ⟨k, rfl, hkn, rfl⟩
  refine brB_of (fun h0 => ?_) (fun h0 => ⟨_, rfl, hk⟩)
  have h0' : k < n := by simpa using h0
  have hx1 : hs[k]? = some (hs[k]'(by omega)) := by simp
  generalize hs[k]'(by omega) = x at hx1
  obtain ⟨s, hs1, r1⟩ := h1.get hx1
  have l1 := r1.2.len
  have l2 := hsl s (List.mem_of_getElem? hs1)
  have hs2 := hR.2 s (List.mem_of_getElem? hs1)
  have l3 := List.length_pos_iff.2 hs2.1
  refine ⟨fun _ H' => H' = H1, ?_, fun J H2 e => by subst e; rw [succ64 (by omega)]; exact ⟨⟨k + 1, rfl, by omega, rfl⟩, mu_lt h0'⟩⟩
  refine hx.get rfl hx1 (decide_eq_true (by omega)) fun ad ea hc => ⟨_, _, _, ldSr1 hc, brB_of (fun h => by simp at h; omega) (fun _ => ?_)⟩
  refine hx.get rfl hx1 (decide_eq_true (by omega)) fun ad ea hc => ⟨_, _, _, ldSr1 hc, rRises_ok r1.2 (by omega) ?_⟩
  refine brB_of (fun h => by rw [decide_eq_true hs2.2] at h; cases h) (fun _ => brB_of (fun h2 => ?_) (fun _ => rfl))
  have hk0 : 0 < k := by simpa using h2
  rw [pred64 (by omega) hk0]
  have hy1 : hs[k - 1]? = some (hs[k - 1]'(by omega)) := by simp
  generalize hs[k - 1]'(by omega) = y at hy1
  have hyx : y.1 < x.1 := by
    obtain ⟨hi, e⟩ := List.getElem?_eq_some_iff.1 hy1
    obtain ⟨hj, e'⟩ := List.getElem?_eq_some_iff.1 hx1
    rw [← e, ← e']
    exact List.pairwise_iff_getElem.1 hpw (k - 1) k hi hj (by omega)
  refine hx.get rfl hx1 (decide_eq_true (by omega)) fun ad ea hc => ⟨_, ldSr0 hc, hx.get rfl hy1 (decide_eq_true (by omega)) fun ad ea hc => ⟨_, ldSr0 hc, ?_⟩⟩
  exact brB_of (fun h => by have := of_decide_eq_true h; omega) (fun _ => rfl)

/-! the reference's Put -/
def rpS (x : Rw) (done : Bool) : List Srs → List Srs
  | [] => if done then [] else [(x.2.1, [(x.1, x.2.2)])]
  | s :: ss => (if done = false ∧ s.1 > x.2.1 then [(x.2.1, [(x.1, x.2.2)])] else []) ++ ((if s.1 = x.2.1 then (x.2.1, mrg s.2 [(x.1, x.2.2)]) else s) :: rpS x (if s.1 = x.2.1 then true else if done = false ∧ s.1 > x.2.1 then true else done) ss)
theorem rpS_done {x : Rw} : ∀ {ss : List Srs}, (∀ s ∈ ss, s.1 ≠ x.2.1) → rpS x true ss = ss
  | [], _ => rfl
  | s :: ss, h => by
    unfold rpS
    rw [if_neg (by simp), if_neg (h s (by simp)), if_neg (h s (by simp)), if_neg (by simp), rpS_done fun y hy => h y (by simp [hy])]
    rfl
theorem rpS_put {x : Rw} : ∀ {ss : List Srs}, ss.Pairwise (fun a b => a.1 < b.1) → rpS x false ss = put1 ss x
  | [], _ => rfl
  | s :: ss, h => by
    have h' := List.pairwise_cons.1 h
    unfold rpS put1
    by_cases h1 : x.2.1 < s.1
    · rw [if_pos ⟨rfl, h1⟩, if_pos h1, if_neg (by omega), if_neg (by omega), if_pos ⟨rfl, h1⟩, rpS_done fun y hy => by have := h'.1 y hy; omega]
      rfl
    · rw [if_neg (fun hh => h1 hh.2), if_neg h1]
      by_cases h2 : s.1 = x.2.1
      · rw [if_pos h2, if_pos h2, if_pos h2, rpS_done fun y hy => by have := h'.1 y hy; omega, ← h2]
        rfl
      · rw [if_neg h2, if_neg h2, if_neg h2, if_neg (fun hh => h1 hh.2), rpS_put h'.2]
        rfl
/-- Series that are gathered: none of their samples lies where they themselves lie. -/
structure SerO (base : Nat) (H : Heap) (o : Option Addr) (l d : Nat) (hs : List Sr) (ss : List Srs) : Prop where
  own : Own encSr 62 base H o l d hs
  ser : SerH H hs ss
  dj : ∀ m ∈ hs, Dj (blkL o) (blkL m.2.1)
  ne : ∀ s ∈ ss, s.2 ≠ []
theorem SerO.keep {base : Nat} {H H' : Heap} {o : Option Addr} {l d : Nat} {hs : List Sr} {ss : List Srs} (h : SerO base H o l d hs ss) (hf : Fr [] H H') : SerO base H' o l d hs ss := ⟨h.own.keep hf, h.ser.keep hf, h.dj, h.ne⟩
theorem SerO.push {H0 H : Heap} {o : Option Addr} {l d : Nat} {hs : List Sr} {ss : List Srs} {ty t' : TypeId} {vs : List Value} {K : Nat → Option Addr → Nat → Nat → Heap → Prop} (m : Sr) (s : Srs) (h : SerO H0.size H o l d hs ss) (hf : Fr [] H0 H) (hr : SerR H m s) (hn : s.2 ≠ []) (hd : Dj (blkL o) (blkL m.2.1)) (hv : vs = encSr.cells m) (hl : l ≤ 1000000000)
    (hk : ∀ b o' l' d' H', SerO H0.size H' o' l' d' (hs ++ [m]) (ss ++ [s]) → Fr [] H0 H' → l' = l + 1 → K b o' l' d' H') :
    ∀ b H1, New H b (.cells ⟨vs⟩ t') H1 → SemWp Try.prog (Builtin.append_ ⟨[35, 35]⟩ ty ⟨[.slice o l d, .slice (some ⟨b, 0, none⟩) 1 1]⟩) H1 fun v H' => ∃ a n c, v = .slice a n c ∧ K b a n c H' := fun b H1 hn1 => by
  have s1 := hn1.size
  have s0 := hf.size
  refine ap_grow slice35 elem62 (h.own.keep hn1.fr) (sl_one encSr m hn1 hv) (by omega) (by omega) fun o' l' d' H2 ho2 hf2 hg2 => ?_
  have hl2 := ho2.1
  have hl1 := h.own.1
  simp at hl2
  have hdj : ∀ m' s', SerR H m' s' → s'.2 ≠ [] → Dj (blkL o) (blkL m'.2.1) → Dj (blkL o') (blkL m'.2.1) := fun m' s' hr' hn' hd' k hk hk' => by
    rcases hg2 k hk with h1 | h1
    · exact hd' k h1 hk'
    · have := sl_lt hr'.2 hn' k hk'; omega
  refine hk b o' l' d' H2 ⟨ho2, All2.app ?_ (.cons ⟨hr.1, sl_fr (hr.2.keep hn1.fr) hf2 hd.symm⟩ .nil), fun m' hm' => ?_, fun s' hs' => ?_⟩ ((hf.keep0 hn1.fr).keep hf2 fun k hk => ((h.own.keep hn1.fr).ge k hk).1) (by omega)
  · exact (h.ser.keep hn1.fr).mono fun m' s' hm' _ hr' => ⟨hr'.1, sl_fr hr'.2 hf2 (h.dj m' hm').symm⟩
  · rcases List.mem_append.1 hm' with hm' | hm'
    · obtain ⟨s', hs', hr'⟩ := All2.mem h.ser hm'
      exact hdj m' s' hr' (h.ne s' hs') (h.dj m' hm')
    · simp at hm'; subst hm'
      exact hdj m' s hr hn hd
  · rcases List.mem_append.1 hs' with hs' | hs'
    · exact h.ne s' hs'
    · simp at hs'; subst hs'; exact hn
theorem rPut_ok {H : Heap} {la : Option Addr} {ln lc : Nat} {hs : List Sr} {ss : List Srs} {ra : Option Addr} {rn rc : Nat} {rows : List Rw} {K : Option Addr → Nat → Nat → Heap → Prop} (hx : Sl encSr H la ln lc hs) (hS : SerH H hs ss) (hR : RightS ss) (hrw : Sl encRw H ra rn rc rows)
    (hln : ln ≤ 1000000) (hrn : rn ≤ 1000000) (hsl : ∀ s ∈ ss, s.2.length ≤ 1000000)
    (hk : ∀ a' n' c' H' hs', Sl encSr H' a' n' c' hs' → SerH H' hs' (putR ss rows) → Fr [] H H' → K a' n' c' H') :
    CallH Try.prog fn_ref13_Put ⟨[.slice la ln lc, .slice ra rn rc]⟩ H fun v H' => ∃ a n c, v = .slice a n c ∧ K a n c H' := by
  apply vc_ref13_Put
  have hrl := hrw.len
  have hll := hx.len
  have hssl : ss.length = ln := by rw [hll]; exact hS.len.symm
  refine ⟨fun vs H' => match vs with
      | [.slice a n c, .int _ i] => ∃ (k : Nat) (hs' : List Sr) (ss' : List Srs), i = k ∧ k ≤ rn ∧ Sl encSr H' a n c hs' ∧ SerH H' hs' ss' ∧ RightS ss' ∧ putR ss' (rows.drop k) = putR ss rows ∧ n ≤ 1000000 + k ∧ (∀ s ∈ ss', s.2.length ≤ 1000000 + k) ∧ Fr [] H H'
      | _ => False,
    fun vs _ => match vs with | [_, .int _ i] => rn - i.toNat | _ => 0, ⟨0, hs, ss, rfl, by omega, hx, hS, hR, rfl, by omega, by simpa using hsl, Fr.refl _ _⟩, ?_⟩
  rintro J a n c i H1 ⟨k, hs1, ss1, rfl, hkn, hx1, hS1, hR1, hput, hn1, hl1, hf1⟩
  refine brB_of (fun h0 => ?_) (fun h0 => ⟨_, _, _, rfl, ?_⟩)
  rotate_left
  · rw [List.drop_of_length_le (by simp at h0; omega)] at hput
    exact hk a n c H1 hs1 hx1 (by rw [← hput]; exact hS1) hf1
  have h0' : k < rn := by simpa using h0
  have hr1 : rows[k]? = some (rows[k]'(by omega)) := by simp
  have hdr : rows.drop k = rows[k]'(by omega) :: rows.drop (k + 1) := List.drop_eq_getElem_cons (by omega)
  generalize rows[k]'(by omega) = x at hr1 hdr
  refine (hrw.keep hf1).get rfl hr1 (decide_eq_true (by omega)) fun ad ea hc => ⟨_, _, _, ldRw hc, ?_⟩
  refine var45 rfl fun b H2 hb hB hf2 => ⟨_, hB.ld0 (by kernel_rfl) rfl, _, hB.ldK (j := 2) (by kernel_rfl) rfl, ?_⟩
  intro b1 H3 hn3
  have ho1 : Sl encS H3 (some ⟨b1, 0, none⟩) 1 1 [(x.1, x.2.2)] := sl_one encS ((x.1, x.2.2) : Smp) hn3 rfl
  intro b2 H4 hn4
  have hf13 := hf2.keep0 hn3.fr
  have hB3 := hB.keep hn3.fr
  have hlen1 := hx1.len
  have hsl1 := hS1.len
  have e3 := hn3.eq
  have s3 := hn3.size
  have s13 := hf13.size
  have hput1 := rpS_put (x := x) hR1.1
  obtain ⟨hp1, hp2⟩ := put1_len (x := x) hl1
  obtain ⟨hp3, _⟩ := right_put1 (x := x) hR1
  -- one row
  refine ⟨fun vs H' => match vs with
      | [.slice o l d, .bool w, .int _ i] => ∃ (j : Nat) (hs2 : List Sr) (ss2 : List Srs), i = j ∧ j ≤ n ∧ SerO H3.size H' o l d hs2 ss2 ∧ ss2 ++ rpS x w (ss1.drop j) = put1 ss1 x ∧ l ≤ 2 * j ∧ Fr [] H3 H'
      | _ => False,
    fun vs _ => match vs with | [_, _, .int _ i] => n - i.toNat | _ => 0, ⟨0, [], [], rfl, by omega, ⟨Own.made _ _ hn4 (Nat.le_refl _), .nil, by simp, by simp⟩, hput1, by omega, hn4.fr⟩, ?_⟩
  rintro J o l d w i H5 ⟨j, hs2, ss2, rfl, hjn, ho5, hrp, hl5, hf5⟩
  have hf15 := hf13.keep0 hf5
  have hlx : ∀ {H' : Heap}, Fr [] H3 H' → Ld Try.prog 3 H' ⟨b, 1, none⟩ (.int .i64 x.2.1) := fun hf => (hB3.keep hf).ldK (j := 1) (by kernel_rfl) rfl
  have newS : ∀ {H' : Heap}, Fr [] H3 H' → SerR H' (x.2.1, (some ⟨b1, 0, none⟩, 1, 1)) (x.2.1, [(x.1, x.2.2)]) := fun hf => ⟨rfl, ho1.keep hf⟩
  have djOld : ∀ {o : Option Addr} {l d : Nat} {hs : List Sr} {ss : List Srs} {H' : Heap} {a : Option Addr}, SerO H3.size H' o l d hs ss → (∀ k ∈ blkL a, k < H3.size) → Dj (blkL o) (blkL a) := fun h ha k hk hk' => by
    have := (h.own.ge k hk).1
    have := ha k hk'; omega
  have newD : ∀ k ∈ blkL (some (⟨b1, 0, none⟩ : Addr)), k < H3.size := fun k hk => by simp [blkL] at hk; omega
  refine brB_of (fun h1 => ?_) (fun h1 => ?_)
  · have h1' : j < n := by simpa using h1
    have hs0 : ss1[j]? = some (ss1[j]'(by omega)) := by simp
    have hdj : ss1.drop j = ss1[j]'(by omega) :: ss1.drop (j + 1) := List.drop_eq_getElem_cons (by omega)
    generalize ss1[j]'(by omega) = s at hs0 hdj
    obtain ⟨y, hy0, hyr⟩ := All2.get' hS1 hs0
    have hsn := hl1 s (List.mem_of_getElem? hs0)
    have hsr := hR1.2 s (List.mem_of_getElem? hs0)
    rw [hdj] at hrp
    unfold rpS at hrp
    have hyl := hyr.2.len
    have hyd : ∀ k ∈ blkL y.2.1, k < H3.size := fun k hk => by have := sl_lt hyr.2 hsr.1 k hk; omega
    refine ⟨fun vs H' => match vs with
        | [.slice o l d, .bool w'] => ∃ hs3 ss3, SerO H3.size H' o l d hs3 ss3 ∧ ss3 ++ rpS x w' (ss1.drop (j + 1)) = put1 ss1 x ∧ l ≤ 2 * (j + 1) ∧ Fr [] H3 H'
        | _ => False, ?_, ?_⟩
    · -- ahead of it, perhaps
      refine ⟨fun vs H' => match vs with
          | [.slice o l d, .bool w'] => ∃ hs3 ss3, SerO H3.size H' o l d hs3 ss3 ∧ ss3 ++ ((if s.1 = x.2.1 then (x.2.1, mrg s.2 [(x.1, x.2.2)]) else s) :: rpS x (if s.1 = x.2.1 then true else w') (ss1.drop (j + 1))) = put1 ss1 x ∧ l ≤ 2 * j + 1 ∧ Fr [] H3 H'
          | _ => False, ?_, ?_⟩
      · refine ⟨fun vs H' => vs = [.bool (!w && decide (s.1 > x.2.1))] ∧ H' = H5, ?_, ?_⟩
        · refine brB_of (fun h2 => ?_) (fun h2 => ⟨?_, rfl⟩)
          · refine (hx1.keep hf15).get rfl hy0 (decide_eq_true (by omega)) fun ad ea hc => ⟨_, ldSr0 hc, _, hlx hf5, ?_, rfl⟩
            rw [h2, hyr.1]; simp
          · rw [h2]; simp
        · rintro J w2 H6 ⟨e6, rfl⟩
          simp only [List.cons.injEq, Value.bool.injEq, and_true] at e6
          subst e6
          refine brB_of (fun h2 => ?_) (fun h2 => ?_)
          · have h2' : w = false ∧ s.1 > x.2.1 := by simpa using h2
            refine ⟨_, hlx hf5, ?_⟩
            refine SerO.push (x.2.1, (some ⟨b1, 0, none⟩, 1, 1)) (x.2.1, [(x.1, x.2.2)]) ho5 hf5 (newS hf5) (by simp) (djOld ho5 newD) rfl (by omega) fun _ o' l' d' H7 ho7 hf7 el => ⟨_, _, ho7, ?_, by omega, hf7⟩
            rw [if_pos h2', if_pos h2'] at hrp
            rw [← hrp]; simp
          · have h2' : ¬ (w = false ∧ s.1 > x.2.1) := by simpa using h2
            rw [if_neg h2', if_neg h2'] at hrp
            exact ⟨hs2, ss2, ho5, hrp, by omega, hf5⟩
      · rintro J o l d w' H6 ⟨hs3, ss3, ho6, hrp6, hl6, hf6⟩
        have hf16 := hf13.keep0 hf6
        refine (hx1.keep hf16).get rfl hy0 (decide_eq_true (by omega)) fun ad ea hc => ⟨_, ldSr0 hc, _, hlx hf6, ?_⟩
        rw [hyr.1]
        refine brB_of (fun h2 => ⟨_, hlx hf6, ?_⟩) (fun h2 => ?_)
        · have h2' : s.1 = x.2.1 := by simpa using h2
          rw [if_pos h2', if_pos h2'] at hrp6
          refine (hx1.keep hf16).get rfl hy0 (decide_eq_true (by omega)) fun ad ea hc => ⟨_, _, _, ldSr1 hc, ?_⟩
          refine rMerge_ok (hyr.2.keep hf16) (ho1.keep hf6) hsr.2 (ris_one _) (by omega) fun a' n' c' H7 ho7 hf7 => ⟨hlx (hf6.keep0 hf7), ?_⟩
          refine SerO.push (x.2.1, (a', n', c')) (x.2.1, mrg s.2 [(x.1, x.2.2)]) (ho6.keep hf7) (hf6.keep0 hf7) ⟨rfl, ho7.sl⟩ (mrg_ne (by simp) hsr.2 (ris_one _)) (fun k hk hk' => ?_) rfl (by omega) fun _ o' l' d' H8 ho8 hf8 el => ⟨_, _, ho8, ?_, by omega, hf8⟩
          · have := ho6.own.bIn k hk
            have := (ho7.ge k hk').1
            omega
          · rw [← hrp6]; simp
        · have h2' : ¬ s.1 = x.2.1 := by simpa using h2
          rw [if_neg h2', if_neg h2'] at hrp6
          refine (hx1.keep hf16).get rfl hy0 (decide_eq_true (by omega)) fun ad ea hc => ⟨_, _, _, _, ldSr62 hc, ?_⟩
          refine SerO.push y s ho6 hf6 ⟨hyr.1, hyr.2.keep hf16⟩ hsr.1 (djOld ho6 hyd) rfl (by omega) fun _ o' l' d' H8 ho8 hf8 el => ⟨_, _, ho8, ?_, by omega, hf8⟩
          rw [← hrp6]; simp
    · rintro J o l d w' H6 ⟨hs3, ss3, ho6, hrp6, hl6, hf6⟩
      rw [succ64 (by omega)]
      exact ⟨⟨j + 1, hs3, ss3, rfl, by omega, ho6, hrp6, by omega, hf6⟩, mu_lt h1'⟩
  · rw [List.drop_of_length_le (by simp at h1; omega)] at hrp
    unfold rpS at hrp
    have fin : ∀ {o' : Option Addr} {l' d' : Nat} {hs' : List Sr} {H' : Heap}, SerO H3.size H' o' l' d' hs' (put1 ss1 x) → Fr [] H3 H' → (∃ (k_1 : Nat) (hs'_1 : List Sr) (ss' : List Srs), IntKind.i64.wrap ((k : Int) + 1) = k_1 ∧ k_1 ≤ rn ∧ Sl encSr H' o' l' d' hs'_1 ∧ SerH H' hs'_1 ss' ∧ RightS ss' ∧ putR ss' (rows.drop k_1) = putR ss rows ∧ l' ≤ 1000000 + k_1 ∧ (∀ s ∈ ss', s.2.length ≤ 1000000 + k_1) ∧ Fr [] H H') ∧ rn - (IntKind.i64.wrap ((k : Int) + 1)).toNat < rn - ((k : Nat) : Int).toNat := fun {o' l' d' hs' H'} h hf => by
      rw [succ64 (by omega)]
      refine ⟨⟨k + 1, hs', put1 ss1 x, rfl, by omega, h.own.sl, h.ser, hp3, ?_, ?_, hp2, (hf1.keep0 hf13).keep0 hf⟩, by omega⟩
      · rw [← hput, hdr]; rfl
      · have := h.ser.len
        have := h.own.1
        omega
    refine brB_of (fun h2 => ⟨_, hlx hf5, ?_⟩) (fun h2 => ?_)
    · have h2' : w = false := by simpa using h2
      rw [h2', if_neg (by simp)] at hrp
      refine SerO.push (x.2.1, (some ⟨b1, 0, none⟩, 1, 1)) (x.2.1, [(x.1, x.2.2)]) ho5 hf5 (newS hf5) (by simp) (djOld ho5 newD) rfl (by omega) fun _ o' l' d' H7 ho7 hf7 el => ?_
      rw [hrp] at ho7
      exact fin ho7 hf7
    · have h2' : w = true := by simpa using h2
      rw [h2', if_pos rfl, List.append_nil] at hrp
      rw [hrp] at ho5
      exact fin ho5 hf5
end Go.Proofs
