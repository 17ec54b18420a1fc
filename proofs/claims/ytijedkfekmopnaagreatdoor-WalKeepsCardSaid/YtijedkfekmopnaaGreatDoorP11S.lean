/- A part of a proof: see the last text of this claim. -/
import Derived.Test.YtijedkfekmopnaaGreatDoorR10a
set_option linter.unusedVariables false
set_option maxRecDepth 100000
open Go Go.GV
namespace Go.Proofs

def wR (m : Rm) : Nat := m.2.2.1.2.1 + m.2.2.2.1.2.1
def wRs (ms : List Rm) : Nat := (ms.map wR).sum
theorem minI_eq (n : Nat) : minI n ≤ 2048 → minI n = n := by
  unfold minI
  split <;> omega
theorem heavyS_ok {H : Heap} {a : Option Addr} {n c : Nat} {ms : List Rm} {K : Bool → Heap → Prop} (hx : Sl encR5 H a n c ms) (hls : ∀ m ∈ ms, ∃ l, Sl encL H m.2.1.1 m.2.1.2.1 m.2.1.2.2 l) (hcl : n ≤ 9223372036854775807)
    (hyes : K true H) (hno : (∀ m ∈ ms, Light m) → n ≤ 2048 → wRs ms ≤ 2048 → K false H) : CallH Tryz.prog fn_law11_heavy ⟨[.slice a n c]⟩ H fun v H' => ∃ w, v = .bool w ∧ K w H' := by
  apply vc_law11_heavy
  have hl := hx.len
  have hmn := minI_le n
  have end' : ∀ {N : Int}, (N ≤ 2048 → (∀ m ∈ ms, Light m) ∧ n ≤ 2048 ∧ wRs ms ≤ 2048) → ∃ w, Value.bool (decide (N > 2048)) = .bool w ∧ K w H := fun {N} h => ⟨_, rfl, by
    by_cases hN : N > 2048
    · rw [decide_eq_true hN]; exact hyes
    · rw [decide_eq_false hN]
      obtain ⟨h1, h2, h3⟩ := h (by omega)
      exact hno h1 h2 h3⟩
  refine ⟨fun vs H' => match vs with | [.int _ N, .int _ i] => ∃ k : Nat, i = k ∧ k ≤ n ∧ 0 ≤ N ∧ N ≤ 5244928 ∧ (N ≤ 2048 → n ≤ 2048 ∧ (wRs (ms.take k) : Int) ≤ N ∧ ∀ m ∈ ms.take k, Light m) ∧ H' = H | _ => False,
    fun vs _ => match vs with | [_, .int _ i] => n - i.toNat | _ => 0, ⟨0, rfl, by omega, ?_, ?_, fun h => ⟨hmn.2.2 h, hmn.1, by simp⟩, rfl⟩, ?_⟩
  · exact hmn.1
  · show minI n ≤ _; omega
  rintro J N i H1 ⟨k, rfl, hkn, hN0, hN1, hN2, rfl⟩
  refine ⟨fun _ H' => H' = H1 ∧ k < n ∧ N ≤ 2048, ?_, ?_⟩
  · refine brB_of (fun h0 => brB_of (fun h1 => ⟨rfl, by simpa using h0, by simpa using h1⟩) (fun h1 => end' fun h2 => ?_)) (fun h0 => end' fun h2 => ?_)
    · simp at h1; omega
    · obtain ⟨h3, h5, h4⟩ := hN2 h2
      rw [List.take_of_length_le (by simp at h0; omega)] at h4 h5
      exact ⟨h4, h3, by omega⟩
  rintro J H2 ⟨rfl, hlt, hN⟩
  obtain ⟨hn20, hw20, hl20⟩ := hN2 hN
  have hx1 : ms[k]? = some (ms[k]'(by omega)) := by simp
  generalize ms[k]'(by omega) = x at hx1
  obtain ⟨L, hL⟩ := hls x (List.mem_of_getElem? hx1)
  have hLl := hL.len
  refine hx.get rfl hx1 (decide_eq_true (by omega)) fun ad ea hc => ⟨_, _, _, ldR2 hc, ?_⟩
  refine hx.get rfl hx1 (decide_eq_true (by omega)) fun ad ea hc => ⟨_, _, _, ldR3 hc, ?_⟩
  refine hx.get rfl hx1 (decide_eq_true (by omega)) fun ad ea hc => ⟨_, _, _, ldR1 hc, ?_⟩
  have m1 := minI_le x.2.2.1.2.1
  have m2 := minI_le x.2.2.2.1.2.1
  have m3 := minI_le x.2.1.2.1
  have ew : IntKind.i64.wrap (N + IntKind.i64.wrap (IntKind.i64.wrap (minI x.2.2.1.2.1 + minI x.2.2.2.1.2.1) + minI x.2.1.2.1)) = N + minI x.2.2.1.2.1 + minI x.2.2.2.1.2.1 + minI x.2.1.2.1 := by
    rw [wrap64_of (n := minI x.2.2.1.2.1 + minI x.2.2.2.1.2.1) (by omega) (by omega), wrap64_of (n := minI x.2.2.1.2.1 + minI x.2.2.2.1.2.1 + minI x.2.1.2.1) (by omega) (by omega), wrap64_of (by omega) (by omega)]; omega
  have nextI : ∀ {N' : Int}, 0 ≤ N' → N' ≤ 5244928 → (N' ≤ 2048 → Light x ∧ N + (wR x : Int) ≤ N') → (N ≤ N') → ∃ k' : Nat, IntKind.i64.wrap ((k : Int) + 1) = k' ∧ k' ≤ n ∧ 0 ≤ N' ∧ N' ≤ 5244928 ∧ (N' ≤ 2048 → n ≤ 2048 ∧ (wRs (ms.take k') : Int) ≤ N' ∧ ∀ m ∈ ms.take k', Light m) ∧ H2 = H2 := fun h0 h1 h2 h3 =>
    ⟨k + 1, by rw [succ64 (by omega)], by omega, h0, h1, fun h => ⟨hn20, by
      have e : wRs (ms.take (k + 1)) = wRs (ms.take k) + wR x := by
        unfold wRs; rw [List.take_add_one, hx1]; simp
      have := (h2 h).2
      omega, fun m hm => by
      rw [List.take_add_one, hx1] at hm
      rcases List.mem_append.1 hm with hm | hm
      · exact hl20 m hm
      · simp at hm; subst hm; exact (h2 h).1⟩, rfl⟩
  refine ⟨fun vs H' => match vs with | [.int _ M, .int _ i] => ∃ j : Nat, i = j ∧ N + minI x.2.2.1.2.1 + minI x.2.2.2.1.2.1 + minI x.2.1.2.1 ≤ M ∧ M ≤ 5244928 ∧ H' = H2 | _ => False,
    fun vs _ => match vs with | [_, .int _ i] => x.2.1.2.1 - i.toNat | _ => 0, ⟨0, rfl, ?_, ?_, rfl⟩, ?_⟩
  · show _ ≤ IntKind.i64.wrap (N + IntKind.i64.wrap (IntKind.i64.wrap (minI x.2.2.1.2.1 + minI x.2.2.2.1.2.1) + minI x.2.1.2.1))
    rw [ew]; omega
  · show IntKind.i64.wrap (N + IntKind.i64.wrap (IntKind.i64.wrap (minI x.2.2.1.2.1 + minI x.2.2.2.1.2.1) + minI x.2.1.2.1)) ≤ _
    rw [ew]; omega
  rintro J M i H3 ⟨j, rfl, hM0, hM1, rfl⟩
  have q1 := minI_eq x.2.2.1.2.1
  have q2 := minI_eq x.2.2.2.1.2.1
  have hwx : wR x = x.2.2.1.2.1 + x.2.2.2.1.2.1 := rfl
  have hLt : M ≤ 2048 → Light x ∧ N + (wR x : Int) ≤ M := fun h => ⟨⟨m3.2.2 (by omega), m1.2.2 (by omega), m2.2.2 (by omega)⟩, by have := q1 (by omega); have := q2 (by omega); omega⟩
  have mu1 : (fun vs (_ : Heap) => match vs with | [_, .int _ i] => n - i.toNat | _ => 0 : List Value → Heap → Nat) [.int .i64 M, .int .i64 (IntKind.i64.wrap ((k : Int) + 1))] H3 < n - ((k : Int)).toNat := by
    rw [succ64 (by omega)]; exact mu_lt hlt
  refine ⟨fun _ H' => H' = H3 ∧ j < x.2.1.2.1 ∧ M ≤ 2048, ?_, ?_⟩
  · refine hx.get rfl hx1 (decide_eq_true (by omega)) fun ad ea hc => ⟨_, _, _, ldR1 hc, brB_of (fun h0 => brB_of (fun h1 => ⟨rfl, by simpa using h0, by simpa using h1⟩) (fun h1 => ⟨nextI (by omega) hM1 hLt (by omega), mu1⟩)) (fun h0 => ⟨nextI (by omega) hM1 hLt (by omega), mu1⟩)⟩
  rintro J H4 ⟨rfl, hj, hM2⟩
  have hLx := (hLt hM2).1
  have hv : L[j]? = some (L[j]'(by omega)) := by simp
  generalize L[j]'(by omega) = v at hv
  refine hx.get rfl hx1 (decide_eq_true (by omega)) fun ad ea hc => ⟨_, _, _, ldR1 hc, hL.get rfl hv (decide_eq_true (by omega)) fun ad ea hc => ⟨_, ldN hc, ?_⟩⟩
  refine hx.get rfl hx1 (decide_eq_true (by omega)) fun ad ea hc => ⟨_, _, _, ldR1 hc, hL.get rfl hv (decide_eq_true (by omega)) fun ad ea hc => ⟨_, ldV hc, ?_⟩⟩
  have m4 := minI_le v.1.size
  have m5 := minI_le v.2.size
  have ew2 : IntKind.i64.wrap (M + IntKind.i64.wrap (minI v.1.size + minI v.2.size)) = M + minI v.1.size + minI v.2.size := by
    rw [wrap64_of (n := minI v.1.size + minI v.2.size) (by omega) (by omega), wrap64_of (by omega) (by omega)]; omega
  have hl1 := hLx.1
  refine ⟨⟨j + 1, by rw [succ64 (by omega)], ?_, ?_, rfl⟩, by rw [succ64 (by omega)]; exact mu_lt hj⟩
  · show _ ≤ IntKind.i64.wrap (M + IntKind.i64.wrap (minI v.1.size + minI v.2.size))
    rw [ew2]; omega
  · show IntKind.i64.wrap (M + IntKind.i64.wrap (minI v.1.size + minI v.2.size)) ≤ _
    rw [ew2]; omega
end Go.Proofs
set_option linter.unusedVariables false
set_option maxRecDepth 100000
open Go Go.GV
namespace Go.Proofs

def encHd : Enc Hd := ⟨fun x => [.slice x.1 x.2.1 x.2.2], 1, fun _ => rfl, by decide, fun _ v h => by simp at h; subst h; rfl⟩
theorem slice128 : sliceB Tryz.prog 128 92 = true := by kernel_rfl
theorem elem92 : elemB Tryz.prog 92 1 24 = true := by kernel_rfl
structure DF (H : Heap) (d : Addr) (sz : Nat) : Prop where
  it : ∃ ia ic wa wc, Blk H d [.slice ia sz ic, .slice wa sz wc, .bool false, .int .i64 0, .int .u64 0, .int .i64 0] ∧ Sl GV.encStr H ia sz ic (List.replicate sz ⟨#[]⟩) ∧ Sl encHd H wa sz wc (List.replicate sz (none, 0, 0))
theorem DF.keep {H H' : Heap} {d : Addr} {sz : Nat} (h : DF H d sz) (hf : Fr [] H H') : DF H' d sz := by
  obtain ⟨ia, ic, wa, wc, h1, h2, h3⟩ := h.it
  exact ⟨ia, ic, wa, wc, h1.keep hf, h2.keep hf, h3.keep hf⟩
theorem rNew_ok {n : Int} {sz : Nat} {H : Heap} {K : Option Addr → Heap → Prop} (hz : (if (if 512 < n then 512 else n) > 8 then if 512 < n then 512 else n else 8) = (sz : Int)) (hsz : sz ≤ 512)
    (hk : ∀ b H', H.size ≤ b → DF H' ⟨b, 0, none⟩ sz → Fr [] H H' → K (some ⟨b, 0, none⟩) H') :
    CallH Tryz.prog fn_ref09_New ⟨[.int .i64 n]⟩ H fun v H' => ∃ a, v = .pointer a ∧ K a H' := by
  apply vc_ref09_New
  rw [hz]
  refine ⟨?_, ?_⟩
  · refine mk_full (E := GV.encStr) (bytes := 16) (⟨#[]⟩ : ByteArray) slice41 elem9 zero9 rfl rfl rfl (by omega) fun b1 H1 hb1 ho1 hf1 => ?_
    refine mk_full (E := encHd) (bytes := 24) ((none, 0, 0) : Hd) slice128 elem92 zero41 rfl rfl rfl (by omega) fun b2 H2 hb2 ho2 hf2 b3 H3 hn3 => ⟨_, rfl, hk _ _ ?_ ⟨_, _, _, _, hn3.blk, (ho1.keep hf2).sl.keep hn3.fr, ho2.sl.keep hn3.fr⟩ ((hf1.keep0 hf2).keep0 hn3.fr)⟩
    have := hn3.eq; have := hf1.size; have := hf2.size; omega
  · refine mk_full (E := encHd) (bytes := 24) ((none, 0, 0) : Hd) slice128 elem92 zero41 rfl rfl rfl (by omega) fun b1 H1 hb1 ho1 hf1 => ?_
    refine mk_full (E := GV.encStr) (bytes := 16) (⟨#[]⟩ : ByteArray) slice41 elem9 zero9 rfl rfl rfl (by omega) fun b2 H2 hb2 ho2 hf2 b3 H3 hn3 => ⟨_, rfl, hk _ _ ?_ ⟨_, _, _, _, hn3.blk, ho2.sl.keep hn3.fr, (ho1.keep hf2).sl.keep hn3.fr⟩ ((hf1.keep0 hf2).keep0 hn3.fr)⟩
    have := hn3.eq; have := hf1.size; have := hf2.size; omega
theorem rdRead_ok {d : Addr} {sz i : Nat} {H : Heap} {K : ByteArray → Int → Heap → Prop} (h : DF H d sz) (hi : i < sz) (hk : K ⟨#[]⟩ 0 H) :
    CallH Tryz.prog fn_ref09_Disk_Read ⟨[.pointer (some d), .int .i64 i]⟩ H fun v H' => ∃ s n, v = .tuple ⟨[.string s, .int .i64 n]⟩ ∧ K s n H' := by
  apply vc_ref09_Disk_Read
  obtain ⟨ia, ic, wa, wc, hB, hI, hW⟩ := h.it
  refine ⟨false, hB.ld (j := 2) (by kernel_rfl) rfl, brB_of (fun h => by cases h) fun _ => ⟨fun _ H' => H' = H, brB_of (fun h => by simp at h; omega) fun _ => ⟨ia, sz, ic, hB.ld0 (by kernel_rfl) rfl, brB_of (fun h => by simp at h; omega) fun _ => rfl⟩, ?_⟩⟩
  rintro J H' rfl
  refine ⟨wa, sz, wc, hB.ld (j := 1) (by kernel_rfl) rfl, ?_⟩
  refine hW.get (k := i) (x := (none, 0, 0)) rfl (by simp [hi]) (by simp; omega) fun ad e hc => ⟨none, 0, 0, ld_one (by kernel_rfl) hc, brB_of (fun h => by simp at h) fun _ => ⟨ia, sz, ic, hB.ld0 (by kernel_rfl) rfl, ?_⟩⟩
  exact hI.get (k := i) (x := ⟨#[]⟩) rfl (by simp [hi]) (by simp; omega) fun ad e hc => ⟨⟨#[]⟩, ld_one (by kernel_rfl) hc, _, _, rfl, hk⟩
theorem rroot_empty {d : Addr} {sz g : Nat} {H : Heap} {K : Heap → Prop} (h : DF H d sz) (hg : g < sz) (hk : ∀ H', Fr [] H H' → K H') :
    CallH Tryz.prog fn_ref10_root ⟨[.pointer (some d), .int .i64 g]⟩ H fun v H' => ∃ n a n_2 c a_1 n_3 c_1, v = .tuple ⟨[.int .i64 n, .slice a n_2 c, .slice a_1 n_3 c_1]⟩ ∧ n = 0 ∧ K H' := by
  apply vc_ref10_root
  refine rdRead_ok h hg ?_
  have hno : ∀ {v n e : Int}, GU ((bl (⟨#[]⟩ : ByteArray)).drop 0) 0 v n e → e ≠ 0 := fun hgu => by
    rcases hgu with ⟨n, _, _, h3, h4, _, _⟩ | ⟨_, _, h, _⟩ | ⟨_, _, h, _⟩
    · have := uintL_pos n
      have h5 : (uintL n).length ≤ 0 := h4
      omega
    · omega
    · omega
  refine rGetUint_ok (by simp [ByteArray.size]) (fun h => absurd ⟨by omega, by simp [ByteArray.size]⟩ h) fun a ea ha v n e H1 hgu hf1 => ?_
  have ea' : a = 0 := by omega
  subst ea'
  have he := hno hgu
  have fin : ∀ (v3 n4 n5 : Int) H', Fr [] H H' → ∃ (M : IV), (∃ (M_1 : IV), brB (e != 0) (M_1 [.bool true] H') (brB (n5 != 0) (M_1 [.bool true] H') (brB (decide (v < 1)) (M_1 [.bool true] H') (brB (decide (v > 1152921504606846976)) (M_1 [.bool true] H') (brB (IntKind.wrap .i64 (Int.tmod v 2) != g) (M_1 [.bool true] H') (brB (decide (v3 < 1)) (M_1 [.bool true] H') (M_1 [.bool (decide (v3 > 1280))] H')))))) ∧ ∀ (J : F) (b : Bool) (H' : Heap), M_1 [.bool b] H' →
      brB b (∃ n a n_2 c a_1 n_3 c_1, Value.tuple ⟨[.int .i64 0, .slice none 0 0, .slice none 0 0]⟩ = .tuple ⟨[.int .i64 n, .slice a n_2 c, .slice a_1 n_3 c_1]⟩ ∧ n = 0 ∧ K H') (M [] H')) ∧ ∀ (H' : Heap), ¬ M [] H' := fun v3 n4 n5 H' hf =>
    ⟨fun _ _ => False, ⟨fun vs H'' => vs = [.bool true] ∧ H'' = H', brB_of (fun _ => ⟨rfl, rfl⟩) (fun h => absurd (by simpa using h) he), by
      rintro J b H'' ⟨eb, rfl⟩
      simp only [List.cons.injEq, Value.bool.injEq, and_true] at eb
      subst eb
      exact brB_of (fun _ => ⟨_, _, _, _, _, _, _, rfl, rfl, hk _ hf⟩) (fun h => by cases h)⟩, fun H' h => h⟩
  have close : ∀ (v3 n4 n5 : Int) H' (X : F → Heap → Prop), Fr [] H H' → ∃ (M : IV), (∃ (M_1 : IV), brB (e != 0) (M_1 [.bool true] H') (brB (n5 != 0) (M_1 [.bool true] H') (brB (decide (v < 1)) (M_1 [.bool true] H') (brB (decide (v > 1152921504606846976)) (M_1 [.bool true] H') (brB (IntKind.wrap .i64 (Int.tmod v 2) != g) (M_1 [.bool true] H') (brB (decide (v3 < 1)) (M_1 [.bool true] H') (M_1 [.bool (decide (v3 > 1280))] H')))))) ∧ ∀ (J : F) (b : Bool) (H' : Heap), M_1 [.bool b] H' →
      brB b (∃ n a n_2 c a_1 n_3 c_1, Value.tuple ⟨[.int .i64 0, .slice none 0 0, .slice none 0 0]⟩ = .tuple ⟨[.int .i64 n, .slice a n_2 c, .slice a_1 n_3 c_1]⟩ ∧ n = 0 ∧ K H') (M [] H')) ∧ ∀ (J : F) (H' : Heap), M [] H' → X J H' := fun v3 n4 n5 H' X hf => by
    obtain ⟨M, h1, h2⟩ := fin v3 n4 n5 H' hf
    exact ⟨M, h1, fun J H' h => absurd h (h2 H')⟩
  refine rGetUint_ok (by simp [ByteArray.size]) (fun _ => close _ 0 _ _ _ hf1) fun a2 ea2 ha2 v2 n2 e2 H2 hgu2 hf2 => close _ n2 _ _ _ (hf1.keep0 hf2)
theorem rOpen_ok (X : List Nat) {d : Addr} {sz : Nat} {H : Heap} {K : Option Addr → Int → Heap → Prop} (h : DF H d sz) (h8 : 8 ≤ sz) (hX : In H X) (hdX : d.block ∉ X)
    (hk : ∀ s H', H.size ≤ s.block → RS H' X s d sz [] → Fr [] H H' → K (some s) 0 H') :
    CallH Tryz.prog fn_ref10_Open ⟨[.pointer (some d)]⟩ H fun v H' => ∃ a e, v = .tuple ⟨[.pointer a, .int .i64 e]⟩ ∧ K a e H' := by
  apply vc_ref10_Open
  obtain ⟨ia, ic, wa, wc, hB, _, _⟩ := id h.it
  refine ⟨false, hB.ld (j := 2) (by kernel_rfl) rfl, brB_of (fun h => by cases h) fun _ b H1 hn1 => ?_⟩
  refine ⟨fun vs H' => match vs with | [.int _ i] => ∃ j : Nat, i = j ∧ j ≤ 2 ∧ Fr [] H1 H' | _ => False, fun vs _ => match vs with | [.int _ i] => 2 - i.toNat | _ => 0, ⟨0, rfl, by omega, Fr.refl _ _⟩, ?_⟩
  rintro J i H2 ⟨j, rfl, hj, hf2⟩
  have hb2 := hn1.blk.keep hf2
  refine brB_of (fun h0 => ?_) (fun h0 => ?_)
  · have h0' : j < 2 := by simp at h0; omega
    refine CallH.mono (rroot_empty (K := fun H' => Fr [] H2 H') ((h.keep hn1.fr).keep hf2) (by omega) fun H' hf => hf) fun v H3 => ?_
    rintro ⟨n, a, n2, c, a1, n3, c1, rfl, rfl, hf3⟩
    refine ⟨0, a, n2, c, a1, n3, c1, rfl, 0, (hb2.keep hf3).ldK (j := 4) (by kernel_rfl) rfl, brB_of (fun h => by simp at h) fun _ => ⟨⟨j + 1, succ64 (by omega), by omega, hf2.keep0 hf3⟩, ?_⟩⟩
    show 2 - (IntKind.i64.wrap ((j : Int) + 1)).toNat < 2 - ((j : Nat) : Int).toNat
    rw [succ64 (by omega)]
    exact mu_lt h0'
  · refine ⟨fun vs H' => vs = [.int .i64 0] ∧ H' = H2, fun _ _ => 0, ⟨rfl, rfl⟩, ?_⟩
    rintro J i H3 ⟨ei, rfl⟩
    simp only [List.cons.injEq, Value.int.injEq, true_and, and_true] at ei
    subst ei
    refine ⟨none, 0, 0, hb2.ldK (j := 2) (by kernel_rfl) rfl, brB_of (fun h => by simp at h) fun _ => ⟨_, _, rfl, hk ⟨b, 0, none⟩ H3 ?_ ⟨⟨none, 0, 0, hb2, Sl.zero, by simp [blkL], fun k hk => by simp [blkL] at hk⟩, ⟨ia, ic, _, _, _, _, _, (hB.keep hn1.fr).keep hf2⟩, ?_, hX.le (hn1.fr.keep0 hf2).size, fun hx => ?_, hdX⟩ (hn1.fr.keep0 hf2)⟩⟩
    · have := hn1.eq; show H.size ≤ b; omega
    · have := hn1.eq; have := hB.lt; show b ≠ d.block; omega
    · have := hX b hx; have := hn1.eq; omega
end Go.Proofs
set_option linter.unusedVariables false
set_option maxRecDepth 100000
open Go Go.GV
namespace Go.Proofs

open Classical in
noncomputable def encE (r : Rc) : Int := if FineP r then (if r.k = 0 ∧ ¬ ChkP r.l then 40 else 0) else 1
noncomputable def appE : List Rc → Int
  | [] => 0
  | r :: l => if encE r ≠ 0 then encE r else appE l
theorem encE_zero {r : Rc} (hT : TypR r) : encE r = 0 ↔ GoodR r := by
  unfold encE
  constructor
  · intro h
    split at h
    · rename_i hF
      split at h
      · exact absurd h (by decide)
      · rename_i hc
        exact ⟨hF, hT, fun h0 => Classical.byContradiction fun hn => hc ⟨h0, hn⟩⟩
    · exact absurd h (by decide)
  · intro h
    rw [if_pos h.fine, if_neg fun hc => hc.2 (h.chk hc.1)]
theorem appE_zero : ∀ {rs : List Rc}, (∀ r ∈ rs, TypR r) → (appE rs = 0 ↔ ∀ r ∈ rs, GoodR r)
  | [], _ => by simp [appE]
  | r :: l, hT => by
    have h1 := encE_zero (hT r (by simp))
    have h2 := appE_zero (rs := l) fun x hx => hT x (by simp [hx])
    unfold appE
    by_cases h : encE r ≠ 0
    · rw [if_pos h]
      exact ⟨fun e => absurd e h, fun hg => absurd (h1.2 (hg r (by simp))) h⟩
    · rw [if_neg h, h2]
      have h0 : encE r = 0 := Decidable.not_not.1 h
      exact ⟨fun hg x hx => (List.mem_cons.1 hx).elim (fun e => by rw [e]; exact h1.1 h0) (hg x), fun hg x hx => hg x (by simp [hx])⟩
theorem appE_good : ∀ {rs : List Rc} {k : Nat}, (∀ r ∈ rs, TypR r) → (∀ r ∈ rs.take k, GoodR r) → appE rs = appE (rs.drop k)
  | [], k, _, _ => by simp
  | r :: l, 0, _, _ => by simp
  | r :: l, k + 1, hT, hg => by
    rw [List.take_succ_cons] at hg
    rw [List.drop_succ_cons, ← appE_good (rs := l) (k := k) (fun x hx => hT x (by simp [hx])) fun x hx => hg x (by simp [hx])]
    have : encE r = 0 := (encE_zero (hT r (by simp))).2 (hg r (by simp))
    conv => lhs; unfold appE
    rw [if_neg (by simp [this])]
def bt (l : List UInt8) : ByteArray := ⟨l.toArray⟩
theorem bt_size (l : List UInt8) : (bt l).size = l.length := size_mk l
theorem bl_bt (l : List UInt8) : bl (bt l) = l := bl_mk l
def logB (rs : List Rc) : List UInt8 := rs.flatMap fun r => frameL (bt (encR r))
def wC (r : Rc) : Nat := r.rows.length + r.tombs.length
def wCs (rs : List Rc) : Nat := (rs.map wC).sum
theorem encR_le {r : Rc} (h : GoodR r) : (encR r).length ≤ 740 + 30 * wC r := by
  have hk := h.fine.k
  have h2 := uL_len (v := r.k) ⟨hk.1, by omega⟩
  unfold encR
  rw [List.length_append]
  have hb : (bodyR r).length ≤ 720 + 30 * wC r := by
    unfold bodyR wC
    split
    · rename_i h0
      have := printL_len (h.chk h0)
      unfold textL
      rw [List.length_append, bl_len, show (pS r.l).size = (printL r.l).length from size_mk _]
      have := uintL_len10 (n := (printL r.l).length) (by omega)
      omega
    · split
      · have hr : ∀ x ∈ r.rows, (rowL x).length ≤ 30 := fun x hx => rowL_len (h.fine.row x hx) (h.typ x hx)
        have := flat30 (f := rowL) hr
        have := uintL_len10 (n := r.rows.length) (by have := h.fine.nr; omega)
        rw [List.length_append]
        omega
      · split
        · have hr : ∀ x ∈ r.tombs, (tombL x).length ≤ 30 := fun x hx => tombL_len (h.fine.tomb x hx)
          have := flat30 (f := tombL) hr
          have := uintL_len10 (n := r.tombs.length) (by have := h.fine.nt; omega)
          rw [List.length_append]
          omega
        · have := uL_len (v := r.at') ⟨h.fine.at'.1, by have := h.fine.at'.2; omega⟩
          omega
  omega
theorem logB_len : ∀ {rs : List Rc}, (∀ r ∈ rs, GoodR r) → (∀ r ∈ rs, wC r ≤ 10000) → (logB rs).length ≤ 760 * rs.length + 30 * wCs rs
  | [], _, _ => by simp [logB]
  | r :: l, h, hw => by
    have ih := logB_len (rs := l) (fun x hx => h x (by simp [hx])) fun x hx => hw x (by simp [hx])
    have h1 := encR_le (h r (by simp))
    have h2 := hw r (by simp)
    have hf : (frameL (bt (encR r))).length ≤ (encR r).length + 12 := by
      rw [frameL_len]
      unfold textL
      rw [List.length_append, bl_len, bt_size]
      have := uintL_len10 (n := (encR r).length) (by omega)
      omega
    unfold logB at ih ⊢
    unfold wCs at ih ⊢
    rw [List.flatMap_cons, List.length_append, List.map_cons, List.sum_cons, List.length_cons]
    omega
theorem logB_snoc {rs : List Rc} {k : Nat} {r : Rc} (h : rs[k]? = some r) : logB (rs.take (k + 1)) = logB (rs.take k) ++ frameL (bt (encR r)) := by
  unfold logB
  rw [List.take_add_one, h, List.flatMap_append]
  simp
theorem wCs_take (rs : List Rc) (k : Nat) : wCs (rs.take k) ≤ wCs rs := by
  unfold wCs
  have : (rs.map wC).sum = ((rs.take k).map wC).sum + ((rs.drop k).map wC).sum := by
    rw [← List.sum_append, ← List.map_append, List.take_append_drop]
  omega
theorem wCs_mem {rs : List Rc} {r : Rc} (h : r ∈ rs) : wC r ≤ wCs rs := by
  unfold wCs
  induction rs with
  | nil => simp at h
  | cons a l ih =>
    rw [List.map_cons, List.sum_cons]
    rcases List.mem_cons.1 h with e | e
    · rw [e]; omega
    · have := ih e; omega
theorem wRs_eq {H : Heap} : ∀ {ms : List Rm} {rs : List Rc}, RcsH H ms rs → wRs ms = wCs rs
  | [], [], _ => rfl
  | [], _ :: _, h => by have := h.1; simp at this
  | _ :: _, [], h => by have := h.1; simp at this
  | m :: ms, r :: rs, h => by
    have h0 := h.2 0 m r rfl rfl
    have ht : RcsH H ms rs := ⟨by have := h.1; simpa using this, fun i a b ha hb => h.2 (i + 1) a b (by simpa using ha) (by simpa using hb)⟩
    have ih := wRs_eq ht
    unfold wRs wCs at ih ⊢
    simp only [List.map_cons, List.sum_cons]
    rw [ih]
    unfold wR wC
    have := h0.rows.len
    have := h0.tombs.len
    omega
def walN : ByteArray := ⟨#[119, 97, 108]⟩
theorem enc_cases {H : Heap} {m : Rm} {r : Rc} {K : ByteArray → Int → Heap → Prop} (h : RcH H m r) (hs : Small m) (hT : TypR r)
    (hno : encE r ≠ 0 → ∀ H', Fr [] H H' → K ⟨#[]⟩ (encE r) H') (hyes : GoodR r → ∀ H', Fr [] H H' → K (bt (encR r)) 0 H') :
    CallH Tryz.prog fn_wal_Encode ⟨[.agg ⟨rC m⟩]⟩ H fun v H' => ∃ s e, v = .tuple ⟨[.string s, .int .i64 e]⟩ ∧ K s e H' := by
  have e1 : ¬ FineP r → encE r = 1 := fun h => by unfold encE; rw [if_neg h]
  have e2 : FineP r → r.k = 0 → ¬ ChkP r.l → encE r = 40 := fun h h0 hc => by unfold encE; rw [if_pos h, if_pos ⟨h0, hc⟩]
  refine Encode_ok h hs hT (fun hF H' hf => ?_) (fun hF h0 hc H' hf => ?_) fun hF hc H' hf => hyes ⟨hF, hT, hc⟩ H' hf
  · have := hno (by rw [e1 hF]; decide) H' hf
    rw [e1 hF] at this; exact this
  · have := hno (by rw [e2 hF h0 hc]; decide) H' hf
    rw [e2 hF h0 hc] at this; exact this
theorem renc_cases {H : Heap} {m : Rm} {r : Rc} {K : ByteArray → Int → Heap → Prop} (h : RcH H m r) (hs : Small m) (hT : TypR r)
    (hno : encE r ≠ 0 → ∀ H', Fr [] H H' → K ⟨#[]⟩ (encE r) H') (hyes : GoodR r → ∀ H', Fr [] H H' → K (bt (encR r)) 0 H') :
    CallH Tryz.prog fn_ref11_Encode ⟨[.agg ⟨rC m⟩]⟩ H fun v H' => ∃ s e, v = .tuple ⟨[.string s, .int .i64 e]⟩ ∧ K s e H' := by
  have e1 : ¬ FineP r → encE r = 1 := fun h => by unfold encE; rw [if_neg h]
  have e2 : FineP r → r.k = 0 → ¬ ChkP r.l → encE r = 40 := fun h h0 hc => by unfold encE; rw [if_pos h, if_pos ⟨h0, hc⟩]
  refine rEncode_ok h hs hT (fun hF H' hf => ?_) (fun hF h0 hc H' hf => ?_) fun hF hc H' hf => hyes ⟨hF, hT, hc⟩ H' hf
  · have := hno (by rw [e1 hF]; decide) H' hf
    rw [e1 hF] at this; exact this
  · have := hno (by rw [e2 hF h0 hc]; decide) H' hf
    rw [e2 hF h0 hc] at this; exact this
theorem wAppend_ok {st : Addr} {a : Option Addr} {n c : Nat} {ms : List Rm} {rs : List Rc} {H : Heap} {K : Int → Heap → Prop} (hx : Sl encR5 H a n c ms) (hr : RcsH H ms rs) (hT : ∀ r ∈ rs, TypR r) (hsm : ∀ m ∈ ms, Small m) (htab : TabH H) (hn : n ≤ 10000) (hw : wCs rs ≤ 10000)
    (hno : appE rs ≠ 0 → ∀ H', Fr [] H H' → K (appE rs) H') (hyes : appE rs = 0 → (∀ r ∈ rs, GoodR r) → ∀ H', Fr [] H H' → CallH Tryz.prog fn_files_Store_Append ⟨[.pointer (some st), .string walN, .string (bt (logB rs))]⟩ H' fun v H' => ∃ n, v = .int .i64 n ∧ K n H') :
    CallH Tryz.prog fn_wal_Append ⟨[.pointer (some st), .slice a n c]⟩ H fun v H' => ∃ n, v = .int .i64 n ∧ K n H' := by
  apply vc_wal_Append
  intro b H1 hn1
  have hbH := hn1.eq
  have hbs := hn1.size
  have hxl := hx.len
  have hrl := hr.1
  refine ⟨fun vs H' => match vs with | [.int _ i] => ∃ (k : Nat) (S : List Nat), i = k ∧ k ≤ n ∧ BldH H' b S (logB (rs.take k)) ∧ (∀ j ∈ S, H.size ≤ j) ∧ (∀ r ∈ rs.take k, GoodR r) ∧ Fr [] H H' | _ => False,
    fun vs _ => match vs with | [.int _ i] => n - i.toNat | _ => 0, ⟨0, [b], rfl, by omega, Bld.new hn1, fun j hj => by simp at hj; omega, by simp, hn1.fr⟩, ?_⟩
  rintro J i H2 ⟨k, S, rfl, hkn, hb, hS, hg, hf⟩
  have hlb := logB_len hg fun r hr => by have := wCs_mem (List.mem_of_mem_take hr); omega
  have hwt := wCs_take rs k
  have htl : (rs.take k).length ≤ 10000 := by rw [List.length_take]; omega
  refine brB_of (fun h0 => ?_) (fun h0 => ?_)
  · have h0' : k < n := by simpa using h0
    obtain ⟨m, hm⟩ := getElem_ex (l := ms) (i := k) (by omega)
    obtain ⟨r, hrr, hR⟩ := hr.at hm
    have hsm' := hsm m (List.mem_of_getElem? hm)
    have hT' := hT r (List.mem_of_getElem? hrr)
    refine (hx.keep hf).get rfl hm (decide_eq_true (by omega)) fun ad ea hc => ⟨_, _, _, _, _, _, _, _, _, _, _, ldR26 hc, fun b1 H3 hn3 => ?_⟩
    have e3 := hn3.eq
    have s3 := hn3.size
    refine st26 (m := m) (m' := m0 0) hn3.blk fun H4 hb4 hf4 => ⟨_, _, _, _, _, _, _, _, _, _, _, hb4.ldA0 (by kernel_rfl) (by kernel_rfl) rfl, ?_⟩
    have hf24 : Fr [] H2 H4 := hn3.fr.keep hf4 fun k hk => by simp at hk; omega
    have hf4' := hf.keep0 hf24
    have hap := appE_good hT hg
    have hdr : rs.drop k = r :: rs.drop (k + 1) := by
      obtain ⟨q1, q2⟩ := List.getElem?_eq_some_iff.1 hrr
      rw [List.drop_eq_getElem_cons q1, q2]
    refine enc_cases (hR.keep hf4') hsm' hT' (fun he H5 hf5 => brB_of (fun _ => ⟨_, rfl, ?_⟩) (fun h => absurd (by simpa using h) he)) fun hG H5 hf5 => brB_of (fun h => by simp at h) fun _ => ?_
    · have e : appE rs = encE r := by
        rw [hap, hdr]; conv => lhs; unfold appE
        rw [if_pos he]
      have := hno (by rw [e]; exact he) H5 (hf4'.keep0 hf5)
      rw [e] at this; exact this
    · have hel := encR_le hG
      have hwr := wCs_mem (List.mem_of_getElem? hrr)
      refine Frame_ok ((htab.keep hf4').keep hf5) (by rw [bt_size]; omega) fun H6 hf6 => ?_
      have hf26 := (hf24.keep0 hf5).keep0 hf6
      have hfl : (frameL (bt (encR r))).length ≤ 1000000 := by
        rw [frameL_len]; unfold textL
        rw [List.length_append, bl_len, bt_size]
        have := uintL_len10 (n := (encR r).length) (by omega)
        omega
      refine WriteString_ok (hb.keep hf26) (by rw [size_mk (frameL (bt (encR r)))]; omega) fun H7 S7 hb7 hf7 hg7 => ?_
      rw [succ64 (by omega)]
      rw [bl_mk (frameL (bt (encR r)))] at hb7
      refine ⟨⟨k + 1, S7, rfl, by omega, by rw [logB_snoc hrr]; exact hb7, fun j hj => ?_, fun x hx => ?_, (hf.keep0 hf26).keep hf7 hS⟩, mu_lt h0'⟩
      · rcases hg7 j hj with h | h
        · exact hS j h
        · have := hf.size; have := hf26.size; omega
      · rw [List.take_add_one, hrr] at hx
        rcases List.mem_append.1 hx with hx | hx
        · exact hg x hx
        · simp at hx; rw [hx]; exact hG
  · have hkn' : k = n := by simp at h0; omega
    rw [List.take_of_length_le (by omega)] at hb hg hlb
    refine BString_ok hb (by omega) fun H3 hf3 => ?_
    exact CallH.mono (hyes ((appE_zero hT).2 hg) hg H3 (hf.keep hf3 hS)) fun v H' h => by
      obtain ⟨n, rfl, hk⟩ := h
      exact ⟨n, rfl, n, rfl, hk⟩
theorem rwAppend_ok {st : Addr} {a : Option Addr} {n c : Nat} {ms : List Rm} {rs : List Rc} {H : Heap} {K : Int → Heap → Prop} (hx : Sl encR5 H a n c ms) (hr : RcsH H ms rs) (hT : ∀ r ∈ rs, TypR r) (hsm : ∀ m ∈ ms, Small m) (hn : n ≤ 10000) (hw : wCs rs ≤ 10000)
    (hno : appE rs ≠ 0 → ∀ H', Fr [] H H' → K (appE rs) H') (hyes : appE rs = 0 → (∀ r ∈ rs, GoodR r) → ∀ H', Fr [] H H' → CallH Tryz.prog fn_ref10_Store_Append ⟨[.pointer (some st), .string walN, .string (bt (logB rs))]⟩ H' fun v H' => ∃ n, v = .int .i64 n ∧ K n H') :
    CallH Tryz.prog fn_ref11_Append ⟨[.pointer (some st), .slice a n c]⟩ H fun v H' => ∃ n, v = .int .i64 n ∧ K n H' := by
  apply vc_ref11_Append
  have hxl := hx.len
  have hrl := hr.1
  refine ⟨fun vs H' => match vs with | [.string s, .int _ i] => ∃ (k : Nat), i = k ∧ k ≤ n ∧ s = bt (logB (rs.take k)) ∧ (∀ r ∈ rs.take k, GoodR r) ∧ Fr [] H H' | _ => False,
    fun vs _ => match vs with | [_, .int _ i] => n - i.toNat | _ => 0, ⟨0, rfl, by omega, rfl, by simp, Fr.refl _ _⟩, ?_⟩
  rintro J s i H2 ⟨k, rfl, hkn, rfl, hg, hf⟩
  have hlb := logB_len hg fun r hr => by have := wCs_mem (List.mem_of_mem_take hr); omega
  have hwt := wCs_take rs k
  have htl : (rs.take k).length ≤ 10000 := by rw [List.length_take]; omega
  refine brB_of (fun h0 => ?_) (fun h0 => ?_)
  · have h0' : k < n := by simpa using h0
    obtain ⟨m, hm⟩ := getElem_ex (l := ms) (i := k) (by omega)
    obtain ⟨r, hrr, hR⟩ := hr.at hm
    have hsm' := hsm m (List.mem_of_getElem? hm)
    have hT' := hT r (List.mem_of_getElem? hrr)
    refine (hx.keep hf).get rfl hm (decide_eq_true (by omega)) fun ad ea hc => ⟨_, _, _, _, _, _, _, _, _, _, _, ldR33 hc, ?_⟩
    have hap := appE_good hT hg
    have hdr : rs.drop k = r :: rs.drop (k + 1) := by
      obtain ⟨q1, q2⟩ := List.getElem?_eq_some_iff.1 hrr
      rw [List.drop_eq_getElem_cons q1, q2]
    refine renc_cases (hR.keep hf) hsm' hT' (fun he H5 hf5 => brB_of (fun _ => ⟨_, rfl, ?_⟩) (fun h => absurd (by simpa using h) he)) fun hG H5 hf5 => brB_of (fun h => by simp at h) fun _ => ?_
    · have e : appE rs = encE r := by
        rw [hap, hdr]; conv => lhs; unfold appE
        rw [if_pos he]
      have := hno (by rw [e]; exact he) H5 (hf.keep0 hf5)
      rw [e] at this; exact this
    · have hel := encR_le hG
      have hwr := wCs_mem (List.mem_of_getElem? hrr)
      refine rFrame_ok (by rw [bt_size]; omega) fun H6 hf6 => ?_
      have hfl : (frameL (bt (encR r))).length ≤ 1000000 := by
        rw [frameL_len]; unfold textL
        rw [List.length_append, bl_len, bt_size]
        have := uintL_len10 (n := (encR r).length) (by omega)
        omega
      refine chk_true (decide_eq_true (by rw [bt_size, size_mk (frameL (bt (encR r)))]; omega)) ⟨⟨k + 1, succ64 (by omega), by omega, ?_, fun x hx => ?_, (hf.keep0 hf5).keep0 hf6⟩, ?_⟩
      · rw [logB_snoc hrr]; exact app_mk _ _
      · rw [List.take_add_one, hrr] at hx
        rcases List.mem_append.1 hx with hx | hx
        · exact hg x hx
        · simp at hx; rw [hx]; exact hG
      · show n - (IntKind.i64.wrap ((k : Int) + 1)).toNat < n - ((k : Nat) : Int).toNat
        rw [succ64 (by omega)]
        exact mu_lt h0'
  · have hkn' : k = n := by simp at h0; omega
    rw [List.take_of_length_le (by omega)] at hg ⊢
    exact CallH.mono (hyes ((appE_zero hT).2 hg) hg H2 hf) fun v H' h => by
      obtain ⟨n, rfl, hk⟩ := h
      exact ⟨n, rfl, n, rfl, hk⟩
end Go.Proofs
set_option linter.unusedVariables false
set_option maxRecDepth 100000
open Go Go.GV
namespace Go.Proofs

theorem DecodeN_ok {H : Heap} {s : ByteArray} {K : Int → Option Addr → Nat → Nat → Option Addr → Nat → Nat → Option Addr → Nat → Nat → Int → Int → Heap → Prop} (hs : s.size ≤ 1000000000)
    (hno : (∀ r, GoodR r → bl s ≠ encR r) → ∀ H', Fr [] H H' → K 0 none 0 0 none 0 0 none 0 0 0 11 H')
    (hyes : ∀ r (m : Rm) H', GoodR r → bl s = encR r → RcH H' m r → Small m → (∀ b, b < H.size → NotIn m b) → Fr [] H H' → K m.1 m.2.1.1 m.2.1.2.1 m.2.1.2.2 m.2.2.1.1 m.2.2.1.2.1 m.2.2.1.2.2 m.2.2.2.1.1 m.2.2.2.1.2.1 m.2.2.2.1.2.2 m.2.2.2.2 0 H') :
    CallH Tryz.prog fn_wal_Decode ⟨[.string s]⟩ H fun v H' => ∃ n a n_1 c a_1 n_2 c_1 a_2 n_3 c_2 n_4 n_5, v = .tuple ⟨[.agg ⟨[.int .i64 n, .slice a n_1 c, .slice a_1 n_2 c_1, .slice a_2 n_3 c_2, .int .i64 n_4]⟩, .int .i64 n_5]⟩ ∧ K n a n_1 c a_1 n_2 c_1 a_2 n_3 c_2 n_4 n_5 H' := by
  apply vc_wal_Decode
  intro b H1 hn1 b1 H2 hn2
  have e1 := hn1.eq
  have s1 := hn1.size
  have e2 := hn2.eq
  have s2 := hn2.size
  have hb2 : Blk H2 ⟨b, 0, none⟩ (rC (m0 0)) := hn1.blk.keep hn2.fr
  have hx2 : Blk H2 ⟨b1, 0, none⟩ (rdC s 0 true) := hn2.blk
  refine number_ok (most := 3) hx2 (by omega) (Nat.zero_le _) (by omega) fun H3 n p ok' hx3 hnum hf3 => ?_
  obtain ⟨hrd, hv⟩ := hnum.rd (Nat.zero_le _)
  intro b2 H4 hn4
  have e4 := hn4.eq
  have s4 := hn4.size
  have hb4 := (hb2.fr hf3 (by simp; omega)).keep hn4.fr
  have hx4 := hx3.keep hn4.fr
  have s3 := hf3.size
  have hf04 : Fr [] H H4 := ((hn1.fr.keep0 hn2.fr).keep hf3 (fun k hk => by simp at hk; omega)).keep0 hn4.fr
  refine st26 (m := m0 n) (m' := m0 0) hn4.blk fun H5 hr5 hf5 => ?_
  have hb5 := hb4.fr hf5 (by simp; omega)
  have hx5 := hx4.fr hf5 (by simp; omega)
  have hf05 : Fr [] H H5 := hf04.keep hf5 (fun k hk => by simp at hk; omega)
  have hf05s := hf05.size
  refine ⟨_, hx5.ld (by kernel_rfl) (j := 2) rfl, brB_of (fun h => ?_) (fun h => ?_)⟩
  · subst h
    refine ⟨_, hr5.r0, forms_ok fun H6 hf6 => ⟨(hr5.keep hf6).r0, chk_true (decide_eq_true (show 0 ≤ n ∧ n < ((4 : Nat) : Int) from ⟨hv.1, by have := hv.2; omega⟩)) ?_⟩⟩
    have hr6 := hr5.keep hf6
    have hx6 := hx5.keep hf6
    have hb6 := hb5.keep hf6
    have hf06 := hf05.keep0 hf6
    rcases (by omega : n = 0 ∨ n = 1 ∨ n = 2 ∨ n = 3) with e | e | e | e <;> subst e
    · refine ⟨.func (.func 70) ⟨[]⟩ ⟨[]⟩, .func (.func 72) ⟨[]⟩ ⟨[]⟩, by unfold Pt; kernel_rfl, 72, ⟨[]⟩, ⟨[]⟩, rfl, by kernel_rfl, ?_⟩
      refine forms2_ok hr6 hx6 (by omega) (by omega) hrd.1 fun H7 m r q ok hr hx htk hdj hf7 => ?_
      have hf : Fr [] H H7 := hf06.keep hf7 (fun k hk => by simp at hk; omega)
      have hb := hb6.fr hf7 (by simp; omega)
      have hdjA : ∀ b', b' < H.size → NotIn m b' := fun b' hb' => hdj b' (by have := hf06.size; omega)
      have hdj := hdj b hb6.lt
      have hRc := htk.h
      have hsm := htk.small
      have htyp := htk.typ
      have hfin := htk.all (ok' := true) hrd
      have hchk : ok = true → r.k = 0 → ChkP r.l := fun ho hk => htk.chk ho (htk.kind.symm.trans hk)
      refine ⟨fun _ H' => GoodR r ∧ bl s = encR r ∧ Blk H' ⟨b2, 0, none⟩ (rC m) ∧ RcH H' m r ∧ Blk H' ⟨b, 0, none⟩ (rC (m0 0)) ∧ Fr [] H H', ?_, ?_⟩
      · refine ⟨fun vs H' => Fr [] H H' ∧ Blk H' ⟨b, 0, none⟩ (rC (m0 0)) ∧ ∃ w : Bool, vs = [.bool w] ∧ (w = true → ∀ y, GoodR y → bl s ≠ encR y) ∧ (w = false → GoodR r ∧ bl s = encR r ∧ Blk H' ⟨b2, 0, none⟩ (rC m) ∧ RcH H' m r), ?_, ?_⟩
        · refine ⟨_, hx.ld (by kernel_rfl) (j := 2) rfl, brB_of (fun h => ⟨hf, hb, true, rfl, fun _ y hy e => ?_, (fun h => by cases h)⟩) (fun h => ⟨_, hx.ld (by kernel_rfl) (j := 1) rfl, brB_of (fun h2 => ⟨hf, hb, true, rfl, fun _ y hy e => ?_, (fun h => by cases h)⟩) (fun h2 => ?_)⟩)⟩
          · obtain ⟨h1, _⟩ := hfin.2.2 rfl y [] hy (by simpa using e)
            rw [h1] at h; cases h
          · obtain ⟨_, _, h1⟩ := hfin.2.2 rfl y [] hy (by simpa using e)
            have := congrArg List.length h1
            rw [List.length_drop, bl_len] at this
            have hp := hfin.1
            simp at h2 this; omega
          · have hok : ok = true := by simpa using h
            have hps : q = s.size := by simp at h2; omega
            refine ⟨_, _, _, _, _, _, _, _, _, _, _, hr.ldA0 (by kernel_rfl) (by kernel_rfl) rfl, ?_⟩
            refine check_ok hRc hsm (fun hF H9 hf9 => ?_) (fun hF H9 hf9 => ?_)
            · refine ⟨hf.keep0 hf9, hb.keep hf9, false, rfl, (fun h => by cases h), fun _ => ⟨⟨hF, htyp, hchk hok⟩, ?_, hr.keep hf9, hRc.keep hf9⟩⟩
              have := (hfin.2.1 hok).2
              have e9 : (bl s).drop q = [] := List.drop_of_length_le (by rw [bl_len]; omega)
              rw [e9, List.drop_zero, List.append_nil] at this
              exact this
            · refine ⟨hf.keep0 hf9, hb.keep hf9, true, rfl, fun _ y hy e => ?_, (fun h => by cases h)⟩
              obtain ⟨_, h1, _⟩ := hfin.2.2 rfl y [] hy (by simpa using e)
              exact hF (h1 ▸ hy.fine)
        · rintro J w H9 ⟨hf9, hb9, w', ew, hw1, hw2⟩
          simp only [List.cons.injEq, Value.bool.injEq, and_true] at ew
          subst ew
          refine brB_of (fun hw => ?_) (fun hw => ⟨(hw2 hw).1, (hw2 hw).2.1, (hw2 hw).2.2.1, (hw2 hw).2.2.2, hb9, hf9⟩)
          refine st26 (m := m0 0) hb9 fun H10 hb10 hf10 => ⟨_, _, _, _, _, _, _, _, _, _, _, hb10.ldA0 (by kernel_rfl) (by kernel_rfl) rfl, _, _, _, _, _, _, _, _, _, _, _, _, rfl, ?_⟩
          exact hno (hw1 hw) H10 (hf9.keep hf10 (fun k hk => by simp at hk; omega))
      · rintro J H9 ⟨hG, he, hr9, hRc9, hb9, hf9⟩
        refine ⟨_, _, _, _, _, _, _, _, _, _, _, hr9.ldA0 (by kernel_rfl) (by kernel_rfl) rfl, ?_⟩
        refine st26 (m := m) hb9 fun H10 hb10 hf10 => ⟨_, _, _, _, _, _, _, _, _, _, _, hb10.ldA0 (by kernel_rfl) (by kernel_rfl) rfl, _, _, _, _, _, _, _, _, _, _, _, _, rfl, ?_⟩
        refine hyes r m H10 hG he (hRc9.gone hf10 ?_) hsm hdjA (hf9.keep hf10 (fun k hk => by simp at hk; omega))
        exact hdj
    · refine ⟨.func (.func 74) ⟨[]⟩ ⟨[]⟩, .func (.func 76) ⟨[]⟩ ⟨[]⟩, by unfold Pt; kernel_rfl, 76, ⟨[]⟩, ⟨[]⟩, rfl, by kernel_rfl, ?_⟩
      refine forms4_ok hr6 hx6 (by omega) (by omega) hrd.1 fun H7 m r q ok hr hx htk hdj hf7 => ?_
      have hf : Fr [] H H7 := hf06.keep hf7 (fun k hk => by simp at hk; omega)
      have hb := hb6.fr hf7 (by simp; omega)
      have hdjA : ∀ b', b' < H.size → NotIn m b' := fun b' hb' => hdj b' (by have := hf06.size; omega)
      have hdj := hdj b hb6.lt
      have hRc := htk.h
      have hsm := htk.small
      have htyp := htk.typ
      have hfin := htk.all (ok' := true) hrd
      have hchk : ok = true → r.k = 0 → ChkP r.l := fun ho hk => htk.chk ho (htk.kind.symm.trans hk)
      refine ⟨fun _ H' => GoodR r ∧ bl s = encR r ∧ Blk H' ⟨b2, 0, none⟩ (rC m) ∧ RcH H' m r ∧ Blk H' ⟨b, 0, none⟩ (rC (m0 0)) ∧ Fr [] H H', ?_, ?_⟩
      · refine ⟨fun vs H' => Fr [] H H' ∧ Blk H' ⟨b, 0, none⟩ (rC (m0 0)) ∧ ∃ w : Bool, vs = [.bool w] ∧ (w = true → ∀ y, GoodR y → bl s ≠ encR y) ∧ (w = false → GoodR r ∧ bl s = encR r ∧ Blk H' ⟨b2, 0, none⟩ (rC m) ∧ RcH H' m r), ?_, ?_⟩
        · refine ⟨_, hx.ld (by kernel_rfl) (j := 2) rfl, brB_of (fun h => ⟨hf, hb, true, rfl, fun _ y hy e => ?_, (fun h => by cases h)⟩) (fun h => ⟨_, hx.ld (by kernel_rfl) (j := 1) rfl, brB_of (fun h2 => ⟨hf, hb, true, rfl, fun _ y hy e => ?_, (fun h => by cases h)⟩) (fun h2 => ?_)⟩)⟩
          · obtain ⟨h1, _⟩ := hfin.2.2 rfl y [] hy (by simpa using e)
            rw [h1] at h; cases h
          · obtain ⟨_, _, h1⟩ := hfin.2.2 rfl y [] hy (by simpa using e)
            have := congrArg List.length h1
            rw [List.length_drop, bl_len] at this
            have hp := hfin.1
            simp at h2 this; omega
          · have hok : ok = true := by simpa using h
            have hps : q = s.size := by simp at h2; omega
            refine ⟨_, _, _, _, _, _, _, _, _, _, _, hr.ldA0 (by kernel_rfl) (by kernel_rfl) rfl, ?_⟩
            refine check_ok hRc hsm (fun hF H9 hf9 => ?_) (fun hF H9 hf9 => ?_)
            · refine ⟨hf.keep0 hf9, hb.keep hf9, false, rfl, (fun h => by cases h), fun _ => ⟨⟨hF, htyp, hchk hok⟩, ?_, hr.keep hf9, hRc.keep hf9⟩⟩
              have := (hfin.2.1 hok).2
              have e9 : (bl s).drop q = [] := List.drop_of_length_le (by rw [bl_len]; omega)
              rw [e9, List.drop_zero, List.append_nil] at this
              exact this
            · refine ⟨hf.keep0 hf9, hb.keep hf9, true, rfl, fun _ y hy e => ?_, (fun h => by cases h)⟩
              obtain ⟨_, h1, _⟩ := hfin.2.2 rfl y [] hy (by simpa using e)
              exact hF (h1 ▸ hy.fine)
        · rintro J w H9 ⟨hf9, hb9, w', ew, hw1, hw2⟩
          simp only [List.cons.injEq, Value.bool.injEq, and_true] at ew
          subst ew
          refine brB_of (fun hw => ?_) (fun hw => ⟨(hw2 hw).1, (hw2 hw).2.1, (hw2 hw).2.2.1, (hw2 hw).2.2.2, hb9, hf9⟩)
          refine st26 (m := m0 0) hb9 fun H10 hb10 hf10 => ⟨_, _, _, _, _, _, _, _, _, _, _, hb10.ldA0 (by kernel_rfl) (by kernel_rfl) rfl, _, _, _, _, _, _, _, _, _, _, _, _, rfl, ?_⟩
          exact hno (hw1 hw) H10 (hf9.keep hf10 (fun k hk => by simp at hk; omega))
      · rintro J H9 ⟨hG, he, hr9, hRc9, hb9, hf9⟩
        refine ⟨_, _, _, _, _, _, _, _, _, _, _, hr9.ldA0 (by kernel_rfl) (by kernel_rfl) rfl, ?_⟩
        refine st26 (m := m) hb9 fun H10 hb10 hf10 => ⟨_, _, _, _, _, _, _, _, _, _, _, hb10.ldA0 (by kernel_rfl) (by kernel_rfl) rfl, _, _, _, _, _, _, _, _, _, _, _, _, rfl, ?_⟩
        refine hyes r m H10 hG he (hRc9.gone hf10 ?_) hsm hdjA (hf9.keep hf10 (fun k hk => by simp at hk; omega))
        exact hdj
    · refine ⟨.func (.func 78) ⟨[]⟩ ⟨[]⟩, .func (.func 79) ⟨[]⟩ ⟨[]⟩, by unfold Pt; kernel_rfl, 79, ⟨[]⟩, ⟨[]⟩, rfl, by kernel_rfl, ?_⟩
      refine forms6_ok hr6 hx6 (by omega) (by omega) hrd.1 fun H7 m r q ok hr hx htk hdj hf7 => ?_
      have hf : Fr [] H H7 := hf06.keep hf7 (fun k hk => by simp at hk; omega)
      have hb := hb6.fr hf7 (by simp; omega)
      have hdjA : ∀ b', b' < H.size → NotIn m b' := fun b' hb' => hdj b' (by have := hf06.size; omega)
      have hdj := hdj b hb6.lt
      have hRc := htk.h
      have hsm := htk.small
      have htyp := htk.typ
      have hfin := htk.all (ok' := true) hrd
      have hchk : ok = true → r.k = 0 → ChkP r.l := fun ho hk => htk.chk ho (htk.kind.symm.trans hk)
      refine ⟨fun _ H' => GoodR r ∧ bl s = encR r ∧ Blk H' ⟨b2, 0, none⟩ (rC m) ∧ RcH H' m r ∧ Blk H' ⟨b, 0, none⟩ (rC (m0 0)) ∧ Fr [] H H', ?_, ?_⟩
      · refine ⟨fun vs H' => Fr [] H H' ∧ Blk H' ⟨b, 0, none⟩ (rC (m0 0)) ∧ ∃ w : Bool, vs = [.bool w] ∧ (w = true → ∀ y, GoodR y → bl s ≠ encR y) ∧ (w = false → GoodR r ∧ bl s = encR r ∧ Blk H' ⟨b2, 0, none⟩ (rC m) ∧ RcH H' m r), ?_, ?_⟩
        · refine ⟨_, hx.ld (by kernel_rfl) (j := 2) rfl, brB_of (fun h => ⟨hf, hb, true, rfl, fun _ y hy e => ?_, (fun h => by cases h)⟩) (fun h => ⟨_, hx.ld (by kernel_rfl) (j := 1) rfl, brB_of (fun h2 => ⟨hf, hb, true, rfl, fun _ y hy e => ?_, (fun h => by cases h)⟩) (fun h2 => ?_)⟩)⟩
          · obtain ⟨h1, _⟩ := hfin.2.2 rfl y [] hy (by simpa using e)
            rw [h1] at h; cases h
          · obtain ⟨_, _, h1⟩ := hfin.2.2 rfl y [] hy (by simpa using e)
            have := congrArg List.length h1
            rw [List.length_drop, bl_len] at this
            have hp := hfin.1
            simp at h2 this; omega
          · have hok : ok = true := by simpa using h
            have hps : q = s.size := by simp at h2; omega
            refine ⟨_, _, _, _, _, _, _, _, _, _, _, hr.ldA0 (by kernel_rfl) (by kernel_rfl) rfl, ?_⟩
            refine check_ok hRc hsm (fun hF H9 hf9 => ?_) (fun hF H9 hf9 => ?_)
            · refine ⟨hf.keep0 hf9, hb.keep hf9, false, rfl, (fun h => by cases h), fun _ => ⟨⟨hF, htyp, hchk hok⟩, ?_, hr.keep hf9, hRc.keep hf9⟩⟩
              have := (hfin.2.1 hok).2
              have e9 : (bl s).drop q = [] := List.drop_of_length_le (by rw [bl_len]; omega)
              rw [e9, List.drop_zero, List.append_nil] at this
              exact this
            · refine ⟨hf.keep0 hf9, hb.keep hf9, true, rfl, fun _ y hy e => ?_, (fun h => by cases h)⟩
              obtain ⟨_, h1, _⟩ := hfin.2.2 rfl y [] hy (by simpa using e)
              exact hF (h1 ▸ hy.fine)
        · rintro J w H9 ⟨hf9, hb9, w', ew, hw1, hw2⟩
          simp only [List.cons.injEq, Value.bool.injEq, and_true] at ew
          subst ew
          refine brB_of (fun hw => ?_) (fun hw => ⟨(hw2 hw).1, (hw2 hw).2.1, (hw2 hw).2.2.1, (hw2 hw).2.2.2, hb9, hf9⟩)
          refine st26 (m := m0 0) hb9 fun H10 hb10 hf10 => ⟨_, _, _, _, _, _, _, _, _, _, _, hb10.ldA0 (by kernel_rfl) (by kernel_rfl) rfl, _, _, _, _, _, _, _, _, _, _, _, _, rfl, ?_⟩
          exact hno (hw1 hw) H10 (hf9.keep hf10 (fun k hk => by simp at hk; omega))
      · rintro J H9 ⟨hG, he, hr9, hRc9, hb9, hf9⟩
        refine ⟨_, _, _, _, _, _, _, _, _, _, _, hr9.ldA0 (by kernel_rfl) (by kernel_rfl) rfl, ?_⟩
        refine st26 (m := m) hb9 fun H10 hb10 hf10 => ⟨_, _, _, _, _, _, _, _, _, _, _, hb10.ldA0 (by kernel_rfl) (by kernel_rfl) rfl, _, _, _, _, _, _, _, _, _, _, _, _, rfl, ?_⟩
        refine hyes r m H10 hG he (hRc9.gone hf10 ?_) hsm hdjA (hf9.keep hf10 (fun k hk => by simp at hk; omega))
        exact hdj
    · refine ⟨.func (.func 80) ⟨[]⟩ ⟨[]⟩, .func (.func 81) ⟨[]⟩ ⟨[]⟩, by unfold Pt; kernel_rfl, 81, ⟨[]⟩, ⟨[]⟩, rfl, by kernel_rfl, ?_⟩
      refine forms8_ok hr6 hx6 (by omega) (by omega) hrd.1 fun H7 m r q ok hr hx htk hdj hf7 => ?_
      have hf : Fr [] H H7 := hf06.keep hf7 (fun k hk => by simp at hk; omega)
      have hb := hb6.fr hf7 (by simp; omega)
      have hdjA : ∀ b', b' < H.size → NotIn m b' := fun b' hb' => hdj b' (by have := hf06.size; omega)
      have hdj := hdj b hb6.lt
      have hRc := htk.h
      have hsm := htk.small
      have htyp := htk.typ
      have hfin := htk.all (ok' := true) hrd
      have hchk : ok = true → r.k = 0 → ChkP r.l := fun ho hk => htk.chk ho (htk.kind.symm.trans hk)
      refine ⟨fun _ H' => GoodR r ∧ bl s = encR r ∧ Blk H' ⟨b2, 0, none⟩ (rC m) ∧ RcH H' m r ∧ Blk H' ⟨b, 0, none⟩ (rC (m0 0)) ∧ Fr [] H H', ?_, ?_⟩
      · refine ⟨fun vs H' => Fr [] H H' ∧ Blk H' ⟨b, 0, none⟩ (rC (m0 0)) ∧ ∃ w : Bool, vs = [.bool w] ∧ (w = true → ∀ y, GoodR y → bl s ≠ encR y) ∧ (w = false → GoodR r ∧ bl s = encR r ∧ Blk H' ⟨b2, 0, none⟩ (rC m) ∧ RcH H' m r), ?_, ?_⟩
        · refine ⟨_, hx.ld (by kernel_rfl) (j := 2) rfl, brB_of (fun h => ⟨hf, hb, true, rfl, fun _ y hy e => ?_, (fun h => by cases h)⟩) (fun h => ⟨_, hx.ld (by kernel_rfl) (j := 1) rfl, brB_of (fun h2 => ⟨hf, hb, true, rfl, fun _ y hy e => ?_, (fun h => by cases h)⟩) (fun h2 => ?_)⟩)⟩
          · obtain ⟨h1, _⟩ := hfin.2.2 rfl y [] hy (by simpa using e)
            rw [h1] at h; cases h
          · obtain ⟨_, _, h1⟩ := hfin.2.2 rfl y [] hy (by simpa using e)
            have := congrArg List.length h1
            rw [List.length_drop, bl_len] at this
            have hp := hfin.1
            simp at h2 this; omega
          · have hok : ok = true := by simpa using h
            have hps : q = s.size := by simp at h2; omega
            refine ⟨_, _, _, _, _, _, _, _, _, _, _, hr.ldA0 (by kernel_rfl) (by kernel_rfl) rfl, ?_⟩
            refine check_ok hRc hsm (fun hF H9 hf9 => ?_) (fun hF H9 hf9 => ?_)
            · refine ⟨hf.keep0 hf9, hb.keep hf9, false, rfl, (fun h => by cases h), fun _ => ⟨⟨hF, htyp, hchk hok⟩, ?_, hr.keep hf9, hRc.keep hf9⟩⟩
              have := (hfin.2.1 hok).2
              have e9 : (bl s).drop q = [] := List.drop_of_length_le (by rw [bl_len]; omega)
              rw [e9, List.drop_zero, List.append_nil] at this
              exact this
            · refine ⟨hf.keep0 hf9, hb.keep hf9, true, rfl, fun _ y hy e => ?_, (fun h => by cases h)⟩
              obtain ⟨_, h1, _⟩ := hfin.2.2 rfl y [] hy (by simpa using e)
              exact hF (h1 ▸ hy.fine)
        · rintro J w H9 ⟨hf9, hb9, w', ew, hw1, hw2⟩
          simp only [List.cons.injEq, Value.bool.injEq, and_true] at ew
          subst ew
          refine brB_of (fun hw => ?_) (fun hw => ⟨(hw2 hw).1, (hw2 hw).2.1, (hw2 hw).2.2.1, (hw2 hw).2.2.2, hb9, hf9⟩)
          refine st26 (m := m0 0) hb9 fun H10 hb10 hf10 => ⟨_, _, _, _, _, _, _, _, _, _, _, hb10.ldA0 (by kernel_rfl) (by kernel_rfl) rfl, _, _, _, _, _, _, _, _, _, _, _, _, rfl, ?_⟩
          exact hno (hw1 hw) H10 (hf9.keep hf10 (fun k hk => by simp at hk; omega))
      · rintro J H9 ⟨hG, he, hr9, hRc9, hb9, hf9⟩
        refine ⟨_, _, _, _, _, _, _, _, _, _, _, hr9.ldA0 (by kernel_rfl) (by kernel_rfl) rfl, ?_⟩
        refine st26 (m := m) hb9 fun H10 hb10 hf10 => ⟨_, _, _, _, _, _, _, _, _, _, _, hb10.ldA0 (by kernel_rfl) (by kernel_rfl) rfl, _, _, _, _, _, _, _, _, _, _, _, _, rfl, ?_⟩
        refine hyes r m H10 hG he (hRc9.gone hf10 ?_) hsm hdjA (hf9.keep hf10 (fun k hk => by simp at hk; omega))
        exact hdj
  · subst h
    have hr := hr5
    have hx := hx5
    have hb := hb5
    have hf := hf05
    obtain ⟨m, em⟩ : ∃ m, m = m0 n := ⟨_, rfl⟩
    obtain ⟨r, er⟩ : ∃ r : Rc, r = ⟨n, [], [], [], 0⟩ := ⟨_, rfl⟩
    obtain ⟨q, eq'⟩ : ∃ q, q = p := ⟨_, rfl⟩
    obtain ⟨ok, eok⟩ : ∃ ok, ok = false := ⟨_, rfl⟩
    have hRc : RcH H5 m r := by subst em er; exact ⟨rfl, Sl.zero, Sl.zero, Sl.zero, rfl⟩
    have hsm : Small m := by subst em; exact ⟨by simp [m0], by simp [m0], by simp [m0]⟩
    have htyp : TypR r := by subst er; exact fun x hx => by simp at hx
    have hdj : NotIn m b := by subst em; exact ⟨no_ad, no_ad, no_ad⟩
    have hdjA : ∀ b', b' < H.size → NotIn m b' := by subst em; exact fun _ _ => ⟨no_ad, no_ad, no_ad⟩
    have hfin : RdG s 0 true encR GoodR r q ok := by
      subst eok eq'
      refine ⟨hrd.1, (fun h => by cases h), fun _ y t hy e => ?_⟩
      unfold encR at e
      rw [List.append_assoc] at e
      obtain ⟨h1, _⟩ := hrd.2.2 rfl y.k _ ⟨hy.fine.k.1, by have := hy.fine.k.2; omega⟩ e
      cases h1
    have hchk : ok = true → r.k = 0 → ChkP r.l := fun ho => by rw [eok] at ho; cases ho
    rw [← em] at hr
    rw [← eok, ← eq'] at hx
    clear em er eq' eok
    refine ⟨fun _ H' => GoodR r ∧ bl s = encR r ∧ Blk H' ⟨b2, 0, none⟩ (rC m) ∧ RcH H' m r ∧ Blk H' ⟨b, 0, none⟩ (rC (m0 0)) ∧ Fr [] H H', ?_, ?_⟩
    · refine ⟨fun vs H' => Fr [] H H' ∧ Blk H' ⟨b, 0, none⟩ (rC (m0 0)) ∧ ∃ w : Bool, vs = [.bool w] ∧ (w = true → ∀ y, GoodR y → bl s ≠ encR y) ∧ (w = false → GoodR r ∧ bl s = encR r ∧ Blk H' ⟨b2, 0, none⟩ (rC m) ∧ RcH H' m r), ?_, ?_⟩
      · refine ⟨_, hx.ld (by kernel_rfl) (j := 2) rfl, brB_of (fun h => ⟨hf, hb, true, rfl, fun _ y hy e => ?_, (fun h => by cases h)⟩) (fun h => ⟨_, hx.ld (by kernel_rfl) (j := 1) rfl, brB_of (fun h2 => ⟨hf, hb, true, rfl, fun _ y hy e => ?_, (fun h => by cases h)⟩) (fun h2 => ?_)⟩)⟩
        · obtain ⟨h1, _⟩ := hfin.2.2 rfl y [] hy (by simpa using e)
          rw [h1] at h; cases h
        · obtain ⟨_, _, h1⟩ := hfin.2.2 rfl y [] hy (by simpa using e)
          have := congrArg List.length h1
          rw [List.length_drop, bl_len] at this
          have hp := hfin.1
          simp at h2 this; omega
        · have hok : ok = true := by simpa using h
          have hps : q = s.size := by simp at h2; omega
          refine ⟨_, _, _, _, _, _, _, _, _, _, _, hr.ldA0 (by kernel_rfl) (by kernel_rfl) rfl, ?_⟩
          refine check_ok hRc hsm (fun hF H9 hf9 => ?_) (fun hF H9 hf9 => ?_)
          · refine ⟨hf.keep0 hf9, hb.keep hf9, false, rfl, (fun h => by cases h), fun _ => ⟨⟨hF, htyp, hchk hok⟩, ?_, hr.keep hf9, hRc.keep hf9⟩⟩
            have := (hfin.2.1 hok).2
            have e9 : (bl s).drop q = [] := List.drop_of_length_le (by rw [bl_len]; omega)
            rw [e9, List.drop_zero, List.append_nil] at this
            exact this
          · refine ⟨hf.keep0 hf9, hb.keep hf9, true, rfl, fun _ y hy e => ?_, (fun h => by cases h)⟩
            obtain ⟨_, h1, _⟩ := hfin.2.2 rfl y [] hy (by simpa using e)
            exact hF (h1 ▸ hy.fine)
      · rintro J w H9 ⟨hf9, hb9, w', ew, hw1, hw2⟩
        simp only [List.cons.injEq, Value.bool.injEq, and_true] at ew
        subst ew
        refine brB_of (fun hw => ?_) (fun hw => ⟨(hw2 hw).1, (hw2 hw).2.1, (hw2 hw).2.2.1, (hw2 hw).2.2.2, hb9, hf9⟩)
        refine st26 (m := m0 0) hb9 fun H10 hb10 hf10 => ⟨_, _, _, _, _, _, _, _, _, _, _, hb10.ldA0 (by kernel_rfl) (by kernel_rfl) rfl, _, _, _, _, _, _, _, _, _, _, _, _, rfl, ?_⟩
        exact hno (hw1 hw) H10 (hf9.keep hf10 (fun k hk => by simp at hk; omega))
    · rintro J H9 ⟨hG, he, hr9, hRc9, hb9, hf9⟩
      refine ⟨_, _, _, _, _, _, _, _, _, _, _, hr9.ldA0 (by kernel_rfl) (by kernel_rfl) rfl, ?_⟩
      refine st26 (m := m) hb9 fun H10 hb10 hf10 => ⟨_, _, _, _, _, _, _, _, _, _, _, hb10.ldA0 (by kernel_rfl) (by kernel_rfl) rfl, _, _, _, _, _, _, _, _, _, _, _, _, rfl, ?_⟩
      refine hyes r m H10 hG he (hRc9.gone hf10 ?_) hsm hdjA (hf9.keep hf10 (fun k hk => by simp at hk; omega))
      exact hdj
end Go.Proofs
set_option linter.unusedVariables false
set_option maxRecDepth 100000
open Go Go.GV
namespace Go.Proofs

theorem scanF_sound : ∀ (f : Nat) (r x : List UInt8) (M : List ByteArray), scanF f r = (M, x) → r = M.flatMap frameL ++ x
  | 0, r, x, M, h => by
    simp only [scanF, Prod.mk.injEq] at h
    obtain ⟨rfl, rfl⟩ := h
    rfl
  | f + 1, r, x, M, h => by
    cases hg : gF r with
    | none => rw [scanF_none hg] at h; cases h; simp
    | some p =>
      rw [scanF_some hg] at h
      have ih := scanF_sound f p.2 (scanF f p.2).2 (scanF f p.2).1 rfl
      cases h
      rw [List.flatMap_cons, List.append_assoc, ← ih]
      exact gF_some hg
theorem frame_not_nil (s : ByteArray) (x : List UInt8) : ([] : List UInt8) ≠ frameL s ++ x := fun h => by
  have := congrArg List.length h
  have := frameL_pos s
  simp at *
  omega
theorem scanF_full : ∀ (f : Nat) (M : List ByteArray), M.length ≤ f → (∀ t ∈ M, t.size < 18446744073709551616) → scanF f (M.flatMap frameL) = (M, [])
  | f, [], _, _ => scanF_none (gF_none fun s x _ h => frame_not_nil s x h) f
  | 0, t :: M, h, _ => by simp at h
  | f + 1, t :: M, h, hs => by
    rw [List.flatMap_cons, scanF_some (gF_of (hs t (by simp)) rfl), scanF_full f M (by simp at h; omega) fun x hx => hs x (by simp [hx])]
theorem flat_frames_len : ∀ (M : List ByteArray), M.length ≤ (M.flatMap frameL).length
  | [] => by simp
  | t :: M => by
    have := flat_frames_len M
    have := frameL_pos t
    rw [List.flatMap_cons, List.length_append, List.length_cons]
    omega
theorem scanA_frames {M : List ByteArray} (hs : ∀ t ∈ M, t.size < 18446744073709551616) : scanA (M.flatMap frameL) = (M, []) := by
  unfold scanA
  exact scanF_full _ _ (by have := flat_frames_len M; omega) hs
theorem scanA_sound {r x : List UInt8} {M : List ByteArray} (h : scanA r = (M, x)) : r = M.flatMap frameL ++ x := scanF_sound _ _ _ _ h
def encB (r : Rc) : ByteArray := bt (encR r)
theorem logB_frames (rs : List Rc) : logB rs = (rs.map encB).flatMap frameL := by
  unfold logB encB
  rw [List.flatMap_map]
theorem enc_size {r : Rc} (h : GoodR r) : (encB r).size < 18446744073709551616 := by
  unfold encB
  have hk := h.fine
  have h1 := encR_le h
  have : wC r ≤ 10000 := by unfold wC; have := hk.nr; have := hk.nt; omega
  rw [bt_size]
  omega
theorem scanA_log {rs : List Rc} (h : ∀ r ∈ rs, GoodR r) : scanA (logB rs) = (rs.map encB, []) := by
  rw [logB_frames]
  refine scanA_frames fun t ht => ?_
  obtain ⟨r, hr, rfl⟩ := List.mem_map.1 ht
  exact enc_size (h r hr)
theorem logB_inj {rs qs : List Rc} (h : ∀ r ∈ rs, GoodR r) (h' : ∀ r ∈ qs, GoodR r) (e : logB rs = logB qs) : rs = qs := by
  have h1 := scanA_log h
  rw [e, scanA_log h'] at h1
  have h2 : qs.map encB = rs.map encB := congrArg Prod.fst h1
  clear e h1
  induction rs generalizing qs with
  | nil => cases qs with | nil => rfl | cons q l => simp at h2
  | cons r l ih =>
    cases qs with
    | nil => simp at h2
    | cons q k =>
      rw [List.map_cons, List.map_cons, List.cons.injEq] at h2
      have e1 : encR r = encR q := by
        have := congrArg bl h2.1
        unfold encB at this
        rw [bl_bt, bl_bt] at this
        exact this.symm
      rw [(h r (by simp)).inj (h' q (by simp)) e1, ih (fun x hx => h x (by simp [hx])) (fun x hx => h' x (by simp [hx])) h2.2]
theorem slice22 : sliceB Tryz.prog 22 39 = true := by kernel_rfl
theorem elem39 : elemB Tryz.prog 39 encR5.sz 88 = true := by kernel_rfl
theorem sl_frN {α : Type} {E : Enc α} {H H' : Heap} {a : Option Addr} {n c : Nat} {xs : List α} {S : List Nat} (h : Sl E H a n c xs) (hf : Fr S H H') (hn : xs ≠ [] → ∀ ad, a = some ad → ad.block ∉ S) : Sl E H' a n c xs := by
  cases xs with
  | nil => exact ⟨h.len, h.cap, .inl rfl⟩
  | cons x l => exact h.fr hf (hn (by simp))
def NI (m : Rm) (r : Rc) (k : Nat) : Prop := (r.l ≠ [] → ∀ ad, m.2.1.1 = some ad → ad.block ≠ k) ∧ (r.rows ≠ [] → ∀ ad, m.2.2.1.1 = some ad → ad.block ≠ k) ∧ (r.tombs ≠ [] → ∀ ad, m.2.2.2.1.1 = some ad → ad.block ≠ k)
theorem NI.of {m : Rm} {r : Rc} {k : Nat} (h : NotIn m k) : NI m r k := ⟨fun _ => h.1, fun _ => h.2.1, fun _ => h.2.2⟩
theorem NI.new {H : Heap} {m : Rm} {r : Rc} {k : Nat} (h : RcH H m r) (hk : H.size ≤ k) : NI m r k := by
  refine ⟨fun hne ad e => ?_, fun hne ad e => ?_, fun hne ad e => ?_⟩
  · obtain ⟨b, off, e2, hb⟩ := h.l.arr.lt hne; rw [e] at e2; cases e2; show b ≠ k; omega
  · obtain ⟨b, off, e2, hb⟩ := h.rows.arr.lt hne; rw [e] at e2; cases e2; show b ≠ k; omega
  · obtain ⟨b, off, e2, hb⟩ := h.tombs.arr.lt hne; rw [e] at e2; cases e2; show b ≠ k; omega
theorem RcH.frN {H H' : Heap} {m : Rm} {r : Rc} {S : List Nat} (h : RcH H m r) (hf : Fr S H H') (hn : ∀ k ∈ S, NI m r k) : RcH H' m r :=
  ⟨h.k, sl_frN h.l hf fun hne ad e hs => (hn _ hs).1 hne ad e rfl, sl_frN h.rows hf fun hne ad e hs => (hn _ hs).2.1 hne ad e rfl, sl_frN h.tombs hf fun hne ad e hs => (hn _ hs).2.2 hne ad e rfl, h.at'⟩
structure RpS (base : Nat) (t : TypeId) (o : Option Addr) (n c : Nat) (M : List ByteArray) (j : Nat) (H : Heap) : Prop where
  it : ∃ ms rs, Own encR5 t base H o n c ms ∧ RcsH H ms rs ∧ (∀ m ∈ ms, Small m) ∧ (∀ (i : Nat) m r, ms[i]? = some m → rs[i]? = some r → ∀ k ∈ blkL o, NI m r k) ∧ (∀ r ∈ rs, GoodR r) ∧ M.take j = rs.map encB ∧ rs.length = j
theorem RpS.keep {base : Nat} {t : TypeId} {o : Option Addr} {n c : Nat} {M : List ByteArray} {j : Nat} {H H' : Heap} (h : RpS base t o n c M j H) (hf : Fr [] H H') : RpS base t o n c M j H' := by
  obtain ⟨ms, rs, h1, h2, h3⟩ := h.it
  exact ⟨ms, rs, h1.keep hf, h2.keep hf, h3⟩
theorem RpS.more {ts t : TypeId} {base : Nat} {o : Option Addr} {n c : Nat} {M : List ByteArray} {j : Nat} {H H1 : Heap} {m : Rm} {r : Rc} {K : Option Addr → Nat → Nat → Heap → Prop} (hts : sliceB Tryz.prog ts t = true) (hte : elemB Tryz.prog t encR5.sz 88 = true)
    (h : RpS base t o n c M j H) (hb : base ≤ H.size) (hj : j ≤ 1000000000) (hM : M[j]? = some (encB r)) (hG : GoodR r) (hf : Fr [] H H1) (hR : RcH H1 m r) (hsm : Small m) (hni : ∀ b, b < H.size → NotIn m b)
    (hk : ∀ o' n' c' H2, RpS base t o' n' c' M (j + 1) H2 → Fr (blkL o) H1 H2 → (∀ k ∈ blkL o, base ≤ k) → K o' n' c' H2) :
    ∀ b H2, New H1 b (.cells ⟨rC m⟩ t) H2 → SemWp Tryz.prog (Builtin.append_ ⟨[ts, ts]⟩ ts ⟨[.slice o n c, .slice (some ⟨b, 0, none⟩) 1 1]⟩) H2 fun v H' => ∃ a n c, v = .slice a n c ∧ K a n c H' := by
  obtain ⟨ms, rs, ho, hrs, hsms, hall, hg, hM', hl⟩ := h.it
  have hnl := ho.1
  have hrl := hrs.1
  refine ap_gr (E := encR5) (bytes := 88) m hts hte (ho.keep hf) (Nat.le_trans hb hf.size) rfl (by omega) fun o' n' c' H2 ho2 hf2 hg2 => hk o' n' c' H2 ⟨ms ++ [m], rs ++ [r], ho2, ?_, fun x hx => ?_, fun i x y hx hy k hk' => ?_, fun x hx => ?_, ?_, by simp [hl]⟩ hf2 fun k hk' => (ho.ge k hk').1
  · exact RcsH.app ⟨hrl, fun i x y hx hy => ((hrs.keep hf).2 i x y hx hy).frN hf2 fun k hk => hall i x y hx hy k hk⟩ (RcsH.one (hR.frN hf2 fun k hk => NI.of (hni k (own_in ho k hk))))
  · rcases List.mem_append.1 hx with hx | hx
    · exact hsms x hx
    · simp at hx; rw [hx]; exact hsm
  · by_cases hi : i < ms.length
    · rw [List.getElem?_append_left hi] at hx
      rw [List.getElem?_append_left (by omega)] at hy
      rcases hg2 k hk' with h | h
      · exact hall i x y hx hy k h
      · exact NI.new ((hrs.keep hf).2 i x y hx hy) h
    · rw [List.getElem?_append_right (by omega)] at hx hy
      have e : i - ms.length = 0 := by
        have := (List.getElem?_eq_some_iff.1 hx).1
        simp at this; omega
      rw [e] at hx
      rw [show i - rs.length = 0 by omega] at hy
      simp at hx hy
      subst hx hy
      rcases hg2 k hk' with h | h
      · exact NI.of (hni k (own_in ho k h))
      · exact NI.new hR h
  · rcases List.mem_append.1 hx with hx | hx
    · exact hg x hx
    · simp at hx; rw [hx]; exact hG
  · rw [List.take_add_one, hM, hM', List.map_append]; rfl
theorem rep_end {s : ByteArray} {M : List ByteArray} {rs : List Rc} {a : Nat} (hsc : scanA (bl s) = (M, (bl s).drop a)) (ha : s.size ≤ a) (hM : M = rs.map encB) : bl s = logB rs := by
  have h1 := scanA_sound hsc
  rw [List.drop_eq_nil_of_le (by rw [bl_len]; omega), List.append_nil] at h1
  rw [h1, hM, logB_frames]
theorem rep_no {s : ByteArray} {M : List ByteArray} {a : Nat} (hsc : scanA (bl s) = (M, (bl s).drop a)) (h : a < s.size ∨ ∃ t ∈ M, ∀ r, GoodR r → bl t ≠ encR r) (rs : List Rc) (hg : ∀ r ∈ rs, GoodR r) : bl s ≠ logB rs := fun e => by
  rw [e, scanA_log hg] at hsc
  rcases h with h | ⟨t, ht, hn⟩
  · have h2 := congrArg (fun p => (Prod.snd p).length) hsc
    simp only [List.length_nil, List.length_drop] at h2
    rw [← e, bl_len] at h2
    omega
  · have h2 : rs.map encB = M := congrArg Prod.fst hsc
    rw [← h2] at ht
    obtain ⟨r, hr, rfl⟩ := List.mem_map.1 ht
    exact hn r (hg r hr) (bl_bt _)
theorem wReplay_ok {st : Addr} {s : ByteArray} {H : Heap} {K : Option Addr → Nat → Nat → Int → Heap → Prop} (htab : TabH H) (hs : s.size ≤ 1000000000)
    (hrd : ∀ K' : ByteArray → Bool → Heap → Prop, (∀ b, K' s b H) → CallH Tryz.prog fn_files_Store_Read ⟨[.pointer (some st), .string walN]⟩ H fun v H' => ∃ t b, v = .tuple ⟨[.string t, .bool b]⟩ ∧ K' t b H')
    (hno : (∀ rs : List Rc, (∀ r ∈ rs, GoodR r) → bl s ≠ logB rs) → ∀ H', Fr [] H H' → K none 0 0 11 H')
    (hyes : ∀ rs ms o n c H', (∀ r ∈ rs, GoodR r) → bl s = logB rs → Own encR5 39 H.size H' o n c ms → RcsH H' ms rs → (∀ m ∈ ms, Small m) → Fr [] H H' → K o n c 0 H') :
    CallH Tryz.prog fn_wal_Replay ⟨[.pointer (some st)]⟩ H fun v H' => ∃ o n c e, v = .tuple ⟨[.slice o n c, .int .i64 e]⟩ ∧ K o n c e H' := by
  apply vc_wal_Replay
  refine hrd _ fun b => ?_
  refine Scan_ok htab hs fun M a o n c H1 ha hsc hMs ho hf1 => ?_
  have hnl := ho.1
  refine brB_of (fun h0 => ⟨_, _, _, _, rfl, hno (rep_no hsc (.inl (by simp at h0; omega))) H1 hf1⟩) (fun h0 => ?_)
  have haa : s.size ≤ a := by simp at h0; omega
  refine ⟨fun vs H' => match vs with | [.slice o2 n2 c2, .int _ i] => ∃ j : Nat, i = j ∧ j ≤ n ∧ RpS H1.size 39 o2 n2 c2 M j H' ∧ Fr [] H1 H' | _ => False,
    fun vs _ => match vs with | [_, .int _ i] => n - i.toNat | _ => 0, ⟨0, rfl, by omega, ⟨[], [], Own.nil _ _ _ _, ⟨rfl, fun i x y h => by simp at h⟩, by simp, fun i x y h => by simp at h, by simp, rfl, rfl⟩, Fr.refl _ _⟩, ?_⟩
  rintro J o2 n2 c2 i H2 ⟨j, rfl, hj, hS, hf2⟩
  have f2 := hf1.keep0 hf2
  have hnM : n ≤ 1000000000 := by
    have := scanA_sound hsc
    have := congrArg List.length this
    have := flat_frames_len M
    rw [List.length_append, bl_len] at *
    omega
  refine brB_of (fun h1 => ?_) (fun h1 => ?_)
  · have h1' : j < n := by simpa using h1
    obtain ⟨t, ht⟩ := getElem_ex (l := M) (i := j) (by omega)
    have hts := hMs t (List.mem_of_getElem? ht)
    refine (ho.sl.keep hf2).get rfl ht (by simp; omega) fun ad e hc => ⟨t, ld_one (by kernel_rfl) hc, ?_⟩
    refine DecodeN_ok (by omega) (fun hn H3 hf3 => ?_) fun r m H3 hG et hR hsm hni hf3 => ?_
    · intro b3 H4 hn4
      have e4 := hn4.eq
      refine st26 (m := m0 0) (m' := m0 0) hn4.blk fun H5 hb5 hf5 => brB_of (fun _ => ⟨_, _, _, _, rfl, hno (rep_no hsc (.inr ⟨t, List.mem_of_getElem? ht, hn⟩)) H5 ?_⟩) fun h => by simp at h
      exact (f2.keep0 hf3).keep0 (hn4.fr.keep hf5 fun k hk => by simp at hk; omega)
    · intro b3 H4 hn4
      have e4 := hn4.eq
      refine st26 (m := m) (m' := m0 0) hn4.blk fun H5 hb5 hf5 => brB_of (fun h => by simp at h) fun _ => ?_
      have hf35 : Fr [] H3 H5 := hn4.fr.keep hf5 fun k hk => by simp at hk; omega
      refine ⟨_, _, _, _, _, _, _, _, _, _, _, hb5.ldA0 (by kernel_rfl) (by kernel_rfl) rfl, ?_⟩
      have hte : t = encB r := bl_inj (by unfold encB; rw [bl_bt, et])
      refine RpS.more (m := m) slice22 elem39 hS hf2.size (by omega) (by rw [ht, hte]) hG (hf3.keep0 hf35) (hR.keep hf35) hsm hni fun o3 n3 c3 H6 hS6 hf6 hge => ⟨⟨j + 1, succ64 (by omega), by omega, hS6, (hf2.keep0 (hf3.keep0 hf35)).keep hf6 hge⟩, ?_⟩
      show n - (IntKind.i64.wrap ((j : Int) + 1)).toNat < n - ((j : Nat) : Int).toNat
      rw [succ64 (by omega)]
      exact mu_lt h1'
  · have hjn : j = n := by simp at h1; omega
    obtain ⟨ms, rs, q1, q2, q3, q4, q5, q6, q7⟩ := hS.it
    rw [List.take_of_length_le (by omega)] at q6
    exact ⟨_, _, _, _, rfl, hyes rs ms o2 n2 c2 H2 q5 (rep_end hsc haa q6) (q1.base hf1.size) q2 q3 f2⟩
end Go.Proofs
set_option linter.unusedVariables false
set_option maxRecDepth 100000
open Go Go.GV
namespace Go.Proofs

structure PS (H : Heap) (s : Addr) (Sd : List Nat) (sz : Nat) (now : ByteArray → Option ByteArray) (M : Nat) : Prop where
  it : ∃ d rn rl m, SL H s d rn rl none 0 0 [] Sd (stF now) m 0 M ∧ m.size = sz
theorem PS.keep {H H' : Heap} {s : Addr} {Sd : List Nat} {sz M : Nat} {now : ByteArray → Option ByteArray} (h : PS H s Sd sz now M) (hf : Fr [] H H') : PS H' s Sd sz now M := by
  obtain ⟨d, rn, rl, m, h1, h2⟩ := h.it
  exact ⟨d, rn, rl, m, h1.keep hf, h2⟩
theorem PS.blk {H : Heap} {s : Addr} {Sd : List Nat} {sz M : Nat} {now : ByteArray → Option ByteArray} (h : PS H s Sd sz now M) : ∃ cs, Blk H s cs := by
  obtain ⟨d, rn, rl, m, h1, h2⟩ := h.it
  exact ⟨_, h1.blk⟩
theorem PS.inSd {H : Heap} {s : Addr} {Sd : List Nat} {sz M : Nat} {now : ByteArray → Option ByteArray} (h : PS H s Sd sz now M) : In H Sd := by
  obtain ⟨d, rn, rl, m, h1, h2⟩ := h.it
  exact h1.dk.inS
theorem map_not_cells {H : Heap} {r : Nat} {t : Addr} {cs : List Value} {ck : Nat} {L : List (Ent ByteArray)} (h : MapR SM H r ck L) (hb : Blk H t cs) : r ≠ t.block := fun e => by
  obtain ⟨b, te, rfl, hh⟩ := hb
  have := h.blk
  rw [e] at this
  rw [hh] at this
  cases this
theorem PS.off {H H' : Heap} {s t : Addr} {Sd : List Nat} {sz M : Nat} {now : ByteArray → Option ByteArray} {cs : List Value} (h : PS H s Sd sz now M) (hb : Blk H t cs) (h1 : t.block ≠ s.block) (h2 : t.block ∉ Sd) (hf : Fr [t.block] H H') : PS H' s Sd sz now M := by
  obtain ⟨d, rn, rl, m, hs, hm⟩ := h.it
  refine ⟨d, rn, rl, m, hs.fr hf (fun k hk hs2 => ?_) (fun k hk hs2 => ?_), hm⟩
  · simp only [List.mem_singleton] at hs2
    subst hs2
    simp only [List.mem_cons, List.mem_nil_iff, or_false] at hk
    obtain ⟨ck, L, hn, _⟩ := hs.now
    obtain ⟨ck2, L2, hl, _⟩ := hs.last
    rcases hk with e | e | e
    · exact h1 e
    · exact map_not_cells hn hb e.symm
    · exact map_not_cells hl hb e.symm
  · simp only [List.mem_singleton] at hs2
    rw [hs2] at hk
    exact h2 hk
theorem plb_st {now0 now : ByteArray → Option ByteArray} (h : ∀ y d, now y = some d → y.size ≤ 16 ∧ d.size ≤ 30000000) : PlB (stF now0) now := ⟨by show (0 : Nat) ≤ _; omega, (fun nm d xs e => by cases e), fun y d e => ⟨by have := (h y d e).1; omega, (h y d e).2⟩⟩
def NB (now : ByteArray → Option ByteArray) (B : Nat) : Prop := ∀ y d, now y = some d → y.size ≤ 16 ∧ d.size ≤ B
theorem NB.put {now : ByteArray → Option ByteArray} {B : Nat} (h : NB now B) {k v : ByteArray} (hk : k.size ≤ 16) (hv : v.size ≤ B) : NB (putN now k v) B := fun y d e => by
  unfold putN at e
  split at e
  · rename_i hy; cases e; rw [hy]; exact ⟨hk, hv⟩
  · exact h y d e
theorem NB.del {now : ByteArray → Option ByteArray} {B : Nat} (h : NB now B) (k : ByteArray) : NB (delN now k) B := fun y d e => by
  unfold delN at e
  split at e
  · cases e
  · exact h y d e
theorem NB.mono {now : ByteArray → Option ByteArray} {B B' : Nat} (h : NB now B) (hB : B ≤ B') : NB now B' := fun y d e => ⟨(h y d e).1, Nat.le_trans (h y d e).2 hB⟩
theorem walN_right : rightP walN := by decide
noncomputable def wrC (sz : Nat) (now : ByteArray → Option ByteArray) (data : ByteArray) : Int := (writeS sz (stF now) walN data).2
noncomputable def wrN (sz : Nat) (now : ByteArray → Option ByteArray) (data : ByteArray) : ByteArray → Option ByteArray := (writeS sz (stF now) walN data).1.now
theorem wr_cases (sz : Nat) (now : ByteArray → Option ByteArray) (data : ByteArray) : (wrC sz now data = 0 ∧ wrN sz now data = putN now walN data) ∨ (wrC sz now data = 2 ∧ wrN sz now data = now) := by
  unfold wrC wrN writeS
  rw [if_pos walN_right]
  unfold changeM
  split
  · exact .inl ⟨rfl, rfl⟩
  · exact .inr ⟨rfl, rfl⟩
theorem wr_st (sz : Nat) (now : ByteArray → Option ByteArray) (data : ByteArray) : (writeS sz (stF now) walN data).1 = stF (wrN sz now data) := by
  unfold wrN writeS
  rw [if_pos walN_right]
  unfold changeM
  split <;> rfl
noncomputable def dlC (sz : Nat) (now : ByteArray → Option ByteArray) : Int := (deleteS sz (stF now) walN).2
noncomputable def dlN (sz : Nat) (now : ByteArray → Option ByteArray) : ByteArray → Option ByteArray := (deleteS sz (stF now) walN).1.now
theorem dl_cases (sz : Nat) (now : ByteArray → Option ByteArray) : (dlC sz now = 0 ∧ dlN sz now = delN now walN) ∨ (dlC sz now = 2 ∧ dlN sz now = now) ∨ (dlC sz now = 3 ∧ dlN sz now = now ∧ now walN = none) := by
  unfold dlC dlN deleteS
  rw [if_pos walN_right]
  split
  · unfold changeM
    split
    · exact .inl ⟨rfl, rfl⟩
    · exact .inr (.inl ⟨rfl, rfl⟩)
  · rename_i h
    refine .inr (.inr ⟨rfl, rfl, ?_⟩)
    have h : ¬ (now walN).isSome = true := h
    cases hn : now walN with
    | none => rfl
    | some d => rw [hn] at h; exact absurd rfl h
theorem dl_st (sz : Nat) (now : ByteArray → Option ByteArray) : (deleteS sz (stF now) walN).1 = stF (dlN sz now) := by
  unfold dlN deleteS
  rw [if_pos walN_right]
  split
  · unfold changeM
    split <;> rfl
  · rfl
def fileT (now : ByteArray → Option ByteArray) : ByteArray := (now walN).getD ⟨#[]⟩
theorem fileT_le {now : ByteArray → Option ByteArray} {B : Nat} (h : NB now B) : (fileT now).size ≤ B := by
  unfold fileT
  cases hn : now walN with
  | none => simp [ByteArray.size]
  | some d => exact (h walN d hn).2
theorem PS.read {H : Heap} {s : Addr} {Sd : List Nat} {sz M : Nat} {now : ByteArray → Option ByteArray} {K : ByteArray → Bool → Heap → Prop} (h : PS H s Sd sz now M) (hk : K (fileT now) (now walN).isSome H) :
    CallH Tryz.prog fn_files_Store_Read ⟨[.pointer (some s), .string walN]⟩ H fun v H' => ∃ t b, v = .tuple ⟨[.string t, .bool b]⟩ ∧ K t b H' := by
  obtain ⟨d, rn, rl, m, hs, hm⟩ := h.it
  exact Read10_ok hs hk
theorem PS.append {H : Heap} {s : Addr} {Sd : List Nat} {sz M B B' : Nat} {now : ByteArray → Option ByteArray} {data : ByteArray} {K : Int → Heap → Prop} (h : PS H s Sd sz now M) (hM : M + 1 ≤ 100) (hb : NB now B) (hB : B' ≤ 30000000) (hd : B + data.size ≤ B')
    (hk : ∀ H', PS H' s Sd sz (wrN sz now (fileT now ++ data)) (M + 1) → NB (wrN sz now (fileT now ++ data)) B' → Fr [s.block] H H' → K (wrC sz now (fileT now ++ data)) H') :
    CallH Tryz.prog fn_files_Store_Append ⟨[.pointer (some s), .string walN, .string data]⟩ H fun v H' => ∃ n, v = .int .i64 n ∧ K n H' := by
  obtain ⟨d, rn, rl, m, hs, hm⟩ := h.it
  have hfl := fileT_le hb
  have hb' := hb.mono (B' := B') (by omega)
  have hnb := hb'.put (k := walN) (v := fileT now ++ data) walN_right.2.2 (by rw [ByteArray.size_append]; omega)
  refine Append10_ok hs hM (by decide) (by show (fileT now).size + _ ≤ _; omega) (fun _ => plb_st (hnb.mono hB)) fun rn' H' h' hf => ?_
  rw [hm] at h' ⊢
  refine hk H' ⟨d, rn', rl, m, by rw [← wr_st]; exact h', hm⟩ ?_ hf
  rcases wr_cases sz now (fileT now ++ data) with ⟨_, e⟩ | ⟨_, e⟩
  · rw [e]; exact hnb
  · rw [e]; exact hb'
theorem PS.delete {H : Heap} {s : Addr} {Sd : List Nat} {sz M B : Nat} {now : ByteArray → Option ByteArray} {K : Int → Heap → Prop} (h : PS H s Sd sz now M) (hM : M + 1 ≤ 100) (hb : NB now B) (hB : B ≤ 30000000)
    (hk : ∀ H', PS H' s Sd sz (dlN sz now) (M + 1) → NB (dlN sz now) B → Fr [s.block] H H' → K (dlC sz now) H') :
    CallH Tryz.prog fn_files_Store_Delete ⟨[.pointer (some s), .string walN]⟩ H fun v H' => ∃ n, v = .int .i64 n ∧ K n H' := by
  obtain ⟨d, rn, rl, m, hs, hm⟩ := h.it
  refine Delete10_ok hs hM (by decide) (plb_st ((hb.del walN).mono hB)) fun rn' H' h' hf => ?_
  rw [hm] at h' ⊢
  refine hk H' ⟨d, rn', rl, m, by rw [← dl_st]; exact h', hm⟩ ?_ hf
  rcases dl_cases sz now with ⟨_, e⟩ | ⟨_, e⟩ | ⟨_, e, _⟩
  · rw [e]; exact hb.del _
  · rw [e]; exact hb
  · rw [e]; exact hb
theorem rdM_fresh (n i : Int) : (rdM (newM n) i).1 = ⟨#[]⟩ := by
  unfold rdM newM
  simp only [Bool.false_eq_true, if_false]
  (repeat' split) <;> rfl
theorem stores_ok {n : Int} {sz : Nat} {X : List Nat} {H : Heap} {K : Option Addr → Option Addr → Heap → Prop} (hz : (if (if 512 < n then 512 else n) > 8 then if 512 < n then 512 else n else 8) = (sz : Int)) (hsz : 8 ≤ sz ∧ sz ≤ 512) (hX : In H X)
    (hk : ∀ s1 s2 d2 Sd H', PS H' s1 Sd sz (fun _ => none) 0 → RS H' (s1.block :: X) s2 d2 sz [] → H.size ≤ s1.block → H.size ≤ s2.block → (∀ k ∈ Sd, H.size ≤ k) → s2.block ≠ s1.block → s2.block ∉ Sd → Fr [] H H' → K (some s1) (some s2) H') :
    CallH Tryz.prog fn_law11_stores ⟨[.int .i64 n]⟩ H fun v H' => ∃ a b, v = .tuple ⟨[.pointer a, .pointer b]⟩ ∧ K a b H' := by
  apply vc_law11_stores
  refine New_ok fun b H1 S hS hD hf1 => ?_
  refine Open_fresh hD (by omega) rfl (fun i h0 h1 => rdM_fresh n i) fun s1 rn rl H2 hge2 hsl hf2 => ?_
  have hms : (newM n).size = sz := hz
  refine rNew_ok hz hsz.2 fun b2 H3 hge3 hdf hf3 => ?_
  have hslk := hsl.keep hf3
  have s1lt := hsl.blk.lt
  refine rOpen_ok (s1.block :: X) hdf hsz.1 (fun k hk => ?_) (fun hm => ?_) fun s2 H4 hge4 hrs hf4 => brB_of (fun h => by simp at h) fun _ => ⟨_, _, rfl, hk s1 s2 _ S H4 ⟨_, rn, rl, newM n, hslk.keep hf4, hms⟩ hrs ?_ ?_ hS ?_ ?_ (((hf1.keep0 hf2).keep0 hf3).keep0 hf4)⟩
  · have := hf1.size; have := hf2.size; have := hf3.size
    rcases List.mem_cons.1 hk with e | e
    · rw [e]; omega
    · have := hX k e; omega
  · have := hf1.size; have := hf2.size
    rcases List.mem_cons.1 hm with e | e
    · have : b2 = s1.block := e
      omega
    · have := hX _ e; have : b2 < H.size := this; omega
  · have := hf1.size; omega
  · have := hf1.size; have := hf2.size; have := hf3.size; omega
  · have := hf3.size; omega
  · intro hm
    have := hsl.dk.inS _ hm
    have := hf3.size
    omega
end Go.Proofs
