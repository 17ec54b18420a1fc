/- A part of a proof: see the last text of this claim. -/
import Derived.Test.YtddfciphdbdemaaP07p
import Derived.Test.YtddfciphdbdemaaQ07
set_option linter.unusedVariables false
set_option maxRecDepth 100000
open Go Go.GV
namespace Go.Proofs

def pS (l : Lbls) : ByteArray := ⟨(printL l).toArray⟩
def txL (l : Lbls) : List UInt8 := textL (pS l)
theorem bl_pS (l : Lbls) : bl (pS l) = printL l := by unfold pS; rw [bl_mk]
theorem txL_len {l : Lbls} (h : ChkP l) : (txL l).length ≤ 710 := by
  unfold txL textL
  have h1 := printL_len h
  have h2 : (pS l).size = (printL l).length := size_mk _
  have := uintL_len10 (n := (pS l).size) (by omega)
  rw [List.length_append, bl_pS]; omega
/-- An index's text. -/
def encI (L : List Lbls) : List UInt8 := uintL L.length ++ L.flatMap txL
def headI (L : List Lbls) (k : Nat) : List UInt8 := uintL L.length ++ (L.take k).flatMap txL
theorem headI_snoc {L : List Lbls} {k : Nat} {l : Lbls} (h : L[k]? = some l) : headI L (k + 1) = headI L k ++ txL l := by
  unfold headI
  rw [List.take_add_one, h]
  simp [List.flatMap_append]
theorem headI_all {L : List Lbls} {k : Nat} (h : L.length ≤ k) : headI L k = encI L := by
  unfold headI encI; rw [List.take_of_length_le h]
theorem flat_le {L : List Lbls} (h : ∀ l ∈ L, ChkP l) : (L.flatMap txL).length ≤ 710 * L.length := by
  induction L with
  | nil => simp
  | cons l L ih =>
    have h1 := txL_len (h l (by simp))
    have h2 := ih fun m hm => h m (by simp [hm])
    simp only [List.flatMap_cons, List.length_append, List.length_cons]; omega
theorem headI_len {L : List Lbls} (hw : WfI L) (k : Nat) : (headI L k).length ≤ 300000 := by
  unfold headI
  have h1 := uintL_len10 (n := L.length) (by have := hw.len; omega)
  have h2 := flat_le (L := L.take k) fun l hl => hw.chk l (List.mem_of_mem_take hl)
  rw [List.length_take] at h2
  have := hw.len
  rw [List.length_append]; omega
theorem headI_0 (L : List Lbls) : headI L 0 = uintL L.length := by simp [headI]
theorem app_mk (x y : List UInt8) : ((⟨x.toArray⟩ : ByteArray) ++ ⟨y.toArray⟩) = ⟨(x ++ y).toArray⟩ := by
  apply bl_inj
  rw [bl_app, bl_mk, bl_mk, bl_mk]

theorem Encode_ok {H : Heap} {xb : Nat} {U : List Nat} {L : List Lbls} {K : ByteArray → Heap → Prop} (h : IdxH H xb U L)
    (hk : ∀ H', Fr [] H H' → K ⟨(encI L).toArray⟩ H') :
    CallH Try.prog fn_index_Index_Encode ⟨[.pointer (some ⟨xb, 0, none⟩)]⟩ H fun v H' => ∃ s, v = .string s ∧ K s H' := by
  apply vc_index_Index_Encode
  obtain ⟨hw, a0, n0, c0, hs, rk, rh, mF, vF, hp⟩ := h
  have e : n0 = L.length := by rw [hp.all.1, hp.lls.1]
  have hlen := hw.len
  refine ⟨_, _, _, (lookKey hp).ld0 (by kernel_rfl) rfl, ?_⟩
  rw [wrapU64 (n := (n0 : Int)) (by omega) (by omega)]
  refine Uint_ok (by omega) fun H1 hf1 => ?_
  have hp1 := hp.fr hf1 (by simp)
  refine ⟨_, _, _, (lookKey hp1).ld0 (by kernel_rfl) rfl, ?_⟩
  refine ⟨fun vs H' => match vs with
      | [.string s, .int _ i] => ∃ k : Nat, i = k ∧ k ≤ n0 ∧ s = ⟨(headI L k).toArray⟩ ∧ Fr [] H H'
      | _ => False,
    fun vs _ => match vs with | [_, .int _ i] => n0 - i.toNat | _ => 0, ⟨0, rfl, by omega, by rw [headI_0, e], hf1⟩, ?_⟩
  rintro J s i H2 ⟨k, rfl, hle, rfl, hf2⟩
  refine brB_of (fun h0 => ?_) (fun h0 => ?_)
  · have h0' : k < n0 := by simpa using h0
    have hx1 : hs[k]? = some (hs[k]'(by have := hp.lls.1; omega)) := by simp
    have hl1 : L[k]? = some (L[k]'(by omega)) := by simp
    generalize hs[k]'(by have := hp.lls.1; omega) = hd at hx1
    generalize L[k]'(by omega) = l at hl1
    have hl := (hp.lls.2 _ _ _ hx1 hl1).1
    have hC := hw.chk l (List.mem_of_getElem? hl1)
    refine (hp.all.sl.keep hf2).get rfl hx1 (decide_eq_true (by omega)) fun ad ea hc => ⟨_, _, _, ldH hc, ?_⟩
    refine Print_ok (hl.sl.keep hf2) (by have := hl.1; have := hC.1; omega) (fun h => absurd hC h) fun _ H3 hf3 => ?_
    have h7 := printL_len hC
    have h8 := size_mk (printL l)
    refine Text_ok (by omega) fun H4 hf4 => ?_
    have h9 := size_mk (headI L k)
    have h10 := size_mk (textL (⟨(printL l).toArray⟩ : ByteArray))
    have h11 := txL_len hC
    have h12 : (txL l).length = (textL (⟨(printL l).toArray⟩ : ByteArray)).length := rfl
    have h13 := headI_len hw k
    refine chk_true (decide_eq_true (by omega)) ⟨⟨k + 1, by rw [succ64 (by omega)], by omega, ?_, (hf2.keep0 hf3).keep0 hf4⟩, by rw [succ64 (by omega)]; exact mu_lt h0'⟩
    rw [app_mk, headI_snoc hl1]; rfl
  · rw [headI_all (by simp at h0; omega)]
    exact ⟨_, rfl, hk H2 hf2⟩
theorem rEncode_ok {H : Heap} {yb : Nat} {U : List Nat} {L : List Lbls} {K : ByteArray → Heap → Prop} (h : RefH H yb U L) (hw : WfI L)
    (hk : ∀ H', Fr [] H H' → K ⟨(encI L).toArray⟩ H') :
    CallH Try.prog fn_ref07_Index_Encode ⟨[.pointer (some ⟨yb, 0, none⟩)]⟩ H fun v H' => ∃ s, v = .string s ∧ K s H' := by
  apply vc_ref07_Index_Encode
  obtain ⟨a0, n0, c0, hs, h1, h2, h3, _⟩ := h
  have e : n0 = L.length := by rw [h2.1, h3.1]
  have hlen := hw.len
  have hb : Blk H ⟨yb, 0, none⟩ [.slice a0 n0 c0] := ⟨yb, _, rfl, h1⟩
  refine ⟨_, _, _, hb.ld0 (by kernel_rfl) rfl, ?_⟩
  rw [wrapU64 (n := (n0 : Int)) (by omega) (by omega)]
  refine rUint_ok (by omega) fun H1 hf1 => ?_
  refine ⟨fun vs H' => match vs with
      | [.string s, .int _ i] => ∃ k : Nat, i = k ∧ k ≤ n0 ∧ s = ⟨(headI L k).toArray⟩ ∧ Fr [] H H'
      | _ => False,
    fun vs _ => match vs with | [_, .int _ i] => n0 - i.toNat | _ => 0, ⟨0, rfl, by omega, by rw [headI_0, e], hf1⟩, ?_⟩
  rintro J s i H2 ⟨k, rfl, hle, rfl, hf2⟩
  have hb2 := hb.keep hf2
  refine ⟨_, _, _, hb2.ld0 (by kernel_rfl) rfl, ?_⟩
  refine brB_of (fun h0 => ?_) (fun h0 => ?_)
  · have h0' : k < n0 := by simpa using h0
    have hx1 : hs[k]? = some (hs[k]'(by have := h3.1; omega)) := by simp
    have hl1 : L[k]? = some (L[k]'(by omega)) := by simp
    generalize hs[k]'(by have := h3.1; omega) = hd at hx1
    generalize L[k]'(by omega) = l at hl1
    have hl := (h3.2 _ _ _ hx1 hl1).1
    have hC := hw.chk l (List.mem_of_getElem? hl1)
    refine ⟨_, _, _, hb2.ld0 (by kernel_rfl) rfl, ?_⟩
    refine (h2.sl.keep hf2).get rfl hx1 (decide_eq_true (by omega)) fun ad ea hc => ⟨_, _, _, ldH hc, ?_⟩
    refine rPrint_ok (hl.sl.keep hf2) (fun h => absurd hC h) fun _ => ?_
    have h7 := printL_len hC
    have h8 := size_mk (printL l)
    refine rText_ok (by omega) fun H4 hf4 => ?_
    have h9 := size_mk (headI L k)
    have h10 := size_mk (textL (⟨(printL l).toArray⟩ : ByteArray))
    have h11 := txL_len hC
    have h12 : (txL l).length = (textL (⟨(printL l).toArray⟩ : ByteArray)).length := rfl
    have h13 := headI_len hw k
    refine chk_true (decide_eq_true (by omega)) ⟨⟨k + 1, by rw [succ64 (by omega)], by omega, ?_, hf2.keep0 hf4⟩, by rw [succ64 (by omega)]; exact mu_lt h0'⟩
    rw [app_mk, headI_snoc hl1]; rfl
  · rw [headI_all (by simp at h0; omega)]
    exact ⟨_, rfl, hk H2 hf2⟩
end Go.Proofs
