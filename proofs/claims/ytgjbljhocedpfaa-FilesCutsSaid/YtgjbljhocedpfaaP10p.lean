/- A part of a proof: see the last text of this claim. -/
import Derived.Test.YtgjbljhocedpfaaP10o
set_option linter.unusedVariables false
set_option maxRecDepth 100000
open Go Go.GV
namespace Go.Proofs

theorem contains_ok {f : Value} {p : ByteArray → Bool} {a : Option Addr} {n c : Nat} {ys : List ByteArray} {H : Heap} {K : Bool → Heap → Prop} (hl : Sl GV.encStr H a n c ys) (hn : n ≤ 1000000000000)
    (hf : ∀ y H1 (K1 : Bool → Heap → Prop), Fr [] H H1 → (∀ H2, Fr [] H1 H2 → K1 (p y) H2) → CallV Try.prog f [.string y] H1 fun v H' => ∃ b, v = .bool b ∧ K1 b H')
    (hk : ∀ H', Fr [] H H' → K (ys.any p) H') :
    CallH Try.prog 34 ⟨[.slice a n c, f]⟩ H fun v H' => ∃ b, v = .bool b ∧ K b H' := by
  apply vc_slices_ContainsFunc___string_string_
  apply vc_slices_IndexFunc___string_string_
  have hlen := hl.len
  refine ⟨fun vs H2 => match vs with | [.int _ i] => ∃ j : Nat, i = j ∧ j ≤ n ∧ (ys.take j).any p = false ∧ Fr [] H H2 | _ => False,
    fun vs _ => match vs with | [.int _ i] => n - i.toNat | _ => 0, ⟨0, rfl, by omega, by simp, Fr.refl _ _⟩, ?_⟩
  rintro J i H2 ⟨j, rfl, hj, hany, hf2⟩
  refine brB_of (fun h0 => ?_) (fun h0 => ?_)
  · have h0' : j < n := by simp at h0; omega
    have hx : ys[j]? = some (ys[j]'(by omega)) := by simp
    generalize ys[j]'(by omega) = y at hx
    refine (hl.keep hf2).get rfl hx (by simp; omega) fun ad e hc => ⟨y, ld_one (by kernel_rfl) hc, hf y H2 _ hf2 fun H3 hf3 => ?_⟩
    have hnext : (ys.take (j + 1)).any p = p y := by
      rw [List.take_add_one, hx, List.any_append, hany]
      simp
    refine brB_of (fun hp => ⟨_, rfl, _, rfl, ?_⟩) (fun hp => ⟨⟨j + 1, succ64 (by omega), by omega, by rw [hnext, hp], hf2.keep0 hf3⟩, ?_⟩)
    · have : decide ((j : Int) ≥ 0) = ys.any p := by
        have h1 : ys.any p = true := List.any_eq_true.2 ⟨y, List.mem_of_getElem? hx, hp⟩
        rw [h1]; simp
      rw [this]
      exact hk H3 (hf2.keep0 hf3)
    · show n - (IntKind.i64.wrap ((j : Int) + 1)).toNat < n - ((j : Nat) : Int).toNat
      rw [succ64 (by omega)]
      exact mu_lt h0'
  · have hjn : j = n := by simp at h0; omega
    subst hjn
    rw [List.take_of_length_le (by omega)] at hany
    refine ⟨_, rfl, _, rfl, ?_⟩
    have := hk H2 hf2
    rw [hany] at this
    exact this

theorem zero59 : zeroOf Try.prog 59 = some (.agg ⟨[.string ⟨#[]⟩, .slice none 0 0]⟩) := by kernel_rfl
theorem LastR.look2 {H : Heap} {r : Nat} {Q : List Nat} {last : ByteArray → Option (ByteArray × List Int)} (h : LastR H r Q last) (k : ByteArray) :
    ∃ d a n c xs, Rd Try.prog (Instr.lookup 52 (.map (some r)) (.string k) true) H (.tuple ⟨[.agg ⟨[.string d, .slice a n c]⟩, .bool (last k).isSome]⟩) ∧ Rd Try.prog (Instr.lookup 52 (.map (some r)) (.string k) false) H (.agg ⟨[.string d, .slice a n c]⟩) ∧
      (last k).getD (⟨#[]⟩, []) = (d, xs) ∧ Sl encInt H a n c xs ∧ (∀ k ∈ blkL a, k ∈ Q) := by
  obtain ⟨ck, L, hm, he, hn⟩ := h
  have l1 := lookup_map_ok SM (mt := 52) (e := 59) Try.underlying52 zero59 hm k
  have l2 := lookup_map SM (mt := 52) (e := 59) Try.underlying52 zero59 hm k
  cases hg : getL k L with
  | none =>
    rw [hg] at l1 l2
    rw [hn k hg]
    exact ⟨_, none, 0, 0, [], l1, l2, rfl, Sl.zero, by simp [blkL]⟩
  | some v =>
    obtain ⟨b, hb⟩ := mem_getL hg
    obtain ⟨d, a, n, c, xs, e, hs, hq, hl⟩ := he _ hb
    rw [hg] at l1 l2
    simp only at e
    subst e
    rw [hl]
    exact ⟨d, a, n, c, xs, l1, l2, rfl, hs, hq⟩

/-- Does this name's file differ from what lasts of it? -/
def differs (st : Sto) (y : ByteArray) : Bool := !(st.last y).isSome || !(bl ((st.last y).getD (⟨#[]⟩, [])).1 == bl ((st.now y).getD ⟨#[]⟩))
theorem sync1_ok {b : Nat} {s d : Addr} {rn rl : Nat} {a : Option Addr} {n c : Nat} {Q Sd : List Nat} {st : Sto} {m : Dk} {N M : Nat} {H : Heap} {y : ByteArray} {K : Bool → Heap → Prop} (hb : Blk H ⟨b, 0, none⟩ [.pointer (some s)]) (h : SL H s d rn rl a n c Q Sd st m N M)
    (hk : ∀ H', Fr [] H H' → K (differs st y) H') :
    CallV Try.prog (.func (.func 36) ⟨[]⟩ ⟨[.pointer (some ⟨b, 0, none⟩)]⟩) [.string y] H fun v H' => ∃ b, v = .bool b ∧ K b H' := by
  refine ⟨36, ⟨[]⟩, _, rfl, by kernel_rfl, ?_⟩
  apply vc_files_Store_Sync_1
  obtain ⟨d1, a1, n1, c1, xs, l1, _, e1, _, _⟩ := h.last.look2 y
  refine ⟨_, hb.ld0 (by kernel_rfl) rfl, some rl, h.blk.ld (by kernel_rfl) rfl, d1, a1, n1, c1, _, l1, ?_⟩
  refine var_blk (by kernel_rfl) (by kernel_rfl) (fun x hx => by simp [Value.cells] at hx; rcases hx with rfl | rfl <;> rfl) (by rfl) fun b1 H1 hb1 hbk hf => ?_
  refine brB_of (fun hi => ⟨_, rfl, ?_⟩) (fun hi => ?_)
  · have : differs st y = true := by unfold differs; rw [hi]; rfl
    rw [← this]
    exact hk H1 hf
  · refine ⟨d1, hbk.ldK (j := 0) (by kernel_rfl) rfl, _, (hb.keep hf).ld0 (by kernel_rfl) rfl, some rn, (h.blk.keep hf).ld (by kernel_rfl) rfl, _, (h.now.fr hf (by simp)).look y, _, rfl, ?_⟩
    have : differs st y = !ByteArray.toList d1 == ByteArray.toList ((st.now y).getD ⟨#[]⟩) := by
      unfold differs
      rw [hi, e1, toL, toL]
      simp
    rw [← this]
    exact hk H1 hf
end Go.Proofs
