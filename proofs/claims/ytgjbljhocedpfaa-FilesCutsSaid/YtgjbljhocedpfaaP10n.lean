/- A part of a proof: see the last text of this claim. -/
import Derived.Test.YtgjbljhocedpfaaP10m
set_option linter.unusedVariables false
set_option maxRecDepth 100000
open Go Go.GV
namespace Go.Proofs

theorem crashM_keep (keep : Int) (m : Dk) : (crashM keep m).keep = m.keep := by
  unfold crashM
  split <;> rfl
theorem lastM_keep (m : Dk) : (lastM m).1.keep = m.keep := by
  unfold lastM
  split
  · rfl
  · exact crashM_keep _ _
theorem writeM_keep (m : Dk) (i : Int) (s : ByteArray) : (writeM m i s).1.keep = m.keep := by
  unfold writeM
  split
  · rfl
  · split
    · rfl
    · exact lastM_keep _
/-- Texts are laid down, and flushed. -/
def layM : Dk → List (Int × ByteArray) → Dk × Int
  | m, [] => flushM m
  | m, p :: l => if (writeM m p.1 p.2).2 ≠ 0 then writeM m p.1 p.2 else layM (writeM m p.1 p.2).1 l

theorem lay_ok {s d : Addr} {cs : List Value} {a : Option Addr} {n c : Nat} {l : List (Int × ByteArray)} {S : List Nat} {m : Dk} {N : Nat} {H : Heap} {K : Int → Heap → Prop} (hs : Blk H s cs) (hc : cs[0]? = some (.pointer (some d))) (hsS : s.block ∉ S)
    (hl : Sl encPut H a n c l) (hq : ∀ k ∈ blkL a, k ∉ S ∧ k < H.size) (h : DRep H d S m N) (hN : N + 2 * n + 1 ≤ 1000000) (hkp : 0 ≤ m.keep ∧ m.keep < 18446744073709551616)
    (hk : ∀ H' S', DRep H' d S' (layM m l).1 (N + 2 * n + 1) → Fr S H H' → Grow H S S' → K (layM m l).2 H') :
    CallH Try.prog fn_files_Store_lay ⟨[.pointer (some s), .slice a n c]⟩ H fun v H' => ∃ e, v = .int .i64 e ∧ K e H' := by
  apply vc_files_Store_lay
  have hlen := hl.len
  refine ⟨fun vs H2 => match vs with | [.int _ i] => ∃ (j : Nat) (m2 : Dk) (S2 : List Nat), i = j ∧ j ≤ n ∧ DRep H2 d S2 m2 (N + 2 * j) ∧ m2.keep = m.keep ∧ Fr S H H2 ∧ Grow H S S2 ∧ layM m l = layM m2 (l.drop j) | _ => False,
    fun vs _ => match vs with | [.int _ i] => n - i.toNat | _ => 0, ⟨0, m, S, rfl, by omega, h, rfl, Fr.refl _ _, Grow.refl _ _, rfl⟩, ?_⟩
  rintro J i H2 ⟨j, m2, S2, rfl, hj, h2, hkeep, hf, hg, hlay⟩
  have hs2 := hs.fr hf hsS
  have hsS2 : s.block ∉ S2 := fun hk => (hg _ hk).elim hsS fun h => by have := hs.lt; omega
  refine brB_of (fun h0 => ?_) (fun h0 => ?_)
  · have h0' : j < n := by simp at h0; omega
    have hx : l[j]? = some (l[j]'(by omega)) := by simp
    generalize l[j]'(by omega) = p at hx
    have hl2 := hl.fr hf (fun ad e => (hq _ (by simp [e, blkL])).1)
    refine hl2.get rfl hx (by simp; omega) fun ad e hcell => ⟨p.1, p.2, ld_many (by kernel_rfl) (by kernel_rfl) hcell, ?_⟩
    refine var_blk (by kernel_rfl) (by kernel_rfl) (fun x hx => by simp [Value.cells] at hx; rcases hx with rfl | rfl <;> rfl) (by rfl) fun b H3 hb hbk hf3 => ?_
    refine ⟨d, (hs2.keep hf3).ld0 (by kernel_rfl) hc, p.1, hbk.ldK (j := 0) (by kernel_rfl) rfl, p.2, hbk.ldK (j := 1) (by kernel_rfl) rfl, Write_ok (h2.keep hf3) (by omega) (by rw [hkeep]; exact hkp) fun H4 S4 h4 hf4 hg4 => ?_⟩
    have hdrop : l.drop j = p :: l.drop (j + 1) := by
      have := List.getElem?_eq_some_iff.1 hx
      obtain ⟨h1, h2⟩ := this
      rw [List.drop_eq_getElem_cons h1, h2]
    have hf' : Fr S H H4 := (hf.trans' hf3 (fun k hk _ => hk) (by simp)).trans' hf4 (fun k hk _ => hk) (fun k hk hlt => (hg k hk).elim id fun h => by omega)
    have hg' : Grow H S S4 := hg.trans hf.size fun k hk => (hg4 k hk).imp id fun h => by have := hf3.size; omega
    rw [hdrop, layM] at hlay
    show brB ((writeM m2 p.1 p.2).2 != 0) _ _
    refine brB_of (fun he => ?_) (fun he => ?_)
    · have he' : (writeM m2 p.1 p.2).2 ≠ 0 := by simpa using he
      rw [if_pos he'] at hlay
      rw [hlay] at hk
      exact ⟨_, rfl, hk H4 S4 (h4.mono (by omega)) hf' hg'⟩
    · have he' : (writeM m2 p.1 p.2).2 = 0 := by simpa using he
      rw [if_neg (by simp [he'])] at hlay
      refine ⟨⟨j + 1, _, S4, succ64 (by omega), by omega, h4.mono (by omega), by rw [writeM_keep, hkeep], hf', hg', hlay⟩, ?_⟩
      show n - (IntKind.i64.wrap ((j : Int) + 1)).toNat < n - ((j : Nat) : Int).toNat
      rw [succ64 (by omega)]
      exact mu_lt h0'
  · have hjn : j = n := by simp at h0; omega
    subst hjn
    rw [List.drop_of_length_le (by omega), layM] at hlay
    rw [hlay] at hk
    exact ⟨_, hs2.ld0 (by kernel_rfl) hc, Flush_ok h2 (by omega) (by rw [hkeep]; exact hkp) fun H3 h3 hf3 => ⟨_, rfl, hk H3 S2 h3 (hf.trans' hf3 (fun k hk _ => hk) (fun k hk hlt => (hg k hk).elim id fun h => by omega)) hg⟩⟩
end Go.Proofs
