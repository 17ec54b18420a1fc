/- A part of a proof: see the last text of this claim. -/
import Derived.Test.YtgjbljhocedpfaaP10n
set_option linter.unusedVariables false
set_option maxRecDepth 100000
open Go Go.GV
namespace Go.Proofs

/-- A function value that changes a map of files: so. -/
def Chg (by' : Value) (G : Heap → Prop) (ch : (ByteArray → Option ByteArray) → ByteArray → Option ByteArray) : Prop :=
  ∀ (r N : Nat) (now : ByteArray → Option ByteArray) (H : Heap) (K : Heap → Prop), G H → NowR H r now N → (∀ H', NowR H' r (ch now) (N + 1) → Fr [r] H H' → K H') → CallV Try.prog by' [.map (some r)] H fun v H' => v = .tuple ⟨[]⟩ ∧ K H'
theorem NowR.mono {H : Heap} {r N N' : Nat} {now : ByteArray → Option ByteArray} (h : NowR H r now N) (hN : N ≤ N') : NowR H r now N' := by
  obtain ⟨ck, L, hm, hl, hg⟩ := h
  exact ⟨ck, L, hm, by omega, hg⟩
theorem chg_write {b1 b : Nat} {name data : ByteArray} : Chg (.func (.func 32) ⟨[]⟩ ⟨[.pointer (some ⟨b1, 0, none⟩), .pointer (some ⟨b, 0, none⟩)]⟩) (fun H => Blk H ⟨b1, 0, none⟩ [.string data] ∧ Blk H ⟨b, 0, none⟩ [.string name]) fun now => putN now name data := by
  intro r N now H K hG h hk
  obtain ⟨h1, h2⟩ := hG
  refine ⟨32, ⟨[]⟩, _, rfl, by kernel_rfl, ?_⟩
  apply vc_files_Store_Write_1
  exact ⟨_, h2.ld0 (by kernel_rfl) rfl, _, h1.ld0 (by kernel_rfl) rfl, h.put name data fun H' h' hf => ⟨rfl, hk H' h' hf⟩⟩
theorem chg_delete {b : Nat} {name : ByteArray} : Chg (.func (.func 33) ⟨[]⟩ ⟨[.pointer (some ⟨b, 0, none⟩)]⟩) (fun H => Blk H ⟨b, 0, none⟩ [.string name]) fun now => delN now name := by
  intro r N now H K hG h hk
  refine ⟨33, ⟨[]⟩, _, rfl, by kernel_rfl, ?_⟩
  apply vc_files_Store_Delete_1
  exact ⟨_, hG.ld0 (by kernel_rfl) rfl, h.del name fun H' h' hf => ⟨rfl, hk H' (h'.mono (by omega)) hf⟩⟩
theorem chg_rename {b1 b2 b3 : Nat} {from' data to : ByteArray} : Chg (.func (.func 40) ⟨[]⟩ ⟨[.pointer (some ⟨b1, 0, none⟩), .pointer (some ⟨b2, 0, none⟩), .pointer (some ⟨b3, 0, none⟩)]⟩)
    (fun H => Blk H ⟨b1, 0, none⟩ [.string from'] ∧ Blk H ⟨b2, 0, none⟩ [.string data] ∧ Blk H ⟨b3, 0, none⟩ [.string to] ∧ ∀ r, (∃ now N, NowR H r now N) → r ≠ b2 ∧ r ≠ b3) fun now => putN (delN now from') to data := by
  intro r N now H K hG h hk
  obtain ⟨h1, h2, h3, h4⟩ := hG
  obtain ⟨q2, q3⟩ := h4 r ⟨now, N, h⟩
  refine ⟨40, ⟨[]⟩, _, rfl, by kernel_rfl, ?_⟩
  apply vc_files_Store_Rename_1
  refine ⟨_, h1.ld0 (by kernel_rfl) rfl, h.del from' fun H1 hn1 hf1 => ?_⟩
  refine ⟨_, (h3.fr hf1 (by simp; exact fun e => q3 e.symm)).ld0 (by kernel_rfl) rfl, _, (h2.fr hf1 (by simp; exact fun e => q2 e.symm)).ld0 (by kernel_rfl) rfl, hn1.put to data fun H' h' hf => ⟨rfl, hk H' h' (hf1.trans' hf (fun k hk _ => hk) (fun k hk _ => hk))⟩⟩
end Go.Proofs
