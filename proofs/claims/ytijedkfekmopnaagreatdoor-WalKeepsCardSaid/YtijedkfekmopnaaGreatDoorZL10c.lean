/- Turned by a program of mine (portall.py) out of the same text of another seat. -/
import Derived.Test.YtijedkfekmopnaaGreatDoorZL10b
set_option linter.unusedVariables false
open Go Go.GV
namespace Go.Proofs

def TkI (F : List Int) (t : Tk) : Prop := t.fits = true → t.puts.map (·.1) ++ t.free = F ∧ t.need = t.puts.length
theorem takeM_fits {t : Tk} {c : ByteArray} (h : (takeM t c).1.fits = true) : t.fits = true ∧ ∃ x r, t.free = x :: r ∧ takeM t c = ({ free := r, puts := t.puts ++ [(x, c)], need := t.need + 1, fits := true }, x) := by
  unfold takeM at h ⊢
  cases hf : t.free with
  | nil => rw [hf] at h; cases h
  | cons x r =>
    rw [hf] at h
    have h' : t.fits = true := h
    exact ⟨h', x, r, rfl, by simp [h']⟩
theorem TkI.take {F : List Int} {t : Tk} {c : ByteArray} (h : TkI F t) : TkI F (takeM t c).1 := by
  intro hf
  obtain ⟨h1, x, r, h2, h3⟩ := takeM_fits hf
  obtain ⟨h4, h5⟩ := h h1
  rw [h3]
  refine ⟨?_, by simp [h5]⟩
  rw [h2] at h4
  simpa using h4
theorem TkI.file {F : List Int} {old : List ByteArray} {ws : List Int} : ∀ {l : List ByteArray} {j : Nat} {t : Tk}, TkI F t → TkI F (fileM old ws l j t).1
  | [], _, _, h => h
  | c :: l, j, t, h => by
    refine TkI.file (l := l) ?_
    split
    · exact h
    · exact h.take
theorem TkI.files {F : List Int} {last : ByteArray → Option (ByteArray × List Int)} {now : ByteArray → Option ByteArray} : ∀ {l : List ByteArray} {t : Tk}, TkI F t → TkI F (filesM last now l t).1
  | [], _, h => h
  | c :: l, t, h => TkI.files (l := l) h.file
end Go.Proofs
