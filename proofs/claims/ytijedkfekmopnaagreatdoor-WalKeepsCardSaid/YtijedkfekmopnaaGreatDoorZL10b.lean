/- Turned by a program of mine (portall.py) out of the same text of another seat. -/
import Derived.Test.YtijedkfekmopnaaGreatDoorZ10
set_option linter.unusedVariables false
open Go Go.GV
namespace Go.Proofs

def fileM (old : List ByteArray) (ws : List Int) : List ByteArray → Nat → Tk → Tk × List Int
  | [], _, t => (t, [])
  | c :: l, j, t =>
    let x := if old[j]? = some c then (t, ws.getD j 0) else takeM t c
    let y := fileM old ws l (j + 1) x.1
    (y.1, x.2 :: y.2)
def filesM (last : ByteArray → Option (ByteArray × List Int)) (now : ByteArray → Option ByteArray) : List ByteArray → Tk → Tk × List (ByteArray × ByteArray × List Int)
  | [], t => (t, [])
  | y :: l, t =>
    let w := (last y).getD (⟨#[]⟩, [])
    let dat := (now y).getD ⟨#[]⟩
    let x := fileM (chunksS w.1) w.2 (chunksS dat) 0 t
    let z := filesM last now l x.1
    (z.1, (y, dat, x.2) :: z.2)
def takesM : List ByteArray → Tk → Tk × List Int
  | [], t => (t, [])
  | c :: l, t =>
    let x := takeM t c
    let y := takesM l x.1
    (y.1, x.2 :: y.2)
def dirB (fs : List (ByteArray × ByteArray × List Int)) : List UInt8 :=
  uintL fs.length ++ fs.flatMap fun f => textL f.1 ++ uintL f.2.1.size ++ f.2.2.flatMap fun n => uintL (IntKind.u64.wrap n).toNat
structure Plan where
  tk : Tk
  files : List (ByteArray × ByteArray × List Int)
  dirD : List UInt8
  dirS : List Int
  all : Nat
  fits : Bool
noncomputable def planM (size : Int) (last : ByteArray → Option (ByteArray × List Int)) (dir : List Int) (now : ByteArray → Option ByteArray) (ys : List ByteArray) : Plan :=
  let t0 : Tk := { free := freeN (lastS last dir) size.toNat, puts := [], need := 0, fits := true }
  let x := filesM last now ys t0
  let dd := dirB x.2
  let y := takesM (chunksS ⟨dd.toArray⟩) x.1
  let all := (x.2.map fun f => f.2.2.length).sum
  { tk := y.1, files := x.2, dirD := dd, dirS := y.2, all := all, fits := y.1.fits && decide (y.2.length ≤ 20) && decide ((all : Int) + 2 * y.2.length ≤ size - 2) }

theorem takesM_len : ∀ (l : List ByteArray) (t : Tk), (takesM l t).2.length = l.length
  | [], _ => rfl
  | c :: l, t => by simp only [takesM, List.length_cons]; rw [takesM_len l]
end Go.Proofs
