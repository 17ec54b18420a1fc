/- A part of a proof: see the last text of this claim. -/
import Derived.Test.YtgjbljhocedpfaaP10i
set_option linter.unusedVariables false
set_option maxRecDepth 100000
open Go Go.GV
namespace Go.Proofs

theorem Blk.cast {H : Heap} {a : Addr} {vs ws : List Value} (h : Blk H a vs) (e : vs = ws) : Blk H a ws := e ▸ h
def newM (n : Int) : Dk := { size := if (if 512 < n then 512 else n) > 8 then if 512 < n then 512 else n else 8, is := fun _ => ⟨#[]⟩, wait := fun _ => [], off := false, left := 0, keep := 0, calls := 0 }
theorem New_ok {n : Int} {H : Heap} {K : Option Addr → Heap → Prop} (hk : ∀ b H' S, (∀ k ∈ S, H.size ≤ k) → DRep H' ⟨b, 0, none⟩ S (newM n) 0 → Fr [] H H' → K (some ⟨b, 0, none⟩) H') :
    CallH Try.prog fn_block_New ⟨[.int .i64 n]⟩ H fun v H' => ∃ a, v = .pointer a ∧ K a H' := by
  apply vc_block_New
  intro b H1 hn1 b1 H2 hn2
  have hb := Blk.cast (ws := dkC (newM n) b) hn2.blk (by kernel_rfl)
  have e1 := hn1.eq
  have e2 := hn2.eq
  have s1 := hn1.size
  have s2 := hn2.size
  refine ⟨_, rfl, hk b1 H2 [b1, b] (by simp; omega) ⟨⟨b, 0, [], hb, (MapR.new MT hn1).keep MT hn2.fr, by simp; omega, by simp, by simp, by simp, fun _ _ => rfl, ?_, by simp⟩, by simp [newM], by simp [newM], fun _ => by simp [newM], ?_⟩ (hn1.fr.keep0 hn2.fr)⟩
  · simp only [newM]
    split <;> (repeat' split) <;> omega
  · intro k hk
    simp at hk
    omega

abbrev Step9 := Int × Int × ByteArray × Int

/-! a map's copy -/
theorem clone_map {r ck : Nat} {L : List (Ent ByteArray)} {H : Heap} {K : Value → Heap → Prop} (hm : MapR SM H r ck L) (hk : ∀ r' H', H.size ≤ r' → MapR SM H' r' ck L → Fr [] H H' → K (.iface 51 (.map (some r'))) H') :
    ExtH Try.prog 63 ⟨[.iface 51 (.map (some r))]⟩ H K := by
  intro E d
  refine ⟨_, H.push (.map ⟨L.map SM.ent⟩ ck), d, ?_, hk H.size _ (Nat.le_refl _) ⟨by simp, hm.wf⟩ (push_fr _ _)⟩
  rw [run_callFunc_extern (e := Extern.MapsClone.clone) Try.func63 (by kernel_rfl) (by kernel_rfl) (by kernel_rfl) (by kernel_rfl)]
  have h1 := getObj_any (P := Try.prog) hm.blk (by simp) (mkW E H d) rfl
  have e : (Extern.MapsClone.clone ⟨[.iface 51 (.map (some r))]⟩).run Try.prog (mkW E H d) = .ok (.iface 51 (.map (some H.size))) (mkW E (H.push (.map ⟨L.map SM.ent⟩ ck)) d) := by
    have hc : Extern.MapsClone.clone ⟨[.iface 51 (.map (some r))]⟩ = (do
        let .map entries clock ← getObj r | stuck "maps.clone: a map expected"
        pure (.iface 51 (.map (some (← newObj (.map entries clock)))))) := rfl
    rw [hc]
    simp only [Sem.run_bind, h1, Result.andThen_ok, run_newObj_alloc]
    rfl
  rw [e]
  rfl
theorem assert_map {r : Option Nat} {H : Heap} : Rd Try.prog (Instr.typeAssert (.iface 51 (.map r)) 20 51 false) H (.map r) := by
  intro w hw
  unfold Instr.typeAssert
  simp [run_underlying' Try.underlying51]
theorem Clone_ok {r ck : Nat} {L : List (Ent ByteArray)} {H : Heap} {K : Nat → Heap → Prop} (hm : MapR SM H r ck L) (hk : ∀ r' H', H.size ≤ r' → MapR SM H' r' ck L → Fr [] H H' → K r' H') :
    CallH Try.prog 49 ⟨[.map (some r)]⟩ H fun v H' => ∃ m, v = .map m ∧ ∃ r', m = some r' ∧ K r' H' := by
  apply vc_maps_Clone_map_string_string_string_string_
  refine brB_of (fun h => by simp at h) fun _ => clone_map hm fun r' H' h1 h2 h3 => ⟨_, rfl, _, assert_map, _, rfl, _, rfl, hk r' H' h1 h2 h3⟩

theorem NowR.clone {r N : Nat} {now : ByteArray → Option ByteArray} {H : Heap} {K : Nat → Heap → Prop} (h : NowR H r now N) (hk : ∀ r' H', H.size ≤ r' → NowR H' r' now N → Fr [] H H' → K r' H') :
    CallH Try.prog 49 ⟨[.map (some r)]⟩ H fun v H' => ∃ m, v = .map m ∧ ∃ r', m = some r' ∧ K r' H' := by
  obtain ⟨ck, L, hm, hl, hg⟩ := h
  exact Clone_ok hm fun r' H' h1 h2 h3 => hk r' H' h1 ⟨ck, L, h2, hl, hg⟩ h3
end Go.Proofs
