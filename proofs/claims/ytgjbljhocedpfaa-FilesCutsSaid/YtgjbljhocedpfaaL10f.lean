/- A part of a proof: see the last text of this claim. -/
import Derived.Test.YtgjbljhocedpfaaP10v
import Derived.Test.YtgjbljhocedpfaaL10e
set_option linter.unusedVariables false
set_option maxRecDepth 100000
open Go Go.GV
namespace Go.Proofs

/-! a root, read: plainly -/
open Classical in
/-- A number ahead of some bytes, and what is behind it. -/
noncomputable def gU (r : List UInt8) : Option (Nat × List UInt8) :=
  if h : ∃ p : Nat × List UInt8, p.1 < 18446744073709551616 ∧ r = uintL p.1 ++ p.2 then some (Classical.choose h) else none
theorem gU_of {r t : List UInt8} {n : Nat} (hn : n < 18446744073709551616) (h : r = uintL n ++ t) : gU r = some (n, t) := by
  have hx : ∃ p : Nat × List UInt8, p.1 < 18446744073709551616 ∧ r = uintL p.1 ++ p.2 := ⟨(n, t), hn, h⟩
  unfold gU
  rw [dif_pos hx]
  have hc := Classical.choose_spec hx
  have := uint_eq (h.symm.trans hc.2)
  rw [Option.some.injEq]
  exact Prod.ext this.1.symm this.2.symm
theorem gU_some {r t : List UInt8} {n : Nat} (h : gU r = some (n, t)) : n < 18446744073709551616 ∧ r = uintL n ++ t := by
  unfold gU at h
  split at h
  · rename_i hx
    have hc := Classical.choose_spec hx
    rw [Option.some.injEq] at h
    rw [h] at hc
    exact hc
  · cases h
theorem gU_none {r : List UInt8} (h : NoU r) : gU r = none := by
  unfold gU
  rw [dif_neg]
  rintro ⟨p, h1, h2⟩
  exact h p.1 h1 p.2 h2
theorem gU_cases {r : List UInt8} {a : Nat} {v next e : Int} (h : GU r a v next e) : (e = 0 ∧ ∃ (n : Nat) (t : List UInt8), gU r = some (n, t) ∧ v = n ∧ r = uintL n ++ t ∧ (uintL n).length ≤ r.length ∧ next = ((a + (uintL n).length : Nat) : Int)) ∨ (e ≠ 0 ∧ gU r = none) := by
  rcases h with ⟨n, h1, h2, h3, h4, h5, h6⟩ | ⟨_, _, h3, h4⟩ | ⟨_, _, h3, _, h4⟩
  · exact .inl ⟨h6, n, _, gU_of h2 h3, h1, h3, h4, h5⟩
  · exact .inr ⟨by omega, gU_none h4.no⟩
  · exact .inr ⟨by omega, gU_none h4⟩
open Classical in
/-- A text ahead of some bytes, and what is behind it. -/
noncomputable def gT (r : List UInt8) : Option (ByteArray × List UInt8) :=
  if h : ∃ p : ByteArray × List UInt8, p.1.size < 18446744073709551616 ∧ r = textL p.1 ++ p.2 then some (Classical.choose h) else none
theorem gT_of {r t : List UInt8} {s : ByteArray} (hn : s.size < 18446744073709551616) (h : r = textL s ++ t) : gT r = some (s, t) := by
  have hx : ∃ p : ByteArray × List UInt8, p.1.size < 18446744073709551616 ∧ r = textL p.1 ++ p.2 := ⟨(s, t), hn, h⟩
  unfold gT
  rw [dif_pos hx]
  have hc := Classical.choose_spec hx
  have := text_eq (h.symm.trans hc.2)
  rw [Option.some.injEq]
  exact Prod.ext this.1.symm this.2.symm
theorem gT_none {r : List UInt8} (h : ∀ s x, s.size < 18446744073709551616 → r ≠ textL s ++ x) : gT r = none := by
  unfold gT
  rw [dif_neg]
  rintro ⟨p, h1, h2⟩
  exact h p.1 p.2 h1 h2
theorem gT_cases {r : List UInt8} {a : Nat} {t : ByteArray} {next e : Int} (hr : r.length < 18446744073709551616) (h : GT r a t next e) :
    (e = 0 ∧ ∃ x, gT r = some (t, x) ∧ r = textL t ++ x ∧ (textL t).length ≤ r.length ∧ next = ((a + (textL t).length : Nat) : Int)) ∨ (e ≠ 0 ∧ gT r = none) := by
  rcases h with ⟨h1, h2, h3, h4⟩ | ⟨_, _, h3, h4⟩ | ⟨_, _, h3, _, h4⟩
  · have := size64 h2
    exact .inl ⟨h4, _, gT_of (by omega) h1, h1, h2, h3⟩
  · exact .inr ⟨by omega, gT_none fun s x hs => h4.no s hs⟩
  · exact .inr ⟨by omega, gT_none fun s x hs e => h4 s.size hs (bl s ++ x) (by rw [e]; simp [textL])⟩

/-- What is left to be scanned; is it right so far? -/
structure Sc where
  r : List UInt8
  ok : Bool
noncomputable def numF (x : Sc) : Nat × Sc := match gU x.r with
  | some p => if p.1 ≤ 1152921504606846976 ∧ x.ok = true then (p.1, ⟨p.2, true⟩) else (0, ⟨x.r, false⟩)
  | none => (0, ⟨x.r, false⟩)
noncomputable def nameF (x : Sc) : ByteArray × Sc := match gT x.r with
  | some p => if rightP p.1 ∧ x.ok = true then (p.1, ⟨p.2, true⟩) else (⟨#[]⟩, ⟨x.r, false⟩)
  | none => (⟨#[]⟩, ⟨x.r, false⟩)
structure Kp where
  data : ByteArray
  secs : List Int
/-- How many bytes a sector should have. -/
def wantF (bytes : Int) (k : Kp) : Int := if 64 < bytes - k.data.size then 64 else bytes - k.data.size
noncomputable def dataF (rd : Int → ByteArray) (size bytes : Int) : Nat → Kp → Sc → List Int → Kp × Sc × List Int
  | 0, k, x, nm => (k, x, nm)
  | f + 1, k, x, nm =>
    if x.ok = true ∧ (k.data.size : Int) < bytes then
      if (numF x).2.ok = true ∧ 2 ≤ (numF x).1 ∧ ((numF x).1 : Int) < size ∧ ((numF x).1 : Int) ∉ nm then
        dataF rd size bytes f ⟨k.data ++ rd (numF x).1, k.secs ++ [((numF x).1 : Int)]⟩ ⟨(numF x).2.r, decide (((rd (numF x).1).size : Int) = wantF bytes k)⟩ (((numF x).1 : Int) :: nm)
      else (k, ⟨(numF x).2.r, false⟩, nm)
    else (k, x, nm)
theorem dataF_stop {rd : Int → ByteArray} {size bytes : Int} {k : Kp} {x : Sc} {nm : List Int} (h : ¬ (x.ok = true ∧ (k.data.size : Int) < bytes)) : ∀ f, dataF rd size bytes f k x nm = (k, x, nm)
  | 0 => rfl
  | f + 1 => by rw [dataF, if_neg h]
/-- So many bytes, whose sectors are told here. -/
noncomputable def dataS (rd : Int → ByteArray) (size : Int) (bytes : Nat) (y : Sc) (nm : List Int) : Kp × Sc × List Int := dataF rd size bytes bytes ⟨⟨#[]⟩, []⟩ ⟨y.r, y.ok && decide ((bytes : Int) ≤ 32768)⟩ nm
abbrev File10 := ByteArray × ByteArray × List Int
noncomputable def filesF (rd : Int → ByteArray) (size : Int) (many : Nat) : Nat → List File10 → ByteArray → Sc → List Int → List File10 × Sc
  | 0, fs, _, y, _ => (fs, y)
  | f + 1, fs, last, y, nm =>
    if y.ok = true ∧ fs.length < many then
      let b := numF (nameF y).2
      let z := dataS rd size b.1 ⟨b.2.r, b.2.ok && ltS last (nameF y).1⟩ nm
      filesF rd size many f (fs ++ [((nameF y).1, z.1.data, z.1.secs)]) (nameF y).1 z.2.1 z.2.2
    else (fs, y)
theorem filesF_stop {rd : Int → ByteArray} {size : Int} {many : Nat} {fs : List File10} {last : ByteArray} {y : Sc} {nm : List Int} (h : ¬ (y.ok = true ∧ fs.length < many)) : ∀ f, filesF rd size many f fs last y nm = (fs, y)
  | 0 => rfl
  | f + 1 => by rw [filesF, if_neg h]
/-- A root: its generation (0: it is not right), its files, its directory. -/
noncomputable def rootF (rd : Int → ByteArray) (size slot : Int) : Nat × List File10 × List Int :=
  let a := numF ⟨bl (rd slot), true⟩
  let b := numF a.2
  if b.2.ok = false ∨ a.1 < 1 ∨ Int.tmod a.1 2 ≠ slot ∨ b.1 < 1 ∨ b.1 > 1280 then (0, [], []) else
    let z := dataS rd size b.1 b.2 []
    if z.2.1.ok = false ∨ z.2.1.r ≠ [] then (0, [], []) else
      let c := numF ⟨bl z.1.data, true⟩
      let w := filesF rd size c.1 c.1 [] ⟨#[]⟩ c.2 z.2.2
      if w.2.ok = false ∨ w.2.r ≠ [] then (0, [], []) else (a.1, w.1, z.1.secs)
end Go.Proofs
set_option linter.unusedVariables false
set_option maxRecDepth 100000
open Go Go.GV
namespace Go.Proofs

/-! a scan in memory -/
structure ScM (H : Heap) (x d : Addr) (s : ByteArray) (nb : Nat) (y : Sc) : Prop where
  it : ∃ a : Nat, Blk H x [.pointer (some d), .string s, .int .i64 a, .bool y.ok, .map (some nb)] ∧ a ≤ s.size ∧ (bl s).drop a = y.r
theorem ScM.fr {H H' : Heap} {x d : Addr} {s : ByteArray} {nb : Nat} {y : Sc} {S : List Nat} (h : ScM H x d s nb y) (hf : Fr S H H') (hn : x.block ∉ S) : ScM H' x d s nb y := by
  obtain ⟨a, hb, ha, hr⟩ := h
  exact ⟨a, hb.fr hf hn, ha, hr⟩
theorem ScM.keep {H H' : Heap} {x d : Addr} {s : ByteArray} {nb : Nat} {y : Sc} (h : ScM H x d s nb y) (hf : Fr [] H H') : ScM H' x d s nb y := h.fr hf (by simp)
theorem ScM.lt {H : Heap} {x d : Addr} {s : ByteArray} {nb : Nat} {y : Sc} (h : ScM H x d s nb y) : x.block < H.size := by
  obtain ⟨a, hb, _⟩ := h.it
  exact hb.lt
theorem ScM.set {H : Heap} {x d : Addr} {s : ByteArray} {nb : Nat} {y : Sc} {X : Heap → Prop} (h : ScM H x d s nb y) (b : Bool) (k : ∀ H', ScM H' x d s nb ⟨y.r, b⟩ → Fr [x.block] H H' → X H') : ∃ H', St Try.prog 4 H (x.add 3) (.bool b) H' ∧ X H' := by
  obtain ⟨a, hb, ha, hr⟩ := h.it
  exact Go.Proofs.Blk.set hb (j := 3) (by kernel_rfl) (by kernel_rfl) rfl rfl (by simp) fun H' hb' hf => k H' ⟨a, hb', ha, hr⟩ hf
theorem ScM.ldOk {H : Heap} {x d : Addr} {s : ByteArray} {nb : Nat} {y : Sc} (h : ScM H x d s nb y) : Ld Try.prog 4 H (x.add 3) (.bool y.ok) := by
  obtain ⟨a, hb, _⟩ := h.it
  exact hb.ld (by kernel_rfl) rfl
theorem ScM.ldD {H : Heap} {x d : Addr} {s : ByteArray} {nb : Nat} {y : Sc} (h : ScM H x d s nb y) : Ld Try.prog 29 H x (.pointer (some d)) := by
  obtain ⟨a, hb, _⟩ := h.it
  exact hb.ld0 (by kernel_rfl) rfl
theorem ScM.ldN {H : Heap} {x d : Addr} {s : ByteArray} {nb : Nat} {y : Sc} (h : ScM H x d s nb y) : Ld Try.prog 82 H (x.add 4) (.map (some nb)) := by
  obtain ⟨a, hb, _⟩ := h.it
  exact hb.ld (by kernel_rfl) rfl
theorem drop_on {r s z : List UInt8} {a k : Nat} (h : r.drop a = s ++ z) (hk : k = s.length) : r.drop (a + k) = z := by
  subst hk
  rw [← List.drop_drop, h]
  simp
theorem number_ok {x d : Addr} {s : ByteArray} {nb : Nat} {y : Sc} {H : Heap} {K : Int → Heap → Prop} (h : ScM H x d s nb y) (hs : s.size ≤ 100000000000) (hk : ∀ H', ScM H' x d s nb (numF y).2 → Fr [x.block] H H' → K ((numF y).1 : Nat) H') :
    CallH Try.prog fn_files_scan_number ⟨[.pointer (some x)]⟩ H fun v H' => ∃ n, v = .int .i64 n ∧ K n H' := by
  obtain ⟨a, hb, ha, hr⟩ := h.it
  apply vc_files_scan_number
  refine ⟨_, hb.ld (by kernel_rfl) rfl, _, hb.ld (by kernel_rfl) rfl, GetUint_ok hs (fun hn => absurd ⟨by omega, by omega⟩ hn) fun a' ea ha' v n e hg => ?_⟩
  have : a' = a := by omega
  subst this
  rw [hr] at hg
  have bad : numF y = (0, ⟨y.r, false⟩) → ∃ H'_1, St Try.prog 4 H (x.add 3) (.bool false) H'_1 ∧ ∃ n, Value.int .i64 0 = .int .i64 n ∧ K n H'_1 := fun e =>
    h.set false fun H' h' hf => ⟨_, rfl, by rw [e] at hk; exact hk H' h' hf⟩
  have badM : numF y = (0, ⟨y.r, false⟩) → ∃ M : List Value → Heap → Prop, (M [.bool true] H ∧ ∀ (J : F) (b : Bool) (H' : Heap), M [.bool b] H' → b = true ∧ H' = H) := fun e => ⟨fun vs H' => vs = [.bool true] ∧ H' = H, ⟨rfl, rfl⟩, fun J b H' h => by cases h.1; exact ⟨rfl, h.2⟩⟩
  rcases gU_cases hg with ⟨rfl, k, t, h1, rfl, h2, h3, rfl⟩ | ⟨he, h1⟩
  · have hkl : k < 18446744073709551616 := (gU_some h1).1
    have hlen : a' + (uintL k).length ≤ s.size := by
      have := congrArg List.length hr
      rw [List.length_drop, bl_len] at this
      omega
    by_cases hc : k ≤ 1152921504606846976
    · cases hok : y.ok with
      | true =>
        have e : numF y = (k, ⟨t, true⟩) := by unfold numF; rw [h1]; simp only; rw [if_pos ⟨hc, hok⟩]
        refine ⟨fun vs H' => vs = [] ∧ H' = H, ⟨fun vs H' => vs = [.bool false] ∧ H' = H, brB_of (fun h => by simp at h) fun _ => brB_of (fun h => by simp at h; omega) fun _ => ⟨_, h.ldOk, by rw [hok]; rfl, rfl⟩, ?_⟩, ?_⟩
        · rintro J b H' ⟨hb2, rfl⟩
          cases hb2
          exact brB_of (fun h => by simp at h) fun _ => ⟨rfl, rfl⟩
        · rintro J H' ⟨_, rfl⟩
          rw [hok] at hb
          refine Go.Proofs.Blk.set hb (j := 2) (by kernel_rfl) (by kernel_rfl) rfl rfl (by simp) fun H3 hb3 hf3 => ⟨_, rfl, ?_⟩
          rw [e] at hk
          rw [wrap64_of (by omega) (by omega)]
          exact hk H3 ⟨a' + (uintL k).length, hb3, hlen, drop_on (hr.trans h2) rfl⟩ hf3
      | false =>
        have e : numF y = (0, ⟨y.r, false⟩) := by unfold numF; rw [h1]; simp only; rw [if_neg (by simp [hok])]
        refine ⟨fun _ _ => False, ⟨fun vs H' => vs = [.bool true] ∧ H' = H, brB_of (fun h => by simp at h) fun _ => brB_of (fun h => by simp at h; omega) fun _ => ⟨_, h.ldOk, by rw [hok]; rfl, rfl⟩, ?_⟩, fun J H' h => h.elim⟩
        rintro J b H' ⟨hb2, rfl⟩
        cases hb2
        exact brB_of (fun _ => bad e) (fun h => by simp at h)
    · have e : numF y = (0, ⟨y.r, false⟩) := by unfold numF; rw [h1]; simp only; rw [if_neg (fun h => hc h.1)]
      refine ⟨fun _ _ => False, ⟨fun vs H' => vs = [.bool true] ∧ H' = H, brB_of (fun h => by simp at h) fun _ => brB_of (fun h => ⟨rfl, rfl⟩) (fun h => by simp at h; omega), ?_⟩, fun J H' h => h.elim⟩
      rintro J b H' ⟨hb2, rfl⟩
      cases hb2
      exact brB_of (fun _ => bad e) (fun h => by simp at h)
  · have e1 : numF y = (0, ⟨y.r, false⟩) := by unfold numF; rw [h1]
    refine ⟨fun _ _ => False, ⟨fun vs H' => vs = [.bool true] ∧ H' = H, brB_of (fun h => ⟨rfl, rfl⟩) (fun h => absurd (by simpa using h) he), ?_⟩, fun J H' h => h.elim⟩
    rintro J b H' ⟨hb2, rfl⟩
    cases hb2
    exact brB_of (fun _ => bad e1) (fun h => by simp at h)
theorem name_ok {x d : Addr} {s : ByteArray} {nb : Nat} {y : Sc} {H : Heap} {K : ByteArray → Heap → Prop} (h : ScM H x d s nb y) (hs : s.size ≤ 100000000000) (hk : ∀ H', ScM H' x d s nb (nameF y).2 → Fr [x.block] H H' → K (nameF y).1 H') :
    CallH Try.prog fn_files_scan_name ⟨[.pointer (some x)]⟩ H fun v H' => ∃ t, v = .string t ∧ K t H' := by
  obtain ⟨a, hb, ha, hr⟩ := h.it
  apply vc_files_scan_name
  have hrl : y.r.length ≤ 100000000000 := by rw [← hr, List.length_drop, bl_len]; omega
  refine ⟨_, hb.ld (by kernel_rfl) rfl, _, hb.ld (by kernel_rfl) rfl, GetText_ok hs (fun hn => absurd ⟨by omega, by omega⟩ hn) fun a' ea ha' t n e H1 hg hf1 => ?_⟩
  have : a' = a := by omega
  subst this
  rw [hr] at hg
  have h1m := h.keep hf1
  have bad : ∀ H2, Fr [] H1 H2 → nameF y = (⟨#[]⟩, ⟨y.r, false⟩) → ∃ H'_1, St Try.prog 4 H2 (x.add 3) (.bool false) H'_1 ∧ ∃ t, Value.string ⟨#[]⟩ = .string t ∧ K t H'_1 := fun H2 hf2 e =>
    (h1m.keep hf2).set false fun H' h' hf => ⟨_, rfl, by rw [e] at hk; exact hk H' h' ((hf1.keep0 hf2).trans' hf (by simp) (fun k hk _ => hk))⟩
  rcases gT_cases (by omega) hg with ⟨rfl, z, h1, h2, h3, rfl⟩ | ⟨he, h1⟩
  · have hts : t.size ≤ 100000000000 := by have := size64 h3; omega
    have hlen : a' + (textL t).length ≤ s.size := by
      have := congrArg List.length hr
      rw [List.length_drop, bl_len] at this
      omega
    by_cases hc : rightP t
    · cases hok : y.ok with
      | true =>
        have e : nameF y = (t, ⟨z, true⟩) := by unfold nameF; rw [h1]; simp only; rw [if_pos ⟨hc, hok⟩]
        refine ⟨fun vs H' => vs = [] ∧ Fr [] H1 H', ⟨fun vs H' => vs = [.bool false] ∧ Fr [] H1 H', brB_of (fun h => by simp at h) fun _ => right_ok (by omega) fun H2 hf2 => brB_of (fun h => by simp [hc] at h) fun _ => ⟨_, (h1m.keep hf2).ldOk, by rw [hok]; rfl, hf2⟩, ?_⟩, ?_⟩
        · rintro J b H2 ⟨hb2, hf2⟩
          cases hb2
          exact brB_of (fun h => by simp at h) fun _ => ⟨rfl, hf2⟩
        · rintro J H2 ⟨_, hf2⟩
          rw [hok] at hb
          refine Go.Proofs.Blk.set ((hb.keep hf1).keep hf2) (j := 2) (by kernel_rfl) (by kernel_rfl) rfl rfl (by simp) fun H3 hb3 hf3 => ⟨_, rfl, ?_⟩
          rw [e] at hk
          exact hk H3 ⟨a' + (textL t).length, hb3, hlen, drop_on (hr.trans h2) rfl⟩ ((hf1.keep0 hf2).trans' hf3 (by simp) (fun k hk _ => hk))
      | false =>
        have e : nameF y = (⟨#[]⟩, ⟨y.r, false⟩) := by unfold nameF; rw [h1]; simp only; rw [if_neg (by simp [hok])]
        refine ⟨fun _ _ => False, ⟨fun vs H' => vs = [.bool true] ∧ Fr [] H1 H', brB_of (fun h => by simp at h) fun _ => right_ok (by omega) fun H2 hf2 => brB_of (fun h => by simp [hc] at h) fun _ => ⟨_, (h1m.keep hf2).ldOk, by rw [hok]; rfl, hf2⟩, ?_⟩, fun J H' h => h.elim⟩
        rintro J b H2 ⟨hb2, hf2⟩
        cases hb2
        exact brB_of (fun _ => bad H2 hf2 e) (fun h => by simp at h)
    · have e : nameF y = (⟨#[]⟩, ⟨y.r, false⟩) := by unfold nameF; rw [h1]; simp only; rw [if_neg (fun h => hc h.1)]
      refine ⟨fun _ _ => False, ⟨fun vs H' => vs = [.bool true] ∧ Fr [] H1 H', brB_of (fun h => by simp at h) fun _ => right_ok (by omega) fun H2 hf2 => brB_of (fun _ => ⟨rfl, hf2⟩) (fun h => by simp [hc] at h), ?_⟩, fun J H' h => h.elim⟩
      rintro J b H2 ⟨hb2, hf2⟩
      cases hb2
      exact brB_of (fun _ => bad H2 hf2 e) (fun h => by simp at h)
  · have e1 : nameF y = (⟨#[]⟩, ⟨y.r, false⟩) := by unfold nameF; rw [h1]
    refine ⟨fun _ _ => False, ⟨fun vs H' => vs = [.bool true] ∧ Fr [] H1 H', brB_of (fun h => ⟨rfl, Fr.refl _ _⟩) (fun h => absurd (by simpa using h) he), ?_⟩, fun J H' h => h.elim⟩
    rintro J b H' ⟨hb2, hf2⟩
    cases hb2
    exact brB_of (fun _ => bad H' hf2 e1) (fun h => by simp at h)
/-! for a measure -/
def strAt (H : Heap) (b : Nat) : ByteArray := match cellH H ⟨b, 0, none⟩ with | some (.string s) => s | _ => ⟨#[]⟩
def boolAt (H : Heap) (b j : Nat) : Bool := match cellH H ⟨b, j, none⟩ with | some (.bool s) => s | _ => false
theorem Blk.cellK {H : Heap} {b : Nat} {vs : List Value} {j : Nat} {v : Value} (h : Blk H ⟨b, 0, none⟩ vs) (hv : vs[j]? = some v) : cellH H ⟨b, j, none⟩ = some v := by
  obtain ⟨b', te, e, hh⟩ := h
  cases e
  rw [cell_of_blk hh]
  simpa using hv
theorem strAt_of {H : Heap} {b : Nat} {s : ByteArray} {vs : List Value} (h : Blk H ⟨b, 0, none⟩ (.string s :: vs)) : strAt H b = s := by
  unfold strAt; rw [Go.Proofs.Blk.cellK h (j := 0) rfl]
theorem ScM.boolAt {H : Heap} {x d : Addr} {s : ByteArray} {nb : Nat} {y : Sc} (h : ScM H x d s nb y) : boolAt H x.block 3 = y.ok := by
  obtain ⟨a, hb, _⟩ := h.it
  obtain ⟨b, te, rfl, hh⟩ := hb
  unfold Go.Proofs.boolAt
  rw [Go.Proofs.Blk.cellK (b := b) ⟨b, te, rfl, hh⟩ (j := 3) rfl]
/-- How much a loop of 'data' has left. -/
def dataMu (bytes : Int) (x b1 : Nat) (H : Heap) : Nat := if boolAt H x 3 = true then 1 + (bytes - (strAt H b1).size).toNat else 0
structure DtS (H0 : Heap) (x d : Addr) (s : ByteArray) (nb b b1 : Nat) (rd : Int → ByteArray) (size bytes : Int) (out : Kp × Sc × List Int) (k : Kp) (y : Sc) (nm : List Int) (H : Heap) : Prop where
  kp : ∃ a n c, Blk H ⟨b1, 0, none⟩ [.string k.data, .slice a n c] ∧ Own encInt 3 H0.size H a n c k.secs ∧ b1 ∉ blkL a ∧ b ∉ blkL a
  res : Blk H ⟨b, 0, none⟩ [.string ⟨#[]⟩, .slice none 0 0]
  sc : ScM H x d s nb y
  set : SetI H nb (· ∈ nm)
  fr : Fr [x.block, nb] H0 H
  out : ∃ f, dataF rd size bytes f k y nm = out ∧ (y.ok = true → bytes ≤ k.data.size + f)
  len : y.ok = true → k.secs.length ≤ k.data.size
  big : y.ok = true → bytes ≤ 32768
  sm : k.data.size ≤ 2000000
set_option maxRecDepth 20000 in
theorem data_ok {x d : Addr} {s : ByteArray} {nb : Nat} {y : Sc} {Sd : List Nat} {m : Dk} {N nby : Nat} {nm : List Int} {H : Heap} {K : ByteArray → Option Addr → Nat → Nat → Heap → Prop} (h : ScM H x d s nb y) (hs : s.size ≤ 100000000000) (hn : SetI H nb (· ∈ nm)) (hxn : x.block ≠ nb)
    (hd : DRep H d Sd m N) (hN : N ≤ 1000000) (hdj : Dj Sd [x.block, nb]) (hrd : ∀ i, (rdM m i).1.size ≤ 1000000) (h0 : nby ≤ 1152921504606846976)
    (hk : ∀ a n c H', Own encInt 3 H.size H' a n c (dataS (fun i => (rdM m i).1) m.size nby y nm).1.secs → ScM H' x d s nb (dataS (fun i => (rdM m i).1) m.size nby y nm).2.1 → SetI H' nb (· ∈ (dataS (fun i => (rdM m i).1) m.size nby y nm).2.2) → Fr [x.block, nb] H H' →
      (dataS (fun i => (rdM m i).1) m.size nby y nm).1.data.size ≤ 2000000 → K (dataS (fun i => (rdM m i).1) m.size nby y nm).1.data a n c H') :
    CallH Try.prog fn_files_scan_data ⟨[.pointer (some x), .int .i64 (nby : Int), .func (.func 46) ⟨[.pointer (some x)]⟩ ⟨[]⟩]⟩ H fun v H' => ∃ t a n c, v = .agg ⟨[.string t, .slice a n c]⟩ ∧ K t a n c H' := by
  generalize hout : dataS (fun i => (rdM m i).1) m.size nby y nm = out at hk
  unfold dataS at hout
  obtain ⟨bytes, hbi⟩ : ∃ z : Int, z = nby := ⟨_, rfl⟩
  have hb0 : 0 ≤ bytes ∧ bytes ≤ 1152921504606846976 := by omega
  rw [← hbi] at hout ⊢
  have hfu : bytes ≤ ((⟨#[]⟩ : ByteArray).size : Int) + nby := by simp [ByteArray.size]; omega
  generalize nby = fuel at hout hfu
  apply vc_files_scan_data
  intro b H1 hn1 b1 H2 hn2
  have e1 := hn1.eq
  have e2 := hn2.eq
  have s1 := hn1.size
  have s2 := hn2.size
  have f2 := hn1.fr.keep0 hn2.fr
  have hxl := h.lt
  have hnl := hn.lt
  have h2 := h.keep f2
  -- the end
  have fin : ∀ {k : Kp} {y' : Sc} {nm' : List Int} {H' : Heap}, DtS H x d s nb b b1 (fun i => (rdM m i).1) m.size bytes out k y' nm' H' → (k, y', nm') = out → ∃ s a n c, Ld Try.prog 59 H' ⟨b1, 0, none⟩ (.agg ⟨[.string s, .slice a n c]⟩) ∧ ∃ H'_2, St Try.prog 59 H' ⟨b, 0, none⟩ (.agg ⟨[.string s, .slice a n c]⟩) H'_2 ∧ ∃ s a n c, Ld Try.prog 59 H'_2 ⟨b, 0, none⟩ (.agg ⟨[.string s, .slice a n c]⟩) ∧ ∃ t a_1 n_1 c_1, Value.agg ⟨[.string s, .slice a n c]⟩ = .agg ⟨[.string t, .slice a_1 n_1 c_1]⟩ ∧ K t a_1 n_1 c_1 H'_2 := by
    intro k y' nm' H' hD he
    obtain ⟨a, n, c, hb1, ho, ha1, ha2⟩ := hD.kp
    refine ⟨_, _, _, _, hb1.ldA0 (by kernel_rfl) (by kernel_rfl) rfl, ?_⟩
    refine Blk.st0 hD.res (by kernel_rfl) (by kernel_rfl) (fun x hx => by simp [Value.cells] at hx; rcases hx with rfl | rfl <;> rfl) (by simp [Value.cells]) fun H3 hb3 hf3 => ?_
    refine ⟨_, _, _, _, hb3.ldA0 (by kernel_rfl) (by kernel_rfl) rfl, _, _, _, _, rfl, ?_⟩
    subst he
    have hf3' : Fr [b] H' H3 := hf3
    refine hk a n c H3 (ho.fr hf3' fun ad ea hm => ?_) (hD.sc.fr hf3' (by simp; omega)) (hD.set.fr hf3' (by simp; omega)) (hD.fr.trans' hf3' (fun k hk _ => hk) fun k hk hlt => ?_) ?_
    · simp only [List.mem_singleton] at hm; exact ha2 (by simp [ea, blkL, hm])
    · simp only [List.mem_singleton] at hk; omega
    · exact hD.sm
  refine ⟨fun vs H' => vs = [] ∧ ScM H' x d s nb ⟨y.r, y.ok && decide (bytes ≤ 32768)⟩ ∧ Fr [x.block] H2 H', ⟨_, h2.ldOk, brB_of (fun hok => h2.set _ fun H3 h3 hf3 => ⟨rfl, by rw [hok]; exact h3, hf3⟩) (fun hok => h2.set _ fun H3 h3 hf3 => ⟨rfl, by rw [hok]; exact h3, hf3⟩)⟩, ?_⟩
  rintro J H3 ⟨_, h3, hf3⟩
  have hf03 : Fr [x.block, nb] H H3 := f2.trans' hf3 (by simp) fun k hk _ => by simp at hk; simp [hk]
  have hne : ∀ k, k = b ∨ k = b1 → k ≠ x.block ∧ k ≠ nb := by rintro k (rfl | rfl) <;> omega
  refine ⟨fun vs H' => vs = [] ∧ ∃ k y' nm', DtS H x d s nb b b1 (fun i => (rdM m i).1) m.size bytes out k y' nm' H', fun _ H' => dataMu bytes x.block b1 H', ⟨rfl, ⟨⟨#[]⟩, []⟩, _, nm, ⟨⟨none, 0, 0, (hn2.blk).fr hf3 (by simp; omega), Own.nil _ _ _ _, by simp [blkL], by simp [blkL]⟩, (hn1.blk.keep hn2.fr).fr hf3 (by simp; omega), h3, (hn.fr f2 (by simp)).fr hf3 (by simp; omega), hf03, ⟨_, hout, fun _ => hfu⟩, fun _ => by simp, fun hok => by simp at hok; exact hok.2, by simp [ByteArray.size]⟩⟩, ?_⟩
  rintro J H4 ⟨_, k, y4, nm4, hD⟩
  obtain ⟨a, n, c, hb1, ho, ha1, ha2⟩ := id hD.kp
  obtain ⟨f, hof, hfb⟩ := id hD.out
  refine ⟨fun vs H' => vs = [] ∧ H' = H4 ∧ y4.ok = true ∧ (k.data.size : Int) < bytes, ⟨_, hD.sc.ldOk, brB_of (fun hok => ⟨_, hb1.ld0 (by kernel_rfl) rfl, brB_of (fun hlt => ⟨rfl, rfl, hok, by simpa using hlt⟩) (fun hlt => fin hD ?_)⟩) (fun hok => fin hD ?_)⟩, ?_⟩
  · rw [← hof, dataF_stop]
    intro hh; simp at hlt; omega
  · rw [← hof, dataF_stop]
    intro hh; rw [hok] at hh; cases hh.1
  rintro J2 H5 ⟨_, rfl, hok, hlt⟩
  have hf1 : ∃ g, f = g + 1 := by
    have := hfb hok
    exact ⟨f - 1, by omega⟩
  obtain ⟨g, rfl⟩ := hf1
  rw [dataF, if_pos ⟨hok, hlt⟩] at hof
  have hb32 := hD.big hok
  have hln := hD.len hok
  refine ⟨46, _, _, rfl, by kernel_rfl, number_ok hD.sc hs fun H6 h6 hf6 => ?_⟩
  have hf06 : Fr [x.block, nb] H H6 := hD.fr.trans' hf6 (fun k hk _ => hk) (fun k hk _ => by simp at hk; simp [hk])
  have hd6 : DRep H6 d Sd m N := hd.fr hf06 hdj
  have hset6 : SetI H6 nb (· ∈ nm4) := hD.set.fr hf6 (by simp; omega)
  have hb16 := hb1.fr hf6 (by simp; exact (hne _ (.inr rfl)).1)
  have hres6 := hD.res.fr hf6 (by simp; exact (hne _ (.inl rfl)).1)
  have ho6 : Own encInt 3 H.size H6 a n c k.secs := ho.fr hf6 fun ad ea => by have := (ho.ge ad.block (by simp [ea, blkL])).1; simp; omega
  -- left with false
  have out2 : ∀ {H7 : Heap} {r : List UInt8}, ScM H7 x d s nb ⟨r, false⟩ → Fr [x.block] H6 H7 → (k, ⟨r, false⟩, nm4) = out → DtS H x d s nb b b1 (fun i => (rdM m i).1) m.size bytes out k ⟨r, false⟩ nm4 H7 := fun {H7 r} h7 hf7 he =>
    ⟨⟨a, n, c, hb16.fr hf7 (by simp; exact (hne _ (.inr rfl)).1), ho6.fr hf7 fun ad ea => by have := (ho.ge ad.block (by simp [ea, blkL])).1; simp; omega, ha1, ha2⟩, hres6.fr hf7 (by simp; exact (hne _ (.inl rfl)).1), h7, hset6.fr hf7 (by simp; omega), hf06.trans' hf7 (fun k hk _ => hk) (fun k hk _ => by simp at hk; simp [hk]), ⟨0, he, (fun h => by cases h)⟩, (fun h => by cases h), (fun h => by cases h), hD.sm⟩
  refine ⟨fun vs H' => vs = [] ∧ ∃ ok2 : Bool, ScM H' x d s nb ⟨(numF y4).2.r, ok2⟩ ∧ Fr [x.block] H6 H' ∧ (ok2 = true ↔ ((numF y4).2.ok = true ∧ 2 ≤ (numF y4).1 ∧ ((numF y4).1 : Int) < m.size ∧ ((numF y4).1 : Int) ∉ nm4)), ⟨_, h6.ldOk, brB_of (fun q1 => brB_of (fun q2 => ⟨some d, h6.ldD, Size_ok hd6 (brB_of (fun q3 => ?_) (fun q3 => h6.set _ fun H7 h7 hf7 => ⟨rfl, false, h7, hf7, ?_⟩))⟩) (fun q2 => h6.set _ fun H7 h7 hf7 => ⟨rfl, false, h7, hf7, ?_⟩)) (fun q1 => h6.set _ fun H7 h7 hf7 => ⟨rfl, false, h7, hf7, ?_⟩)⟩, ?_⟩
  · obtain ⟨bb, hl1, hl2⟩ := hset6.look ((numF y4).1 : Int)
    refine ⟨some nb, h6.ldN, bb, hl1, h6.set _ fun H7 h7 hf7 => ⟨rfl, _, h7, hf7, ?_⟩⟩
    have q2' : 2 ≤ (numF y4).1 := by simp at q2; omega
    have q3' : ((numF y4).1 : Int) < m.size := by simpa using q3
    constructor
    · intro hh
      refine ⟨q1, q2', q3', fun hm => ?_⟩
      rw [hl2.2 hm] at hh; cases hh
    · rintro ⟨_, _, _, hm⟩
      cases bb with
      | true => exact absurd (hl2.1 rfl) hm
      | false => rfl
  · refine ⟨fun h => (by cases h), fun h => absurd h.2.2.1 (by simpa using q3)⟩
  · refine ⟨fun h => (by cases h), fun h => absurd h.2.1 (by simp at q2; omega)⟩
  · refine ⟨fun h => (by cases h), fun h => absurd h.1 (by rw [q1]; decide)⟩
  rintro J3 H7 ⟨_, ok2, h7, hf7, hok2⟩
  have hf07 : Fr [x.block, nb] H H7 := hf06.trans' hf7 (fun k hk _ => hk) (fun k hk _ => by simp at hk; simp [hk])
  have hd7 : DRep H7 d Sd m N := hd.fr hf07 hdj
  refine ⟨_, h7.ldOk, brB_of (fun q => ?_) (fun q => ?_)⟩
  · have q' : ok2 = false := by simpa using q
    subst q'
    rw [if_neg (fun hh => by have := hok2.2 hh; cases this)] at hof
    exact fin (out2 h7 hf7 hof) hof
  have q' : ok2 = true := by simpa using q
  subst q'
  have hcond := hok2.1 rfl
  rw [if_pos hcond] at hof
  generalize hz : (numF y4).1 = z at hcond hof h7 hf7 h6 hf6
  have hrdz := hrd (z : Int)
  refine ⟨some d, h7.ldD, Read_ok hd7 hN ?_⟩
  generalize hcz : (rdM m (z : Int)).1 = cz at hrdz hof ⊢
  have hset7 : SetI H7 nb (· ∈ nm4) := hset6.fr hf7 (by simp; omega)
  refine ⟨some nb, h7.ldN, hset7.put (z : Int) fun H8 hs8 hf8 => ?_⟩
  have hb18 := (hb16.fr hf7 (by simp; exact (hne _ (.inr rfl)).1)).fr hf8 (by simp; exact (hne _ (.inr rfl)).2)
  have hres8 := (hres6.fr hf7 (by simp; exact (hne _ (.inl rfl)).1)).fr hf8 (by simp; exact (hne _ (.inl rfl)).2)
  have ho8 : Own encInt 3 H.size H8 a n c k.secs := (ho6.fr hf7 fun ad ea => by have := (ho.ge ad.block (by simp [ea, blkL])).1; simp; omega).fr hf8 fun ad ea => by have := (ho.ge ad.block (by simp [ea, blkL])).1; simp; omega
  have h8 := h7.fr hf8 (by simp; omega)
  refine ⟨_, hb18.ld0 (by kernel_rfl) rfl, ?_⟩
  have hsm := hD.sm
  rw [wrap64_of (n := bytes - (k.data.size : Int)) (by omega) (by omega)]
  have hwant : (if (64 : Int) < bytes - (k.data.size : Int) then (64 : Int) else bytes - (k.data.size : Int)) = wantF bytes k := rfl
  rw [hwant]
  refine h8.set _ fun H9 h9 hf9 => ?_
  have hb19 := hb18.fr hf9 (by simp; exact (hne _ (.inr rfl)).1)
  have hres9 := hres8.fr hf9 (by simp; exact (hne _ (.inl rfl)).1)
  have ho9 : Own encInt 3 H.size H9 a n c k.secs := ho8.fr hf9 fun ad ea => by have := (ho.ge ad.block (by simp [ea, blkL])).1; simp; omega
  have hf89 : Fr [x.block, nb] H7 H9 := hf8.trans' hf9 (fun k hk _ => by simp at hk; simp [hk]) (fun k hk _ => by simp at hk; simp [hk])
  have hf09 : Fr [x.block, nb] H H9 := hf07.trans' hf89 (fun k hk _ => hk) (fun k hk _ => hk)
  refine ⟨_, hb19.ld0 (by kernel_rfl) rfl, chk_true (decide_eq_true (by omega)) ⟨a, n, c, hb19.ldK (j := 1) (by kernel_rfl) rfl, fun b5 H10 hn10 => ⟨(hb19.keep hn10.fr).ldK (j := 1) (by kernel_rfl) rfl, (hb19.keep hn10.fr).ld0 (by kernel_rfl) rfl, ?_⟩⟩⟩
  have hnl2 := ho.1
  have hsz9 := hf09.size
  refine ap_grow (E := encInt) (t := 3) (bytes := 8) (base := H.size) slice53 elem3 (ho9.keep hn10.fr) (sl_one encInt (z : Int) hn10 rfl) (by have := hn10.size; omega) (by omega) fun a' n' c' H11 ho11 hf11 hg11 => ?_
  have hb1n : b1 ∉ blkL a := ha1
  have hbn : b ∉ blkL a := ha2
  have hlt1 : b1 < H10.size := (hb19.keep hn10.fr).lt
  have hlt0 : b < H10.size := (hres9.keep hn10.fr).lt
  have ha1' : b1 ∉ blkL a' := fun hm => by rcases hg11 _ hm with h | h; exact hb1n h; omega
  have ha2' : b ∉ blkL a' := fun hm => by rcases hg11 _ hm with h | h; exact hbn h; omega
  have hb111 := (hb19.keep hn10.fr).fr hf11 hb1n
  refine ⟨hb111.ld0 (by kernel_rfl) rfl, ?_⟩
  refine Go.Proofs.Blk.setK hb111 (j := 0) (by kernel_rfl) (by kernel_rfl) rfl rfl (by simp) fun H12 hb12 hf12 => ?_
  refine Go.Proofs.Blk.setK hb12 (j := 1) (by kernel_rfl) (by kernel_rfl) rfl rfl (by simp) fun H13 hb13 hf13 => ?_
  have hf1113 : Fr [b1] H11 H13 := hf12.trans' hf13 (fun k hk _ => hk) (fun k hk _ => hk)
  have hxa : ∀ k ∈ [x.block, nb], k ∉ blkL a := fun k hk hm => by
    have := (ho.ge k hm).1
    simp at hk; omega
  have hf1013 : Fr (b1 :: blkL a) H10 H13 := hf11.trans' hf1113 (fun k hk _ => by simp [hk]) (fun k hk _ => by simp at hk; simp [hk])
  have hf913 : Fr (b1 :: blkL a) H9 H13 := hn10.fr.trans' hf1013 (by simp) (fun k hk _ => hk)
  have hnx : ∀ k ∈ [x.block, nb], k ∉ b1 :: blkL a := fun k hk hm => by
    rcases List.mem_cons.1 hm with h | h
    · have := hne b1 (.inr rfl); simp at hk; omega
    · exact hxa k hk h
  have h13 := h9.fr hf913 (hnx _ (by simp))
  have hset13 : SetI H13 nb (· ∈ (z : Int) :: nm4) := ((hs8.fr hf9 (by simp; omega)).fr hf913 (hnx _ (by simp))).iff fun q => by simp [or_comm]
  have hsize : (k.data ++ cz).size = k.data.size + cz.size := by rw [← bl_len, bl_app, List.length_append, bl_len, bl_len]
  have hstr : strAt H13 b1 = k.data ++ cz := strAt_of hb13
  have hnewok : (((cz.size : Int) == wantF bytes k) = true) → 1 ≤ cz.size := fun hh => by
    have : (cz.size : Int) = wantF bytes k := by simpa using hh
    unfold wantF at this
    split at this <;> omega
  refine ⟨⟨rfl, ⟨k.data ++ cz, k.secs ++ [(z : Int)]⟩, _, _, ⟨⟨a', n', c', hb13, ho11.fr hf1113 (fun ad ea hm => by simp at hm; exact ha1' (by simp [ea, blkL, hm])), ha1', ha2'⟩, (hres9.fr hf913 (fun hm => by
      rcases List.mem_cons.1 hm with h | h
      · have h : b = b1 := h
        omega
      · exact hbn h)), h13, hset13, hf09.trans' hf913 (fun k hk _ => hk) (fun k hk hlt => by
      rcases List.mem_cons.1 hk with h | h
      · omega
      · have := (ho.ge k h).1; omega), ⟨g, ?_, fun hh => ?_⟩, fun hh => ?_, fun hh => hb32, by show (k.data ++ cz).size ≤ _; omega⟩⟩, ?_⟩
  · have e : ((cz.size : Int) == wantF bytes k) = decide ((cz.size : Int) = wantF bytes k) := by
      by_cases hh : (cz.size : Int) = wantF bytes k <;> simp [hh]
    rw [e]
    exact hof
  · have := hfb hok
    have := hnewok hh
    show bytes ≤ ((k.data ++ cz).size : Int) + g
    omega
  · have := hnewok hh
    show (k.secs ++ [(z : Int)]).length ≤ (k.data ++ cz).size
    rw [List.length_append, hsize]
    simp only [List.length_cons, List.length_nil]
    omega
  · have hold : dataMu bytes x.block b1 H5 = 1 + (bytes - (k.data.size : Int)).toNat := by
      unfold dataMu
      rw [hD.sc.boolAt, if_pos hok, strAt_of hb1]
    show dataMu bytes x.block b1 H13 < dataMu bytes x.block b1 H5
    rw [hold]
    unfold dataMu
    rw [h13.boolAt, hstr]
    split
    · rename_i hh
      have := hnewok hh
      omega
    · omega
end Go.Proofs
set_option linter.unusedVariables false
set_option maxRecDepth 100000
open Go Go.GV
namespace Go.Proofs

def mapLen (H : Heap) (r : Nat) : Nat := match H[r]? with | some (.map es _) => es.size | _ => 0
theorem LastR.len2 {H : Heap} {r : Nat} {Q : List Nat} {last : ByteArray → Option (ByteArray × List Int)} (h : LastR H r Q last) :
    (∀ ty, Rd Try.prog (Builtin.len_ ⟨[52]⟩ ty ⟨[.map (some r)]⟩) H (.int .i64 (mapLen H r))) ∧ ∃ ks : List ByteArray, ks.Nodup ∧ ks.length = mapLen H r ∧ ∀ y, y ∈ ks ↔ (last y).isSome := by
  obtain ⟨ck, L, hm, he, hn⟩ := h
  have e : mapLen H r = L.length := by unfold mapLen; rw [hm.blk]; simp
  rw [e]
  refine ⟨fun ty => len_map SM Try.underlying52 hm, L.map (·.1), hm.wf.keys, by simp, fun y => ?_⟩
  have h2 := getL_none_iff (k := y) (L := L)
  constructor
  · intro hy
    obtain ⟨x, hx, rfl⟩ := List.mem_map.1 hy
    obtain ⟨d, a, n, c, xs, e, hs, hq', hl⟩ := he x hx
    rw [hl]; rfl
  · intro hy
    refine Classical.byContradiction fun h => ?_
    rw [hn y (h2.2 h)] at hy; cases hy
theorem LastR.count {H : Heap} {r : Nat} {Q : List Nat} {fs : List File10} (h : LastR H r Q (lastOf fs)) (hn : (fs.map (·.1)).Nodup) : mapLen H r = fs.length := by
  obtain ⟨_, ks, h1, h2, h3⟩ := h.len2
  have hm := lastOf_mem fs hn
  have hmem : ∀ y, y ∈ ks ↔ y ∈ fs.map (·.1) := fun y => by
    rw [h3]
    constructor
    · intro hy
      obtain ⟨v, hv⟩ := Option.isSome_iff_exists.1 hy
      exact List.mem_map_of_mem (f := (·.1)) ((hm y v).1 hv)
    · intro hy
      obtain ⟨f, hf, rfl⟩ := List.mem_map.1 hy
      rw [(hm f.1 f.2).2 hf]; rfl
  have a1 := nodup_sub ks (fs.map (·.1)) h1 fun x hx => (hmem x).1 hx
  have a2 := nodup_sub (fs.map (·.1)) ks hn fun x hx => (hmem x).2 hx
  rw [List.length_map] at a1 a2
  omega
theorem nodup_lt {l : List ByteArray} (h : l.Pairwise (fun p q => ltS p q = true)) : l.Nodup := by
  rw [List.nodup_iff_pairwise_ne]
  exact h.imp fun {p q} hlt e => by subst e; rw [ltS_irrefl] at hlt; cases hlt
theorem gtS (s t : ByteArray) : (!(Op.bytesLess t.toList s.toList || t.toList == s.toList)) = ltS s t := by
  rw [ltS_of, beqS]
  by_cases e : t = s
  · subst e; rw [ltS_irrefl]; simp
  · cases h1 : ltS t s with
    | true => rw [ltS_asymm h1]; rfl
    | false =>
      cases h2 : ltS s t with
      | true => simp [e]
      | false => exact absurd (ltS_tri h1 h2) e
theorem ScM.ldAt {H : Heap} {x d : Addr} {s : ByteArray} {nb : Nat} {y : Sc} (h : ScM H x d s nb y) : ∃ a : Nat, Ld Try.prog 3 H (x.add 2) (.int .i64 a) ∧ ((a : Int) = s.size ↔ y.r = []) := by
  obtain ⟨a, hb, ha, hr⟩ := h.it
  refine ⟨a, hb.ld (by kernel_rfl) rfl, ?_⟩
  rw [← hr, List.drop_eq_nil_iff, bl_len]
  omega
theorem ScM.ldS {H : Heap} {x d : Addr} {s : ByteArray} {nb : Nat} {y : Sc} (h : ScM H x d s nb y) : Ld Try.prog 9 H (x.add 1) (.string s) := by
  obtain ⟨a, hb, _⟩ := h.it
  exact hb.ld (by kernel_rfl) rfl
theorem numF_le (x : Sc) : (numF x).1 ≤ 1152921504606846976 := by
  unfold numF
  split
  · split
    · rename_i h; exact h.1
    · omega
  · omega
/-- What a root that was read comes to, in memory. -/
structure RootO (H : Heap) (out : Nat × List File10 × List Int) (g : Int) (r : Option Nat) (a : Option Addr) (n c : Nat) (H' : Heap) : Prop where
  gen : g = out.1
  fr : Fr [] H H'
  it : out.1 ≠ 0 → ∃ rb Qp, r = some rb ∧ H.size ≤ rb ∧ LastR H' rb Qp (lastOf out.2.1) ∧ (∀ k ∈ Qp, H.size ≤ k) ∧ In H' Qp ∧ rb ∉ Qp ∧ Own encInt 3 H.size H' a n c out.2.2 ∧ rb ∉ blkL a
structure FsS (H9 : Heap) (b b2 b3 : Nat) (d : Addr) (s : ByteArray) (rd : Int → ByteArray) (size : Int) (many : Nat) (out : List File10 × Sc) (last : ByteArray) (y : Sc) (fs : List File10) (nm : List Int) (Qp : List Nat) (H : Heap) : Prop where
  sc : ScM H ⟨b2, 0, none⟩ d s b y
  set : SetI H b (· ∈ nm)
  lst : LastR H b3 Qp (lastOf fs)
  ge : ∀ k ∈ Qp, H9.size ≤ k
  inQ : In H Qp
  fr : Fr [b2, b3, b] H9 H
  asc : y.ok = true → (fs.map (·.1)).Pairwise (fun p q => ltS p q = true) ∧ ∀ f ∈ fs, f.1 = last ∨ ltS f.1 last = true
  out : ∃ f, filesF rd size many f fs last y nm = out ∧ (y.ok = true → many ≤ fs.length + f)
def filesMu (many b2 b3 : Nat) (H : Heap) : Nat := if boolAt H b2 3 = true then 1 + (many - mapLen H b3) else 0
set_option maxRecDepth 20000 in
theorem root_ok {d : Addr} {Sd : List Nat} {m : Dk} {N : Nat} {slot : Int} {H : Heap} {K : Int → Option Nat → Option Addr → Nat → Nat → Heap → Prop} (h : DRep H d Sd m N) (hN : N ≤ 1000000) (hrd : ∀ i, (rdM m i).1.size ≤ 1000000)
    (hk : ∀ g r a n c H', RootO H (rootF (fun i => (rdM m i).1) m.size slot) g r a n c H' → K g r a n c H') :
    CallH Try.prog fn_files_root ⟨[.pointer (some d), .int .i64 slot]⟩ H fun v H' => ∃ g r a n c, v = .tuple ⟨[.int .i64 g, .map r, .slice a n c]⟩ ∧ K g r a n c H' := by
  generalize hout : rootF (fun i => (rdM m i).1) m.size slot = out at hk
  have zero : ∀ H', Fr [] H H' → out = (0, [], []) → ∃ g r a n c, Value.tuple ⟨[.int .i64 0, .map none, .slice none 0 0]⟩ = .tuple ⟨[.int .i64 g, .map r, .slice a n c]⟩ ∧ K g r a n c H' := fun H' hf e => ⟨_, _, _, _, _, rfl, hk _ _ _ _ _ H' ⟨by rw [e]; rfl, hf, fun hne => absurd (by rw [e]) hne⟩⟩
  apply vc_files_root
  refine Read_ok h hN fun b H1 hn1 b1 H2 hn2 => ?_
  unfold rootF at hout
  simp only at hout
  have hs := hrd slot
  generalize hsl : (rdM m slot).1 = s at hn2 hs hout ⊢
  have e1 := hn1.eq
  have e2 := hn2.eq
  have s1 := hn1.size
  have s2 := hn2.size
  have f02 := hn1.fr.keep0 hn2.fr
  have hSd := h.inS
  have hsc : ScM H2 ⟨b1, 0, none⟩ d s b ⟨bl s, true⟩ := ⟨⟨0, hn2.blk, by omega, by simp⟩⟩
  have hset2 : SetI H2 b (· ∈ ([] : List Int)) := ((SetI.new hn1).fr hn2.fr (by simp)).iff (by simp)
  refine number_ok hsc (by omega) fun H3 h3 f3 => number_ok h3 (by omega) fun H4 h4 f4 => ?_
  generalize hA : numF ⟨bl s, true⟩ = A at h3 h4 hout ⊢
  have hBle := numF_le A.2
  have hAle : A.1 ≤ 1152921504606846976 := by rw [← hA]; exact numF_le _
  generalize hB : numF A.2 = B at h4 hout hBle ⊢
  have f24 : Fr [b1] H2 H4 := Fr.trans' f3 f4 (fun k hk _ => hk) (fun k hk _ => hk)
  have f04 : Fr [] H H4 := f02.keep f24 (by simp; omega)
  refine ⟨fun vs H' => vs = [] ∧ H' = H4 ∧ ¬ (B.2.ok = false ∨ A.1 < 1 ∨ Int.tmod A.1 2 ≠ slot ∨ B.1 < 1 ∨ B.1 > 1280), ⟨fun vs H' => ∃ bb : Bool, vs = [.bool bb] ∧ H' = H4 ∧ (bb = true ↔ (B.2.ok = false ∨ A.1 < 1 ∨ Int.tmod A.1 2 ≠ slot ∨ B.1 < 1 ∨ B.1 > 1280)), ?_, ?_⟩, ?_⟩
  · refine ⟨_, h4.ldOk, brB_of (fun q => ⟨true, rfl, rfl, fun _ => .inl (by simpa using q), fun _ => rfl⟩) (fun q1 => brB_of (fun q => ⟨true, rfl, rfl, fun _ => .inr (.inl (by simp at q; omega)), fun _ => rfl⟩) (fun q2 => brB_of (fun q => ⟨true, rfl, rfl, fun _ => .inr (.inr (.inl (by simpa using q))), fun _ => rfl⟩) (fun q3 => brB_of (fun q => ⟨true, rfl, rfl, fun _ => .inr (.inr (.inr (.inl (by simp at q; omega)))), fun _ => rfl⟩) (fun q4 => ⟨_, rfl, rfl, fun q => .inr (.inr (.inr (.inr (by simp at q; omega)))), ?_⟩))))⟩
    rintro (q | q | q | q | q)
    · rw [q] at q1; cases q1
    · simp at q2; omega
    · exact absurd (by simpa using q3) q
    · simp at q4; omega
    · simp; omega
  · rintro J bb H' ⟨bb', e, rfl, hbb⟩
    cases e
    exact brB_of (fun q => zero H' f04 (by rw [← hout, if_pos (hbb.1 q)])) (fun q => ⟨rfl, rfl, fun hB => by rw [hbb.2 hB] at q; cases q⟩)
  rintro J H' ⟨_, rfl, hgood⟩
  rw [if_neg hgood] at hout
  have hgen : 1 ≤ A.1 := by
    refine Nat.le_of_not_lt fun h => hgood (.inr (.inl h))
  have hlt1 : b1 < H'.size := h4.lt
  have hltb : b < H'.size := by have := f24.size; omega
  refine data_ok h4 (by omega) (hset2.fr f24 (by simp; omega)) (by show b1 ≠ b; omega) (h.keep f04) hN (fun k hk hm => by have := hSd k hk; simp at hm; omega) hrd hBle fun a n c H5 ho5 h5 hset5 f5 hsz5 => ?_
  generalize hZ : dataS (fun i => (rdM m i).1) m.size B.1 B.2 [] = Z at ho5 h5 hset5 hsz5 hout ⊢
  have f5' : Fr [b1, b] H' H5 := f5
  have f05 : Fr [] H H5 := f04.keep f5' (by simp; omega)
  refine var_blk (by kernel_rfl) (by kernel_rfl) (fun x hx => by simp [Value.cells] at hx; rcases hx with rfl | rfl <;> rfl) (by rfl) fun bd H6 hbd hbk6 f6 => ?_
  have hbk6 : Blk H6 ⟨bd, 0, none⟩ [.string Z.1.data, .slice a n c] := by simpa [Value.cells] using hbk6
  have f06 : Fr [] H H6 := f05.keep0 f6
  have h6 := h5.keep f6
  have hset6 := hset5.fr f6 (by simp)
  obtain ⟨pos, hpos, hpi⟩ := h6.ldAt
  refine ⟨fun vs H' => vs = [] ∧ H' = H6 ∧ Z.2.1.ok = true ∧ Z.2.1.r = [], ⟨_, h6.ldOk, brB_of (fun q => zero H6 f06 (by rw [← hout, if_pos (.inl (by simpa using q))])) (fun q1 => ⟨_, hpos, brB_of (fun q => zero H6 f06 (by rw [← hout, if_pos (.inr fun e => by have := hpi.2 e; simp at q; omega)])) (fun q => ⟨rfl, rfl, by simpa using q1, hpi.1 (by simpa using q)⟩)⟩)⟩, ?_⟩
  rintro J H6' ⟨_, rfl, hok6, hr6⟩
  rw [if_neg (by simp [hok6, hr6])] at hout
  refine ⟨_, hbk6.ld0 (by kernel_rfl) rfl, some b, h6.ldN, fun b2 H7 hn7 b3 H8 hn8 => ?_⟩
  have e7 := hn7.eq
  have e8 := hn8.eq
  have s7 := hn7.size
  have s8 := hn8.size
  have hsc8 : ScM H8 ⟨b2, 0, none⟩ d Z.1.data b ⟨bl Z.1.data, true⟩ := ⟨⟨0, hn7.blk.keep hn8.fr, by omega, by simp⟩⟩
  refine number_ok hsc8 (by omega) fun H9 h9 f9 => ?_
  have f9' : Fr [b2] H8 H9 := f9
  generalize hC : numF ⟨bl Z.1.data, true⟩ = C at h9 hout ⊢
  have hCle : C.1 ≤ 1152921504606846976 := by rw [← hC]; exact numF_le _
  generalize hW : filesF (fun i => (rdM m i).1) m.size C.1 C.1 [] ⟨#[]⟩ C.2 Z.2.2 = W at hout
  have f69 : Fr [] H6' H9 := (hn7.fr.keep0 hn8.fr).keep f9' (by simp; omega)
  have f09 : Fr [] H H9 := f06.keep0 f69
  have hbl6 : b < H6'.size := hset6.lt
  have hset9 : SetI H9 b (· ∈ Z.2.2) := hset6.fr f69 (by simp)
  have hl9 : LastR H9 b3 [] (lastOf []) := by
    refine ⟨0, [], ((MapR.new SM hn8).fr SM f9' (by simp; omega)), by simp, fun k _ => rfl⟩
  have hbd6 : bd < H6'.size := hbk6.lt
  have hsz9 := f9'.size
  have hdone : ∀ {last : ByteArray} {y : Sc} {fs : List File10} {nm : List Int} {Qp : List Nat} {H' : Heap}, FsS H9 b b2 b3 d Z.1.data (fun i => (rdM m i).1) m.size C.1 W last y fs nm Qp H' → (fs, y) = W →
      ∃ M : List Value → Heap → Prop, (∃ M_1 : List Value → Heap → Prop, (∃ b, Ld Try.prog 4 H' ⟨b2, 3, none⟩ (.bool b) ∧ brB (!b) (M_1 [.bool true] H') (∃ n, Ld Try.prog 3 H' ⟨b2, 2, none⟩ (.int .i64 n) ∧ ∃ s, Ld Try.prog 9 H' ⟨b2, 1, none⟩ (.string s) ∧ M_1 [.bool (n != (s.size : Int))] H')) ∧ ∀ (J : F) (b : Bool) (H' : Heap), M_1 [.bool b] H' → brB b (∃ g r a n c, Value.tuple ⟨[.int .i64 0, .map none, .slice none 0 0]⟩ = .tuple ⟨[.int .i64 g, .map r, .slice a n c]⟩ ∧ K g r a n c H') (M [] H')) ∧
        ∀ (J : F) (H' : Heap), M [] H' → ∃ a n_5 c, Ld Try.prog 53 H' ⟨bd, 1, none⟩ (.slice a n_5 c) ∧ ∃ g r a_1 n c_1, Value.tuple ⟨[.int .i64 (A.1 : Int), .map (some b3), .slice a n_5 c]⟩ = .tuple ⟨[.int .i64 g, .map r, .slice a_1 n c_1]⟩ ∧ K g r a_1 n c_1 H' := by
    intro last y fs nm Qp H' hF he
    subst he
    simp only at hout
    have f0' : Fr [] H H' := f09.keep hF.fr (by simp; omega)
    obtain ⟨pos, hpos, hpi⟩ := hF.sc.ldAt
    refine ⟨fun vs H'' => vs = [] ∧ H'' = H' ∧ y.ok = true ∧ y.r = [], ⟨fun vs H'' => ∃ bb : Bool, vs = [.bool bb] ∧ H'' = H' ∧ (bb = true ↔ (y.ok = false ∨ y.r ≠ [])), ⟨_, hF.sc.ldOk, brB_of (fun q => ⟨true, rfl, rfl, fun _ => .inl (by simpa using q), fun _ => rfl⟩) (fun q1 => ⟨_, hpos, _, hF.sc.ldS, _, rfl, rfl, ?_, ?_⟩)⟩, ?_⟩, ?_⟩
    · intro q
      refine .inr fun e => ?_
      have := hpi.2 e
      simp at q; omega
    · rintro (q | q)
      · rw [q] at q1; cases q1
      · simp only [bne_iff_ne, ne_eq]
        exact fun e => q (hpi.1 e)
    · rintro J bb H'' ⟨bb', e, rfl, hbb⟩
      cases e
      refine brB_of (fun q => zero H'' f0' (by rw [← hout, if_pos (hbb.1 q)])) (fun q => ⟨rfl, rfl, ?_, ?_⟩)
      · cases hy : y.ok with
        | true => rfl
        | false => rw [hbb.2 (.inl hy)] at q; cases q
      · refine Classical.byContradiction fun hy => ?_
        rw [hbb.2 (.inr hy)] at q; cases q
    · rintro J H'' ⟨_, rfl, hy1, hy2⟩
      rw [if_neg (by simp [hy1, hy2])] at hout
      have hFf := hF.fr
      have hb5 : b < H5.size := hset5.lt
      have hbk : Blk H'' ⟨bd, 0, none⟩ [.string Z.1.data, .slice a n c] := (hbk6.keep f69).fr hFf (by simp; omega)
      refine ⟨a, n, c, hbk.ldK (j := 1) (by kernel_rfl) rfl, _, _, _, _, _, rfl, hk _ _ _ _ _ H'' ?_⟩
      have ho6 : Own encInt 3 H.size H6' a n c Z.1.secs := (ho5.keep f6).base (by have := f04.size; omega)
      have hag := ho6.ge
      rw [← hout]
      refine ⟨rfl, f0', fun _ => ⟨b3, Qp, rfl, by have := f06.size; omega, hF.lst, fun k hk => by have := hF.ge k hk; have := f09.size; omega, hF.inQ, fun hm => ?_, (ho6.keep f69).fr hFf fun ad ea hm => ?_, fun hm => ?_⟩⟩
      · have := hF.ge _ hm; omega
      · have h1 := ho5.ge ad.block (by simp [ea, blkL])
        have h2 := hag ad.block (by simp [ea, blkL])
        simp at hm; omega
      · have := hag _ hm; omega
  refine ⟨fun vs H' => match vs with | [.string last] => ∃ y fs nm Qp, FsS H9 b b2 b3 d Z.1.data (fun i => (rdM m i).1) m.size C.1 W last y fs nm Qp H' | _ => False, fun _ H' => filesMu C.1 b2 b3 H', ⟨C.2, [], Z.2.2, [], ⟨h9, hset9, hl9, by simp, fun k hk => by simp at hk, Fr.refl _ _, fun _ => ⟨by simp, by simp⟩, ⟨C.1, hW, fun _ => by simp⟩⟩⟩, ?_⟩
  rintro J last H10 ⟨y, fs, nm, Qp, hF⟩
  obtain ⟨f, hof, hfb⟩ := id hF.out
  obtain ⟨hlen, _⟩ := hF.lst.len2
  refine ⟨fun vs H' => vs = [] ∧ H' = H10 ∧ y.ok = true ∧ fs.length < C.1, ⟨_, hF.sc.ldOk, brB_of (fun q => ⟨_, hlen 3, brB_of (fun q2 => ⟨rfl, rfl, q, ?_⟩) (fun q2 => hdone hF ?_)⟩) (fun q => hdone hF ?_)⟩, ?_⟩
  · rw [hF.lst.count (nodup_lt (hF.asc q).1)] at q2
    simp at q2; omega
  · rw [hF.lst.count (nodup_lt (hF.asc q).1)] at q2
    rw [← hof, filesF_stop]
    rintro ⟨_, h⟩
    simp at q2; omega
  · rw [← hof, filesF_stop]
    rintro ⟨h, _⟩
    rw [q] at h; cases h
  rintro J2 H10' ⟨_, rfl, hok, hlt⟩
  have hcnt := hF.lst.count (nodup_lt (hF.asc hok).1)
  obtain ⟨g, rfl⟩ : ∃ g, f = g + 1 := by
    have := hfb hok
    exact ⟨f - 1, by omega⟩
  rw [filesF, if_pos ⟨hok, hlt⟩] at hof
  simp only at hof
  have hD1 : Z.1.data.size ≤ 100000000000 := by omega
  have hlt2 : b2 < H9.size := by omega
  have hlt3 : b3 < H9.size := by omega
  refine name_ok hF.sc hD1 fun H11 h11 f11 => number_ok h11 hD1 fun H12 h12 f12 => ?_
  generalize hnm : (nameF y).1 = name at hof ⊢
  generalize hq : numF (nameF y).2 = q at h12 hof ⊢
  have hqle : q.1 ≤ 1152921504606846976 := by rw [← hq]; exact numF_le _
  have f1012 : Fr [b2] H10' H12 := Fr.trans' f11 f12 (fun k hk _ => hk) (fun k hk _ => hk)
  refine ⟨fun vs H' => vs = [] ∧ ScM H' ⟨b2, 0, none⟩ d Z.1.data b ⟨q.2.r, q.2.ok && ltS last name⟩ ∧ Fr [b2] H10' H', ⟨_, h12.ldOk, brB_of (fun w => h12.set _ fun H13 h13 f13 => ⟨rfl, by rw [w]; rw [gtS] at h13; exact h13, Fr.trans' f1012 f13 (fun k hk _ => hk) (fun k hk _ => hk)⟩) (fun w => h12.set _ fun H13 h13 f13 => ⟨rfl, by rw [w]; exact h13, Fr.trans' f1012 f13 (fun k hk _ => hk) (fun k hk _ => hk)⟩)⟩, ?_⟩
  rintro J3 H13 ⟨_, h13, f13⟩
  have f913 : Fr [b2, b3, b] H9 H13 := hF.fr.trans' f13 (fun k hk _ => hk) (fun k hk _ => by simp at hk; simp [hk])
  have f013 : Fr [] H H13 := f09.keep f913 (by simp; omega)
  have hset13 := hF.set.fr f13 (by simp; omega)
  refine data_ok h13 hD1 hset13 (by show b2 ≠ b; omega) (h.keep f013) hN (fun k hk hm => by have := hSd k hk; simp at hm; omega) hrd hqle fun a2 n2 c2 H14 ho14 h14 hset14 f14 hsz14 => ?_
  generalize hz : dataS (fun i => (rdM m i).1) m.size q.1 ⟨q.2.r, q.2.ok && ltS last name⟩ nm = z at ho14 h14 hset14 hsz14 hof ⊢
  have f14' : Fr [b2, b] H13 H14 := f14
  have hge := hF.ge
  have hl13 := hF.lst.fr f13 (by simp; omega) fun k hk hm => by have := hge k hk; simp at hm; omega
  have hl14 := hl13.fr f14' (by simp; omega) fun k hk hm => by have := hge k hk; simp at hm; omega
  have hs13 := f913.size
  refine hl14.put name ho14.sl (fun hm => ?_) fun H15 hl15 f15 => ?_
  · rcases List.mem_append.1 hm with hm | hm
    · have := hge _ hm; omega
    · have := (ho14.ge _ hm).1; omega
  have f1415 : Fr [b2, b3, b] H13 H15 := f14'.trans' f15 (fun k hk _ => by simp at hk; rcases hk with rfl | rfl <;> simp) (fun k hk _ => by simp at hk; simp [hk])
  have h15 := h14.fr f15 (by simp; omega)
  have hl15 : LastR H15 b3 (Qp ++ blkL a2) (lastOf (fs ++ [(name, z.1.data, z.1.secs)])) := by rw [lastOf_snoc]; exact hl15
  refine ⟨⟨z.2.1, fs ++ [(name, z.1.data, z.1.secs)], z.2.2, Qp ++ blkL a2, ⟨h15, hset14.fr f15 (by simp; omega), hl15, fun k hk => ?_, fun k hk => ?_, f913.trans' f1415 (fun k hk _ => hk) (fun k hk _ => hk), fun hzo => ?_, ⟨g, hof, fun hzo => ?_⟩⟩⟩, ?_⟩
  · rcases List.mem_append.1 hk with hk | hk
    · exact hge k hk
    · have := (ho14.ge _ hk).1; omega
  · rcases List.mem_append.1 hk with hk | hk
    · have := hF.inQ k hk; have := f13.size; have := f1415.size; omega
    · have := (ho14.ge _ hk).2; have := f15.size; omega
  · have hb : q.2.ok = true ∧ ltS last name = true := by
      refine Classical.byContradiction fun hno => ?_
      have hf : (q.2.ok && ltS last name) = false := by
        cases h1 : q.2.ok <;> cases h2 : ltS last name <;> simp [h1, h2] at hno ⊢
      rw [← hz, hf] at hzo
      unfold dataS at hzo
      rw [dataF_stop (by simp)] at hzo
      cases hzo
    obtain ⟨p1, p2⟩ := hF.asc hok
    have hall : ∀ f ∈ fs, ltS f.1 name = true := fun f hf => by
      rcases p2 f hf with e | e
      · rw [e]; exact hb.2
      · exact ltS_trans e hb.2
    refine ⟨?_, fun f hf => ?_⟩
    · rw [List.map_append, List.pairwise_append]
      refine ⟨p1, by simp, fun a ha b hb' => ?_⟩
      obtain ⟨f, hf, rfl⟩ := List.mem_map.1 ha
      simp only [List.map_cons, List.map_nil, List.mem_singleton] at hb'
      rw [hb']
      exact hall f hf
    · rcases List.mem_append.1 hf with hf | hf
      · exact .inr (hall f hf)
      · rw [List.mem_singleton] at hf
        exact .inl (by rw [hf])
  · have := hfb hok
    rw [List.length_append]
    simp only [List.length_cons, List.length_nil]
    omega
  · show filesMu C.1 b2 b3 H15 < filesMu C.1 b2 b3 H10'
    have hold : filesMu C.1 b2 b3 H10' = 1 + (C.1 - fs.length) := by
      have := hF.sc.boolAt
      unfold filesMu
      rw [this, if_pos hok, hcnt]
    rw [hold]
    have hb15 := h15.boolAt
    unfold filesMu
    rw [hb15]
    split
    · rename_i hzo
      have hb : q.2.ok = true ∧ ltS last name = true := by
        refine Classical.byContradiction fun hno => ?_
        have hf : (q.2.ok && ltS last name) = false := by
          cases h1 : q.2.ok <;> cases h2 : ltS last name <;> simp [h1, h2] at hno ⊢
        rw [← hz, hf] at hzo
        unfold dataS at hzo
        rw [dataF_stop (by simp)] at hzo
        cases hzo
      have hall : ∀ f ∈ fs, ltS f.1 name = true := fun f hf => by
        rcases (hF.asc hok).2 f hf with e | e
        · rw [e]; exact hb.2
        · exact ltS_trans e hb.2
      have hnd : ((fs ++ [(name, z.1.data, z.1.secs)]).map (·.1)).Nodup := by
        refine nodup_lt ?_
        rw [List.map_append, List.pairwise_append]
        refine ⟨(hF.asc hok).1, by simp, fun a ha b hb' => ?_⟩
        obtain ⟨f, hf, rfl⟩ := List.mem_map.1 ha
        simp only [List.map_cons, List.map_nil, List.mem_singleton] at hb'
        rw [hb']
        exact hall f hf
      rw [hl15.count hnd, List.length_append]
      simp only [List.length_cons, List.length_nil]
      omega
    · omega
end Go.Proofs
set_option linter.unusedVariables false
set_option maxRecDepth 100000
open Go Go.GV
namespace Go.Proofs

theorem rootF_zero {rd : Int → ByteArray} {size slot : Int} (h : (rootF rd size slot).1 = 0) : rootF rd size slot = (0, [], []) := by
  unfold rootF at h ⊢
  simp only at h ⊢
  split
  · rfl
  · rename_i h1
    rw [if_neg h1] at h
    split
    · rfl
    · rename_i h2
      rw [if_neg h2] at h
      split
      · rfl
      · rename_i h3
        rw [if_neg h3] at h
        have h : (numF ⟨bl (rd slot), true⟩).1 = 0 := h
        exact absurd (.inr (.inl (by omega))) h1
/-- The roots that were read, the first ones: the greatest one. -/
noncomputable def curF (rd : Int → ByteArray) (size : Int) : Nat → Nat × List File10 × List Int
  | 0 => (0, [], [])
  | j + 1 => if (rootF rd size (j : Int)).1 > (curF rd size j).1 then rootF rd size (j : Int) else curF rd size j
noncomputable def openF (m : Dk) : Nat × List File10 × List Int := curF (fun i => (rdM m i).1) m.size 2
def stoOf (out : Nat × List File10 × List Int) : Sto := { now := fun y => (lastOf out.2.1 y).map (·.1), last := lastOf out.2.1, dir := out.2.2, gen := out.1, bad := false }
theorem lastOf_sub (fs : List File10) (y : ByteArray) (h : (lastOf fs y).isSome) : y ∈ fs.map (·.1) := by
  have key : ∀ (fs : List File10) (g : ByteArray → Option (ByteArray × List Int)), (fs.foldl (fun f x => putF f x.1 x.2) g y).isSome → y ∈ fs.map (·.1) ∨ (g y).isSome := by
    intro fs
    induction fs with
    | nil => intro g h; exact .inr h
    | cons x l ih =>
      intro g h
      simp only [List.foldl_cons] at h
      rcases ih _ h with h | h
      · exact .inl (List.mem_cons_of_mem _ h)
      · unfold putF at h
        split at h
        · rename_i e; exact .inl (by rw [e]; simp)
        · exact .inr h
  rcases key fs _ h with h | h
  · exact h
  · cases h
structure OpS (H0 : Heap) (d : Addr) (b b2 : Nat) (cur : Nat × List File10 × List Int) (rl : Nat) (a : Option Addr) (n c : Nat) (Q : List Nat) (H : Heap) : Prop where
  blk : Blk H ⟨b2, 0, none⟩ [.pointer (some d), .map (some b), .map (some rl), .slice a n c, .int .i64 cur.1, .bool false]
  lst : LastR H rl Q (lastOf cur.2.1)
  dir : Sl encInt H a n c cur.2.2
  dirQ : ∀ k ∈ blkL a, k ∈ Q
  new : MapR SM H b 0 []
  ge : ∀ k ∈ rl :: Q, H0.size ≤ k
  own : b2 ∉ rl :: Q ∧ b ∉ rl :: Q
  inQ : In H Q
  fr : Fr [] H0 H
open Classical in
noncomputable def seenN (L : List (Ent ByteArray)) (last : ByteArray → Option (ByteArray × List Int)) (seen : Array Nat) : ByteArray → Option ByteArray := fun y => if ∃ x ∈ L, x.1 = y ∧ x.2.2 ∈ seen then (last y).map (·.1) else none
set_option maxRecDepth 20000 in
theorem Open_ok {d : Addr} {Sd : List Nat} {m : Dk} {N : Nat} {H : Heap} {K : Option Addr → Int → Heap → Prop} (h : DRep H d Sd m N) (hN : N ≤ 1000000) (hoff : m.off = false) (hrd : ∀ i, (rdM m i).1.size ≤ 1000000)
    (hk : ∀ s rn rl a n c Q H', H.size ≤ s.block → SL H' s d rn rl a n c Q Sd (stoOf (openF m)) m N (openF m).2.1.length → Fr [] H H' → K (some s) 0 H') :
    CallH Try.prog fn_files_Open ⟨[.pointer (some d)]⟩ H fun v H' => ∃ a e, v = .tuple ⟨[.pointer a, .int .i64 e]⟩ ∧ K a e H' := by
  apply vc_files_Open
  refine Dead_ok h ?_
  show brB m.off _ _
  refine brB_of (fun h => by rw [hoff] at h; cases h) fun _ => fun b H1 hn1 b1 H2 hn2 b2 H3 hn3 => ?_
  have e1 := hn1.eq
  have e2 := hn2.eq
  have e3 := hn3.eq
  have s1 := hn1.size
  have s2 := hn2.size
  have s3 := hn3.size
  have f3 := (hn1.fr.keep0 hn2.fr).keep0 hn3.fr
  have hSd := h.inS
  generalize hrdd : (fun i => (rdM m i).1) = rd
  have hop : openF m = curF rd m.size 2 := by rw [← hrdd]; rfl
  refine ⟨fun vs H' => match vs with | [.int _ i] => ∃ (j : Nat) (rl : Nat) (a : Option Addr) (n c : Nat) (Q : List Nat), i = j ∧ j ≤ 2 ∧ OpS H d b b2 (curF rd m.size j) rl a n c Q H' ∧ b2 < H'.size | _ => False, fun vs _ => match vs with | [.int _ i] => 2 - i.toNat | _ => 0,
    ⟨0, b1, none, 0, 0, [], rfl, by omega, ⟨hn3.blk, ⟨0, [], (MapR.new SM hn2).keep SM hn3.fr, by simp, fun k _ => rfl⟩, Sl.zero, by simp [blkL], ((MapR.new SM hn1).keep SM hn2.fr).keep SM hn3.fr, by simp; omega, by simp; omega, fun k hk => by simp at hk, f3⟩, by omega⟩, ?_⟩
  rintro J i H4 ⟨j, rl, a, n, c, Q, rfl, hj, hO, hlt4⟩
  have hge := hO.ge
  have hown := hO.own
  refine brB_of (fun h0 => ?_) (fun h0 => ?_)
  · have h0' : j < 2 := by simp at h0; omega
    refine root_ok (h.keep hO.fr) hN hrd fun g r a' n' c' H5 hR => ?_
    rw [hrdd] at hR
    obtain ⟨rfl, f5, hit⟩ := hR
    have hb5 := hO.blk.keep f5
    have hO5 : OpS H d b b2 (curF rd m.size j) rl a n c Q H5 := ⟨hb5, hO.lst.keep f5, hO.dir.keep f5, hO.dirQ, hO.new.keep SM f5, hge, hown, hO.inQ.le f5.size, hO.fr.keep0 f5⟩
    have hlt5 : b2 < H5.size := by have := f5.size; omega
    refine ⟨_, hb5.ldK (j := 4) (by kernel_rfl) rfl, brB_of (fun hg => ?_) (fun hg => ⟨⟨j + 1, rl, a, n, c, Q, succ64 (by omega), by omega, ?_, hlt5⟩, ?_⟩)⟩
    · have hg' : (rootF rd m.size (j : Int)).1 > (curF rd m.size j).1 := by simp at hg; omega
      obtain ⟨rb, Qp, rfl, hrb, hl, hQ, hin, hnq, ho, hna⟩ := hit (by omega)
      refine Go.Proofs.Blk.setK hb5 (j := 4) (by kernel_rfl) (by kernel_rfl) rfl rfl (by simp) fun H6 h6 f6 => ?_
      refine Go.Proofs.Blk.setK h6 (j := 2) (by kernel_rfl) (by kernel_rfl) rfl rfl (by simp) fun H7 h7 f7 => ?_
      refine Go.Proofs.Blk.setK h7 (j := 3) (by kernel_rfl) (by kernel_rfl) rfl rfl (by simp) fun H8 h8 f8 => ?_
      have f58 : Fr [b2] H5 H8 := (f6.trans' f7 (fun k hk _ => hk) (fun k hk _ => hk)).trans' f8 (fun k hk _ => hk) (fun k hk _ => hk)
      have s4 := hO.fr.size
      have hag := ho.ge
      have hb4 : b < H4.size := hO.new.lt
      have ec : curF rd m.size (j + 1) = rootF rd m.size (j : Int) := by rw [curF, if_pos hg']
      refine ⟨⟨j + 1, rb, a', n', c', Qp ++ blkL a', succ64 (by omega), by omega, ?_, by have := f58.size; omega⟩, ?_⟩
      rotate_left
      · show 2 - (IntKind.i64.wrap ((j : Int) + 1)).toNat < 2 - ((j : Nat) : Int).toNat
        rw [succ64 (by omega)]
        exact mu_lt h0'
      rw [ec]
      refine ⟨h8, (hl.mono fun k hk => by simp [hk]).fr f58 (by simp; omega) fun k hk hm => ?_, ho.sl.fr f58 fun ad ea hm => ?_, fun k hk => by simp [hk], hO5.new.fr SM f58 (by simp; omega), fun k hk => ?_, ⟨fun hm => ?_, fun hm => ?_⟩, fun k hk => ?_, hO5.fr.keep f58 (by simp; omega)⟩
      · simp only [List.mem_singleton] at hm
        rcases List.mem_append.1 hk with hk | hk
        · have := hQ k hk; omega
        · have := hag k hk; omega
      · simp only [List.mem_singleton] at hm
        have := hag ad.block (by simp [ea, blkL]); omega
      · rcases List.mem_cons.1 hk with hk | hk
        · omega
        · rcases List.mem_append.1 hk with hk | hk
          · have := hQ k hk; omega
          · have := hag k hk; omega
      · rcases List.mem_cons.1 hm with hk | hk
        · omega
        · rcases List.mem_append.1 hk with hk | hk
          · have := hQ _ hk; omega
          · have := hag _ hk; omega
      · rcases List.mem_cons.1 hm with hk | hk
        · omega
        · rcases List.mem_append.1 hk with hk | hk
          · have := hQ _ hk; omega
          · have := hag _ hk; omega
      · have := f58.size
        rcases List.mem_append.1 hk with hk | hk
        · have := hin k hk; omega
        · have := hag k hk; omega
    · have ec : curF rd m.size (j + 1) = curF rd m.size j := by rw [curF, if_neg (by simp at hg; omega)]
      rw [ec]
      exact hO5
    · show 2 - (IntKind.i64.wrap ((j : Int) + 1)).toNat < 2 - ((j : Nat) : Int).toNat
      rw [succ64 (by omega)]
      exact mu_lt h0'
  · have hj2 : j = 2 := by simp at h0; omega
    subst hj2
    rw [← hop] at hO
    generalize openF m = cur at hO hk hop
    obtain ⟨ck, L, hm0, hents, hnone⟩ := hO.lst
    have hlt0 := hm0.lt
    have hnb := hO.new.lt
    refine ⟨some rl, hO.blk.ldK (j := 2) (by kernel_rfl) rfl, range_map SM (mt := 52) (e := 59) Try.underlying52 hm0 fun it H5 hn5 => ?_⟩
    have hit := hn5.eq
    have hs5 := hn5.size
    refine ⟨fun _ H' => ∃ (seen : Array Nat) (cnt : Nat), NowR H' b (seenN L (lastOf cur.2.1) seen) cnt ∧ H'[it]? = some (.mapIter (some rl) ck seen ck) ∧ Fr [b] H4 H', fun _ H' => pendH H' rl it,
      ⟨#[], 0, ⟨0, [], hO.new.keep SM hn5.fr, by simp, fun k => by simp [seenN, getL]⟩, hn5.get, hn5.fr.mono (by simp)⟩, ?_⟩
    rintro J2 H6 ⟨seen, cnt, hnow, hi6, hf6⟩
    have hrb : rl ≠ b := fun e => hown.2 (by simp [e])
    have hm6 : MapR SM H6 rl ck L := hm0.fr SM hf6 (by simpa using hrb)
    have hf06 : Fr [] H H6 := hO.fr.keep hf6 (by simp; omega)
    refine next_map SM hm6 hi6 (fun hall => ⟨_, _, rfl, ?_⟩) fun x hx hns H7 hi7 hf7 => ?_
    · have e : seenN L (lastOf cur.2.1) seen = fun y => (lastOf cur.2.1 y).map (·.1) := by
        funext y
        unfold seenN
        split
        · rfl
        · rename_i hno
          cases hg : getL y L with
          | none => rw [hnone y hg]; rfl
          | some v =>
            obtain ⟨b', hb'⟩ := mem_getL hg
            exact absurd ⟨_, hb', rfl, hall _ hb'⟩ hno
      rw [e] at hnow
      obtain ⟨ck', L', hm', _, hgt⟩ := hnow
      have hlen : L'.length ≤ cur.2.1.length := by
        have := nodup_sub (L'.map (·.1)) (cur.2.1.map (·.1)) hm'.wf.keys fun y hy => by
          refine lastOf_sub _ _ ?_
          have h2 := getL_none_iff (k := y) (L := L')
          cases hl : lastOf cur.2.1 y with
          | some v => rfl
          | none =>
            have h3 : getL y L' = ((lastOf cur.2.1 y).map (·.1)).map Value.string := hgt y
            rw [hl] at h3
            exact absurd hy (h2.1 h3)
        simpa using this
      have hapart : ∀ k ∈ b2 :: b :: rl :: Q, k ∉ Sd := fun k hk hm => by
        have hk1 := hSd k hm
        rcases List.mem_cons.1 hk with rfl | hk
        · omega
        · rcases List.mem_cons.1 hk with rfl | hk
          · omega
          · have := hge k hk; omega
      refine hk ⟨b2, 0, none⟩ b rl a n c Q H6 (by simp; omega) ⟨hO.blk.fr hf6 (by simp; omega), ⟨ck', L', hm', hlen, hgt⟩, hO.lst.fr hf6 (by simpa using hrb) fun k hk hm => ?_, hO.dir.fr hf6 fun ad ea hm => ?_, hO.dirQ, h.keep hf06, ?_, hapart, hO.inQ.le hf6.size⟩ hf06
      · simp only [List.mem_singleton] at hm
        exact hown.2 (by rw [← hm]; simp [hk])
      · simp only [List.mem_singleton] at hm
        exact hown.2 (by rw [← hm]; simp [hO.dirQ ad.block (by simp [ea, blkL])])
      · intro hm
        rcases List.mem_cons.1 hm with h | h
        · have h : b2 = b := h
          omega
        · exact hown.1 h
    · obtain ⟨dd, a2, n2, c2, xs, e, hsl, _, hlast⟩ := hents x hx
      have hitlt : rl ≠ it := by omega
      have hm7 : MapR SM H7 rl ck L := hm6.fr SM hf7 (by simpa using hitlt)
      refine entry_map SM hm7 hi7 hx rfl ⟨_, rfl, dd, a2, n2, c2, e, ?_⟩
      refine var_blk (by kernel_rfl) (by kernel_rfl) (fun x hx => by simp [Value.cells] at hx; rcases hx with rfl | rfl <;> rfl) (by rfl) fun b7 H8 hb7 hbk8 f8 => ?_
      have hbk8 : Blk H8 ⟨b7, 0, none⟩ [.string dd, .slice a2 n2 c2] := by simpa [Value.cells] using hbk8
      have hsz6 := hf6.size
      have f48 : Fr [b] H4 H8 := (hf6.trans' hf7 (fun k hk _ => hk) (fun k hk hlt => by simp at hk; omega)).trans' f8 (fun k hk _ => hk) (by simp)
      have hbit : b ≠ it := by omega
      have hnow8 : NowR H8 b (seenN L (lastOf cur.2.1) seen) cnt := (hnow.fr hf7 (by simpa using hbit)).fr f8 (by simp)
      refine ⟨some b, (hO.blk.fr f48 (by simp; omega)).ldK (j := 1) (by kernel_rfl) rfl, dd, hbk8.ld0 (by kernel_rfl) rfl, hnow8.put x.1 dd fun H9 hnow9 f9 => ?_⟩
      have hi9 : H9[it]? = some (.mapIter (some rl) ck (seen.push x.2.2) ck) := f9.get (f8.get0 hi7) (by simp; exact fun e => hbit e.symm)
      have f49 : Fr [b] H4 H9 := f48.trans' f9 (fun k hk _ => hk) (fun k hk _ => hk)
      have hm9 : MapR SM H9 rl ck L := hm0.fr SM f49 (by simpa using hrb)
      refine ⟨⟨seen.push x.2.2, cnt + 1, ?_, hi9, f49⟩, ?_⟩
      · have e9 : putN (seenN L (lastOf cur.2.1) seen) x.1 dd = seenN L (lastOf cur.2.1) (seen.push x.2.2) := by
          funext y
          unfold putN seenN
          by_cases hy : y = x.1
          · subst hy
            rw [if_pos rfl, if_pos ⟨x, hx, rfl, by simp⟩, hlast]
            rfl
          · rw [if_neg hy]
            by_cases hs : ∃ z ∈ L, z.1 = y ∧ z.2.2 ∈ seen
            · obtain ⟨z, hz, e1, e2⟩ := hs
              rw [if_pos ⟨z, hz, e1, e2⟩, if_pos ⟨z, hz, e1, by simp [e2]⟩]
            · rw [if_neg hs, if_neg]
              rintro ⟨z, hz, e1, e2⟩
              rcases Array.mem_push.1 e2 with e2 | e2
              · exact hs ⟨z, hz, e1, e2⟩
              · have := ent_born hm0.wf hz hx e2
                subst this
                exact hy e1.symm
        rw [e9] at hnow9
        exact hnow9
      · show pendH H9 rl it < pendH H6 rl it
        rw [pendH_eq SM hm9 hi9, pendH_eq SM hm6 hi6]
        exact pendB_push (List.mem_map_of_mem (f := fun x : Ent ByteArray => x.2.2) hx) hns
end Go.Proofs
set_option linter.unusedVariables false
set_option maxRecDepth 100000
open Go Go.GV
namespace Go.Proofs

/-! what is laid down is read: plainly -/
theorem chunkB_nil : chunkB [] = [] := rfl
theorem nCh_zero {n : Nat} (h : nCh n = 0) : n = 0 := by unfold nCh at h; omega
theorem chunkB_len (l : List UInt8) : (chunkB l).length = nCh l.length := by simp [chunkB]
theorem chunkB_cons {l : List UInt8} (h : l ≠ []) : chunkB l = l.take 64 :: chunkB (l.drop 64) := by
  have hl : 1 ≤ l.length := by cases l with | nil => exact absurd rfl h | cons => simp
  have hn : nCh l.length = nCh (l.drop 64).length + 1 := by rw [List.length_drop]; unfold nCh; omega
  unfold chunkB
  rw [hn, List.range_succ_eq_map, List.map_cons, List.map_map]
  congr 1
  · simp only [Nat.mul_zero, List.drop_zero, Nat.zero_add]
    by_cases h64 : l.length ≤ 64
    · rw [List.take_of_length_le (by omega), List.take_of_length_le h64]
    · rw [Nat.min_eq_left (by omega)]
  · refine List.map_congr_left fun i _ => ?_
    simp only [Function.comp]
    rw [List.drop_take, List.drop_take, List.drop_drop, List.length_drop]
    rw [show 64 * i.succ = 64 + 64 * i by omega]
    congr 1
    omega
theorem bl_mk (l : List UInt8) : bl (⟨l.toArray⟩ : ByteArray) = l := by simp [bl]
theorem app_empty (s : ByteArray) : s ++ (⟨([] : List UInt8).toArray⟩ : ByteArray) = s := bl_inj (by rw [bl_app, bl_mk [], List.append_nil])
theorem numF_of {n : Nat} {t : List UInt8} (hn : n ≤ 1152921504606846976) : numF ⟨uintL n ++ t, true⟩ = (n, ⟨t, true⟩) := by
  unfold numF
  rw [gU_of (by omega) rfl]
  simp only
  rw [if_pos ⟨hn, trivial⟩]
theorem nameF_of {s : ByteArray} {t : List UInt8} (hs : rightP s) : nameF ⟨textL s ++ t, true⟩ = (s, ⟨t, true⟩) := by
  unfold nameF
  rw [gT_of (by have := hs.2.2; omega) rfl]
  simp only
  rw [if_pos ⟨hs, trivial⟩]
theorem numsB_cons {z : Int} {l : List Int} (h : 0 ≤ z ∧ z < 18446744073709551616) : numsB (z :: l) = uintL z.toNat ++ numsB l := by
  unfold numsB
  rw [List.flatMap_cons, wrapU64 h.1 h.2]
theorem dataF_read {rd : Int → ByteArray} {size bytes : Int} (hsz : size ≤ 512) : ∀ (ns : List Int) (l : List UInt8) (k : Kp) (t : List UInt8) (nm : List Int) (f : Nat), ns.map (fun z => bl (rd z)) = chunkB l → ((k.data.size : Int) + l.length = bytes) → ns.length ≤ f →
    (∀ z ∈ ns, 2 ≤ z ∧ z < size) → ns.Nodup → (∀ z ∈ ns, z ∉ nm) → dataF rd size bytes f k ⟨numsB ns ++ t, true⟩ nm = (⟨k.data ++ ⟨l.toArray⟩, k.secs ++ ns⟩, ⟨t, true⟩, ns.reverse ++ nm)
  | [], l, k, t, nm, f, hc, hb, hf, hr, hn, hd => by
    have h0 : nCh l.length = 0 := by rw [← chunkB_len, ← hc]; rfl
    have hl : l = [] := List.length_eq_zero_iff.1 (nCh_zero h0)
    subst hl
    rw [dataF_stop (by rintro ⟨_, h⟩; simp at hb; omega), app_empty]
    simp [numsB]
  | z :: ns, l, k, t, nm, f, hc, hb, hf, hr, hn, hd => by
    have hl : l ≠ [] := by rintro rfl; rw [chunkB_nil] at hc; cases hc
    rw [chunkB_cons hl, List.map_cons, List.cons.injEq] at hc
    have hz := hr z (by simp)
    have hlen : 1 ≤ l.length := by cases l with | nil => exact absurd rfl hl | cons => simp
    match f, hf with
    | f + 1, hf =>
      rw [dataF, if_pos ⟨rfl, by omega⟩, numsB_cons ⟨by omega, by omega⟩, List.append_assoc, numF_of (by omega)]
      simp only
      have e : ((z.toNat : Nat) : Int) = z := by omega
      rw [e, if_pos ⟨trivial, by omega, hz.2, hd z (by simp)⟩]
      have hsize : (rd z).size = (l.take 64).length := by rw [← hc.1, bl_len]
      have hw : (((rd z).size : Int) = wantF bytes k) := by
        rw [hsize, List.length_take]
        unfold wantF
        split <;> omega
      rw [decide_eq_true hw]
      have hnd := List.nodup_cons.1 hn
      rw [dataF_read hsz ns (l.drop 64) ⟨k.data ++ rd z, k.secs ++ [z]⟩ t (z :: nm) f hc.2 (by simp only [ByteArray.size_append]; rw [hsize, List.length_take, List.length_drop]; omega) (by simp at hf; omega) (fun x hx => hr x (by simp [hx])) hnd.2
        fun x hx => by
          rw [List.mem_cons]; rintro (rfl | h)
          · exact hnd.1 hx
          · exact hd x (by simp [hx]) h]
      have e2 : k.data ++ rd z ++ (⟨(l.drop 64).toArray⟩ : ByteArray) = k.data ++ ⟨l.toArray⟩ := by
        apply bl_inj
        rw [bl_app, bl_app, bl_app, bl_mk (l.drop 64), bl_mk l, hc.1, List.append_assoc, List.take_append_drop]
      simp only [e2, List.reverse_cons, List.append_assoc, List.singleton_append]
theorem map_chunks {rd : Int → ByteArray} {ns : List Int} {d : ByteArray} (h : ns.map rd = chunksS d) : ns.map (fun z => bl (rd z)) = chunkB (bl d) := by
  have := congrArg (List.map bl) h
  rw [List.map_map] at this
  rw [show (fun z => bl (rd z)) = bl ∘ rd from rfl, this]
  unfold chunksS
  rw [List.map_map]
  conv => rhs; rw [← List.map_id (chunkB (bl d))]
  exact List.map_congr_left fun l _ => bl_mk l
theorem dataS_read {rd : Int → ByteArray} {size : Int} (hsz : size ≤ 512) {ns : List Int} {d : ByteArray} {t : List UInt8} {nm : List Int} {ok : Bool} (hok : ok = true) (h : ns.map rd = chunksS d) (hd : d.size ≤ 32768) (hr : ∀ z ∈ ns, 2 ≤ z ∧ z < size) (hn : ns.Nodup) (hdj : ∀ z ∈ ns, z ∉ nm) :
    dataS rd size d.size ⟨numsB ns ++ t, ok⟩ nm = (⟨d, ns⟩, ⟨t, true⟩, ns.reverse ++ nm) := by
  unfold dataS
  have hlen : ns.length = nCh d.size := by rw [← List.length_map (f := rd), h, chunksS_len]
  subst hok
  rw [decide_eq_true (by omega)]
  have := dataF_read (bytes := d.size) hsz ns (bl d) ⟨⟨#[]⟩, []⟩ t nm d.size (map_chunks h) (by rw [bl_len]; show ((0 : Nat) : Int) + _ = _; omega) (by rw [hlen]; unfold nCh; omega) hr hn hdj
  simp only [Bool.and_self] at this ⊢
  rw [this]
  have e : (⟨#[]⟩ : ByteArray) ++ ⟨(bl d).toArray⟩ = d := bl_inj (by rw [bl_app, bl_mk (bl d)]; rfl)
  rw [e]; rfl
theorem filesF_read {rd : Int → ByteArray} {size : Int} (hsz : size ≤ 512) {many : Nat} : ∀ (rest fs : List File10) (last : ByteArray) (nm : List Int) (f : Nat), many = fs.length + rest.length → rest.length ≤ f → (∀ x ∈ rest, rightP x.1 ∧ x.2.1.size ≤ 32768 ∧ x.2.2.map rd = chunksS x.2.1) →
    (last :: rest.map (·.1)).Pairwise (fun p q => ltS p q = true) → (∀ z ∈ rest.flatMap (·.2.2), 2 ≤ z ∧ z < size) → (rest.flatMap (·.2.2)).Nodup → (∀ z ∈ rest.flatMap (·.2.2), z ∉ nm) →
    filesF rd size many f fs last ⟨rest.flatMap fileB, true⟩ nm = (fs ++ rest, ⟨[], true⟩)
  | [], fs, last, nm, f, hm, hf, hx, hp, hr, hn, hd => by
    rw [filesF_stop (by rintro ⟨_, h⟩; simp at hm; omega)]
    simp
  | x :: rest, fs, last, nm, f, hm, hf, hx, hp, hr, hn, hd => by
    obtain ⟨h1, h2, h3⟩ := hx x (by simp)
    match f, hf with
    | f + 1, hf =>
      rw [filesF, if_pos ⟨rfl, by simp at hm; omega⟩]
      rw [List.flatMap_cons] at hr hn hd ⊢
      have hb : fileB x ++ rest.flatMap fileB = textL x.1 ++ (uintL x.2.1.size ++ (numsB x.2.2 ++ rest.flatMap fileB)) := by simp [fileB]
      rw [hb, nameF_of h1]
      simp only
      rw [numF_of (by omega)]
      simp only
      rw [List.map_cons, List.pairwise_cons] at hp
      have hlt := hp.1 x.1 (by simp)
      have hn' := List.nodup_append.1 hn
      rw [dataS_read hsz (by rw [hlt]; rfl) h3 h2 (fun z hz => hr z (List.mem_append_left _ hz)) hn'.1 (fun z hz => hd z (List.mem_append_left _ hz))]
      simp only
      rw [filesF_read hsz rest (fs ++ [(x.1, x.2.1, x.2.2)]) x.1 (x.2.2.reverse ++ nm) f (by simp at hm ⊢; omega) (by simp at hf; omega) (fun y hy => hx y (by simp [hy])) hp.2 (fun z hz => hr z (List.mem_append_right _ hz)) hn'.2.1
        (fun z hz => by
          rw [List.mem_append, List.mem_reverse]
          rintro (h | h)
          · exact hn'.2.2 z h z hz rfl
          · exact hd z (List.mem_append_right _ hz) h)]
      simp

/-- A root that stands there, with all that it names. -/
structure RootAt (rd : Int → ByteArray) (size slot : Int) (gen : Nat) (files : List File10) (dir : List Int) : Prop where
  top : rd slot = ⟨(uintL gen ++ uintL (dirB files).length ++ numsB dir).toArray⟩
  gen : 1 ≤ gen ∧ gen ≤ 1000000000 ∧ slot = (gen : Int) % 2
  sz : size ≤ 512
  dirC : dir.map rd = chunksS ⟨(dirB files).toArray⟩
  filC : ∀ f ∈ files, rightP f.1 ∧ f.2.1.size ≤ 32768 ∧ f.2.2.map rd = chunksS f.2.1
  nd : (dir ++ files.flatMap (·.2.2)).Nodup
  rng : ∀ z ∈ dir ++ files.flatMap (·.2.2), 2 ≤ z ∧ z < size
  asc : (files.map (·.1)).Pairwise (fun p q => ltS p q = true)
  dlen : (dirB files).length ≤ 1280
theorem dirB_pos (files : List File10) : 1 ≤ (dirB files).length := by
  rw [dirB_eq, List.length_append]
  have := uintL_pos files.length
  omega
theorem flat_len_le {α β : Type} (f : α → List β) {k : Nat} : ∀ (l : List α), (∀ x ∈ l, k ≤ (f x).length) → k * l.length ≤ (l.flatMap f).length
  | [], _ => by simp
  | x :: l, h => by
    have h1 := flat_len_le f l fun y hy => h y (by simp [hy])
    have h2 := h x (by simp)
    rw [List.flatMap_cons, List.length_append, List.length_cons, Nat.mul_succ]
    omega
theorem dirB_files {files : List File10} (h : ∀ f ∈ files, f.1.size ≠ 0) : 3 * files.length ≤ (dirB files).length := by
  rw [dirB_eq, List.length_append]
  have := flat_len_le fileB (k := 3) files fun f hf => by
    unfold fileB textL
    simp only [List.length_append]
    have := uintL_pos f.1.size
    have := uintL_pos f.2.1.size
    have := h f hf
    rw [bl_len]
    omega
  omega
theorem ltS_nil {s : ByteArray} (h : s.size ≠ 0) : ltS ⟨#[]⟩ s = true := by
  unfold ltS
  cases hb : bl s with
  | nil => have := bl_len s; rw [hb] at this; simp at this; omega
  | cons x l => rfl
theorem rootF_read {rd : Int → ByteArray} {size slot : Int} {gen : Nat} {files : List File10} {dir : List Int} (h : RootAt rd size slot gen files dir) : rootF rd size slot = (gen, files, dir) := by
  have hg := h.gen
  have hdl := h.dlen
  have hdp := dirB_pos files
  have hnd := List.nodup_append.1 h.nd
  unfold rootF
  rw [h.top, bl_mk (uintL gen ++ uintL (dirB files).length ++ numsB dir), List.append_assoc, numF_of (by omega)]
  simp only
  rw [numF_of (by omega)]
  simp only
  have ht : Int.tmod (gen : Int) 2 = slot := by rw [hg.2.2]; exact Int.tmod_eq_emod_of_nonneg (by omega)
  rw [if_neg (by rintro (h | h | h | h | h) <;> first | (cases h; done) | exact h ht | omega)]
  have hd := dataS_read (t := []) (nm := []) (ok := true) h.sz rfl h.dirC (by rw [mk_size]; omega) (fun z hz => h.rng z (List.mem_append_left _ hz)) hnd.1 (fun z _ => by simp)
  rw [mk_size, List.append_nil] at hd
  rw [hd]
  simp only
  rw [if_neg (by simp), bl_mk (dirB files), dirB_eq, numF_of (by
    have h1 := flat_len_le fileB (k := 1) files fun f _ => by unfold fileB textL; simp only [List.length_append]; have := uintL_pos f.1.size; omega
    rw [dirB_eq, List.length_append] at hdl
    omega)]
  simp only
  rw [filesF_read h.sz files [] (⟨#[]⟩ : ByteArray) _ files.length (by simp) (Nat.le_refl _) h.filC (by
      rw [List.pairwise_cons]
      refine ⟨fun q hq => ?_, h.asc⟩
      obtain ⟨f, hf, rfl⟩ := List.mem_map.1 hq
      exact ltS_nil (h.filC f hf).1.2.1) (fun z hz => h.rng z (List.mem_append_right _ hz)) hnd.2.1 (fun z hz => by
        rw [List.append_nil, List.mem_reverse]
        intro hz'
        exact hnd.2.2 z hz' z hz rfl)]
  simp
end Go.Proofs
set_option linter.unusedVariables false
set_option maxRecDepth 100000
open Go Go.GV
namespace Go.Proofs

/-! what a plan lays down, and where -/
theorem takeM_puts {t : Tk} {c : ByteArray} {q : Int × ByteArray} (h : q ∈ t.puts) : q ∈ (takeM t c).1.puts := by
  unfold takeM
  split
  · exact h
  · exact List.mem_append_left _ h
theorem takesM_puts : ∀ {l : List ByteArray} {t : Tk} {q : Int × ByteArray}, q ∈ t.puts → q ∈ (takesM l t).1.puts
  | [], _, _, h => h
  | c :: l, t, q, h => takesM_puts (l := l) (takeM_puts h)
theorem fileM_puts {old : List ByteArray} {ws : List Int} : ∀ {l : List ByteArray} {j : Nat} {t : Tk} {q : Int × ByteArray}, q ∈ t.puts → q ∈ (fileM old ws l j t).1.puts
  | [], _, _, _, h => h
  | c :: l, j, t, q, h => by
    simp only [fileM]
    refine fileM_puts (l := l) ?_
    split
    · exact h
    · exact takeM_puts h
theorem filesM_puts {last : ByteArray → Option (ByteArray × List Int)} {now : ByteArray → Option ByteArray} : ∀ {l : List ByteArray} {t : Tk} {q : Int × ByteArray}, q ∈ t.puts → q ∈ (filesM last now l t).1.puts
  | [], _, _, h => h
  | y :: l, t, q, h => filesM_puts (l := l) (fileM_puts h)
theorem takesM_read {rd : Int → ByteArray} : ∀ {l : List ByteArray} {t : Tk}, (takesM l t).1.fits = true → (∀ q ∈ (takesM l t).1.puts, rd q.1 = q.2) → (takesM l t).2.map rd = l
  | [], _, _, _ => rfl
  | c :: l, t, hf, h => by
    have ih := takesM_read (l := l) hf h
    obtain ⟨_, x, r, h2, h3⟩ := takeM_fits (takesM_fits (l := l) hf)
    simp only [takesM, List.map_cons]
    rw [ih]
    congr 1
    have : (x, c) ∈ (takeM t c).1.puts := by rw [h3]; simp
    have := h _ (takesM_puts (l := l) this)
    rw [h3]; exact this
theorem fileM_read {rd : Int → ByteArray} {old : List ByteArray} {ws : List Int} (hw : ws.map rd = old) : ∀ {l : List ByteArray} {j : Nat} {t : Tk}, (fileM old ws l j t).1.fits = true → (∀ q ∈ (fileM old ws l j t).1.puts, rd q.1 = q.2) → (fileM old ws l j t).2.map rd = l
  | [], _, _, _, _ => rfl
  | c :: l, j, t, hf, h => by
    have ih := fileM_read hw (l := l) hf h
    have hf2 := fileM_fits (l := l) hf
    simp only [fileM, List.map_cons]
    rw [ih]
    congr 1
    by_cases hc : old[j]? = some c
    · rw [if_pos hc]
      have e := hc
      rw [← hw, List.getElem?_map] at e
      cases hz : ws[j]? with
      | none => rw [hz] at e; cases e
      | some z =>
        rw [hz] at e
        simp only [List.getD, hz, Option.getD_some]
        exact Option.some.inj e
    · rw [if_neg hc] at hf2 ⊢
      obtain ⟨_, x, r, h2, h3⟩ := takeM_fits hf2
      have hx : (x, c) ∈ (takeM t c).1.puts := by rw [h3]; simp
      simp only [fileM] at h
      rw [if_neg hc] at h
      have := h _ (fileM_puts (l := l) hx)
      rw [h3]; exact this
theorem filesM_read {rd : Int → ByteArray} {last : ByteArray → Option (ByteArray × List Int)} {now : ByteArray → Option ByteArray} (hl : ∀ y d xs, last y = some (d, xs) → xs.map rd = chunksS d) : ∀ {l : List ByteArray} {t : Tk}, (filesM last now l t).1.fits = true → (∀ q ∈ (filesM last now l t).1.puts, rd q.1 = q.2) →
    ∀ f ∈ (filesM last now l t).2, f.2.2.map rd = chunksS f.2.1
  | [], _, _, _, f, hf => by simp [filesM] at hf
  | y :: l, t, hf, h, f, hm => by
    simp only [filesM] at hm
    rcases List.mem_cons.1 hm with e | e
    · subst e
      refine fileM_read ?_ (filesM_fits (l := l) hf) fun q hq => h q (filesM_puts (l := l) hq)
      cases hy : last y with
      | none => rfl
      | some v => exact hl y v.1 v.2 hy
    · exact filesM_read hl (l := l) hf h f e
theorem takesM_free : ∀ {l : List ByteArray} {t : Tk}, (takesM l t).1.fits = true → (takesM l t).2 ++ (takesM l t).1.free = t.free
  | [], _, _ => rfl
  | c :: l, t, hf => by
    have ih := takesM_free (l := l) hf
    obtain ⟨_, x, r, h2, h3⟩ := takeM_fits (takesM_fits (l := l) hf)
    rw [h3] at ih
    simp only [takesM, h3, h2]
    rw [List.cons_append]
    congr 1
theorem fileM_nodup {old : List ByteArray} {ws : List Int} (hw : ws.length = old.length) (hn : ws.Nodup) : ∀ {l : List ByteArray} {j : Nat} {t : Tk}, (fileM old ws l j t).1.fits = true → t.free.Nodup → (∀ z ∈ ws, z ∉ t.free) →
    ∃ tk, t.free = tk ++ (fileM old ws l j t).1.free ∧ (fileM old ws l j t).2.Nodup ∧ ∀ z ∈ (fileM old ws l j t).2, z ∈ tk ∨ z ∈ ws.drop j
  | [], _, t, _, _, _ => ⟨[], rfl, List.nodup_nil, by simp [fileM]⟩
  | c :: l, j, t, hf, hfn, hd => by
    have hf2 := fileM_fits (l := l) hf
    simp only [fileM] at hf ⊢
    by_cases hc : old[j]? = some c
    · rw [if_pos hc] at hf hf2 ⊢
      have hj : j < ws.length := by rw [hw]; exact (List.getElem?_eq_some_iff.1 hc).1
      obtain ⟨tk, h1, h2, h3⟩ := fileM_nodup hw hn (l := l) (j := j + 1) hf hfn hd
      have hdr : ws.drop j = ws[j] :: ws.drop (j + 1) := List.drop_eq_getElem_cons hj
      have hg : ws.getD j 0 = ws[j] := by simp [List.getD, hj]
      refine ⟨tk, h1, ?_, ?_⟩
      · rw [List.nodup_cons]
        refine ⟨fun hm => ?_, h2⟩
        simp only [hg] at hm
        rcases h3 _ hm with h | h
        · exact hd ws[j] (List.getElem_mem hj) (by rw [h1]; exact List.mem_append_left _ h)
        · have := hn.sublist (List.drop_sublist j ws)
          rw [hdr, List.nodup_cons] at this
          exact this.1 h
      · intro z hz
        rcases List.mem_cons.1 hz with e | e
        · right; rw [e, hdr]; show ws.getD j 0 ∈ _; rw [hg]; exact List.mem_cons_self
        · exact (h3 z e).imp id fun h => by rw [hdr]; exact List.mem_cons_of_mem _ h
    · rw [if_neg hc] at hf hf2 ⊢
      obtain ⟨_, x, r, h2, h3⟩ := takeM_fits hf2
      rw [h3] at hf ⊢
      rw [h2] at hfn hd ⊢
      have hfn' := List.nodup_cons.1 hfn
      obtain ⟨tk, h4, h5, h6⟩ := fileM_nodup hw hn (l := l) (j := j + 1) hf hfn'.2 fun z hz hr => hd z hz (by simp [hr])
      simp only at h4
      refine ⟨x :: tk, by rw [List.cons_append]; exact congrArg _ h4, ?_, ?_⟩
      · rw [List.nodup_cons]
        refine ⟨fun hm => ?_, h5⟩
        rcases h6 _ hm with h | h
        · exact hfn'.1 (by rw [h4]; exact List.mem_append_left _ h)
        · exact hd x (List.mem_of_mem_drop h) (by simp)
      · intro z hz
        rcases List.mem_cons.1 hz with e | e
        · left; rw [e]; simp
        · rcases h6 z e with h | h
          · left; simp [h]
          · right
            have := List.drop_subset_drop_left (l := ws) (i := j) (j := j + 1) (by omega)
            exact this h
/-- The files that last share nothing. -/
structure LastN (last : ByteArray → Option (ByteArray × List Int)) : Prop where
  nd : ∀ y d xs, last y = some (d, xs) → xs.Nodup
  dj : ∀ y d xs y' d' xs', last y = some (d, xs) → last y' = some (d', xs') → y ≠ y' → ∀ z ∈ xs, z ∉ xs'
theorem filesM_nodup {last : ByteArray → Option (ByteArray × List Int)} {now : ByteArray → Option ByteArray} (hl : LastOk last) (hN : LastN last) : ∀ {l : List ByteArray} {t : Tk}, l.Nodup → (filesM last now l t).1.fits = true → t.free.Nodup → (∀ z, lastS last [] z → z ∉ t.free) →
    ∃ tk, t.free = tk ++ (filesM last now l t).1.free ∧ ((filesM last now l t).2.flatMap (·.2.2)).Nodup ∧ ∀ z ∈ (filesM last now l t).2.flatMap (·.2.2), z ∈ tk ∨ ∃ y ∈ l, ∃ d xs, last y = some (d, xs) ∧ z ∈ xs
  | [], t, _, _, _, _ => ⟨[], rfl, List.nodup_nil, by simp [filesM]⟩
  | y :: l, t, hln, hf, hfn, hd => by
    have hln' := List.nodup_cons.1 hln
    have hf2 := filesM_fits (l := l) hf
    have hw : (((last y).getD (⟨#[]⟩, [])).2).length = (chunksS ((last y).getD (⟨#[]⟩, [])).1).length := by
      rw [chunksS_len]
      cases hy : last y with
      | none => rfl
      | some v => exact hl y v.1 v.2 hy
    have hmem : ∀ z ∈ ((last y).getD (⟨#[]⟩, [])).2, ∃ d xs, last y = some (d, xs) ∧ z ∈ xs := fun z hz => by
      cases hy : last y with
      | none => rw [hy] at hz; simp at hz
      | some v => rw [hy] at hz; exact ⟨v.1, v.2, rfl, hz⟩
    have hwn : ((last y).getD (⟨#[]⟩, [])).2.Nodup := by
      cases hy : last y with
      | none => exact List.nodup_nil
      | some v => exact hN.nd y v.1 v.2 hy
    obtain ⟨tk, h1, h2, h3⟩ := fileM_nodup hw hwn (l := chunksS ((now y).getD ⟨#[]⟩)) (j := 0) hf2 hfn fun z hz => by
      obtain ⟨d, xs, e1, e2⟩ := hmem z hz
      exact hd z (.inr ⟨y, d, xs, e1, e2⟩)
    simp only [filesM] at hf ⊢
    generalize fileM (chunksS ((last y).getD (⟨#[]⟩, [])).1) ((last y).getD (⟨#[]⟩, [])).2 (chunksS ((now y).getD ⟨#[]⟩)) 0 t = x at *
    have hxn : x.1.free.Nodup := by rw [h1] at hfn; exact (List.nodup_append.1 hfn).2.1
    obtain ⟨tk2, h4, h5, h6⟩ := filesM_nodup hl hN (l := l) (t := x.1) hln'.2 hf hxn fun z hz hx => hd z hz (by rw [h1]; exact List.mem_append_right _ hx)
    refine ⟨tk ++ tk2, by rw [h1, List.append_assoc, ← h4], ?_, ?_⟩
    · rw [List.flatMap_cons, List.nodup_append]
      refine ⟨h2, h5, ?_⟩
      rintro a ha b hb rfl
      have hb' := h6 a hb
      rcases h3 a ha with h | h
      · rcases hb' with h' | ⟨y', hy', d, xs, e1, e2⟩
        · rw [h1, List.nodup_append] at hfn
          exact hfn.2.2 a h a (by rw [h4]; exact List.mem_append_left _ h') rfl
        · exact hd a (.inr ⟨y', d, xs, e1, e2⟩) (by rw [h1]; exact List.mem_append_left _ h)
      · obtain ⟨d0, xs0, e3, e4⟩ := hmem a (List.mem_of_mem_drop h)
        rcases hb' with h' | ⟨y', hy', d, xs, e1, e2⟩
        · exact hd a (.inr ⟨y, d0, xs0, e3, e4⟩) (by rw [h1, h4]; exact List.mem_append_right _ (List.mem_append_left _ h'))
        · exact hN.dj y d0 xs0 y' d xs e3 e1 (fun e => hln'.1 (e ▸ hy')) a e4 e2
    · intro z hz
      rw [List.flatMap_cons] at hz
      rcases List.mem_append.1 hz with hz | hz
      · rcases h3 z hz with h | h
        · exact .inl (List.mem_append_left _ h)
        · obtain ⟨d0, xs0, e3, e4⟩ := hmem z (List.mem_of_mem_drop h)
          exact .inr ⟨y, by simp, d0, xs0, e3, e4⟩
      · rcases h6 z hz with h | ⟨y', hy', r⟩
        · exact .inl (List.mem_append_right _ h)
        · exact .inr ⟨y', by simp [hy'], r⟩
/-- A plan that fits: nothing stands twice, and all is read of a disk that has its puts, and what lasted. -/
theorem planM_laid {size : Int} {last : ByteArray → Option (ByteArray × List Int)} {dir : List Int} {now : ByteArray → Option ByteArray} {ys : List ByteArray} (hl : LastOk last) (hN : LastN last) (hy : ys.Nodup) (hf : (planM size last dir now ys).fits = true) :
    ((planM size last dir now ys).dirS ++ (planM size last dir now ys).files.flatMap (·.2.2)).Nodup ∧ ((planM size last dir now ys).tk.puts.map (·.1)).Nodup ∧
    ∀ rd : Int → ByteArray, (∀ y d xs, last y = some (d, xs) → xs.map rd = chunksS d) → (∀ q ∈ (planM size last dir now ys).tk.puts, rd q.1 = q.2) →
      (planM size last dir now ys).dirS.map rd = chunksS ⟨(dirB (planM size last dir now ys).files).toArray⟩ ∧ ∀ f ∈ (planM size last dir now ys).files, f.2.2.map rd = chunksS f.2.1 := by
  unfold planM at hf ⊢
  simp only at hf ⊢
  generalize ht0 : ({ free := freeN (lastS last dir) size.toNat, puts := [], need := 0, fits := true } : Tk) = t0 at hf ⊢
  simp only [Bool.and_eq_true, decide_eq_true_eq] at hf
  obtain ⟨⟨h1, _⟩, _⟩ := hf
  have hI0 : TkI (freeN (lastS last dir) size.toNat) t0 := fun _ => by subst ht0; simp
  have hI := (hI0.files (last := last) (now := now) (l := ys)).takes (l := chunksS ⟨(dirB (filesM last now ys t0).2).toArray⟩) h1
  have hf1 := takesM_fits h1
  have hfn : t0.free.Nodup := by subst ht0; exact freeN_nodup _ _
  have hnot : ∀ z, lastS last dir z → z ∉ t0.free := fun z hz hm => by subst ht0; exact (freeN_mem.1 hm).2.2 hz
  obtain ⟨tk, h4, h5, h6⟩ := filesM_nodup hl hN (now := now) (l := ys) (t := t0) hy hf1 hfn fun z hz => hnot z (.inr (hz.elim (fun h => by simp at h) id))
  have hft := takesM_free h1
  refine ⟨?_, ?_, fun rd hr hp => ⟨takesM_read h1 hp, filesM_read hr hf1 fun q hq => hp q (takesM_puts hq)⟩⟩
  · rw [List.nodup_append]
    have hxn : (filesM last now ys t0).1.free.Nodup := by rw [h4] at hfn; exact (List.nodup_append.1 hfn).2.1
    refine ⟨by rw [← hft] at hxn; exact (List.nodup_append.1 hxn).1, h5, ?_⟩
    rintro a ha b hb rfl
    have ha' : a ∈ (filesM last now ys t0).1.free := by rw [← hft]; exact List.mem_append_left _ ha
    rcases h6 a hb with h | ⟨y, _, d, xs, e1, e2⟩
    · rw [h4, List.nodup_append] at hfn
      exact hfn.2.2 a h a ha' rfl
    · exact hnot a (.inr ⟨y, d, xs, e1, e2⟩) (by rw [h4]; exact List.mem_append_right _ ha')
  · have := freeN_nodup (lastS last dir) size.toNat
    rw [← hI.1, List.nodup_append] at this
    exact this.1
end Go.Proofs
set_option linter.unusedVariables false
set_option maxRecDepth 100000
open Go Go.GV
namespace Go.Proofs

/-! what is on a disk behind a laying, wherever the power goes -/
def forI (l : List (Int × ByteArray)) (i : Nat) : List ByteArray := (l.filter fun p => decide (p.1 = (i : Int))).map (·.2)
theorem setl_mem (pk : Nat → Nat → Nat) (m : Dk) (i : Nat) : setl pk m i = m.is i ∨ setl pk m i ∈ m.wait (i : Int) := by
  unfold setl
  split
  · exact .inl rfl
  · simp only
    split
    · cases h : (m.wait (i : Int))[pk (rank m i) (m.wait (i : Int)).length - 1]? with
      | none => exact .inl rfl
      | some x => exact .inr (List.mem_of_getElem? h)
    · exact .inl rfl
theorem setl_all (m : Dk) (i : Nat) : setl (fun _ n => n) m i = ((m.wait (i : Int)).getLast?).getD (m.is i) := by
  unfold setl
  split
  · rename_i h; rw [h]; rfl
  · rename_i h
    have : 0 < (m.wait (i : Int)).length := List.length_pos_iff.2 h
    simp only
    rw [if_pos this, List.getLast?_eq_getElem?]
/-- What a laying comes to: all is there, or the power is gone and each sector is as it was or as one of its texts has it. -/
def Laid (is0 : Nat → ByteArray) (ps : Nat → List ByteArray) (x : Dk × Int) : Prop :=
  (∀ i, x.1.wait i = []) ∧ ((x.2 = 0 ∧ x.1.off = false ∧ ∀ i, x.1.is i = ((ps i).getLast?).getD (is0 i)) ∨ (x.2 = 90 ∧ x.1.off = true ∧ ∀ i, x.1.is i = is0 i ∨ x.1.is i ∈ ps i))
theorem crash_laid {m : Dk} {keep : Int} (h : m.off = false) : Laid m.is (fun i => m.wait (i : Int)) (crashM keep m, 90) := by
  unfold crashM
  rw [if_neg (by simp [h])]
  exact ⟨fun i => rfl, .inr ⟨rfl, rfl, fun i => setl_mem _ m i⟩⟩
theorem lay_any : ∀ (l : List (Int × ByteArray)) (m : Dk), m.off = false → (∀ p ∈ l, 0 ≤ p.1 ∧ p.1 < m.size ∧ p.2.size ≤ 64) → Laid m.is (fun i => m.wait (i : Int) ++ forI l i) (layM m l)
  | [], m, ho, _ => by
    have e : (fun i : Nat => m.wait (i : Int) ++ forI [] i) = fun i : Nat => m.wait (i : Int) := by funext i; simp [forI]
    rw [e]
    unfold layM flushM
    rw [if_neg (by simp [ho])]
    unfold lastM
    split
    · simp only [Bool.false_eq_true, if_false]
      refine ⟨fun i => rfl, .inl ⟨rfl, ho, fun i => ?_⟩⟩
      exact setl_all _ i
    · simp only [if_true]
      exact crash_laid (m := { m with calls := m.calls + 1 }) ho
  | p :: l, m, ho, hp => by
    have h0 := hp p (by simp)
    have hw : ∀ i : Nat, setW m.wait p.1 (m.wait p.1 ++ [p.2]) (i : Int) ++ forI l i = m.wait (i : Int) ++ forI (p :: l) i := fun i => by
      unfold setW forI
      rw [List.filter_cons]
      by_cases h : (i : Int) = p.1
      · rw [if_pos h, if_pos (by simp [h]), h]; simp
      · rw [if_neg h, if_neg (by simpa using fun e => h e.symm)]
    unfold layM
    have hwr : writeM m p.1 p.2 = ((lastM { m with wait := setW m.wait p.1 (m.wait p.1 ++ [p.2]) }).1, if (lastM { m with wait := setW m.wait p.1 (m.wait p.1 ++ [p.2]) }).2 then 90 else 0) := by
      unfold writeM
      rw [if_neg (by simp [ho]), if_neg (by omega)]
    rw [hwr]
    unfold lastM
    by_cases hl : m.left ≠ 1
    · simp only [if_pos hl, Bool.false_eq_true, if_false, ne_eq, not_true_eq_false]
      have ih := lay_any l { m with wait := setW m.wait p.1 (m.wait p.1 ++ [p.2]), calls := m.calls + 1, left := if 0 > m.left - 1 then 0 else m.left - 1 } ho fun q hq => hp q (by simp [hq])
      have e : (fun i : Nat => m.wait (i : Int) ++ forI (p :: l) i) = fun i : Nat => setW m.wait p.1 (m.wait p.1 ++ [p.2]) (i : Int) ++ forI l i := funext fun i => (hw i).symm
      rw [e]
      exact ih
    · simp only [if_neg hl, if_true, ne_eq]
      rw [if_pos (by decide)]
      have h := crash_laid (m := { m with wait := setW m.wait p.1 (m.wait p.1 ++ [p.2]), calls := m.calls + 1 }) (keep := m.keep) ho
      refine ⟨h.1, .inr ?_⟩
      rcases h.2 with h | h
      · exact absurd h.1 (by decide : ¬ (90 : Int) = 0)
      · refine ⟨rfl, h.2.1, fun i => (h.2.2 i).imp id fun hm => ?_⟩
        show _ ∈ m.wait (i : Int) ++ forI (p :: l) i
        rw [← hw i]
        exact List.mem_append_left _ hm
theorem forI_none {l : List (Int × ByteArray)} {i : Nat} (h : (i : Int) ∉ l.map (·.1)) : forI l i = [] := by
  unfold forI
  rw [List.map_eq_nil_iff, List.filter_eq_nil_iff]
  intro p hp he
  exact h (by rw [← (by simpa using he : p.1 = (i : Int))]; exact List.mem_map_of_mem hp)
theorem forI_one : ∀ {l : List (Int × ByteArray)} {q : Int × ByteArray} {i : Nat}, (l.map (·.1)).Nodup → q ∈ l → q.1 = (i : Int) → forI l i = [q.2]
  | [], _, _, _, h, _ => by simp at h
  | p :: l, q, i, hn, hq, he => by
    rw [List.map_cons, List.nodup_cons] at hn
    unfold forI
    rw [List.filter_cons]
    rcases List.mem_cons.1 hq with e | e
    · subst e
      rw [if_pos (by simp [he])]
      have := forI_none (l := l) (i := i) (by rw [← he]; exact hn.1)
      unfold forI at this
      rw [List.map_cons, this]
    · have hne : ¬ p.1 = (i : Int) := fun h => hn.1 (by rw [h, ← he]; exact List.mem_map_of_mem e)
      rw [if_neg (by simpa using hne)]
      exact forI_one hn.2 e he

/-! what a disk's roots say -/
theorem numF_le' (x : Sc) : (numF x).1 ≤ 1152921504606846976 := by
  unfold numF
  split
  · split
    · rename_i h; exact h.1
    · exact Nat.zero_le _
  · exact Nat.zero_le _
theorem rootF_gen {rd : Int → ByteArray} {size slot : Int} : (rootF rd size slot).1 = 0 ∨ ((rootF rd size slot).1 = (numF ⟨bl (rd slot), true⟩).1 ∧ Int.tmod ((rootF rd size slot).1 : Int) 2 = slot) := by
  unfold rootF
  simp only
  split
  · exact .inl rfl
  · rename_i h1
    split
    · exact .inl rfl
    · split
      · exact .inl rfl
      · refine .inr ⟨rfl, ?_⟩
        simp only [not_or] at h1
        exact Decidable.not_not.1 h1.2.2.1
theorem curF_zero {rd : Int → ByteArray} {size : Int} (h : ∀ slot : Int, 0 ≤ slot → slot < 2 → (rootF rd size slot).1 = 0) : curF rd size 2 = (0, [], []) := by
  have h0 := h 0 (by decide) (by decide)
  have h1 := h 1 (by decide) (by decide)
  have e0 : ((0 : Nat) : Int) = 0 := rfl
  have e1 : ((1 : Nat) : Int) = 1 := rfl
  simp only [curF, e0, e1, h0, h1]
  simp
theorem curF_of {rd : Int → ByteArray} {size slot : Int} {gen : Nat} {files : List File10} {dir : List Int} (hs : 0 ≤ slot ∧ slot < 2) (hg : 1 ≤ gen) (hr : rootF rd size slot = (gen, files, dir)) (hl : ∀ s : Int, 0 ≤ s → s < 2 → s ≠ slot → (rootF rd size s).1 < gen) : curF rd size 2 = (gen, files, dir) := by
  have e0 : ((0 : Nat) : Int) = 0 := rfl
  have e1 : ((1 : Nat) : Int) = 1 := rfl
  have : slot = 0 ∨ slot = 1 := by omega
  rcases this with rfl | rfl
  · have h1 := hl 1 (by decide) (by decide) (by decide)
    simp only [curF, e0, e1, hr]
    have e : (if gen > 0 then (gen, files, dir) else ((0, [], []) : Nat × List File10 × List Int)) = (gen, files, dir) := if_pos (by omega)
    rw [e]
    exact if_neg (by show ¬ _ > gen; omega)
  · have h0 := hl 0 (by decide) (by decide) (by decide)
    simp only [curF, e0, e1, hr]
    rw [if_pos]
    split
    · exact h0
    · show gen > 0; omega
/-- A store as it lasts. -/
def reop (st : Sto) : Sto := { st with now := fun y => (st.last y).map (·.1), bad := false }
structure Inv (st : Sto) (size : Int) (is : Nat → ByteArray) : Prop where
  low : ∀ slot : Int, 0 ≤ slot → slot < 2 → ((numF ⟨bl (is slot.toNat), true⟩).1 : Int) ≤ st.gen
  root : (st.gen = 0 ∧ st.last = (fun _ => none) ∧ st.dir = []) ∨ (1 ≤ st.gen ∧ ∃ files, RootAt (fun i => is i.toNat) size (st.gen % 2) st.gen.toNat files st.dir ∧ st.last = lastOf files)
theorem RootAt.congr {rd rd' : Int → ByteArray} {size slot : Int} {gen : Nat} {files : List File10} {dir : List Int} (h : RootAt rd size slot gen files dir) (h1 : rd' slot = rd slot) (h2 : ∀ z ∈ dir ++ files.flatMap (·.2.2), rd' z = rd z) : RootAt rd' size slot gen files dir :=
  ⟨by rw [h1]; exact h.top, h.gen, h.sz, by rw [← h.dirC]; exact List.map_congr_left fun z hz => h2 z (List.mem_append_left _ hz),
    fun f hf => ⟨(h.filC f hf).1, (h.filC f hf).2.1, by rw [← (h.filC f hf).2.2]; exact List.map_congr_left fun z hz => h2 z (List.mem_append_right _ (List.mem_flatMap.2 ⟨f, hf, hz⟩))⟩, h.nd, h.rng, h.asc, h.dlen⟩
theorem nodup_lt' {l : List ByteArray} (h : l.Pairwise (fun p q => ltS p q = true)) : l.Nodup := nodup_lt h
theorem RootAt.names {rd : Int → ByteArray} {size slot : Int} {gen : Nat} {files : List File10} {dir : List Int} (h : RootAt rd size slot gen files dir) : (files.map (·.1)).Nodup := nodup_lt h.asc
theorem Inv.last {st : Sto} {size : Int} {is : Nat → ByteArray} (h : Inv st size is) : LastN st.last ∧ (∀ y d xs, st.last y = some (d, xs) → xs.map (fun i => is i.toNat) = chunksS d) := by
  rcases h.root with ⟨_, h2, _⟩ | ⟨_, files, hr, he⟩
  · rw [h2]
    exact ⟨⟨(fun y d xs e => nomatch e), (fun y d xs _ _ _ e => nomatch e)⟩, (fun y d xs e => nomatch e)⟩
  · have hm := lastOf_mem files hr.names
    have hfn : (files.flatMap (·.2.2)).Nodup := (List.nodup_append.1 hr.nd).2.1
    have hpw : ∀ (l : List File10), (l.flatMap (·.2.2)).Nodup → (∀ x ∈ l, x.2.2.Nodup) ∧ ∀ x ∈ l, ∀ y ∈ l, x ≠ y → ∀ z ∈ x.2.2, z ∉ y.2.2 := by
      intro l
      induction l with
      | nil => intro _; exact ⟨by simp, by simp⟩
      | cons a l ih =>
        intro hn
        rw [List.flatMap_cons, List.nodup_append] at hn
        have ih' := ih hn.2.1
        refine ⟨fun x hx => ?_, fun x hx y hy hne z hz hz' => ?_⟩
        · rcases List.mem_cons.1 hx with e | e
          · rw [e]; exact hn.1
          · exact ih'.1 x e
        · rcases List.mem_cons.1 hx with e | e <;> rcases List.mem_cons.1 hy with e' | e'
          · exact hne (e.trans e'.symm)
          · exact hn.2.2 z (e ▸ hz) z (List.mem_flatMap.2 ⟨y, e', hz'⟩) rfl
          · exact hn.2.2 z (e' ▸ hz') z (List.mem_flatMap.2 ⟨x, e, hz⟩) rfl
          · exact ih'.2 x e y e' hne z hz hz'
    have hp := hpw files hfn
    rw [he]
    refine ⟨⟨fun y d xs e => hp.1 _ ((hm y (d, xs)).1 e), fun y d xs y' d' xs' e e' hne z hz hz' => hp.2 _ ((hm y (d, xs)).1 e) _ ((hm y' (d', xs')).1 e') (fun h => hne (congrArg Prod.fst h)) z hz hz'⟩, fun y d xs e => (hr.filC _ ((hm y (d, xs)).1 e)).2.2⟩
theorem gU_nil : gU [] = none := gU_none fun n _ t h => by
  have := uintL_pos n
  have h2 := congrArg List.length h
  rw [List.length_append] at h2
  simp at h2
  omega
theorem inv_new (size : Int) : Inv stoNew size fun _ => ⟨#[]⟩ :=
  ⟨fun slot _ _ => by
    show ((numF ⟨[], true⟩).1 : Int) ≤ 0
    unfold numF
    rw [gU_nil]
    exact Int.le_refl _, .inl ⟨rfl, rfl, rfl⟩⟩
/-- What is opened of a disk. -/
theorem open_inv {st : Sto} {m : Dk} (h : Inv st m.size m.is) (hw : ∀ i, m.wait i = []) (ho : m.off = false) (hs : 8 ≤ m.size) : stoOf (openF m) = reop st ∧ (openF m).2.1.length ≤ 427 := by
  have hrd : ∀ i : Int, 0 ≤ i → i < m.size → (rdM m i).1 = m.is i.toNat := fun i h0 h1 => by
    unfold rdM
    rw [if_neg (by simp [ho]), if_neg (by omega), hw]
    rfl
  have hlow : ∀ slot : Int, 0 ≤ slot → slot < 2 → (((rootF (fun i => (rdM m i).1) m.size slot).1 : Nat) : Int) ≤ st.gen := fun slot h0 h1 => by
    rcases rootF_gen (rd := fun i => (rdM m i).1) (size := m.size) (slot := slot) with e | ⟨e, _⟩
    · rw [e]
      rcases h.root with ⟨e2, _⟩ | ⟨e2, _⟩ <;> omega
    · rw [e]
      have := h.low slot h0 h1
      rw [hrd slot h0 (by omega)]
      exact this
  unfold openF
  rcases h.root with ⟨e1, e2, e3⟩ | ⟨hg, files, hr, he⟩
  · rw [curF_zero fun slot h0 h1 => by have := hlow slot h0 h1; omega]
    refine ⟨?_, by simp⟩
    unfold stoOf reop
    rw [e1, e2, e3]
    rfl
  · have hr' : RootAt (fun i => (rdM m i).1) m.size (st.gen % 2) st.gen.toNat files st.dir := hr.congr (hrd _ (by omega) (by omega)) fun z hz => hrd z (by have := hr.rng z hz; omega) (by have := hr.rng z hz; omega)
    have hf := rootF_read hr'
    have := curF_of (slot := st.gen % 2) ⟨by omega, by omega⟩ (by omega) hf fun s h0 h1 hne => by
      have hle := hlow s h0 h1
      rcases rootF_gen (rd := fun i => (rdM m i).1) (size := m.size) (slot := s) with e | ⟨_, e⟩
      · omega
      · rw [Int.tmod_eq_emod_of_nonneg (by omega)] at e
        by_cases hx : ((rootF (fun i => (rdM m i).1) m.size s).1 : Int) = st.gen
        · rw [hx] at e; exact absurd e.symm hne
        · omega
    rw [this]
    refine ⟨?_, ?_⟩
    · unfold stoOf reop
      rw [he]
      have : ((st.gen.toNat : Nat) : Int) = st.gen := by omega
      simp only [this]
    · have h1 := dirB_files (files := files) fun f hf => (hr.filC f hf).1.2.1
      have := hr.dlen
      show files.length ≤ 427
      omega
end Go.Proofs
set_option linter.unusedVariables false
set_option maxRecDepth 100000
open Go Go.GV
namespace Go.Proofs

/-! a Sync, wherever the power goes -/
theorem Good.on {st : Sto} {m m' : Dk} {B G : Nat} (h : Good st m B G) (hd : DkOk m') (hs : m'.size = m.size) : Good st m' B G :=
  ⟨hd, by rw [hs]; exact h.sz, h.bad, by rw [hs]; exact h.fits, h.now, h.last, by rw [hs]; exact h.rng, h.gen, h.dir⟩
/-- What a store is behind a Sync that had something to do. -/
noncomputable def newS (st : Sto) (size : Int) : Sto := { st with last := lastOf (planN size st st.now).files, dir := (planN size st st.now).dirS, gen := st.gen + 1, bad := false }
theorem syncM_fine {st : Sto} {m : Dk} {B G : Nat} (h : Good st m B G) (hG : G + 1 ≤ 1000000000) (hs : ¬ sameP st) : (syncM st m).1 = newS st m.size := by
  have hno : ¬ (st.bad = true ∨ m.off = true) := by simp [h.bad, h.dk.off]
  unfold syncM
  rw [if_neg hno, if_neg hs]
  have hp := h.planOk h.fits
  have hsz := h.sz
  have hl1 := lay_fine (planN m.size st st.now).tk.puts m h.dk fun q hq => by
    have := hp.put q hq
    exact ⟨this.1, this.2.1, this.2.2.1⟩
  rw [if_neg (by simp [hl1.1])]
  have hsize1 := lay_size (planN m.size st st.now).tk.puts m
  have hgen := h.gen
  have hg2 : (st.gen + 1).tmod 2 = (st.gen + 1) % 2 := Int.tmod_eq_emod_of_nonneg (by omega)
  have htop := top_small (st := st) hp hsz.2 (by omega)
  have hl2 := lay_fine [((st.gen + 1).tmod 2, (⟨(topB st (planN m.size st st.now)).toArray⟩ : ByteArray))] (layM m (planN m.size st st.now).tk.puts).1 hl1.2.1 fun q hq => by
    rw [List.mem_singleton] at hq
    subst hq
    rw [hg2, mk_size, hsize1]
    omega
  rw [if_neg (by simp [hl2.1])]
  rfl
theorem good_new_s {st : Sto} {m : Dk} {B G : Nat} (h : Good st m B G) {ys : List ByteArray} (hys : namesOf st.now ys) (hG : G + 1 ≤ 1000000000) (hs : ¬ sameP st) {m' : Dk} (hd : DkOk m') (hm : m'.size = m.size) : Good (newS st m.size) m' B (G + 1) ∧ sameP (newS st m.size) := by
  have h1 := (good_sync h hys hG).2
  rw [← syncM_fine h hG hs]
  exact ⟨h1.good.on hd (by rw [hm, h1.size]), h1.same⟩
/-- The roots, the sectors that last: unchanged by what goes into free ones. -/
theorem Inv.free {st : Sto} {size : Int} {is is' : Nat → ByteArray} (h : Inv st size is) (h2 : ∀ slot : Int, 0 ≤ slot → slot < 2 → is' slot.toNat = is slot.toNat) (h3 : ∀ z : Int, lastS st.last st.dir z → is' z.toNat = is z.toNat) : Inv st size is' := by
  refine ⟨fun slot h0 h1 => by rw [h2 slot h0 h1]; exact h.low slot h0 h1, ?_⟩
  rcases h.root with e | ⟨e1, files, hr, he⟩
  · exact .inl e
  · refine .inr ⟨e1, files, hr.congr (h2 _ (by omega) (by omega)) fun z hz => h3 z ?_, he⟩
    rcases List.mem_append.1 hz with hz | hz
    · exact .inl hz
    · obtain ⟨f, hf, hz⟩ := List.mem_flatMap.1 hz
      exact .inr ⟨f.1, f.2.1, f.2.2, by rw [he]; exact (lastOf_mem files hr.names f.1 f.2).2 hf, hz⟩
theorem less_of : ∀ x y : List UInt8, x < y → Op.bytesLess x y = true
  | [], [], h => absurd h (List.lt_irrefl _)
  | [], _ :: _, _ => rfl
  | _ :: _, [], h => absurd h (List.not_lt_nil _)
  | a :: x, b :: y, h => by
    rw [bytesLess_cons]
    rcases List.cons_lt_cons_iff.1 h with h | ⟨h1, h2⟩
    · exact .inl h
    · exact .inr ⟨h1, less_of x y h2⟩
theorem pair_lt {l : List ByteArray} (h : (l.map bl).Pairwise (· < ·)) : l.Pairwise fun p q => ltS p q = true := by
  rw [List.pairwise_map] at h
  exact h.imp fun {a b} hab => less_of _ _ hab
/-- All is laid down: the new root stands. -/
theorem Inv.laid {st : Sto} {m : Dk} {B G : Nat} {is' : Nat → ByteArray} (h : Good st m B G) (hi : Inv st m.size m.is) {ys : List ByteArray} (hys : namesOf st.now ys) (hG : G + 1 ≤ 1000000000) (hs : ¬ sameP st)
    (hroot : is' ((st.gen + 1) % 2).toNat = ⟨(topB st (planN m.size st st.now)).toArray⟩) (hother : is' (st.gen % 2).toNat = m.is (st.gen % 2).toNat)
    (hput : ∀ q ∈ (planN m.size st st.now).tk.puts, is' q.1.toNat = q.2) (hstay : ∀ z : Int, lastS st.last st.dir z → is' z.toNat = m.is z.toNat) : Inv (newS st m.size) m.size is' := by
  have hp := h.planOk h.fits
  have hsz := h.sz
  have hgen := h.gen
  obtain ⟨hN, hrd⟩ := hi.last
  have hpe : planN m.size st st.now = planM m.size st.last st.dir st.now ys := by unfold planN; rw [namesL_eq hys]
  have hlaid := planM_laid (size := m.size) (dir := st.dir) (now := st.now) (ys := ys) (fun nm d xs e => (h.last nm d xs e).1) hN (names_nodup hys) (by rw [← hpe]; exact h.fits)
  rw [← hpe] at hlaid
  obtain ⟨hnd, _, hall⟩ := hlaid
  have hrd' := hall (fun i => is' i.toNat) (fun y d xs e => by
    rw [← hrd y d xs e]
    exact List.map_congr_left fun z hz => hstay z (.inr ⟨y, d, xs, e, hz⟩)) hput
  have hfiles : (planN m.size st st.now).files = (filesM st.last st.now ys { free := freeN (lastS st.last st.dir) m.size.toNat, puts := [], need := 0, fits := true }).2 := by rw [hpe]; rfl
  have hnames : (planN m.size st st.now).files.map (·.1) = ys := by rw [hfiles, filesM_names]
  have hdat : ∀ f ∈ (planN m.size st st.now).files, f.2.1 = (st.now f.1).getD ⟨#[]⟩ ∧ f.2.2.length = nCh f.2.1.size := by rw [hfiles]; exact filesM_data
  have hdd : dirB (planN m.size st st.now).files = (planN m.size st st.now).dirD := by rw [hpe]; rfl
  have hg2 : ((newS st m.size).gen) = st.gen + 1 := rfl
  refine ⟨fun slot h0 h1 => ?_, .inr ⟨by rw [hg2]; omega, (planN m.size st st.now).files, ⟨?_, ?_, hsz.2, hrd'.1, fun f hf => ⟨?_, ?_, hrd'.2 f hf⟩, hnd, fun z hz => ?_, ?_, ?_⟩, rfl⟩⟩
  · rw [hg2]
    by_cases e : slot = (st.gen + 1) % 2
    · rw [e, hroot]
      unfold topB
      rw [bl_mk (uintL (st.gen + 1).toNat ++ uintL (planN m.size st st.now).dirD.length ++ numsB (planN m.size st st.now).dirS), List.append_assoc, numF_of (by omega)]
      show (((st.gen + 1).toNat : Nat) : Int) ≤ _
      omega
    · have e' : slot = st.gen % 2 := by omega
      rw [e', hother]
      have := hi.low (st.gen % 2) (by omega) (by omega)
      omega
  · show is' ((newS st m.size).gen % 2).toNat = _
    rw [hg2, hroot]
    unfold topB
    rw [hdd]; rfl
  · rw [hg2]; omega
  · have : f.1 ∈ ys := by rw [← hnames]; exact List.mem_map_of_mem hf
    have := (hys.2 f.1).1 this
    cases hn : st.now f.1 with
    | none => rw [hn] at this; cases this
    | some d => exact (h.now f.1 d hn).1
  · have h1 := hp.room
    have h2 := hp.sum
    have h3 := (hdat f hf).2
    have h4 : f.2.2.length ≤ ((planN m.size st st.now).files.map fun f => f.2.2.length).sum := by
      have : ∀ (l : List File10), f ∈ l → f.2.2.length ≤ (l.map fun f => f.2.2.length).sum := by
        intro l
        induction l with
        | nil => intro h; simp at h
        | cons a l ih =>
          intro h
          rw [List.map_cons, List.sum_cons]
          rcases List.mem_cons.1 h with e | e
          · rw [e]; omega
          · have := ih e; omega
      exact this _ hf
    unfold nCh at h3
    omega
  · rcases List.mem_append.1 hz with hz | hz
    · have := freeN_mem.1 (hp.dirF z hz)
      omega
    · obtain ⟨f, hf, hz⟩ := List.mem_flatMap.1 hz
      exact hp.filF f hf z hz
  · rw [hnames]; exact pair_lt hys.1
  · rw [hdd]; exact hp.dirD
/-- What a disk is behind a Sync, and what is opened of it: what was, or what is there now; the latter, if it answered OK. -/
structure SyncO (st : Sto) (x : Sto × Dk × Int) (B G : Nat) (size : Int) : Prop where
  wait : ∀ i, x.2.1.wait i = []
  sz : x.2.1.size = size
  keep : 0 ≤ x.2.1.keep ∧ x.2.1.keep < 18446744073709551616
  code : (x.2.2 = 0 ∧ x.2.1.off = false) ∨ (x.2.2 = 90 ∧ x.2.1.off = true)
  it : (x.2.2 ≠ 0 ∧ Inv st size x.2.1.is) ∨ ∃ st', Inv st' size x.2.1.is ∧ st'.now = st.now ∧ sameP st' ∧ (∀ m', DkOk m' → m'.size = size → Good st' m' B (G + 1)) ∧ (x.2.2 = 0 → st' = x.1)
theorem sync_any {st : Sto} {m m0 : Dk} {B G : Nat} (h : Good st m0 B G) (hm0 : m0.size = m.size) (ho : m.off = false) (hk : 0 ≤ m.keep ∧ m.keep < 18446744073709551616) (hw : ∀ i, m.wait i = []) (hi : Inv st m.size m.is) {ys : List ByteArray} (hys : namesOf st.now ys) (hG : G + 1 ≤ 1000000000) : SyncO st (syncM st m) B G m.size := by
  have hno : ¬ (st.bad = true ∨ m.off = true) := by simp [h.bad, ho]
  unfold syncM
  rw [if_neg hno]
  by_cases hs : sameP st
  · rw [if_pos hs]
    exact ⟨hw, rfl, hk, .inl ⟨rfl, ho⟩, .inr ⟨st, hi, rfl, hs, fun m' hd hm => (h.on hd (by rw [hm, hm0])).mono (Nat.le_refl _) (by omega), fun _ => by
      have := h.bad
      cases st; simp at this; simp [this]⟩⟩
  rw [if_neg hs]
  have hp := h.planOk h.fits
  rw [hm0] at hp
  have hsz := h.sz
  rw [hm0] at hsz
  have hgen := h.gen
  have hg2 : (st.gen + 1).tmod 2 = (st.gen + 1) % 2 := Int.tmod_eq_emod_of_nonneg (by omega)
  have hd0 : DkOk { m with left := 0 } := ⟨ho, rfl, hk⟩
  have hgd : Good st { m with left := 0 } B G := h.on hd0 hm0.symm
  have hl1 := lay_any (planN m.size st st.now).tk.puts m ho fun q hq => by
    have := hp.put q hq
    exact ⟨this.1, this.2.1, this.2.2.1⟩
  have e1 : (fun i : Nat => m.wait (i : Int) ++ forI (planN m.size st st.now).tk.puts i) = forI (planN m.size st st.now).tk.puts := by funext i; rw [hw]; rfl
  rw [e1] at hl1
  have hnone : ∀ i : Nat, (i < 2 ∨ lastS st.last st.dir (i : Int)) → forI (planN m.size st st.now).tk.puts i = [] := fun i hi => forI_none fun hm => by
    obtain ⟨q, hq, e⟩ := List.mem_map.1 hm
    have := hp.put q hq
    rw [e] at this
    rcases hi with h | h
    · omega
    · exact this.2.2.2.2 h
  have hrng : ∀ z : Int, lastS st.last st.dir z → 2 ≤ z := fun z hz => (h.rng z hz).1
  have hlay1 := layM_keep (planN m.size st st.now).tk.puts m
  have hsize1 := lay_size (planN m.size st st.now).tk.puts m
  by_cases hc1 : (layM m (planN m.size st st.now).tk.puts).2 ≠ 0
  · rw [if_pos hc1]
    rcases hl1.2 with ⟨e, _⟩ | ⟨e2, e3, e4⟩
    · exact absurd e hc1
    · refine ⟨hl1.1, hsize1, by rw [hlay1]; exact hk, .inr ⟨e2, e3⟩, .inl ⟨hc1, hi.free (fun slot h0 h1 => ?_) fun z hz => ?_⟩⟩
      · have := e4 slot.toNat
        rw [hnone slot.toNat (.inl (by omega))] at this
        simpa using this
      · have h2 := hrng z hz
        have := e4 z.toNat
        rw [hnone z.toNat (.inr (by rw [show ((z.toNat : Nat) : Int) = z by omega]; exact hz))] at this
        simpa using this
  rw [if_neg hc1]
  have hok1 : (layM m (planN m.size st st.now).tk.puts).2 = 0 := Decidable.not_not.1 hc1
  rcases hl1.2 with ⟨_, e3, e4⟩ | ⟨e2, _⟩
  rotate_left
  · rw [hok1] at e2; exact absurd e2 (by decide)
  have hw1 := hl1.1
  generalize hm1 : (layM m (planN m.size st st.now).tk.puts).1 = m1 at *
  have htop := top_small (st := st) hp hsz.2 (by omega)
  have hl2 := lay_any [((st.gen + 1).tmod 2, (⟨(topB st (planN m.size st st.now)).toArray⟩ : ByteArray))] m1 e3 fun q hq => by
    rw [List.mem_singleton] at hq
    subst hq
    rw [hg2, mk_size, hsize1]
    omega
  have hlay2 := layM_keep [((st.gen + 1).tmod 2, (⟨(topB st (planN m.size st st.now)).toArray⟩ : ByteArray))] m1
  have hsize2 := lay_size [((st.gen + 1).tmod 2, (⟨(topB st (planN m.size st st.now)).toArray⟩ : ByteArray))] m1
  have hf2 : ∀ i : Nat, m1.wait (i : Int) ++ forI [((st.gen + 1).tmod 2, (⟨(topB st (planN m.size st st.now)).toArray⟩ : ByteArray))] i = if (i : Int) = (st.gen + 1) % 2 then [(⟨(topB st (planN m.size st st.now)).toArray⟩ : ByteArray)] else [] := fun i => by
    rw [hw1, hg2]
    unfold forI
    rw [List.filter_cons]
    by_cases e : (i : Int) = (st.gen + 1) % 2
    · rw [if_pos e, if_pos (by simp [e])]; rfl
    · rw [if_neg e, if_neg (by simpa using fun h => e h.symm)]; rfl
  have hput1 : ∀ q ∈ (planN m.size st st.now).tk.puts, m1.is q.1.toNat = q.2 := fun q hq => by
    have h0 := hp.put q hq
    have hnd : ((planN m.size st st.now).tk.puts.map (·.1)).Nodup := by
      have := freeN_nodup (lastS st.last st.dir) m.size.toNat
      rw [← hp.puts, List.nodup_append] at this
      exact this.1
    rw [e4, forI_one hnd hq (by omega)]
    rfl
  have hstay1 : ∀ z : Int, (0 ≤ z ∧ z < 2) ∨ lastS st.last st.dir z → m1.is z.toNat = m.is z.toNat := fun z hz => by
    have h0 : 0 ≤ z := hz.elim (fun h => h.1) fun h => by have := hrng z h; omega
    rw [e4, hnone z.toNat (hz.imp (fun h => by omega) fun h => by rw [show ((z.toNat : Nat) : Int) = z by omega]; exact h)]
    rfl
  have hi1 : Inv st m.size m1.is := hi.free (fun slot h0 h1 => hstay1 slot (.inl ⟨h0, h1⟩)) fun z hz => hstay1 z (.inr hz)
  generalize hx2 : layM m1 [((st.gen + 1).tmod 2, (⟨(topB st (planN m.size st st.now)).toArray⟩ : ByteArray))] = x2 at *
  -- the new root stands
  have hnew : x2.1.is ((st.gen + 1) % 2).toNat = ⟨(topB st (planN m.size st st.now)).toArray⟩ → (∀ i : Nat, ¬ (i : Int) = (st.gen + 1) % 2 → x2.1.is i = m1.is i) →
      ∃ st', Inv st' m.size x2.1.is ∧ st'.now = st.now ∧ sameP st' ∧ (∀ m', DkOk m' → m'.size = m.size → Good st' m' B (G + 1)) ∧ st' = newS st m.size := fun hr hrest => by
    refine ⟨newS st m.size, Inv.laid (m := { m with left := 0 }) hgd hi hys hG hs hr ?_ (fun q hq => ?_) (fun z hz => ?_), rfl, (good_new_s hgd hys hG hs hd0 rfl).2, fun m' hd hm => (good_new_s hgd hys hG hs hd hm).1, rfl⟩
    · rw [hrest _ (by omega)]
      exact hstay1 (st.gen % 2) (.inl (by omega))
    · have := hp.put q hq
      rw [hrest _ (by omega)]
      exact hput1 q hq
    · have := hrng z hz
      rw [hrest _ (by omega)]
      exact hstay1 z (.inr hz)
  have hold : (∀ i : Nat, x2.1.is i = m1.is i) → Inv st m.size x2.1.is := fun h => hi1.free (fun slot _ _ => h _) fun z _ => h _
  by_cases hc2 : x2.2 ≠ 0
  · rw [if_pos hc2]
    rcases hl2.2 with ⟨e, _⟩ | ⟨e5, e6, e7⟩
    · exact absurd e hc2
    · refine ⟨hl2.1, by rw [hsize2, hsize1], by rw [hlay2, hlay1]; exact hk, .inr ⟨e5, e6⟩, ?_⟩
      have hrest : ∀ i : Nat, ¬ (i : Int) = (st.gen + 1) % 2 → x2.1.is i = m1.is i := fun i hne => by
        have := e7 i
        simp only [hf2, if_neg hne] at this
        simpa using this
      have hr := e7 ((st.gen + 1) % 2).toNat
      have hte : ((((st.gen + 1) % 2).toNat : Nat) : Int) = (st.gen + 1) % 2 := by omega
      simp only [hf2, if_pos hte] at hr
      rcases hr with hr | hr
      · refine .inl ⟨hc2, hold fun i => ?_⟩
        by_cases e : (i : Int) = (st.gen + 1) % 2
        · have : i = ((st.gen + 1) % 2).toNat := by omega
          rw [this]; exact hr
        · exact hrest i e
      · obtain ⟨st', i1, i2, i3, i4, _⟩ := hnew (by simpa using hr) hrest
        exact .inr ⟨st', i1, i2, i3, i4, fun h => absurd h hc2⟩
  · rw [if_neg hc2]
    have hok2 : x2.2 = 0 := Decidable.not_not.1 hc2
    rcases hl2.2 with ⟨_, e6, e7⟩ | ⟨e5, _⟩
    rotate_left
    · rw [hok2] at e5; exact absurd e5 (by decide)
    refine ⟨hl2.1, by rw [hsize2, hsize1], by rw [hlay2, hlay1]; exact hk, .inl ⟨rfl, e6⟩, .inr ?_⟩
    obtain ⟨st', i1, i2, i3, i4, i5⟩ := hnew (by
      have hte : ((((st.gen + 1) % 2).toNat : Nat) : Int) = (st.gen + 1) % 2 := by omega
      rw [e7]
      simp only [hf2, if_pos hte]
      rfl) fun i hne => by
      rw [e7]
      simp only [hf2, if_neg hne]
      rfl
    exact ⟨st', i1, i2, i3, i4, fun _ => i5⟩
end Go.Proofs
