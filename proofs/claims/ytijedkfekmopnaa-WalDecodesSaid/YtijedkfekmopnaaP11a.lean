/- Turned by a program of mine (port.py) out of the same text of another seat: numbers of types and functions. -/
import Derived.Test.YtijedkfekmopnaaGvStr
import Derived.Test.YtijedkfekmopnaaL07c
import Derived.Test.YtijedkfekmopnaaVc11
set_option linter.unusedVariables false
set_option maxRecDepth 100000
open Go Go.GV
namespace Go.Proofs

theorem bT : BldT Try.prog 81 78 115 79 9 108 := ⟨by kernel_rfl, by kernel_rfl, by kernel_rfl, by kernel_rfl, by kernel_rfl, by kernel_rfl, by kernel_rfl, by kernel_rfl, by kernel_rfl, by kernel_rfl, by kernel_rfl, by kernel_rfl, by kernel_rfl, by kernel_rfl, by kernel_rfl, by kernel_rfl⟩
abbrev BldH (H : Heap) (b : Nat) (S : List Nat) (xs : List UInt8) : Prop := Bld 81 H b S xs
theorem noEscape_ok {H : Heap} {v : Value} {K : Value → Heap → Prop} (hk : K v H) : ExtH Try.prog 74 ⟨[v]⟩ H fun w H' => ∃ u, w = u ∧ K u H' :=
  ext_ok (fn := Try.f74) Try.func74 (by kernel_rfl) (by kernel_rfl) (by kernel_rfl) (e := Extern.AbiNoEscape.same) (by kernel_rfl) (fun w => Lib.run_noEscape w v) ⟨_, rfl, hk⟩

theorem copyCheck_ok {H : Heap} {b : Nat} {S : List Nat} {xs : List UInt8} {K : Heap → Prop} (h : BldH H b S xs)
    (hk : ∀ H' o n c te, H'[b]? = some (.cells ⟨[.pointer (some ⟨b, 0, none⟩), .slice o n c]⟩ te (0, 0)) → Own encByte 5 0 H' o n c xs → S = b :: blkL o → b ∉ blkL o → Fr [b] H H' → K H') :
    CallH Try.prog fn_strings_Builder_copyCheck ⟨[.pointer (some ⟨b, 0, none⟩)]⟩ H fun v H' => v = .tuple ⟨[]⟩ ∧ K H' := by
  apply vc_strings_Builder_copyCheck
  obtain ⟨p, o, n, c, te, h1, h3, h4, rfl, h6⟩ := h
  have hb : Blk H ⟨b, 0, none⟩ [.pointer p, .slice o n c] := ⟨b, _, rfl, h1⟩
  refine ⟨_, hb.ld0 bT.ap rfl, ?_⟩
  rcases h3 with ⟨rfl, rfl⟩ | rfl
  · refine to_unsafe bT h1 rfl ⟨_, rfl, noEscape_ok ?_⟩
    refine from_unsafe bT h1 rfl ?_
    refine hb.st0 (v := .pointer (some ⟨b, 0, none⟩)) bT.p1 bT.pi (fun x hx => by simp [Value.cells] at hx; subst hx; rfl) (by simp [Value.cells]) fun H' h' hf => ⟨rfl, ?_⟩
    obtain ⟨b', te', e, hg⟩ := h'
    cases e
    exact hk H' o n c te' hg (h4.fr hf (fun ad e hh => by
      have : ad.block = b := by simpa using hh
      exact h6 (by simp [e, blkL, this]))) rfl h6 hf
  · exact ⟨_, hb.ld0 bT.ap rfl, false, neq_self bT _ _ _, rfl, hk H o n c te h1 h4 rfl h6 (Fr.refl _ _)⟩

theorem WriteString_ok {H : Heap} {b : Nat} {S : List Nat} {xs : List UInt8} {s : ByteArray} {K : Int → Value → Heap → Prop} (h : BldH H b S xs) (hlen : xs.length + s.size ≤ 140737488355328)
    (hk : ∀ H' S', BldH H' b S' (xs ++ bl s) → Fr S H H' → Grow H S S' → K s.size .nilIface H') :
    CallH Try.prog fn_strings_Builder_WriteString ⟨[.pointer (some ⟨b, 0, none⟩), .string s]⟩ H fun v H' => ∃ n w, v = .tuple ⟨[.int .i64 n, w]⟩ ∧ K n w H' := by
  apply vc_strings_Builder_WriteString
  refine copyCheck_ok h fun H1 o n c te h1 h2 hS h3 hf1 => ?_
  have hb : Blk H1 ⟨b, 0, none⟩ [.pointer (some ⟨b, 0, none⟩), .slice o n c] := ⟨b, _, rfl, h1⟩
  refine ⟨o, n, c, hb.ld bT.ab (j := 1) rfl, ap_str bT.sl bT.str bT.byte h2 (Nat.zero_le _) (by rw [h2.1]; exact hlen) fun a' n' c' H2 h4 hf2 hg2 => ?_⟩
  have hb2 := hb.fr hf2 h3
  refine hb2.st (j := 1) (v := .slice a' n' c') bT.s1 bT.si (fun x hx => by simp [Value.cells] at hx; subst hx; rfl) (by simp [Value.cells]) fun H3 hb3 hf3 => ⟨_, _, rfl, ?_⟩
  obtain ⟨b', te', e, hg⟩ := hb3
  cases e
  have hlt : b < H1.size := lt_of_get h1
  have hnb : b ∉ blkL a' := fun hk => by
    rcases hg2 b hk with h5 | h5
    · exact h3 h5
    · omega
  refine hk H3 (b :: blkL a') ⟨_, a', n', c', te', hg, .inr rfl, h4.fr hf3 (fun ad e hh => hnb (by
      have : ad.block = b := by simpa using hh
      simp [e, blkL, this])), rfl, hnb⟩ ?_ ?_
  · rw [hS]
    exact (hf1.trans' hf2 (T := b :: blkL o) (by simp) (fun k hk _ => by simp [hk])).trans' hf3 (fun k hk _ => hk) (by simp)
  · rw [hS]
    intro k hk
    rcases List.mem_cons.1 hk with rfl | hk
    · exact .inl (by simp)
    · rcases hg2 k hk with h5 | h5
      · exact .inl (by simp [h5])
      · exact .inr (Nat.le_trans hf1.size h5)

theorem WriteByte_ok {H : Heap} {b : Nat} {S : List Nat} {xs : List UInt8} {x : UInt8} {n : Int} {K : Value → Heap → Prop} (h : BldH H b S xs) (hx : n = x.toNat) (hlen : xs.length + 1 ≤ 140737488355328)
    (hk : ∀ H' S', BldH H' b S' (xs ++ [x]) → Fr S H H' → Grow H S S' → K .nilIface H') :
    CallH Try.prog fn_strings_Builder_WriteByte ⟨[.pointer (some ⟨b, 0, none⟩), .int .u8 n]⟩ H fun v H' => ∃ w, v = w ∧ K w H' := by
  subst hx
  apply vc_strings_Builder_WriteByte
  refine copyCheck_ok h fun H1 o n c te h1 h2 hS h3 hf1 => ?_
  have hb : Blk H1 ⟨b, 0, none⟩ [.pointer (some ⟨b, 0, none⟩), .slice o n c] := ⟨b, _, rfl, h1⟩
  refine ⟨o, n, c, hb.ld bT.ab (j := 1) rfl, ?_⟩
  intro b1 H2 hn1
  have hs1 : Sl encByte H2 (some ⟨b1, 0, none⟩) 1 1 [x] := sl_one encByte x hn1 rfl
  have h2' := h2.keep hn1.fr
  refine ap_grow (E := encByte) (bytes := 1) bT.sl (by kernel_rfl) h2' hs1 (Nat.zero_le _) (by rw [h2.1]; omega) fun a' n' c' H3 h4 hf2 hg2 => ?_
  have hb2 := (hb.keep hn1.fr).fr hf2 h3
  refine hb2.st (j := 1) (v := .slice a' n' c') bT.s1 bT.si (fun x hx => by simp [Value.cells] at hx; subst hx; rfl) (by simp [Value.cells]) fun H4 hb3 hf3 => ⟨_, rfl, ?_⟩
  obtain ⟨b', te', e, hg⟩ := hb3
  cases e
  have hlt : b < H1.size := lt_of_get h1
  have hsz := hn1.size
  have hnb : b ∉ blkL a' := fun hk => by
    rcases hg2 b hk with h5 | h5
    · exact h3 h5
    · omega
  refine hk H4 (b :: blkL a') ⟨_, a', n', c', te', hg, .inr rfl, h4.fr hf3 (fun ad e hh => hnb (by
      have : ad.block = b := by simpa using hh
      simp [e, blkL, this])), rfl, hnb⟩ ?_ ?_
  · rw [hS]
    exact ((hf1.trans' hn1.fr (T := b :: blkL o) (by simp) (by simp)).trans' hf2 (T := b :: blkL o) (fun k hk _ => hk) (fun k hk _ => by simp [hk])).trans' hf3 (fun k hk _ => hk) (by simp)
  · rw [hS]
    intro k hk
    rcases List.mem_cons.1 hk with rfl | hk
    · exact .inl (by simp)
    · rcases hg2 k hk with h5 | h5
      · exact .inl (by simp [h5])
      · exact .inr (by have := hf1.size; omega)

theorem BString_ok {H : Heap} {b : Nat} {S : List Nat} {xs : List UInt8} {K : ByteArray → Heap → Prop} (h : BldH H b S xs) (hlen : xs.length ≤ 140737488355328)
    (hk : ∀ H', Fr S H H' → K ⟨xs.toArray⟩ H') :
    CallH Try.prog fn_strings_Builder_String ⟨[.pointer (some ⟨b, 0, none⟩)]⟩ H fun v H' => ∃ s, v = .string s ∧ K s H' := by
  apply vc_strings_Builder_String
  obtain ⟨p, o, n, c, te, h1, h3, h4, rfl, h6⟩ := h
  have hb : Blk H ⟨b, 0, none⟩ [.pointer p, .slice o n c] := ⟨b, _, rfl, h1⟩
  refine ⟨o, n, c, hb.ld bT.ab (j := 1) rfl, o, n, c, hb.ld bT.ab (j := 1) rfl, ?_⟩
  have hs := sl_data bT (it := 3) (sty := 9) (ts := ⟨[79]⟩) (K := fun H' => K ⟨xs.toArray⟩ H') (L := fun H' => Ld Try.prog 79 H' (Addr.add ⟨b, 0, none⟩ 1) (.slice o n c)) h4 (by rw [h4.1]; exact hlen) (fun H' hf => (hb.keep hf).ld bT.ab (j := 1) rfl)
    (fun H' hf => hk H' (hf.mono (fun k hk => by simp [hk])))
  refine hs.mono fun v H' h => ?_
  obtain ⟨a, rfl, h5, h7⟩ := h
  refine ⟨a, rfl, h5, h7.mono fun v H' h => ?_⟩
  obtain ⟨s, rfl, rfl, h⟩ := h
  exact ⟨_, rfl, _, rfl, h⟩
end Go.Proofs
