/- Turned by a program of mine (portall.py) out of the same text of another seat. -/
import Derived.Test.YtjclcccjdnllgaaGreatL02
import Derived.Test.YtjclcccjdnllgaaGreatC11a
import Derived.Test.YtjclcccjdnllgaaGreatGvOpen
import Derived.Test.YtjclcccjdnllgaaGreatVcC
import Derived.Test.YtjclcccjdnllgaaGreatRange
import Derived.Test.YtjclcccjdnllgaaGreatGvStr
set_option linter.unusedVariables false
set_option maxRecDepth 100000
open Go Go.GV
namespace Go.Proofs

theorem lies179 : liesAt Tryz.prog Tryz.prog.depth 179 (4 / Tryz.prog.cellsOf 179) 0 83 1 = true := by kernel_rfl
theorem to_unsafeW {H : Heap} {b : Nat} {cs : Array Value} {fz : Nat × Nat} {X : Value → Heap → Prop} (h1 : H[b]? = some (.cells cs 179 fz)) (hcs : cs.size = 4)
    (hk : X (.pointer (some ⟨b, 0, none⟩)) H) : SemWp Tryz.prog (convert 80 173 (.pointer (some ⟨b, 0, none⟩))) H X := by
  intro E d
  have hs := bT.sz
  unfold szOf at hs
  split at hs
  · rename_i i hi
    exact ⟨_, H, d, Lib.run_to_unsafe (mkW E H d) ⟨b, 0, none⟩ bT.ptr bT.uns hi (by omega) (shape_of h1) (by rw [hcs]; exact Nat.zero_lt_succ 3), hk⟩
  · cases hs
theorem from_unsafeW {H : Heap} {b : Nat} {cs : Array Value} {fz : Nat × Nat} {K : Option Addr → Heap → Prop} (h1 : H[b]? = some (.cells cs 179 fz)) (hcs : cs.size = 4)
    (hk : K (some ⟨b, 0, none⟩) H) : SemWp Tryz.prog (convert 173 80 (.pointer (some ⟨b, 0, none⟩))) H fun v H' => ∃ a, v = .pointer a ∧ K a H' := by
  intro E d
  have hs := bT.sz
  unfold szOf at hs
  split at hs
  · rename_i i hi
    exact ⟨_, H, d, Lib.run_from_unsafe (mkW E H d) ⟨b, 0, none⟩ bT.uns bT.ptr hi (shape_of h1) (by rw [hcs]; exact lies179), _, rfl, hk⟩
  · cases hs
structure BwH (H : Heap) (b : Nat) (S : List Nat) (xs : List UInt8) (l m : Int) : Prop where
  it : ∃ p o n c te, H[b]? = some (.cells ⟨[.pointer p, .slice o n c, .int .u64 l, .int .i64 m]⟩ te (0, 0)) ∧ ((p = none ∧ te = 179) ∨ p = some ⟨b, 0, none⟩) ∧ Own encByte 5 0 H o n c xs ∧ S = b :: blkL o ∧ b ∉ blkL o
theorem BwH.fr {H H' : Heap} {b : Nat} {S T : List Nat} {xs : List UInt8} {l m : Int} (h : BwH H b S xs l m) (hf : Fr T H H') (hd : ∀ k ∈ S, k ∉ T) : BwH H' b S xs l m := by
  obtain ⟨p, o, n, c, te, h1, h3, h4, rfl, h6⟩ := h.it
  exact ⟨p, o, n, c, te, hf.get h1 (hd _ (by simp)), h3, h4.fr hf (fun ad e => hd _ (by simp [e, blkL])), rfl, h6⟩
theorem BwH.keep {H H' : Heap} {b : Nat} {S : List Nat} {xs : List UInt8} {l m : Int} (h : BwH H b S xs l m) (hf : Fr [] H H') : BwH H' b S xs l m := h.fr hf (by simp)
theorem BwH.ldl {H : Heap} {b : Nat} {S : List Nat} {xs : List UInt8} {l m : Int} (h : BwH H b S xs l m) : Ld Tryz.prog 89 H (Addr.add ⟨b, 0, none⟩ 2) (.int .u64 l) := by
  obtain ⟨p, o, n, c, te, h1, _⟩ := h.it
  exact Blk.ld (j := 2) (by kernel_rfl) ⟨b, te, rfl, h1⟩ rfl
theorem BwH.ldm {H : Heap} {b : Nat} {S : List Nat} {xs : List UInt8} {l m : Int} (h : BwH H b S xs l m) : Ld Tryz.prog 3 H (Addr.add ⟨b, 0, none⟩ 3) (.int .i64 m) := by
  obtain ⟨p, o, n, c, te, h1, _⟩ := h.it
  exact Blk.ld (j := 3) (by kernel_rfl) ⟨b, te, rfl, h1⟩ rfl
theorem copyCheckW {H : Heap} {b : Nat} {S : List Nat} {xs : List UInt8} {l m : Int} {K : Heap → Prop} (h : BwH H b S xs l m)
    (hk : ∀ H' o n c te, H'[b]? = some (.cells ⟨[.pointer (some ⟨b, 0, none⟩), .slice o n c, .int .u64 l, .int .i64 m]⟩ te (0, 0)) → Own encByte 5 0 H' o n c xs → S = b :: blkL o → b ∉ blkL o → Fr [b] H H' → K H') :
    CallH Tryz.prog fn_strings_Builder_copyCheck ⟨[.pointer (some ⟨b, 0, none⟩)]⟩ H fun v H' => v = .tuple ⟨[]⟩ ∧ K H' := by
  apply vc_strings_Builder_copyCheck
  obtain ⟨p, o, n, c, te, h1, h3, h4, rfl, h6⟩ := h.it
  have hb : Blk H ⟨b, 0, none⟩ [.pointer p, .slice o n c, .int .u64 l, .int .i64 m] := ⟨b, _, rfl, h1⟩
  refine ⟨_, hb.ld0 bT.ap rfl, ?_⟩
  rcases h3 with ⟨rfl, rfl⟩ | rfl
  · refine to_unsafeW h1 rfl ⟨_, rfl, noEscape_ok ?_⟩
    refine from_unsafeW h1 rfl ?_
    refine hb.st0 (v := .pointer (some ⟨b, 0, none⟩)) bT.p1 bT.pi (fun x hx => by simp [Value.cells] at hx; subst hx; rfl) (by simp [Value.cells]) fun H' h' hf => ⟨rfl, ?_⟩
    obtain ⟨b', te', e, hg⟩ := h'
    cases e
    exact hk H' o n c te' hg (h4.fr hf (fun ad e hh => by
      have : ad.block = b := by simpa using hh
      exact h6 (by simp [e, blkL, this]))) rfl h6 hf
  · exact ⟨_, hb.ld0 bT.ap rfl, false, neq_self bT _ _ _, rfl, hk H o n c te h1 h4 rfl h6 (Fr.refl _ _)⟩
theorem WriteByteW {H : Heap} {b : Nat} {S : List Nat} {xs : List UInt8} {x : UInt8} {y l m : Int} {K : Value → Heap → Prop} (h : BwH H b S xs l m) (hx : y = x.toNat) (hlen : xs.length + 1 ≤ 140737488355328)
    (hk : ∀ H' S', BwH H' b S' (xs ++ [x]) l m → Fr S H H' → Grow H S S' → K .nilIface H') :
    CallH Tryz.prog fn_strings_Builder_WriteByte ⟨[.pointer (some ⟨b, 0, none⟩), .int .u8 y]⟩ H fun v H' => ∃ w, v = w ∧ K w H' := by
  subst hx
  apply vc_strings_Builder_WriteByte
  refine copyCheckW h fun H1 o n c te h1 h2 hS h3 hf1 => ?_
  have hb : Blk H1 ⟨b, 0, none⟩ [.pointer (some ⟨b, 0, none⟩), .slice o n c, .int .u64 l, .int .i64 m] := ⟨b, _, rfl, h1⟩
  refine ⟨o, n, c, hb.ld bT.ab (j := 1) rfl, ?_⟩
  intro b1 H2 hn1
  have hs1 : Sl encByte H2 (some ⟨b1, 0, none⟩) 1 1 [x] := sl_one encByte x hn1 rfl
  have h2' := h2.keep hn1.fr
  refine ap_grow (E := encByte) (bytes := 1) bT.sl (by kernel_rfl) h2' hs1 (Nat.zero_le _) (by rw [h2.1]; omega) fun a' n' c' H3 h4 hf2 hg2 => ?_
  have hb2 := (hb.keep hn1.fr).fr hf2 h3
  refine hb2.st (j := 1) (v := .slice a' n' c') bT.s1 bT.si (fun x hx => by simp [Value.cells] at hx; subst hx; rfl) (by simp [Value.cells]) fun H4 hb3 hf3 => ⟨_, rfl, ?_⟩
  obtain ⟨b', te', e, hg⟩ := hb3
  cases e
  have hlt : b < H1.size := lt_of_get h1
  have hsz := hn1.size
  have hnb : b ∉ blkL a' := fun hk => by
    rcases hg2 b hk with h5 | h5
    · exact h3 h5
    · omega
  refine hk H4 (b :: blkL a') ⟨_, a', n', c', te', hg, .inr rfl, h4.fr hf3 (fun ad e hh => hnb (by
      have : ad.block = b := by simpa using hh
      simp [e, blkL, this])), rfl, hnb⟩ ?_ ?_
  · rw [hS]
    exact ((hf1.trans' hn1.fr (T := b :: blkL o) (by simp) (by simp)).trans' hf2 (T := b :: blkL o) (fun k hk _ => hk) (fun k hk _ => by simp [hk])).trans' hf3 (fun k hk _ => hk) (by simp)
  · rw [hS]
    intro k hk
    rcases List.mem_cons.1 hk with rfl | hk
    · exact .inl (by simp)
    · rcases hg2 k hk with h5 | h5
      · exact .inl (by simp [h5])
      · exact .inr (by have := hf1.size; omega)
theorem StringW {H : Heap} {b : Nat} {S : List Nat} {xs : List UInt8} {l m : Int} {K : ByteArray → Heap → Prop} (h : BwH H b S xs l m) (hlen : xs.length ≤ 140737488355328)
    (hk : ∀ H', Fr S H H' → Ld Tryz.prog 89 H' (Addr.add ⟨b, 0, none⟩ 2) (.int .u64 l) → Ld Tryz.prog 3 H' (Addr.add ⟨b, 0, none⟩ 3) (.int .i64 m) → K ⟨xs.toArray⟩ H') :
    CallH Tryz.prog fn_strings_Builder_String ⟨[.pointer (some ⟨b, 0, none⟩)]⟩ H fun v H' => ∃ s, v = .string s ∧ K s H' := by
  apply vc_strings_Builder_String
  obtain ⟨p, o, n, c, te, h1, h3, h4, rfl, h6⟩ := h.it
  have hb : Blk H ⟨b, 0, none⟩ [.pointer p, .slice o n c, .int .u64 l, .int .i64 m] := ⟨b, _, rfl, h1⟩
  refine ⟨o, n, c, hb.ld bT.ab (j := 1) rfl, o, n, c, hb.ld bT.ab (j := 1) rfl, ?_⟩
  have hs := sl_data bT (it := 3) (sty := 9) (ts := ⟨[81]⟩) (K := fun H' => K ⟨xs.toArray⟩ H') (L := fun H' => Ld Tryz.prog 81 H' (Addr.add ⟨b, 0, none⟩ 1) (.slice o n c)) h4 (by rw [h4.1]; exact hlen) (fun H' hf => (hb.keep hf).ld bT.ab (j := 1) rfl)
    (fun H' hf => hk H' (hf.mono (fun k hk => by simp [hk])) ((hb.fr hf h6).ld (j := 2) (by kernel_rfl) rfl) ((hb.fr hf h6).ld (j := 3) (by kernel_rfl) rfl))
  refine hs.mono fun v H' h => ?_
  obtain ⟨a, rfl, h5, h7⟩ := h
  refine ⟨a, rfl, h5, h7.mono fun v H' h => ?_⟩
  obtain ⟨s, rfl, rfl, h⟩ := h
  exact ⟨_, rfl, _, rfl, h⟩
theorem BwH.stl {H : Heap} {b : Nat} {S : List Nat} {xs : List UInt8} {l m l' : Int} {X : Heap → Prop} (h : BwH H b S xs l m) (hk : ∀ H', BwH H' b S xs l' m → Fr [b] H H' → X H') : ∃ H', St Tryz.prog 89 H (Addr.add ⟨b, 0, none⟩ 2) (.int .u64 l') H' ∧ X H' := by
  obtain ⟨p, o, n, c, te, h1, h3, h4, rfl, h6⟩ := h.it
  rw [add_at, Nat.zero_add]
  refine st_blk (off := 2) (v := .int .u64 l') h1 (by kernel_rfl) (by kernel_rfl) (fun x hx => by simp [Value.cells] at hx; subst hx; rfl) (by simp [Value.cells]) fun H' hg hf => hk H' ⟨p, o, n, c, te, ?_, h3, h4.fr hf (fun ad e hh => by
    have : ad.block = b := by simpa using hh
    exact h6 (by simp [e, blkL, this])), rfl, h6⟩ hf
  simpa [Value.cells] using hg
theorem BwH.stm {H : Heap} {b : Nat} {S : List Nat} {xs : List UInt8} {l m l' : Int} {X : Heap → Prop} (h : BwH H b S xs l m) (hk : ∀ H', BwH H' b S xs l l' → Fr [b] H H' → X H') : ∃ H', St Tryz.prog 3 H (Addr.add ⟨b, 0, none⟩ 3) (.int .i64 l') H' ∧ X H' := by
  obtain ⟨p, o, n, c, te, h1, h3, h4, rfl, h6⟩ := h.it
  rw [add_at, Nat.zero_add]
  refine st_blk (off := 3) (v := .int .i64 l') h1 (by kernel_rfl) (by kernel_rfl) (fun x hx => by simp [Value.cells] at hx; subst hx; rfl) (by simp [Value.cells]) fun H' hg hf => hk H' ⟨p, o, n, c, te, ?_, h3, h4.fr hf (fun ad e hh => by
    have : ad.block = b := by simpa using hh
    exact h6 (by simp [e, blkL, this])), rfl, h6⟩ hf
  simpa [Value.cells] using hg

structure WrH (H : Heap) (w : Nat) (S : List Nat) (bs : List Bool) : Prop where
  it : ∃ full rem, bs = full ++ rem ∧ full.length % 8 = 0 ∧ rem.length < 8 ∧ BwH H w S (pack full) (valB rem : Nat) (rem.length : Nat)
theorem pack_len (l : List Bool) : (pack l).length ≤ l.length := by
  obtain ⟨m, hm, e⟩ := bits_pack l.length l (Nat.le_refl _)
  have := congrArg List.length e
  rw [bitsL_len, List.length_append, List.length_replicate] at this
  omega
theorem BwH.inS {H : Heap} {b : Nat} {S : List Nat} {xs : List UInt8} {l m : Int} (h : BwH H b S xs l m) : b ∈ S := by
  obtain ⟨p, o, n, c, te, h1, h3, h4, rfl, h6⟩ := h.it
  simp
theorem put_ok {H : Heap} {w : Nat} {S : List Nat} {bs : List Bool} {nn mm : Int} {n m : Nat} {K : Heap → Prop} (h : WrH H w S bs) (en : nn = n) (em : mm = m) (hm : m ≤ 8) (hn : n < 2 ^ m) (hlen : bs.length ≤ 1000000000000)
    (hk : ∀ H' S', WrH H' w S' (bs ++ lowB n m) → Fr S H H' → Grow H S S' → K H') :
    CallH Tryz.prog fn_rice_Writer_put ⟨[.pointer (some ⟨w, 0, none⟩), .int .u64 nn, .int .i64 mm]⟩ H fun v H' => v = .tuple ⟨[]⟩ ∧ K H' := by
  subst en; subst em
  apply vc_rice_Writer_put
  obtain ⟨full, rem, rfl, hf8, hr8, hb⟩ := h.it
  have hfl := pack_len full
  rw [List.length_append] at hlen
  have hv := valB_lt rem
  have h7 : 2 ^ rem.length ≤ 2 ^ 7 := Nat.pow_le_pow_right (by decide) (by omega)
  have hm8 : 2 ^ m ≤ 2 ^ 8 := Nat.pow_le_pow_right (by decide) hm
  have e7 : (2 : Nat) ^ 7 = 128 := by decide
  have e8 : (2 : Nat) ^ 8 = 256 := by decide
  have hmul : valB rem * 2 ^ m ≤ 128 * 256 := Nat.mul_le_mul (by omega) (by omega)
  have hval : valB (rem ++ lowB n m) = valB rem * 2 ^ m + n := by rw [valB_app, valB_low, lowB_len, Nat.mod_eq_of_lt hn]
  have hL : (rem ++ lowB n m).length = rem.length + m := by rw [List.length_append, lowB_len]
  have hS := hb.inS
  refine ⟨_, hb.ldl, chk_true (decide_eq_true (by rw [nat_wrapU (by omega)]; omega)) ⟨_, hb.ldm, ?_⟩⟩
  rw [shlU (by omega) (by omega), orU (by omega) hn, nat_wrapU (by omega), ← hval]
  refine hb.stl fun H1 hb1 hf1 => ?_
  rw [wrap64_of (by omega) (by omega), ← Int.natCast_add, ← hL]
  refine hb1.stm fun H2 hb2 hf2 => ⟨_, hb2.ldm, ?_⟩
  have f2 : Fr S H H2 := (hf1.mono (S' := S) (by simpa using hS)).trans' hf2 (fun k hk _ => hk) fun k hk _ => by simp at hk; rw [hk]; exact hS
  generalize hR : rem ++ lowB n m = R at *
  refine brB_of (fun h8 => ⟨_, hb2.ldm, ?_⟩) (fun h8 => ⟨rfl, hk H2 S ⟨full, R, by rw [← hR, List.append_assoc], hf8, by simp at h8; omega, hb2⟩ f2 (Grow.refl _ _)⟩)
  have hR8 : 8 ≤ R.length := by simp at h8; omega
  have hvR := valB_lt R
  have e3 : IntKind.i64.wrap (((R.length : Nat) : Int) - 8) = ((R.length - 8 : Nat) : Int) := by rw [wrap64_of (by omega) (by omega)]; omega
  rw [e3]
  refine hb2.stm fun H3 hb3 hf3 => ⟨_, hb3.ldl, _, hb3.ldm, chk_true (decide_eq_true (by rw [nat_wrapU (by omega)]; omega)) ?_⟩
  have hsp : R = R.take 8 ++ R.drop 8 := (List.take_append_drop 8 R).symm
  have ht8 : (R.take 8).length = 8 := by rw [List.length_take]; omega
  have hd8 : (R.drop 8).length = R.length - 8 := List.length_drop
  have hvd := valB_lt (R.drop 8)
  have hvt := valB_lt (R.take 8)
  rw [hd8] at hvd
  rw [ht8] at hvt
  have hvs : valB R = valB (R.take 8) * 2 ^ (R.length - 8) + valB (R.drop 8) := by
    conv => lhs; rw [hsp]
    rw [valB_app, hd8]
  have hdiv : valB R / 2 ^ (R.length - 8) = valB (R.take 8) := by
    rw [hvs, Nat.mul_comm, Nat.mul_add_div (Nat.pow_pos (by decide)), Nat.div_eq_of_lt hvd, Nat.add_zero]
  have hmod : valB R % 2 ^ (R.length - 8) = valB (R.drop 8) := by
    rw [hvs, Nat.mul_comm, Nat.mul_add_mod, Nat.mod_eq_of_lt hvd]
  have hvR2 : valB R < 18446744073709551616 := by rw [hval]; omega
  rw [fdivU _ (by omega), hdiv]
  have ebyte : IntKind.u8.wrap ((valB (R.take 8) : Nat) : Int) = ((byteB (R.take 8)).toNat : Int) := by
    unfold byteB
    rw [ht8, Nat.sub_self, Nat.pow_zero, Nat.mul_one, UInt8.toNat_ofNat']
    have : valB (R.take 8) % 2 ^ 8 = valB (R.take 8) := Nat.mod_eq_of_lt hvt
    rw [this, wrapU8 (Int.natCast_nonneg _)]
    omega
  rw [ebyte]
  refine WriteByteW hb3 rfl (by omega) fun H4 S4 hb4 hf4 hg4 => ⟨_, hb4.ldl, _, hb4.ldm, chk_true (decide_eq_true (by rw [nat_wrapU (by omega)]; omega)) ?_⟩
  rw [maskU (by omega), andU hvR2 (by omega), hmod, nat_wrapU (by omega)]
  refine hb4.stl fun H5 hb5 hf5 => ⟨rfl, hk H5 S4 ⟨full ++ R.take 8, R.drop 8, ?_, ?_, by omega, ?_⟩ ?_ ?_⟩
  · rw [List.append_assoc, List.append_assoc, List.take_append_drop, ← hR]
  · rw [List.length_append, ht8]; omega
  · rw [hd8]
    have : pack (full ++ R.take 8) = pack full ++ [byteB (R.take 8)] := by
      rw [pack_full _ _ hf8, pack_small (l := R.take 8) (by intro e; rw [e] at ht8; cases ht8) (by omega)]
    rw [this]; exact hb5
  · have f3 : Fr S H H3 := f2.trans' hf3 (fun k hk _ => hk) fun k hk _ => by simp at hk; rw [hk]; exact hS
    have f4 : Fr S H H4 := f3.trans' hf4 (fun k hk _ => hk) fun k hk _ => hk
    exact f4.trans' hf5 (fun k hk _ => hk) fun k hk _ => by simp at hk; rw [hk]; exact hS
  · intro k hk
    rcases hg4 k hk with e | e
    · exact .inl e
    · exact .inr (by have := hf1.size; have := hf2.size; have := hf3.size; omega)

theorem fr_grow {S S' : List Nat} {H H' H2 : Heap} (h1 : Fr S H H') (hg : Grow H S S') (h2 : Fr S' H' H2) : Fr S H H2 := h1.trans' h2 (fun k hk _ => hk) fun k hk hlt => (hg k hk).elim id fun h => by omega
theorem all_ok {H : Heap} {w : Nat} {S : List Nat} {bs : List Bool} {nn mm : Int} {n m : Nat} {K : Heap → Prop} (h : WrH H w S bs) (en : nn = n) (em : mm = m) (hm : m ≤ 64) (hn : n < 18446744073709551616) (hlen : bs.length ≤ 900000000000)
    (hk : ∀ H' S', WrH H' w S' (bs ++ lowB n m) → Fr S H H' → Grow H S S' → K H') :
    CallH Tryz.prog fn_rice_Writer_all ⟨[.pointer (some ⟨w, 0, none⟩), .int .u64 nn, .int .i64 mm]⟩ H fun v H' => v = .tuple ⟨[]⟩ ∧ K H' := by
  subst en; subst em
  apply vc_rice_Writer_all
  refine ⟨fun vs H' => match vs with | [.int _ i] => ∃ (j : Nat) (S' : List Nat), i = j ∧ j ≤ m ∧ WrH H' w S' (bs ++ lowB (n / 2 ^ j) (m - j)) ∧ Fr S H H' ∧ Grow H S S' | _ => False, fun vs _ => match vs with | [.int _ i] => i.toNat | _ => 0, ⟨m, S, rfl, Nat.le_refl _, by rw [Nat.sub_self]; simpa [lowB] using h, Fr.refl _ _, Grow.refl _ _⟩, ?_⟩
  rintro J i H1 ⟨j, S1, rfl, hj, hw, hf, hg⟩
  have hl1 : (bs ++ lowB (n / 2 ^ j) (m - j)).length ≤ 1000000000000 := by rw [List.length_append, lowB_len]; omega
  refine brB_of (fun h8 => ?_) (fun h8 => ?_)
  · have hj8 : 8 < j := by simp at h8; omega
    have e1 : IntKind.i64.wrap (((j : Nat) : Int) - 8) = ((j - 8 : Nat) : Int) := by rw [wrap64_of (by omega) (by omega)]; omega
    rw [e1, fdivU _ (by omega), show (255 : Int) = ((2 ^ 8 - 1 : Nat) : Int) from rfl, andU (Nat.lt_of_le_of_lt (Nat.div_le_self _ _) hn) (by omega)]
    have hc : n / 2 ^ (j - 8) % 2 ^ 8 < 2 ^ 8 := Nat.mod_lt _ (by decide)
    rw [nat_wrapU (n := n / 2 ^ (j - 8) % 2 ^ 8) (Nat.lt_of_lt_of_le hc (by decide))]
    refine chk_true (decide_eq_true (by rw [nat_wrapU (by omega)]; omega)) ?_
    refine put_ok (m := 8) hw rfl rfl (by omega) hc hl1 fun H2 S2 hw2 hf2 hg2 => ⟨⟨j - 8, S2, rfl, by omega, ?_, fr_grow hf hg hf2, hg.trans hf.size hg2⟩, ?_⟩
    · have e2 : n / 2 ^ (j - 8) / 2 ^ 8 = n / 2 ^ j := by rw [Nat.div_div_eq_div_mul, ← Nat.pow_add, show j - 8 + 8 = j by omega]
      rw [low_mod, List.append_assoc, ← e2, ← low_app, show m - j + 8 = m - (j - 8) by omega] at hw2
      exact hw2
    · show (((j - 8 : Nat) : Int)).toNat < ((j : Nat) : Int).toNat
      omega
  · have hj8 : j ≤ 8 := by simp at h8; omega
    rw [maskU (by omega), andU hn (by omega), nat_wrapU (n := n % 2 ^ j) (Nat.lt_of_le_of_lt (Nat.mod_le _ _) hn)]
    refine chk_true (decide_eq_true (by rw [nat_wrapU (by omega)]; omega)) ?_
    refine put_ok (m := j) hw rfl rfl hj8 (Nat.mod_lt _ (Nat.pow_pos (by decide))) hl1 fun H2 S2 hw2 hf2 hg2 => ⟨rfl, hk H2 S2 ?_ (fr_grow hf hg hf2) (hg.trans hf.size hg2)⟩
    rw [low_mod, List.append_assoc, ← low_app, show m - j + j = m by omega] at hw2
    exact hw2

theorem low_unary (q : Nat) : lowB ((2 ^ q - 1) * 2) (q + 1) = List.replicate q true ++ [false] := by
  rw [low_app, show (2 ^ q - 1) * 2 / 2 ^ 1 = 2 ^ q - 1 by omega, low_ones]
  have : lowB ((2 ^ q - 1) * 2) 1 = [false] := by
    show [((2 ^ q - 1) * 2 / 2 ^ 0 % 2 == 1)] = [false]
    rw [Nat.pow_zero, Nat.div_one, Nat.mul_mod_left]; rfl
  rw [this]
theorem WRice_ok {H : Heap} {w : Nat} {S : List Nat} {bs : List Bool} {nn kk : Int} {n k : Nat} {K : Int → Heap → Prop} (h : WrH H w S bs) (en : nn = n) (ek : kk = k) (hk40 : k ≤ 40) (hn : n < 18446744073709551616) (hlen : bs.length ≤ 800000000000)
    (hk : ∀ H' S', WrH H' w S' (bs ++ codeB n k) → Fr S H H' → Grow H S S' → K 0 H') :
    CallH Tryz.prog fn_rice_Writer_Rice ⟨[.pointer (some ⟨w, 0, none⟩), .int .u64 nn, .int .i64 kk]⟩ H fun v H' => ∃ e, v = .int .i64 e ∧ K e H' := by
  subst en; subst ek
  apply vc_rice_Writer_Rice
  refine ⟨fun _ H' => H' = H, brB_of (fun h => by simp at h; omega) fun _ => brB_of (fun h => by simp at h; omega) fun _ => rfl, ?_⟩
  rintro J H1 rfl
  refine chk_true (decide_eq_true (by rw [nat_wrapU (by omega)]; omega)) ?_
  have eb : IntKind.bits .u64 = 64 := rfl
  rw [eb, fdivU _ (by omega)]
  generalize hq : n / 2 ^ k = q at *
  refine brB_of (fun h0 => ?_) (fun h0 => ?_)
  · have h24 : 24 ≤ q := by simp at h0; omega
    refine all_ok (n := 16777215) (m := 24) h rfl rfl (by omega) (by omega) (by omega) fun H2 S2 h2 f2 g2 => ?_
    have e1 : lowB 16777215 24 = List.replicate 24 true := low_ones 24
    rw [e1] at h2
    refine all_ok (m := 64) h2 rfl rfl (by omega) hn (by rw [List.length_append, List.length_replicate]; omega) fun H3 S3 h3 f3 g3 => ⟨_, rfl, hk H3 S3 ?_ (fr_grow f2 g2 f3) (g2.trans f2.size g3)⟩
    have ec : codeB n k = List.replicate 24 true ++ lowB n 64 := if_pos (by rw [hq]; exact h24)
    rw [ec, ← List.append_assoc]; exact h3
  · have h24 : q < 24 := by simp at h0; omega
    have hp : 2 ^ q ≤ 2 ^ 24 := Nat.pow_le_pow_right (by decide) (by omega)
    have e24 : (2 : Nat) ^ 24 = 16777216 := by decide
    have hp0 : 0 < 2 ^ q := Nat.pow_pos (by decide)
    have ev : IntKind.u64.wrap (IntKind.u64.wrap (IntKind.u64.wrap (1 * 2 ^ min (Int.toNat ((q : Nat) : Int)) 64) - 1) * 2 ^ 1) = (((2 ^ q - 1) * 2 : Nat) : Int) := by
      rw [Int.toNat_natCast, show min q 64 = q by omega, pow_cast, Int.one_mul, nat_wrapU (by omega), wrapU64 (n := ((2 ^ q : Nat) : Int) - 1) (by omega) (by omega), wrapU64 (by omega) (by omega)]
      omega
    have em : IntKind.i64.wrap (IntKind.i64.wrap ((q : Nat) : Int) + 1) = ((q + 1 : Nat) : Int) := by
      rw [wrap64_of (n := ((q : Nat) : Int)) (by omega) (by omega), wrap64_of (by omega) (by omega)]; rfl
    rw [ev, em]
    refine chk_true (decide_eq_true (by omega)) ?_
    refine all_ok (m := q + 1) h rfl rfl (by omega) (by omega) (by omega) fun H2 S2 h2 f2 g2 => ?_
    rw [low_unary] at h2
    refine chk_true (decide_eq_true (by rw [nat_wrapU (by omega)]; omega)) ?_
    rw [maskU (by omega), andU hn (by omega), nat_wrapU (n := n % 2 ^ k) (Nat.lt_of_le_of_lt (Nat.mod_le _ _) hn)]
    refine all_ok (m := k) h2 rfl rfl (by omega) (Nat.lt_of_le_of_lt (Nat.mod_le _ _) hn) (by rw [List.length_append, List.length_append, List.length_replicate]; simp; omega) fun H3 S3 h3 f3 g3 => ⟨_, rfl, hk H3 S3 ?_ (fr_grow f2 g2 f3) (g2.trans f2.size g3)⟩
    have ec : codeB n k = List.replicate q true ++ false :: lowB n k := by
      unfold codeB; rw [hq, if_neg (by omega)]
    rw [low_mod] at h3
    rw [ec]
    have e3 : bs ++ (List.replicate q true ++ [false]) ++ lowB n k = bs ++ (List.replicate q true ++ false :: lowB n k) := by simp
    rw [e3] at h3
    exact h3
theorem New02_ok {H : Heap} {K : Option Addr → Heap → Prop} (hk : ∀ w H', H.size ≤ w → WrH H' w [w] [] → Fr [] H H' → K (some ⟨w, 0, none⟩) H') :
    CallH Tryz.prog fn_rice_New ⟨[]⟩ H fun v H' => ∃ a, v = .pointer a ∧ K a H' := by
  apply vc_rice_New
  intro b H1 hn
  refine ⟨_, rfl, hk b H1 (by have := hn.eq; omega) ⟨[], [], rfl, rfl, by decide, none, none, 0, 0, 179, hn.get, .inl ⟨rfl, rfl⟩, Own.nil _ _ _ _, rfl, by simp [blkL]⟩ hn.fr⟩

theorem fr_pre0 {S : List Nat} {H H1 H2 : Heap} (h1 : Fr [] H H1) (h2 : Fr S H1 H2) : Fr S H H2 := (h1.mono (by simp)).trans' h2 (fun k hk _ => hk) fun k hk _ => hk
theorem one_str {x : Nat} {b : Nat} {H2 H3 : Heap} {K : ByteArray → Heap → Prop} (hx : x < 256) (hn : New H2 b (.cells ⟨[.int .u8 (x : Int)]⟩ 5) H3) (hk : K ⟨#[UInt8.ofNat x]⟩ H3) : SemWp Tryz.prog (convert 81 9 (.slice (some ⟨b, 0, none⟩) 1 1)) H3 fun v H' => ∃ s, v = .string s ∧ K s H' := by
  have hs1 : Sl encByte H3 (some ⟨b, 0, none⟩) 1 1 [UInt8.ofNat x] := sl_one encByte _ hn (by rw [byteN x hx]; rfl)
  exact cv_bs (e := 5) bT.sl bT.str (by kernel_rfl) hs1 hk
theorem Bytes_ok {H : Heap} {w : Nat} {S : List Nat} {bs : List Bool} {K : ByteArray → Heap → Prop} (h : WrH H w S bs) (hlen : bs.length ≤ 1000000000000) (hk : ∀ H', Fr S H H' → K ⟨(pack bs).toArray⟩ H') :
    CallH Tryz.prog fn_rice_Writer_Bytes ⟨[.pointer (some ⟨w, 0, none⟩)]⟩ H fun v H' => ∃ s, v = .string s ∧ K s H' := by
  apply vc_rice_Writer_Bytes
  obtain ⟨full, rem, rfl, hf8, hr8, hb⟩ := h.it
  have hfl := pack_len full
  have hlS : ∀ k ∈ S, k < H.size := by
    obtain ⟨p, o, n, c, te, h1, h3, h4, rfl, h6⟩ := hb.it
    intro k hk
    rcases List.mem_cons.1 hk with e | e
    · rw [e]; exact lt_of_get h1
    · exact (h4.ge k e).2
  rw [List.length_append] at hlen
  have hv := valB_lt rem
  refine ⟨_, hb.ldm, brB_of (fun h0 => ?_) (fun h0 => ?_)⟩
  · have : rem = [] := List.eq_nil_of_length_eq_zero (by simpa using h0)
    subst this
    refine StringW hb (by omega) fun H' hf _ _ => ⟨_, rfl, ?_⟩
    rw [List.append_nil] at hk
    exact hk H' hf
  · have hpos : 0 < rem.length := by
      have : ¬ ((rem.length : Nat) : Int) = 0 := by simpa using h0
      omega
    have hne : rem ≠ [] := List.length_pos_iff.1 hpos
    have e8 : IntKind.i64.wrap (8 - ((rem.length : Nat) : Int)) = ((8 - rem.length : Nat) : Int) := by rw [wrap64_of (by omega) (by omega)]; omega
    have hp : 2 ^ rem.length * 2 ^ (8 - rem.length) = 256 := by rw [← Nat.pow_add, show rem.length + (8 - rem.length) = 8 by omega]
    have hlt : valB rem * 2 ^ (8 - rem.length) < 256 := by
      rw [← hp]; exact Nat.mul_lt_mul_of_pos_right hv (Nat.pow_pos (by decide))
    have ex : IntKind.u8.wrap (IntKind.u64.wrap (((valB rem : Nat) : Int) * 2 ^ min (Int.toNat (IntKind.u64.wrap ((8 - rem.length : Nat) : Int))) 64)) = ((valB rem * 2 ^ (8 - rem.length) : Nat) : Int) := by
      rw [shlU (by omega) (by omega), wrapU8 (Int.natCast_nonneg _)]
      omega
    have epk : (⟨(pack full).toArray⟩ : ByteArray) ++ ⟨#[UInt8.ofNat (valB rem * 2 ^ (8 - rem.length))]⟩ = ⟨(pack (full ++ rem)).toArray⟩ := bl_inj (by
      rw [bl_app, bl_mk, bl_mk, pack_full _ _ hf8, pack_small hne (by omega)]
      rfl)
    have hsz : (⟨(pack full).toArray⟩ : ByteArray).size + (⟨#[UInt8.ofNat (valB rem * 2 ^ (8 - rem.length))]⟩ : ByteArray).size ≤ 9223372036854775807 := by
      show (pack full).toArray.size + 1 ≤ _
      rw [List.size_toArray]; omega
    refine ⟨_, hb.ldl, _, hb.ldm, ?_⟩
    rw [e8, ex]
    refine chk_true (decide_eq_true (by rw [nat_wrapU (by omega)]; omega)) ⟨?_, fun b H1 hn1 => ⟨?_, ?_⟩⟩
    · refine StringW hb (by omega) fun H1 hf1 l2 l3 => ⟨l3, l2, fun b H2 hn2 => ?_⟩
      refine one_str hlt hn2 (chk_true (decide_eq_true hsz) ⟨_, rfl, ?_⟩)
      rw [epk]
      exact hk H2 (hf1.trans' hn2.fr (fun k hk _ => hk) (by simp))
    · refine StringW (hb.keep hn1.fr) (by omega) fun H2 hf2 _ _ => ?_
      have hs1 : Sl encByte H1 (some ⟨b, 0, none⟩) 1 1 [UInt8.ofNat (valB rem * 2 ^ (8 - rem.length))] := sl_one encByte _ hn1 (by rw [byteN _ hlt]; rfl)
      have hs2 := hs1.fr hf2 fun ad e hm => by
        cases e
        have := hlS b hm
        have := hn1.eq
        omega
      refine cv_bs (e := 5) bT.sl bT.str (by kernel_rfl) hs2 (chk_true (decide_eq_true hsz) ⟨_, rfl, ?_⟩)
      rw [epk]
      exact hk H2 (fr_pre0 hn1.fr hf2)
    · refine one_str hlt hn1 ?_
      refine StringW (hb.keep hn1.fr) (by omega) fun H2 hf2 _ _ => chk_true (decide_eq_true hsz) ⟨_, rfl, ?_⟩
      rw [epk]
      exact hk H2 (fr_pre0 hn1.fr hf2)

theorem slice191 : sliceB Tryz.prog 191 4 = true := by kernel_rfl
theorem elem4 : elemB Tryz.prog 4 encBool.sz 1 = true := by kernel_rfl
theorem rlow_ok {H : Heap} {nn mm : Int} {n m : Nat} {K : Option Addr → Nat → Nat → Heap → Prop} (en : nn = n) (em : mm = m) (hm : m ≤ 64) (hn : n < 18446744073709551616)
    (hk : ∀ o l c H', Own encBool 4 H.size H' o l c (lowB n m) → Fr [] H H' → K o l c H') :
    CallH Tryz.prog fn_ref02_low ⟨[.int .u64 nn, .int .i64 mm]⟩ H fun v H' => ∃ o l c, v = .slice o l c ∧ K o l c H' := by
  subst en; subst em
  apply vc_ref02_low
  intro b H1 hn1
  refine ⟨fun vs H' => match vs with | [.slice o l c, .int _ i] => ∃ j : Nat, i = (j : Int) - 1 ∧ j ≤ m ∧ Own encBool 4 H.size H' o l c (lowB (n / 2 ^ j) (m - j)) ∧ Fr [] H H' | _ => False, fun vs _ => match vs with | [_, .int _ i] => (i + 1).toNat | _ => 0,
    ⟨m, by rw [wrap64_of (by omega) (by omega)], Nat.le_refl _, by rw [Nat.sub_self]; exact Own.made encBool 4 hn1 (Nat.le_refl _), hn1.fr⟩, ?_⟩
  rintro J o l c i H2 ⟨j, rfl, hj, ho, hf⟩
  refine brB_of (fun h0 => ?_) (fun h0 => ?_)
  · have hj1 : 1 ≤ j := by simp at h0; omega
    have e1 : ((j : Int) - 1) = ((j - 1 : Nat) : Int) := by omega
    rw [e1, fdivU _ (by omega), nat_wrapU (n := j - 1) (by omega)]
    have hl := ho.1
    rw [lowB_len] at hl
    refine chk_true (decide_eq_true (by omega)) ?_
    have e2 : Int.tmod ((n / 2 ^ (j - 1) : Nat) : Int) 2 = ((n / 2 ^ (j - 1) % 2 : Nat) : Int) := (Int.ofNat_tmod _ 2).symm
    rw [e2]
    refine ap_one (E := encBool) (n / 2 ^ (j - 1) % 2 == 1) slice191 elem4 ho hf ?_ (by omega) fun b2 a' n' c' H3 h3 f3 _ => ⟨⟨j - 1, ?_, by omega, ?_, f3⟩, ?_⟩
    · have : (((n / 2 ^ (j - 1) % 2 : Nat) : Int) == 1) = (n / 2 ^ (j - 1) % 2 == 1) := by
        have : n / 2 ^ (j - 1) % 2 = 0 ∨ n / 2 ^ (j - 1) % 2 = 1 := by omega
        rcases this with e | e <;> rw [e] <;> rfl
      rw [this]; rfl
    · rw [wrap64_of (by omega) (by omega)]
    · have e3 : lowB (n / 2 ^ (j - 1)) (m - (j - 1)) = lowB (n / 2 ^ j) (m - j) ++ [n / 2 ^ (j - 1) % 2 == 1] := by
        rw [show m - (j - 1) = (m - j) + 1 by omega, low_app, Nat.div_div_eq_div_mul, ← Nat.pow_add, show j - 1 + 1 = j by omega]
        simp [lowB]
      rw [e3]; exact h3
    · show (IntKind.i64.wrap (((j - 1 : Nat) : Int) - 1) + 1).toNat < (((j - 1 : Nat) : Int) + 1).toNat
      rw [wrap64_of (by omega) (by omega)]; omega
  · have : j = 0 := by simp at h0; omega
    subst this
    rw [Nat.pow_zero, Nat.div_one, Nat.sub_zero] at ho
    exact ⟨_, _, _, rfl, hk _ _ _ _ ho hf⟩

theorem rCode_ok {H : Heap} {nn kk : Int} {n k : Nat} {K : Option Addr → Nat → Nat → Heap → Prop} (en : nn = n) (ek : kk = k) (hk40 : k ≤ 40) (hn : n < 18446744073709551616)
    (hk : ∀ o l c H', Own encBool 4 H.size H' o l c (codeB n k) → Fr [] H H' → K o l c H') :
    CallH Tryz.prog fn_ref02_Code ⟨[.int .u64 nn, .int .i64 kk]⟩ H fun v H' => ∃ o l c, v = .slice o l c ∧ K o l c H' := by
  subst en; subst ek
  apply vc_ref02_Code
  intro b H1 hn1
  have eb : IntKind.bits .u64 = 64 := rfl
  refine chk_true (decide_eq_true (by rw [nat_wrapU (by omega)]; omega)) ?_
  rw [eb, fdivU _ (by omega)]
  generalize hq : n / 2 ^ k = q at *
  have hqn : q < 18446744073709551616 := by rw [← hq]; exact Nat.lt_of_le_of_lt (Nat.div_le_self _ _) hn
  refine brB_of (fun h0 => ?_) (fun h0 => ?_)
  · have h24 : 24 ≤ q := by simp at h0; omega
    refine ⟨fun vs H' => match vs with | [.slice o l c, .int _ i] => ∃ j : Nat, i = j ∧ j ≤ 24 ∧ Own encBool 4 H.size H' o l c (List.replicate j true) ∧ Fr [] H H' | _ => False, fun vs _ => match vs with | [_, .int _ i] => 24 - i.toNat | _ => 0,
      ⟨0, rfl, by omega, Own.made encBool 4 hn1 (Nat.le_refl _), hn1.fr⟩, ?_⟩
    rintro J o l c i H2 ⟨j, rfl, hj, ho, hf⟩
    have hl := ho.1
    rw [List.length_replicate] at hl
    refine brB_of (fun h1 => ?_) (fun h1 => ?_)
    · have hlt : j < 24 := by simp at h1; omega
      refine ap_one (E := encBool) true slice191 elem4 ho hf rfl (by omega) fun b2 a' n' c' H3 h3 f3 _ => ⟨⟨j + 1, succ64 (by omega), by omega, by rw [List.replicate_succ']; exact h3, f3⟩, ?_⟩
      show 24 - (IntKind.i64.wrap ((j : Int) + 1)).toNat < 24 - ((j : Nat) : Int).toNat
      rw [succ64 (by omega)]
      exact mu_lt hlt
    · have hj24 : j = 24 := by simp at h1; omega
      subst hj24
      refine rlow_ok (m := 64) rfl rfl (by omega) hn fun o2 l2 c2 H3 h3 f3 => ?_
      have hl2 := h3.1
      rw [lowB_len] at hl2
      refine ap_own slice191 elem4 (ho.keep f3) (hf.keep0 f3) h3.sl (by omega) fun a' n' c' H4 h4 f4 _ => ⟨_, _, _, rfl, hk _ _ _ _ ?_ f4⟩
      have ec : codeB n k = List.replicate 24 true ++ lowB n 64 := if_pos (by rw [hq]; exact h24)
      rw [ec]; exact h4
  · have h24 : q < 24 := by simp at h0; omega
    refine ⟨fun vs H' => match vs with | [.slice o l c, .int _ i] => ∃ j : Nat, i = j ∧ j ≤ q ∧ Own encBool 4 H.size H' o l c (List.replicate j true) ∧ Fr [] H H' | _ => False, fun vs _ => match vs with | [_, .int _ i] => q - i.toNat | _ => 0,
      ⟨0, rfl, by omega, Own.made encBool 4 hn1 (Nat.le_refl _), hn1.fr⟩, ?_⟩
    rintro J o l c i H2 ⟨j, rfl, hj, ho, hf⟩
    have hl := ho.1
    rw [List.length_replicate] at hl
    refine brB_of (fun h1 => ?_) (fun h1 => ?_)
    · have hlt : j < q := by simp at h1; omega
      have e1 : IntKind.u64.wrap ((j : Int) + 1) = ((j + 1 : Nat) : Int) := nat_wrapU (n := j + 1) (by omega)
      refine ap_one (E := encBool) true slice191 elem4 ho hf rfl (by omega) fun b2 a' n' c' H3 h3 f3 _ => ⟨⟨j + 1, e1, by omega, by rw [List.replicate_succ']; exact h3, f3⟩, ?_⟩
      show q - (IntKind.u64.wrap ((j : Int) + 1)).toNat < q - ((j : Nat) : Int).toNat
      rw [e1]; omega
    · have hjq : j = q := by simp at h1; omega
      subst hjq
      refine ap_one (E := encBool) false slice191 elem4 ho hf rfl (by omega) fun b2 a' n' c' H3 h3 f3 _ => ?_
      refine rlow_ok (m := k) rfl rfl (by omega) hn fun o2 l2 c2 H4 h4 f4 => ?_
      have hl2 := h4.1
      rw [lowB_len] at hl2
      have hl3 := h3.1
      rw [List.length_append, List.length_replicate] at hl3
      simp only [List.length_cons, List.length_nil] at hl3
      refine ap_own slice191 elem4 (h3.keep f4) (f3.keep0 f4) h4.sl (by omega) fun a' n' c' H5 h5 f5 _ => ⟨_, _, _, rfl, hk _ _ _ _ ?_ f5⟩
      have ec : codeB n k = List.replicate j true ++ [false] ++ lowB n k := by
        unfold codeB; rw [hq, if_neg (by omega)]; simp
      rw [ec]; exact h5

structure RwH (H : Heap) (w : Nat) (S : List Nat) (bs : List Bool) : Prop where
  it : ∃ o l c, Blk H ⟨w, 0, none⟩ [.slice o l c] ∧ Own encBool 4 0 H o l c bs ∧ S = w :: blkL o ∧ w ∉ blkL o
theorem rNew02_ok {H : Heap} {K : Option Addr → Heap → Prop} (hk : ∀ w H', H.size ≤ w → RwH H' w [w] [] → Fr [] H H' → K (some ⟨w, 0, none⟩) H') :
    CallH Tryz.prog fn_ref02_New ⟨[]⟩ H fun v H' => ∃ a, v = .pointer a ∧ K a H' := by
  apply vc_ref02_New
  intro b H1 hn
  exact ⟨_, rfl, hk b H1 (by have := hn.eq; omega) ⟨none, 0, 0, hn.blk, Own.nil _ _ _ _, rfl, by simp [blkL]⟩ hn.fr⟩
theorem rWRice_ok {H : Heap} {w : Nat} {S : List Nat} {bs : List Bool} {nn kk : Int} {n k : Nat} {K : Int → Heap → Prop} (h : RwH H w S bs) (en : nn = n) (ek : kk = k) (hk40 : k ≤ 40) (hn : n < 18446744073709551616) (hlen : bs.length ≤ 800000000000)
    (hk : ∀ H' S', RwH H' w S' (bs ++ codeB n k) → Fr S H H' → Grow H S S' → K 0 H') :
    CallH Tryz.prog fn_ref02_Writer_Rice ⟨[.pointer (some ⟨w, 0, none⟩), .int .u64 nn, .int .i64 kk]⟩ H fun v H' => ∃ e, v = .int .i64 e ∧ K e H' := by
  subst en; subst ek
  apply vc_ref02_Writer_Rice
  obtain ⟨o, l, c, hb, ho, rfl, hw⟩ := h.it
  have hl := ho.1
  refine brB_of (fun h => by simp at h; omega) fun _ => brB_of (fun h => by simp at h; omega) fun _ => ⟨o, l, c, hb.ld0 (by kernel_rfl) rfl, ?_⟩
  refine rCode_ok rfl rfl hk40 hn fun o1 l1 c1 H1 h1 f1 => ⟨(hb.keep f1).ld0 (by kernel_rfl) rfl, ?_⟩
  have hl1 := h1.1
  have hcl : (codeB n k).length ≤ 88 := by
    rw [codeB_len]
    split <;> omega
  refine ap_grow slice191 elem4 (ho.keep f1) h1.sl (Nat.zero_le _) (by omega) fun a' n' c' H2 h2 f2 g2 => ?_
  have hb2 := (hb.keep f1).fr f2 hw
  have hlt := hb.lt
  have hsz := f1.size
  have hnb : w ∉ blkL a' := fun hm => (g2 w hm).elim hw fun h => by
    have : w < H.size := hlt
    omega
  refine hb2.st0 (v := .slice a' n' c') (by kernel_rfl) (by kernel_rfl) (fun x hx => by simp [Value.cells] at hx; subst hx; rfl) (by simp [Value.cells]) fun H3 hb3 hf3 => ⟨_, rfl, hk H3 (w :: blkL a') ⟨a', n', c', hb3, h2.fr hf3 (fun ad e hh => hnb (by
    have : ad.block = w := by simpa using hh
    simp [e, blkL, this])), rfl, hnb⟩ ?_ ?_⟩
  · have f12 : Fr (w :: blkL o) H H2 := (f1.mono (by simp)).trans' f2 (fun k hk _ => hk) fun k hk _ => by simp [hk]
    exact f12.trans' hf3 (fun k hk _ => hk) fun k hk _ => by simp at hk; simp [hk]
  · intro k hk
    rcases List.mem_cons.1 hk with e | e
    · exact .inl (by simp [e])
    · rcases g2 k e with h5 | h5
      · exact .inl (by simp [h5])
      · exact .inr (by omega)

theorem _root_.Go.GV.Sl.at' {α : Type} {E : Enc α} {H : Heap} {a : Option Addr} {n c : Nat} {xs : List α} (h : Sl E H a n c xs) {k : Nat} (hk : k < n) : ∃ x, xs[k]? = some x := getElem_ex (by rw [← h.len]; exact hk)
theorem _root_.Go.GV.Own.idx {α : Type} {E : Enc α} {t base : Nat} {H : Heap} {a : Option Addr} {n c : Nat} {xs : List α} (h : Own E t base H a n c xs) {i : Int} {k : Nat} {x : α} {b : Bool} (hi : i = k) (hx : xs[k]? = some x) (hb : b = true) {X : Addr → Prop}
    (hk : ∀ ad, a = some ad → CellsAt H (ad.add (i.toNat * E.sz)) (E.cells x) → X ad) : exSome a fun ad => chk b (X ad) := h.sl.get hi hx hb hk

theorem slice81 : sliceB Tryz.prog 81 5 = true := by kernel_rfl
theorem elem5 : elemB Tryz.prog 5 encByte.sz 1 = true := by kernel_rfl
theorem pow_u8 {r : Nat} (h : r < 8) : Int.fdiv 128 (2 ^ min (Int.toNat (IntKind.wrap .u64 ((r : Nat) : Int))) 8) = ((2 ^ (7 - r) : Nat) : Int) := by
  have : r = 0 ∨ r = 1 ∨ r = 2 ∨ r = 3 ∨ r = 4 ∨ r = 5 ∨ r = 6 ∨ r = 7 := by omega
  rcases this with e | e | e | e | e | e | e | e <;> subst e <;> rfl
theorem rBytes_ok {H : Heap} {w : Nat} {S : List Nat} {bs : List Bool} {K : ByteArray → Heap → Prop} (h : RwH H w S bs) (hlen : bs.length ≤ 1000000000000) (hk : ∀ H', Fr [] H H' → K ⟨(pack bs).toArray⟩ H') :
    CallH Tryz.prog fn_ref02_Writer_Bytes ⟨[.pointer (some ⟨w, 0, none⟩)]⟩ H fun v H' => ∃ s, v = .string s ∧ K s H' := by
  apply vc_ref02_Writer_Bytes
  obtain ⟨o, l, c, hb, ho, rfl, hw⟩ := h.it
  have hl := ho.1
  have ldb : ∀ {H' : Heap}, Fr [] H H' → Ld Tryz.prog 191 H' ⟨w, 0, none⟩ (.slice o l c) := fun hf => (hb.keep hf).ld0 (by kernel_rfl) rfl
  refine ⟨_, _, _, ldb (Fr.refl _ _), ?_⟩
  have en : IntKind.wrap .i64 (Int.tdiv (IntKind.wrap .i64 ((l : Int) + 7)) 8) = (((l + 7) / 8 : Nat) : Int) := by
    have : Int.tdiv ((l + 7 : Nat) : Int) 8 = (((l + 7) / 8 : Nat) : Int) := (Int.ofNat_tdiv (l + 7) 8).symm
    rw [wrap64_of (n := (l : Int) + 7) (by omega) (by omega), show (l : Int) + 7 = ((l + 7 : Nat) : Int) by omega, this, wrap64_of (by omega) (by omega)]
  rw [en]
  generalize hn : (l + 7) / 8 = n at *
  refine mk_full (E := encByte) (u := .int .u8 0) (0 : UInt8) slice81 elem5 rfl rfl rfl rfl (by omega) fun b H1 hb1 h1 f1 => ?_
  refine ⟨fun vs H' => match vs with | [.int _ i] => ∃ j : Nat, i = j ∧ j ≤ l ∧ Own encByte 5 H.size H' (some ⟨b, 0, none⟩) n n (bufB bs j n) ∧ Fr [] H H' | _ => False, fun vs _ => match vs with | [.int _ i] => l - i.toNat | _ => 0,
    ⟨0, rfl, by omega, by rw [bufB_zero]; exact h1, f1⟩, ?_⟩
  rintro J i H2 ⟨j, rfl, hj, h2, f2⟩
  refine ⟨_, _, _, ldb f2, brB_of (fun h0 => ?_) (fun h0 => ?_)⟩
  · have hlt : j < l := by simp at h0; omega
    obtain ⟨bt, hbt⟩ := ho.sl.at' hlt
    refine ⟨_, _, _, ldb f2, ((ho.keep f2).idx rfl hbt (decide_eq_true (by omega)) fun ad ea hc => ⟨_, ld_one (by kernel_rfl) hc, ?_⟩)⟩
    have e8 : IntKind.wrap .i64 (Int.tdiv ((j : Nat) : Int) 8) = ((j / 8 : Nat) : Int) := by
      have : Int.tdiv ((j : Nat) : Int) 8 = ((j / 8 : Nat) : Int) := (Int.ofNat_tdiv j 8).symm
      rw [this, wrap64_of (by omega) (by omega)]
    have em : Int.tmod ((j : Nat) : Int) 8 = ((j % 8 : Nat) : Int) := (Int.ofNat_tmod j 8).symm
    obtain ⟨x, hx, hx2⟩ := bufB_at (l := bs) (i := j) (n := n) (by omega) (by omega)
    rw [e8, em, succ64 (by omega)]
    have hmu : l - ((j + 1 : Nat) : Int).toNat < l - ((j : Nat) : Int).toNat := by omega
    refine brB_of (fun ht => ?_) (fun ht => ?_)
    · subst ht
      refine h2.idx rfl hx (decide_eq_true (by omega)) fun ad2 ea2 hc2 => ⟨_, ld_one (by kernel_rfl) hc2, ?_⟩
      refine chk_true (decide_eq_true (by rw [nat_wrapU (by omega)]; omega)) ?_
      rw [pow_u8 (by omega)]
      have hs := bufB_step hbt (n := n) (by omega) hx
      have ev : IntKind.wrap .u8 ((x.toNat : Int) + ((2 ^ (7 - j % 8) : Nat) : Int)) = ((UInt8.ofNat (x.toNat + true.toNat * 2 ^ (7 - j % 8))).toNat : Int) := by
        have e1 : (UInt8.ofNat (x.toNat + true.toNat * 2 ^ (7 - j % 8))).toNat = x.toNat + 2 ^ (7 - j % 8) := by
          rw [UInt8.toNat_ofNat']; simp; omega
        rw [e1, wrapU8 (by omega)]; omega
      rw [ev]
      refine own_put (E := encByte) (UInt8.ofNat (x.toNat + true.toNat * 2 ^ (7 - j % 8))) h2 rfl (by omega) (decide_eq_true (by omega)) rfl (by kernel_rfl) (by kernel_rfl) fun H3 h3 f3 => ⟨⟨j + 1, rfl, by omega, by rw [hs]; exact h3, f2.keep f3 fun k hk => (h2.ge k hk).1⟩, hmu⟩
    · subst ht
      refine ⟨⟨j + 1, rfl, by omega, by rw [bufB_next hbt (by omega)]; exact h2, f2⟩, hmu⟩
  · have : j = bs.length := by simp at h0; omega
    subst this
    rw [bufB_pack n bs (by omega)] at h2
    exact cv_bs (e := 5) slice81 bT.str (by kernel_rfl) h2.sl ⟨_, rfl, hk H2 f2⟩

def encN : Enc Nat := ⟨fun n => [.int .u64 (n : Int)], 1, fun _ => rfl, by decide, fun _ v h => by simp at h; subst h; rfl⟩
theorem Cost_ok {H : Heap} {a : Option Addr} {n c : Nat} {l : List Nat} {kk : Int} {k : Nat} {K : Int → Heap → Prop} (hl : Sl encN H a n c l) (hlt : ∀ x ∈ l, x < 18446744073709551616) (hn : n ≤ 1000000) (ek : kk = k) (hk40 : k ≤ 40) (hk : K (costN l k : Nat) H) :
    CallH Tryz.prog fn_rice_Cost ⟨[.slice a n c, .int .i64 kk]⟩ H fun v H' => ∃ n, v = .int .i64 n ∧ K n H' := by
  subst ek
  apply vc_rice_Cost
  refine ⟨fun _ H' => H' = H, brB_of (fun h => by simp at h; omega) fun _ => brB_of (fun h => by simp at h; omega) fun _ => rfl, ?_⟩
  rintro J H1 rfl
  refine ⟨fun vs H' => match vs with | [.int _ s, .int _ i] => ∃ j : Nat, i = j ∧ j ≤ n ∧ s = (costN (l.take j) k : Nat) ∧ H' = H1 | _ => False, fun vs _ => match vs with | [_, .int _ i] => n - i.toNat | _ => 0, ⟨0, rfl, by omega, rfl, rfl⟩, ?_⟩
  rintro J s i H2 ⟨j, rfl, hj, rfl, rfl⟩
  refine brB_of (fun h0 => ?_) (fun h0 => ?_)
  · have hjn : j < n := by simp at h0; omega
    obtain ⟨x, hx⟩ := hl.at' hjn
    have hx64 := hlt x (List.mem_of_getElem? hx)
    refine hl.get rfl hx (decide_eq_true (by omega)) fun ad ea hc => ⟨_, ld_one (by kernel_rfl) hc, chk_true (decide_eq_true (by rw [nat_wrapU (by omega)]; omega)) ?_⟩
    have eb : IntKind.bits .u64 = 64 := rfl
    rw [eb, fdivU _ (by omega), succ64 (by omega)]
    have hmu : n - ((j + 1 : Nat) : Int).toNat < n - ((j : Nat) : Int).toNat := by omega
    have hct := costN_take (k := k) hx
    have hcl := costN_le (l.take j) hk40
    rw [List.length_take] at hcl
    have hcl2 := codeB_len x k
    generalize hq : x / 2 ^ k = q at *
    refine brB_of (fun h1 => ?_) (fun h1 => ?_)
    · have h24 : q < 24 := by simp at h1; omega
      rw [if_neg (by omega)] at hcl2
      refine ⟨⟨j + 1, rfl, by omega, ?_, rfl⟩, hmu⟩
      rw [wrap64_of (n := (q : Int)) (by omega) (by omega), wrap64_of (n := (q : Int) + 1) (by omega) (by omega), wrap64_of (n := (q : Int) + 1 + k) (by omega) (by omega), wrap64_of (by omega) (by omega)]
      omega
    · have h24 : 24 ≤ q := by simp at h1; omega
      rw [if_pos h24] at hcl2
      refine ⟨⟨j + 1, rfl, by omega, ?_, rfl⟩, hmu⟩
      rw [wrap64_of (by omega) (by omega)]
      omega
  · have : j = n := by simp at h0; omega
    subst this
    rw [List.take_of_length_le (by rw [hl.len]; exact Nat.le_refl _)]
    exact ⟨_, rfl, hk⟩
theorem rCost_ok {H : Heap} {a : Option Addr} {n c : Nat} {l : List Nat} {kk : Int} {k : Nat} {K : Int → Heap → Prop} (hl : Sl encN H a n c l) (hlt : ∀ x ∈ l, x < 18446744073709551616) (hn : n ≤ 1000000) (ek : kk = k) (hk40 : k ≤ 40) (hk : ∀ H', Fr [] H H' → K (costN l k : Nat) H') :
    CallH Tryz.prog fn_ref02_Cost ⟨[.slice a n c, .int .i64 kk]⟩ H fun v H' => ∃ n, v = .int .i64 n ∧ K n H' := by
  subst ek
  apply vc_ref02_Cost
  refine ⟨fun _ H' => H' = H, brB_of (fun h => by simp at h; omega) fun _ => brB_of (fun h => by simp at h; omega) fun _ => rfl, ?_⟩
  rintro J H1 rfl
  refine ⟨fun vs H' => match vs with | [.int _ s, .int _ i] => ∃ j : Nat, i = j ∧ j ≤ n ∧ s = (costN (l.take j) k : Nat) ∧ Fr [] H1 H' | _ => False, fun vs _ => match vs with | [_, .int _ i] => n - i.toNat | _ => 0, ⟨0, rfl, by omega, rfl, Fr.refl _ _⟩, ?_⟩
  rintro J s i H2 ⟨j, rfl, hj, rfl, f2⟩
  refine brB_of (fun h0 => ?_) (fun h0 => ?_)
  · have hjn : j < n := by simp at h0; omega
    obtain ⟨x, hx⟩ := hl.at' hjn
    have hx64 := hlt x (List.mem_of_getElem? hx)
    refine (hl.keep f2).get rfl hx (decide_eq_true (by omega)) fun ad ea hc => ⟨_, ld_one (by kernel_rfl) hc, ?_⟩
    have hct := costN_take (k := k) hx
    have hcl := costN_le (l.take j) hk40
    rw [List.length_take] at hcl
    refine rCode_ok rfl rfl hk40 hx64 fun o m d H3 h3 f3 => ?_
    have hm := h3.1
    have hcb := codeB_len x k
    rw [succ64 (by omega), wrap64_of (by split at hcb <;> omega) (by split at hcb <;> omega)]
    have hmu : n - ((j + 1 : Nat) : Int).toNat < n - ((j : Nat) : Int).toNat := by omega
    refine ⟨⟨j + 1, rfl, by omega, by omega, f2.keep0 f3⟩, hmu⟩
  · have : j = n := by simp at h0; omega
    subst this
    rw [List.take_of_length_le (by rw [hl.len]; exact Nat.le_refl _)]
    exact ⟨_, rfl, hk _ f2⟩
theorem Best_ok {H : Heap} {a : Option Addr} {n c : Nat} {l : List Nat} {K : Int → Heap → Prop} (hl : Sl encN H a n c l) (hlt : ∀ x ∈ l, x < 18446744073709551616) (hn : n ≤ 1000000) (hk : ∀ H', Fr [] H H' → K (bestN l : Nat) H') :
    CallH Tryz.prog fn_rice_Best ⟨[.slice a n c]⟩ H fun v H' => ∃ n, v = .int .i64 n ∧ K n H' := by
  apply vc_rice_Best
  intro b H1 hn1
  refine ⟨_, _, _, hn1.blk.ld0 (by kernel_rfl) rfl, ?_⟩
  refine Cost_ok (k := 0) (hl.keep hn1.fr) hlt hn rfl (by omega) fun b1 H2 hn2 b2 H3 hn3 => ?_
  have e0 := hn1.eq
  have e1 := hn2.eq
  have e2 := hn3.eq
  have s0 := hn1.size
  have s1 := hn2.size
  have b01 := (hn1.blk.keep hn2.fr).keep hn3.fr
  have b11 := hn2.blk.keep hn3.fr
  refine b11.st0 (v := .int .i64 0) (by kernel_rfl) (by kernel_rfl) (fun x hx => by simp [Value.cells] at hx; subst hx; rfl) (by simp [Value.cells]) fun H4 hb4 hf4 => ?_
  have b22 := hn3.blk.fr hf4 (by simp; omega)
  refine b22.st0 (v := .int .i64 ((costN l 0 : Nat) : Int)) (by kernel_rfl) (by kernel_rfl) (fun x hx => by simp [Value.cells] at hx; subst hx; rfl) (by simp [Value.cells]) fun H5 hb5 hf5 => ?_
  have f3 : Fr [] H H3 := (hn1.fr.keep0 hn2.fr).keep0 hn3.fr
  have f4 : Fr [] H H4 := f3.keep hf4 fun k hk => by simp at hk; omega
  have f5 : Fr [] H H5 := f4.keep hf5 fun k hk => by simp at hk; omega
  have b05 := (b01.fr hf4 (by simp; omega)).fr hf5 (by simp; omega)
  have b15 := hb4.fr hf5 (by simp; omega)
  refine ⟨fun vs H' => match vs with | [.int _ i] => ∃ j : Nat, i = ((j + 1 : Nat) : Int) ∧ j ≤ 40 ∧ Blk H' ⟨b, 0, none⟩ [.slice a n c] ∧ Blk H' ⟨b1, 0, none⟩ [.int .i64 (bestTo l j : Nat)] ∧ Blk H' ⟨b2, 0, none⟩ [.int .i64 (costN l (bestTo l j) : Nat)] ∧ Fr [] H H' | _ => False, fun vs _ => match vs with | [.int _ i] => 41 - i.toNat | _ => 0,
    ⟨0, rfl, by omega, b05, b15, hb5, f5⟩, ?_⟩
  rintro J i H6 ⟨j, rfl, hj, h0, h1, h2, f6⟩
  refine brB_of (fun hle => ?_) (fun hle => ?_)
  · have hj40 : j + 1 ≤ 40 := by simp at hle; omega
    refine ⟨118, ⟨[]⟩, _, rfl, by kernel_rfl, ?_⟩
    apply vc_rice_Best_1
    refine ⟨_, _, _, h0.ld0 (by kernel_rfl) rfl, ?_⟩
    refine Cost_ok (k := j + 1) (hl.keep f6) hlt hn rfl hj40 ⟨_, h2.ld0 (by kernel_rfl) rfl, ?_⟩
    rw [succ64 (by omega)]
    have hmu : 41 - ((j + 1 + 1 : Nat) : Int).toNat < 41 - ((j + 1 : Nat) : Int).toNat := by omega
    refine brB_of (fun h3 => ?_) (fun h3 => ?_)
    · have h3 : costN l (j + 1) < costN l (bestTo l j) := by simp at h3; omega
      refine h1.st0 (v := .int .i64 ((j + 1 : Nat) : Int)) (by kernel_rfl) (by kernel_rfl) (fun x hx => by simp [Value.cells] at hx; subst hx; rfl) (by simp [Value.cells]) fun H7 hb7 hf7 => ?_
      refine (h2.fr hf7 (by simp; omega)).st0 (v := .int .i64 ((costN l (j + 1) : Nat) : Int)) (by kernel_rfl) (by kernel_rfl) (fun x hx => by simp [Value.cells] at hx; subst hx; rfl) (by simp [Value.cells]) fun H8 hb8 hf8 => ?_
      have e : bestTo l (j + 1) = j + 1 := by rw [bestTo, if_pos h3]
      refine ⟨rfl, ⟨j + 1, rfl, hj40, (h0.fr hf7 (by simp; omega)).fr hf8 (by simp; omega), ?_, ?_, ?_⟩, hmu⟩
      · rw [e]; exact hb7.fr hf8 (by simp; omega)
      · rw [e]; exact hb8
      · exact (f6.keep hf7 fun k hk => by simp at hk; omega).keep hf8 fun k hk => by simp at hk; omega
    · have h3 : ¬ costN l (j + 1) < costN l (bestTo l j) := by simp at h3; omega
      have e : bestTo l (j + 1) = bestTo l j := by rw [bestTo, if_neg h3]
      exact ⟨rfl, ⟨j + 1, rfl, hj40, h0, by rw [e]; exact h1, by rw [e]; exact h2, f6⟩, hmu⟩
  · have : j = 40 := by simp at hle; omega
    subst this
    exact ⟨_, h1.ld0 (by kernel_rfl) rfl, _, rfl, hk _ f6⟩
theorem rBest_ok {H : Heap} {a : Option Addr} {n c : Nat} {l : List Nat} {K : Int → Heap → Prop} (hl : Sl encN H a n c l) (hlt : ∀ x ∈ l, x < 18446744073709551616) (hn : n ≤ 1000000) (hk : ∀ H', Fr [] H H' → K (bestN l : Nat) H') :
    CallH Tryz.prog fn_ref02_Best ⟨[.slice a n c]⟩ H fun v H' => ∃ n, v = .int .i64 n ∧ K n H' := by
  apply vc_ref02_Best
  refine ⟨fun vs H' => match vs with | [.int _ m, .int _ i] => ∃ j : Nat, i = ((j + 1 : Nat) : Int) ∧ j ≤ 40 ∧ m = (bestTo l j : Nat) ∧ Fr [] H H' | _ => False, fun vs _ => match vs with | [_, .int _ i] => 41 - i.toNat | _ => 0, ⟨0, rfl, by omega, rfl, Fr.refl _ _⟩, ?_⟩
  rintro J m i H1 ⟨j, rfl, hj, rfl, f1⟩
  refine brB_of (fun hle => ?_) (fun hle => ?_)
  · have hj40 : j + 1 ≤ 40 := by simp at hle; omega
    have hb := bestTo_le l j
    refine rCost_ok (k := j + 1) (hl.keep f1) hlt hn rfl hj40 fun H2 f2 => ?_
    refine rCost_ok (k := bestTo l j) (hl.keep (f1.keep0 f2)) hlt hn rfl (by omega) fun H3 f3 => ?_
    rw [succ64 (by omega)]
    have hmu : 41 - ((j + 1 + 1 : Nat) : Int).toNat < 41 - ((j + 1 : Nat) : Int).toNat := by omega
    refine brB_of (fun h3 => ?_) (fun h3 => ?_)
    · have h3 : costN l (j + 1) < costN l (bestTo l j) := by simp at h3; omega
      exact ⟨⟨j + 1, rfl, hj40, by rw [bestTo, if_pos h3], (f1.keep0 f2).keep0 f3⟩, hmu⟩
    · have h3 : ¬ costN l (j + 1) < costN l (bestTo l j) := by simp at h3; omega
      exact ⟨⟨j + 1, rfl, hj40, by rw [bestTo, if_neg h3], (f1.keep0 f2).keep0 f3⟩, hmu⟩
  · have : j = 40 := by simp at hle; omega
    subst this
    exact ⟨_, rfl, hk _ f1⟩
end Go.Proofs
set_option linter.unusedVariables false
open Go Go.GV
namespace Go.Proofs

def encS : Enc Smp := ⟨fun x => [.int .i64 x.1, .int .i64 x.2], 2, fun _ => rfl, by decide, fun _ v h => by simp at h; rcases h with rfl | rfl <;> rfl⟩
theorem elem26 : elemB Tryz.prog 107 2 16 = true := by kernel_rfl
theorem slice22 : sliceB Tryz.prog 90 107 = true := by kernel_rfl
abbrev vS (x : Smp) : Value := .agg ⟨[.int .i64 x.1, .int .i64 x.2]⟩
theorem ldS {H : Heap} {ad : Addr} {x : Smp} (h : CellsAt H ad (encS.cells x)) : Ld Tryz.prog 107 H ad (vS x) := ld_many (by kernel_rfl) (by kernel_rfl) h
theorem ldT {H : Heap} {ad : Addr} {x : Smp} (h : CellsAt H ad (encS.cells x)) : Ld Tryz.prog 3 H ad (.int .i64 x.1) := ld_cell (by kernel_rfl) (by have := h 0 _ rfl; simpa [Addr.add] using this)

def cmpI (x y : Int) : Int := if x < y then -1 else if x > y then 1 else 0
theorem Compare_ok {x y : Int} {H : Heap} {K : Int → Heap → Prop} (hk : K (cmpI x y) H) : CallH Tryz.prog fn_cmp_Compare_int_ ⟨[.int .i64 x, .int .i64 y]⟩ H fun v H' => ∃ n, v = .int .i64 n ∧ K n H' := by
  apply vc_cmp_Compare_int_
  apply vc_cmp_isNaN_int_
  refine ⟨_, rfl, ?_⟩
  apply vc_cmp_isNaN_int_
  refine ⟨_, rfl, ?_⟩
  refine brB_of (fun h => by simp at h) (fun _ => brB_of (fun h => by simp at h) (fun _ => ?_))
  unfold cmpI at hk
  refine brB_of (fun h => ⟨_, rfl, ?_⟩) (fun h => brB_of (fun h1 => ⟨_, rfl, ?_⟩) (fun h1 => ⟨_, rfl, ?_⟩))
  · rwa [if_pos (by simpa using h)] at hk
  · rwa [if_neg (by simpa using h), if_pos (by simpa using h1)] at hk
  · rwa [if_neg (by simpa using h), if_neg (by simpa using h1)] at hk

theorem byTime_ok {x y : Smp} {H : Heap} {K : Int → Heap → Prop} (hk : ∀ H', Fr [] H H' → K (cmpI x.1 y.1) H') : CallH Tryz.prog fn_series_byTime ⟨[vS x, vS y]⟩ H fun v H' => ∃ n, v = .int .i64 n ∧ K n H' := by
  apply vc_series_byTime
  intro b H1 hn b1 H2 hn2
  refine ⟨_, (hn.blk.keep hn2.fr).ld0 (by kernel_rfl) rfl, _, hn2.blk.ld0 (by kernel_rfl) rfl, ?_⟩
  exact Compare_ok ⟨_, rfl, hk _ (hn.fr.keep0 hn2.fr)⟩

def ByT (order : Value) : Prop := ∀ (x y : Smp) (H : Heap) (K : Int → Heap → Prop), (∀ H', Fr [] H H' → K (cmpI x.1 y.1) H') → CallV Tryz.prog order [vS x, vS y] H fun v H' => ∃ n, v = .int .i64 n ∧ K n H'
theorem byT : ByT (.func (.func 72) #[] #[]) := fun x y H K hk => ⟨72, #[], #[], rfl, by kernel_rfl, byTime_ok hk⟩

theorem merge_ok {order : Value} {a b : Option Addr} {n c m d : Nat} {xs ys : List Smp} {H : Heap} {K : Option Addr → Nat → Nat → Heap → Prop} (ho : ByT order) (hx : Sl encS H a n c xs) (hy : Sl encS H b m d ys)
    (hlen : n + m ≤ 1000000000) (hk : ∀ a' n' c' H', Own encS 107 H.size H' a' n' c' (mrg xs ys) → Fr [] H H' → K a' n' c' H') :
    CallH Tryz.prog fn_series_merge_api_Sample_ ⟨[.slice a n c, .slice b m d, order]⟩ H fun v H' => ∃ a n c, v = .slice a n c ∧ K a n c H' := by
  apply vc_series_merge_api_Sample_
  rw [wrap64_of (by omega) (by omega)]
  refine mk_own (E := encS) slice22 elem26 (by omega) (by omega) fun b0 H1 ho1 hf1 => ?_
  refine ⟨fun vs H' => match vs with
      | [.slice a n c, .slice b m d, .slice o p q] => ∃ zs us ws, Sl encS H a n c zs ∧ Sl encS H b m d us ∧ Own encS 107 H.size H' o p q ws ∧ ws ++ mrg zs us = mrg xs ys ∧ p + n + m ≤ 1000000000 ∧ Fr [] H H'
      | _ => False,
    fun vs _ => match vs with | [.slice _ n _, .slice _ m _, _] => n + m | _ => 0, ⟨xs, ys, [], hx, hy, ho1, rfl, by omega, hf1⟩, ?_⟩
  rintro J a n c b m d o p q H2 ⟨zs, us, ws, hz, hu, hw, he, hsz, hf⟩
  have hn := hz.len
  have hm := hu.len
  have hp := hw.1
  have hcz := hz.cap
  have hcu := hu.cap
  have last : (zs = [] ∨ us = []) → SemWp Tryz.prog (Builtin.append_ ⟨[90, 90]⟩ 90 ⟨[.slice o p q, .slice a n c]⟩) H2 fun v H' => ∃ a n c, v = .slice a n c ∧ SemWp Tryz.prog (Builtin.append_ ⟨[90, 90]⟩ 90 ⟨[.slice a n c, .slice b m d]⟩) H' fun v H' => ∃ a n c, v = .slice a n c ∧ (∃ a_1 n_1 c_1, Value.slice a n c = .slice a_1 n_1 c_1 ∧ K a_1 n_1 c_1 H') := by
    intro he0
    refine ap_own (E := encS) slice22 elem26 hw hf (hz.keep hf) (by omega) fun o2 p2 q2 H3 hw2 hf2 _ => ?_
    have hb2 := hw2.1
    refine ap_own (E := encS) slice22 elem26 hw2 hf2 (hu.keep hf2) (by simp at hb2; omega) fun o3 p3 q3 H4 hw3 hf3 _ => ⟨_, _, _, rfl, hk _ _ _ _ ?_ hf3⟩
    rw [List.append_assoc] at hw3
    have : zs ++ us = mrg zs us := by
      rcases he0 with rfl | rfl
      · rw [mrg_nil]; rfl
      · rw [mrg_nil']; simp
    rwa [this, he] at hw3
  refine brB_of (fun h0 => brB_of (fun h1 => ?_) (fun h1 => last (.inr ?_))) (fun h0 => last (.inl ?_))
  · cases zs with
    | nil => simp at hn h0; omega
    | cons x zs =>
    cases us with
    | nil => simp at hm h1; omega
    | cons y us =>
    simp only [List.length_cons] at hn hm
    have hz1 : Sl encS H (slA c 1 2 a) ((n : Int).toNat - 1) (c - 1) zs := by
      have := hz.drop (k := 1) (by omega)
      rwa [Int.toNat_natCast]
    have hu1 : Sl encS H (slA d 1 2 b) ((m : Int).toNat - 1) (d - 1) us := by
      have := hu.drop (k := 1) (by omega)
      rwa [Int.toNat_natCast]
    refine (hz.keep hf).head (decide_eq_true (by omega)) fun ad ea hc => ⟨_, _, ldS hc, ?_⟩
    refine (hu.keep hf).head (decide_eq_true (by omega)) fun bd eb hd => ⟨_, _, ldS hd, ?_⟩
    refine ho x y H2 _ fun H3 hf3 => ?_
    have hf' := hf.keep0 hf3
    have hw' := hw.keep hf3
    rw [mrg_cons] at he
    unfold cmpI
    refine brB_of (fun h2 => ?_) (fun h2 => brB_of (fun h3 => ?_) (fun h3 => ?_))
    · have hlt : x.1 < y.1 := by
        simp only [decide_eq_true_eq] at h2
        split at h2
        · assumption
        · split at h2 <;> omega
      rw [if_pos hlt] at he
      refine (hz.keep hf').head (decide_eq_true (by omega)) fun ad ea hc => ⟨_, _, ldS hc, chk_of ⟨by omega, by omega, by omega⟩ ?_⟩
      refine ap_one (E := encS) x slice22 elem26 hw' hf' rfl (by omega) fun _ o2 p2 q2 H4 hw2 hf2 _ => ?_
      have hb2 := hw2.1
      simp at hb2
      exact ⟨⟨zs, y :: us, ws ++ [x], hz1, hu, hw2, by rw [← he]; simp, by omega, hf2⟩, by show (n : Int).toNat - 1 + m < n + m; omega⟩
    · have hge : ¬ x.1 < y.1 ∧ x.1 = y.1 := by
        simp only [beq_iff_eq] at h3
        split at h3
        · cases h3
        · split at h3
          · cases h3
          · omega
      rw [if_neg hge.1, if_pos hge.2] at he
      refine chk_of ⟨by omega, by omega, by omega⟩ ?_
      refine (hu.keep hf').head (decide_eq_true (by omega)) fun ad ea hc => ⟨_, _, ldS hc, chk_of ⟨by omega, by omega, by omega⟩ ?_⟩
      refine ap_one (E := encS) y slice22 elem26 hw' hf' rfl (by omega) fun _ o2 p2 q2 H4 hw2 hf2 _ => ?_
      have hb2 := hw2.1
      simp at hb2
      exact ⟨⟨zs, us, ws ++ [y], hz1, hu1, hw2, by rw [← he]; simp, by omega, hf2⟩, by show (n : Int).toNat - 1 + ((m : Int).toNat - 1) < n + m; omega⟩
    · have hge : ¬ x.1 < y.1 ∧ ¬ x.1 = y.1 := by
        simp only [decide_eq_false_iff_not, beq_eq_false_iff_ne, ne_eq] at h2 h3
        split at h2
        · omega
        · rename_i h4
          rw [if_neg h4] at h3
          split at h3
          · omega
          · omega
      rw [if_neg hge.1, if_neg hge.2] at he
      refine (hu.keep hf').head (decide_eq_true (by omega)) fun ad ea hc => ⟨_, _, ldS hc, chk_of ⟨by omega, by omega, by omega⟩ ?_⟩
      refine ap_one (E := encS) y slice22 elem26 hw' hf' rfl (by omega) fun _ o2 p2 q2 H4 hw2 hf2 _ => ?_
      have hb2 := hw2.1
      simp at hb2
      exact ⟨⟨x :: zs, us, ws ++ [y], hz, hu1, hw2, by rw [← he]; simp, by omega, hf2⟩, by show n + ((m : Int).toNat - 1) < n + m; omega⟩
  · cases us with
    | nil => rfl
    | cons y us => simp at hm h1; omega
  · cases zs with
    | nil => rfl
    | cons y us => simp at hn h0; omega

theorem Merge_ok {a b : Option Addr} {n c m d : Nat} {xs ys : List Smp} {H : Heap} {K : Option Addr → Nat → Nat → Heap → Prop} (hx : Sl encS H a n c xs) (hy : Sl encS H b m d ys)
    (hlen : n + m ≤ 1000000000) (hk : ∀ a' n' c' H', Own encS 107 H.size H' a' n' c' (mrg xs ys) → Fr [] H H' → K a' n' c' H') :
    CallH Tryz.prog fn_series_Merge ⟨[.slice a n c, .slice b m d]⟩ H fun v H' => ∃ a n c, v = .slice a n c ∧ K a n c H' := by
  apply vc_series_Merge
  exact merge_ok byT hx hy hlen fun a' n' c' H' h1 h2 => ⟨_, _, _, rfl, hk _ _ _ _ h1 h2⟩

theorem rRises_ok {a : Option Addr} {n c : Nat} {xs : List Smp} {H : Heap} {K : Bool → Heap → Prop} (hx : Sl encS H a n c xs) (hn : n ≤ 1000000000) (hk : K (decide (Ris xs)) H) :
    CallH Tryz.prog fn_ref13_Rises ⟨[.slice a n c]⟩ H fun v H' => ∃ r, v = .bool r ∧ K r H' := by
  apply vc_ref13_Rises
  have hlx := hx.len
  refine ⟨fun vs H' => match vs with | [.int _ i] => ∃ k : Nat, i = k ∧ 1 ≤ k ∧ (∀ j x y, j + 1 < k → xs[j]? = some x → xs[j + 1]? = some y → x.1 < y.1) ∧ H' = H | _ => False,
    fun vs _ => match vs with | [.int _ i] => n - i.toNat | _ => 0, ⟨1, rfl, by omega, fun _ _ _ h => by omega, rfl⟩, ?_⟩
  rintro J i H' ⟨k, rfl, hle, ht, rfl⟩
  refine brB_of (fun h0 => ?_) (fun h0 => ⟨_, rfl, ?_⟩)
  · have h0' : k < n := by simpa using h0
    rw [succ64 (by omega), pred64 (by omega) (by omega)]
    have hx1 : xs[k - 1]? = some (xs[k - 1]'(by omega)) := by simp
    have hx2 : xs[k]? = some (xs[k]'(by omega)) := by simp
    refine hx.get rfl hx2 (decide_eq_true (by omega)) fun ad ea hc => ⟨_, ldT hc, ?_⟩
    refine hx.get rfl hx1 (decide_eq_true (by omega)) fun bd eb hd => ⟨_, ldT hd, ?_⟩
    refine brB_of (fun h2 => ⟨_, rfl, ?_⟩) (fun h2 => ?_)
    · have : ¬ Ris xs := fun hr => by
        have := ris_next hr (i := k - 1) hx1 (by rw [show k - 1 + 1 = k by omega]; exact hx2)
        simp at h2; omega
      rwa [decide_eq_false this] at hk
    · refine ⟨⟨k + 1, rfl, by omega, fun j x y hj hjx hjy => ?_, rfl⟩, mu_lt h0'⟩
      by_cases hj2 : j + 1 < k
      · exact ht j x y hj2 hjx hjy
      · have : j = k - 1 := by omega
        subst this
        rw [show k - 1 + 1 = k by omega, hx2] at hjy
        rw [hx1] at hjx
        cases hjx
        cases hjy
        simpa using h2
  · have : Ris xs := ris_of_next fun j x y hjx hjy => ht j x y (by
      have := (List.getElem?_eq_some_iff.1 hjy).1
      simp at h0; omega) hjx hjy
    rwa [decide_eq_true this] at hk

end Go.Proofs
set_option linter.unusedVariables false
open Go Go.GV
namespace Go.GV

theorem Lp.fr {H H' : Heap} {l : Nat} {R0 : Loop} {st : LoopState} {j : Option Code} {T : List Nat} (h : Lp H l R0 st j) (hf : Fr T H H') (hn : l ∉ T) : Lp H' l R0 st j := hf.get h hn
theorem Lp.lt {H : Heap} {l : Nat} {R0 : Loop} {st : LoopState} {j : Option Code} (h : Lp H l R0 st j) : l < H.size := lt_of_get h
theorem setLp_fr (H : Heap) (l : Nat) (R0 : Loop) (st : LoopState) (j : Option Code) : Fr [l] H (setLp H l R0 st j) := set_fr H l _
theorem setLp_get {H : Heap} {l : Nat} {R0 : Loop} {st : LoopState} {j : Option Code} (h : l < H.size) : Lp (setLp H l R0 st j) l R0 st j := by
  simp [Lp, setLp, h]
theorem setLp_size (H : Heap) (l : Nat) (R0 : Loop) (st : LoopState) (j : Option Code) : (setLp H l R0 st j).size = H.size := by simp [setLp]
theorem Dq.fr {H H' : Heap} {D : Nat} {T : List Nat} (h : Dq H D) (hf : Fr T H H') (hn : D ∉ T) : Dq H' D := hf.get h hn
theorem shutD_fr (H : Heap) (D : Nat) : Fr [D] H (shutD H D) := set_fr H D _
theorem NewL.out {H H' : Heap} {D l : Nat} {R0 : Loop} (h : NewL H D l R0 H') : Fr [] H H' ∧ Lp H' l R0 .ready none ∧ Dq H' D ∧ D = H.size ∧ l = H.size + 1 ∧ H'.size = H.size + 2 := by
  obtain ⟨rfl, rfl, rfl⟩ := h
  refine ⟨(push_fr _ _).keep0 (push_fr _ _), ?_, ?_, rfl, rfl, by simp⟩
  · unfold Lp
    rw [show H.size + 1 = (H.push (.deferred (some []))).size by simp]
    exact Array.getElem?_push_size
  · simp [Dq, Array.getElem?_push]

structure ColI {α : Type} (E : Enc α) (t base : Nat) (l D b : Nat) (R0 : Loop) (H0 : Heap) (ys : List α) (S : List Nat) (H : Heap) : Prop where
  fr : Fr [] H0 H
  lp : Lp H l R0 .ready none
  dq : Dq H D
  it : ∃ a n c, Blk H ⟨b, 0, none⟩ [.slice a n c] ∧ Own E t base H a n c ys ∧ S = b :: l :: D :: blkL a ∧ b ∉ blkL a ∧ l ∉ blkL a ∧ D ∉ blkL a
  bl : b ≠ l
  bD : b ≠ D
  lD : l ≠ D
  lo : ∀ k ∈ S, H0.size ≤ k

theorem ColI.start {α : Type} {E : Enc α} {t l D b : Nat} {R0 : Loop} {H0 H' H1 : Heap} (hf0 : Fr [] H0 H') (hb : Blk H' ⟨b, 0, none⟩ [.slice none 0 0]) (hlo : H0.size ≤ b) (hnl : NewL H' D l R0 H1) : ColI E t H0.size l D b R0 H0 ([] : List α) [b, l, D] H1 ∧ In H1 [b, l, D] := by
  obtain ⟨hf1, hlp, hdq, hD, hl, hs1⟩ := hnl.out
  have hlt := hb.lt
  have hs0 := hf0.size
  refine ⟨⟨hf0.keep0 hf1, hlp, hdq, ⟨none, 0, 0, hb.keep hf1, Own.nil .., rfl, by simp [blkL], by simp [blkL], by simp [blkL]⟩, by simp at hlt; omega, by simp at hlt; omega, by omega, fun k hk => ?_⟩, fun k hk => ?_⟩
  · simp only [List.mem_cons, List.mem_nil_iff, or_false] at hk
    omega
  · simp only [List.mem_cons, List.mem_nil_iff, or_false] at hk
    simp at hlt
    omega
theorem ColI.more {α : Type} {P : Program} {E : Enc α} {v : Value} {ts t bytes l D b : Nat} {R0 : Loop} {H0 H2 Hx : Heap} {ys : List α} {x : α} {S : List Nat} {a : Option Addr} {n c : Nat} {K : Heap → Prop}
    (hsl : sliceB P ts t = true) (hel : elemB P t E.sz bytes = true) (hsz : szOf P ts = 1) (hinf : (P.info? ts).isSome = true) (henc : E.cells x = [v])
    (hI : ColI E t H0.size l D b R0 H0 ys S H2) (hin : In H2 S) (hbk : Blk H2 ⟨b, 0, none⟩ [.slice a n c]) (ho : Own E t H0.size H2 a n c ys) (hS : S = b :: l :: D :: blkL a) (n1 : b ∉ blkL a) (n2 : l ∉ blkL a) (n3 : D ∉ blkL a) (hlen : (ys.length + 1) * bytes ≤ 140737488355328)
    (hx : Fr [] (setLp H2 l R0 .busy none) Hx)
    (hk : ∀ H5 S2, Lp H5 l R0 .busy none → ColI E t H0.size l D b R0 H0 (ys ++ [x]) S2 (setLp H5 l R0 .ready none) → Fr S H2 (setLp H5 l R0 .ready none) → Grow H2 S S2 → In (setLp H5 l R0 .ready none) S2 → K H5) :
    ∀ b1 H3, New Hx b1 (.cells ⟨[v]⟩ t) H3 → SemWp P (Builtin.append_ ⟨[ts, ts]⟩ ts ⟨[.slice a n c, .slice (some ⟨b1, 0, none⟩) 1 1]⟩) H3 fun v H' => ∃ a n c, v = .slice a n c ∧ ∃ H5, St P ts H' ⟨b, 0, none⟩ (.slice a n c) H5 ∧ K H5 := by
  intro b1 H3 hn3
  obtain ⟨h1, h2, h3, _, q1, q2, q3, q4⟩ := hI
  subst hS
  have fL := setLp_fr H2 l R0 .busy none
  have sL := setLp_size H2 l R0 .busy none
  have fx : Fr [] (setLp H2 l R0 .busy none) H3 := hx.keep0 hn3.fr
  have ho2 := ho.fr fL (fun ad e hh => n2 (by simp only [List.mem_singleton] at hh; simp [e, blkL, hh]))
  have hbase : H0.size ≤ H3.size := by have := h1.size; have := fx.size; omega
  refine ap_grow hsl hel (ho2.keep fx) (sl_one E x hn3 henc.symm) hbase (by rw [ho.1]; exact hlen) fun a' n' c' H4 ho4 hf4 hg4 => ?_
  have hb3 := ((hbk.fr fL (by simp [q1])).keep fx).fr hf4 n1
  refine hb3.st0 (v := .slice a' n' c') hsz hinf (fun x hx => by simp [Value.cells] at hx; subst hx; rfl) (by simp [Value.cells]) fun H5 hb5 hf5 => ?_
  have hlt := h2.lt
  have s3 := fx.size
  have hnew : ∀ k ∈ blkL a', k ∈ blkL a ∨ H2.size ≤ k := fun k hk => (hg4 k hk).imp id fun h => by omega
  have hbl : b < H2.size := hin b (by simp)
  have hDl : D < H2.size := hin D (by simp)
  have nb : b ∉ blkL a' := fun hk => (hnew b hk).elim n1 fun h => by omega
  have nl : l ∉ blkL a' := fun hk => (hnew l hk).elim n2 fun h => by omega
  have nD : D ∉ blkL a' := fun hk => (hnew D hk).elim n3 fun h => by omega
  have lp3 : Lp H3 l R0 .busy none := (setLp_get hlt).fr fx (by simp)
  have lp5 : Lp H5 l R0 .busy none := (lp3.fr hf4 n2).fr hf5 (by simp; exact fun e => q1 e.symm)
  have fE := setLp_fr H5 l R0 .ready none
  have f25 : Fr (b :: l :: D :: blkL a) H2 H5 := by
    have g1 : Fr (b :: l :: D :: blkL a) H2 H3 := fL.trans' fx (fun k hk _ => by simp at hk; simp [hk]) (by simp)
    have g2 : Fr (b :: l :: D :: blkL a) H2 H4 := g1.trans' hf4 (fun k hk _ => hk) (fun k hk _ => by simp [hk])
    exact g2.trans' hf5 (fun k hk _ => hk) (fun k hk _ => by simp at hk; simp [hk])
  have f26 : Fr (b :: l :: D :: blkL a) H2 (setLp H5 l R0 .ready none) := f25.trans' fE (fun k hk _ => hk) (fun k hk _ => by simp at hk; simp [hk])
  refine hk H5 (b :: l :: D :: blkL a') lp5 ?_ f26 ?_ ?_
  · refine ⟨h1.keep f26 q4, setLp_get lp5.lt, ?_, ⟨a', n', c', ?_, ?_, rfl, nb, nl, nD⟩, q1, q2, q3, ?_⟩
    · refine ((((h3.fr fL (by simp; exact fun e => q3 e.symm)).fr fx (by simp)).fr hf4 n3).fr hf5 (by simp; exact fun e => q2 e.symm)).fr fE (by simp; exact fun e => q3 e.symm)
    · have hb6 := hb5.fr fE (by simp [q1])
      simpa [Value.cells] using hb6
    · refine (ho4.fr hf5 fun ad e hh => nb (by simp only [List.mem_singleton] at hh; simp [e, blkL, hh])).fr fE fun ad e hh => nl (by simp only [List.mem_singleton] at hh; simp [e, blkL, hh])
    · intro k hk
      simp only [List.mem_cons] at hk
      rcases hk with rfl | rfl | rfl | hk
      · exact q4 _ (by simp)
      · exact q4 _ (by simp)
      · exact q4 _ (by simp)
      · exact (ho4.ge k hk).1
  · intro k hk
    simp only [List.mem_cons] at hk
    rcases hk with rfl | rfl | rfl | hk
    · exact .inl (by simp)
    · exact .inl (by simp)
    · exact .inl (by simp)
    · exact (hnew k hk).imp (fun h => by simp [h]) id
  · intro k hk
    have e6 := setLp_size H5 l R0 .ready none
    have e5 := f25.size
    have e45 := hf5.size
    simp only [List.mem_cons] at hk
    rcases hk with rfl | rfl | rfl | hk
    · omega
    · omega
    · omega
    · have := (ho4.ge k hk).2; omega
theorem ColI.done {α : Type} {P : Program} {E : Enc α} {ts t l D b : Nat} {R0 : Loop} {H0 H4 : Heap} {ys : List α} {S : List Nat} {K : Option Addr → Nat → Nat → Heap → Prop} (hab : aggB P ts = false) (hI : ColI E t H0.size l D b R0 H0 ys S H4)
    (hk : ∀ a n c H', Own E t H0.size H' a n c ys → Fr [] H0 H' → Fr S H4 H' → K a n c H') :
    Lp H4 l R0 .ready none ∧ ∃ a n c, Ld P ts (setLp H4 l R0 .exhausted none) ⟨b, 0, none⟩ (.slice a n c) ∧ Dq (setLp H4 l R0 .exhausted none) D ∧ K a n c (shutD (setLp H4 l R0 .exhausted none) D) := by
  obtain ⟨h1, h2, h3, ⟨a, n, c, hbk, ho, hS, n1, n2, n3⟩, q1, q2, q3, q4⟩ := hI
  subst hS
  have fE := setLp_fr H4 l R0 .exhausted none
  have fD := shutD_fr (setLp H4 l R0 .exhausted none) D
  refine ⟨h2, a, n, c, (hbk.fr fE (by simp [q1])).ld0 hab rfl, h3.fr fE (by simp; exact fun e => q3 e.symm), hk a n c _ ?_ ?_ ?_⟩
  · exact (ho.fr fE fun ad e hh => n2 (by simp only [List.mem_singleton] at hh; simp [e, blkL, hh])).fr fD fun ad e hh => n3 (by simp only [List.mem_singleton] at hh; simp [e, blkL, hh])
  · refine (h1.keep fE fun k hk => ?_).keep fD fun k hk => ?_
    · simp at hk; subst hk; exact q4 _ (by simp)
    · simp at hk; subst hk; exact q4 _ (by simp)
  · exact fE.trans' fD (fun k hk _ => by simp at hk; simp [hk]) (fun k hk _ => by simp at hk; simp [hk])
end Go.GV
set_option linter.unusedVariables false
set_option maxRecDepth 100000
open Go Go.GV
namespace Go.Proofs

theorem pair_one {x y : Int} : ∀ v ∈ (Value.agg ⟨[.int .i64 x, .int .i64 y]⟩).cells.toList, v.oneCell' = true := fun v h => by
  simp [Value.cells] at h; rcases h with rfl | rfl <;> rfl
structure NumI (l n : Nat) (xs : List Smp) (I : Nat → List Nat → Heap → Prop) : Prop where
  stab : ∀ i S H1 H2, I i S H1 → Fr [] H1 H2 → I i S H2
  step : ∀ i S H1, i + 1 < n → In H1 S → I i S H1 → YieldH Tryz.prog l [.int .u64 (tN xs i : Nat), .int .u64 (vN xs i : Nat)] H1 fun v H2 => v = .bool true ∧ ∃ S2, I (i + 1) S2 H2 ∧ Fr S H1 H2 ∧ Grow H1 S S2 ∧ In H2 S2
theorem numbers_ok {H : Heap} {a : Option Addr} {n c l b : Nat} {xs : List Smp} {I : Nat → List Nat → Heap → Prop} {K : Heap → Prop} {S : List Nat} (hb : Blk H ⟨b, 0, none⟩ [.slice a n c]) (hx : Sl encS H a n c xs) (hP : SmpP xs) (h1 : 1 ≤ n)
    (hin : In H S) (hd : b ∉ S ∧ ∀ k ∈ blkL a, k ∉ S) (h0 : I 0 S H) (hI : NumI l n xs I) (fin : ∀ S1 H1, I (n - 1) S1 H1 → In H1 S1 → Fr S H H1 → Grow H S S1 → K H1) :
    CallV Tryz.prog (.func (.func 116) ⟨[]⟩ ⟨[.pointer (some ⟨b, 0, none⟩)]⟩) [.func (.yield l) ⟨[]⟩ ⟨[]⟩] H fun v H' => v = .tuple ⟨[]⟩ ∧ K H' := by
  refine ⟨116, ⟨[]⟩, _, rfl, by kernel_rfl, ?_⟩
  apply vc_delta_numbers_1
  have hlen := hx.len
  have hcap := hx.cap
  have hPl := hP.len
  refine ⟨_, _, _, hb.ld0 (by kernel_rfl) rfl, chk_true (decide_eq_true ⟨by omega, by omega, by omega⟩) ?_⟩
  refine ⟨fun vs H' => match vs with | [.int _ ah, .int _ i] => ∃ (j : Nat) (S2 : List Nat), i = j ∧ j + 1 ≤ n ∧ ah = aAt xs j ∧ I j S2 H' ∧ Fr S H H' ∧ Grow H S S2 ∧ In H' S2 | _ => False, fun vs _ => match vs with | [_, .int _ i] => n - i.toNat | _ => 0,
    ⟨0, S, rfl, by omega, rfl, h0, Fr.refl _ _, Grow.refl _ _, hin⟩, ?_⟩
  rintro J ah i H1 ⟨j, S2, rfl, hj, rfl, hIj, hf, hg, hin2⟩
  have hb1 := hb.fr hf hd.1
  have hx1 := hx.fr hf fun ad e => hd.2 _ (by simp [blkL, e])
  refine brB_of (fun hlt => ?_) (fun hge => ⟨rfl, ?_⟩)
  · have hlt : j + 1 < n := by simp at hlt; omega
    have hs := smp_at (l := xs) (i := j) (by omega)
    have hs1 := smp_at (l := xs) (i := j + 1) (by omega)
    refine (hx1.drop (k := 1) (by omega)).get (k := j) (x := (tAt xs (j + 1), vAt xs (j + 1))) rfl (by rw [List.getElem?_drop, Nat.add_comm]; exact hs1) (decide_eq_true (by simp; omega)) fun ad ea hc => ⟨_, _, ldS hc, ?_⟩
    refine var_blk (by kernel_rfl) (by kernel_rfl) pair_one (by rfl) fun v H2 hvl hv fv => ⟨_, hv.ld0 (by kernel_rfl) rfl, _, _, _, (hb1.keep fv).ld0 (by kernel_rfl) rfl, ?_⟩
    have hx2 := hx1.keep fv
    refine hx2.get rfl hs (decide_eq_true (by omega)) fun ad2 ea2 hc2 => ⟨_, ldT hc2, _, hv.ldK (j := 1) (by kernel_rfl) rfl, _, _, _, (hb1.keep fv).ld0 (by kernel_rfl) rfl, ?_⟩
    refine hx2.get rfl hs (decide_eq_true (by omega)) fun ad3 ea3 hc3 => ⟨_, ld_part (by kernel_rfl) hc3 (j := 1) rfl, ?_⟩
    have hdi := hP.dist (i := j) (by omega)
    have hah := hP.ahead (i := j) (by omega)
    have e1 : IntKind.wrap .i64 (tAt xs (j + 1) - tAt xs j) = dAt xs j := wrap64_of (n := dAt xs j) (by omega) (by omega)
    have e2 : IntKind.wrap .i64 (dAt xs j - aAt xs j) = dAt xs j - aAt xs j := wrap64_of (by omega) (by omega)
    rw [e1, e2]
    refine Fold_ok ⟨by omega, by omega⟩ ⟨ld_part (by kernel_rfl) hc3 (j := 1) rfl, (hb1.keep fv).ld0 (by kernel_rfl) rfl, hv.ldK (j := 1) (by kernel_rfl) rfl, ?_⟩
    refine Fold_ok (wrap_I64 _) (.inr ⟨l, rfl, ?_⟩)
    refine (hI.step j S2 H2 hlt (hin2.le fv.size) (hI.stab _ _ _ _ hIj fv)).mono fun v H3 => ?_
    rintro ⟨rfl, S3, hI3, hf3, hg3, hin3⟩
    refine ⟨true, rfl, brB_of (fun h => by simp at h) fun _ => ⟨⟨j + 1, S3, succ64 (by omega), by omega, ?_, hI3, ?_, ?_, hin3⟩, ?_⟩⟩
    · unfold aAt; rw [if_neg (by omega)]; rfl
    · have hfv : Fr S H H2 := hf.trans' fv (fun k hk _ => hk) (by simp)
      exact hfv.trans' hf3 (fun k hk _ => hk) fun k hk hl => (hg k hk).elim id fun h => by omega
    · exact hg.trans hf.size fun k hk => (hg3 k hk).imp id fun h => by have := fv.size; omega
    · show n - (IntKind.wrap .i64 ((j : Int) + 1)).toNat < n - ((j : Nat) : Int).toNat
      rw [succ64 (by omega)]; omega
  · have : j = n - 1 := by simp at hge; omega
    subst this
    exact fin S2 H1 hIj hin2 hf hg
end Go.Proofs
