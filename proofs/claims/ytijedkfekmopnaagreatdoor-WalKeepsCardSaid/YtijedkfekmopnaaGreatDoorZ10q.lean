/- Turned by a program of mine (portall.py) out of the same text of another seat. -/
import Derived.Test.YtijedkfekmopnaaGreatDoorZL10c
set_option linter.unusedVariables false
set_option maxRecDepth 100000
open Go Go.GV
namespace Go.Proofs

theorem Blk.setK {P : Program} {t : TypeId} {H : Heap} {b j : Nat} {vs : List Value} {v : Value} {X : Heap → Prop} (h : Blk H ⟨b, 0, none⟩ vs) (hs : szOf P t = 1) (hi : (P.info? t).isSome = true) (hv : v.cells = #[v]) (h1 : v.oneCell' = true) (hj : j < vs.length)
    (k : ∀ H', Blk H' ⟨b, 0, none⟩ (vs.set j v) → Fr [b] H H' → X H') : ∃ H', St P t H ⟨b, j, none⟩ v H' ∧ X H' := by
  have := Go.Proofs.Blk.set h hs hi hv h1 hj k
  rwa [add_at, Nat.zero_add] at this

theorem mem_putS {k : ByteArray} {v : Value} {ck : Nat} {L : List (Ent ByteArray)} (hw : WfL ck L) {y : Ent ByteArray} (h : y ∈ putL k v ck L) : (y.1 = k ∧ y.2.1 = v) ∨ (y.1 ≠ k ∧ y ∈ L) := by
  have hp := hw.put k v
  have hg := getL_mem hp (k := y.1) (v := y.2.1) (b := y.2.2) h
  rw [getL_putL] at hg
  by_cases e : y.1 = k
  · rw [if_pos e] at hg
    injection hg with hg
    exact .inl ⟨e, hg.symm⟩
  · refine .inr ⟨e, ?_⟩
    unfold putL at h
    split at h
    · have : ∀ M : List (Ent ByteArray), y ∈ GV.setL k v M → y ∈ M := by
        intro M
        induction M with
        | nil => exact id
        | cons x l ih =>
          unfold GV.setL
          split
          · intro h
            rcases List.mem_cons.1 h with h | h
            · exact absurd (by rw [h]) e
            · exact List.mem_cons_of_mem _ h
          · intro h
            rcases List.mem_cons.1 h with h | h
            · rw [h]; exact List.mem_cons_self
            · exact List.mem_cons_of_mem _ (ih h)
      exact this L h
    · rcases List.mem_append.1 h with h | h
      · exact h
      · exact absurd (by rw [List.mem_singleton.1 h]) e

def putF (last : ByteArray → Option (ByteArray × List Int)) (k : ByteArray) (v : ByteArray × List Int) : ByteArray → Option (ByteArray × List Int) := fun x => if x = k then some v else last x
theorem LastR.put {H : Heap} {r : Nat} {Q : List Nat} {last : ByteArray → Option (ByteArray × List Int)} {K : Heap → Prop} (h : LastR H r Q last) {d : ByteArray} {a : Option Addr} {n c : Nat} {xs : List Int} (k : ByteArray) (hs : Sl encInt H a n c xs) (hr : r ∉ Q ++ blkL a)
    (hk : ∀ H', LastR H' r (Q ++ blkL a) (putF last k (d, xs)) → Fr [r] H H' → K H') :
    SemU Tryz.prog (Instr.mapUpdate 79 (.map (some r)) (.string k) (.agg ⟨[.string d, .slice a n c]⟩)) H K := by
  obtain ⟨ck, L, hm, he, hn⟩ := h
  refine put_map SM (mt := 79) (e := 122) Tryz.underlying79 hm k fun H' hm' hf => hk H' ⟨_, _, hm', fun x hx => ?_, fun y hy => ?_⟩ hf
  · have hq : ∀ k ∈ Q ++ blkL a, k ∉ [r] := fun k hk e => by simp only [List.mem_singleton] at e; exact hr (e ▸ hk)
    unfold putF
    rcases mem_putS hm.wf hx with ⟨e1, e2⟩ | ⟨e1, e2⟩
    · exact ⟨d, a, n, c, xs, e2, hs.fr hf (fun ad e => hq _ (by simp [e, blkL])), fun k hk => by simp [hk], by rw [if_pos e1]⟩
    · obtain ⟨d', a', n', c', xs', e, hs', hq', hl'⟩ := he x e2
      exact ⟨d', a', n', c', xs', e, hs'.fr hf (fun ad e => hq _ (by simp [hq' ad.block (by simp [e, blkL])])), fun k hk => by simp [hq' k hk], by rw [if_neg e1]; exact hl'⟩
  · rw [getL_putL] at hy
    unfold putF
    split at hy
    · cases hy
    · rename_i h; rw [if_neg h]; exact hn y hy

def lastOf (fs : List (ByteArray × ByteArray × List Int)) : ByteArray → Option (ByteArray × List Int) := fs.foldl (fun f x => putF f x.1 x.2) fun _ => none
theorem lastOf_snoc (fs : List (ByteArray × ByteArray × List Int)) (x : ByteArray × ByteArray × List Int) : lastOf (fs ++ [x]) = putF (lastOf fs) x.1 x.2 := by
  unfold lastOf; rw [List.foldl_append]; rfl

theorem TkR.need_ne {H : Heap} {pb fb base : Nat} {vs : List Value} {Fq S : List Nat} {t : Tk} (h : TkR H pb fb base vs Fq S t) : pb ∈ S ∧ fb ∈ S := by
  obtain ⟨_, ⟨a, n, c, fa, fn, fc, _, _, _, _, _, hS, _⟩, _⟩ := h
  subst hS; simp
theorem TkR.setv {H : Heap} {pb fb base : Nat} {vs : List Value} {Fq S : List Nat} {t : Tk} (h : TkR H pb fb base vs Fq S t) {ty : TypeId} {j : Nat} {v : Value} {X : Heap → Prop} (hs : szOf Tryz.prog ty = 1) (hi : (Tryz.prog.info? ty).isSome = true) (hv : v.cells = #[v]) (h1 : v.oneCell' = true) (hj : j < 4)
    (k : ∀ H', TkR H' pb fb base (vs.set j v) Fq S t → Fr [pb] H H' → X H') : ∃ H', St Tryz.prog ty H ⟨pb, j + 1, none⟩ v H' ∧ X H' := by
  obtain ⟨hvl, ⟨a, n, c, fa, fn, fc, hbk, ho, hb2, hsl, hq, hS, n1, n2⟩, ne, dj, iF, iS⟩ := h
  refine Blk.setK hbk hs hi hv h1 (by simp [tkC, hvl]; omega) fun H' hb hf => k H' ⟨by simpa using hvl, ⟨a, n, c, fa, fn, fc, ?_, ho.fr hf ?_, hb2.fr hf ?_, hsl.fr hf ?_, hq, hS, n1, n2⟩, ne, dj, iF.le hf.size, iS.le hf.size⟩ hf
  · refine Go.Proofs.Blk.cast hb ?_
    unfold tkC
    rw [List.set_cons_succ, List.set_append_left _ _ (by omega)]
  · intro ad e hh; exact n1 (by simp only [List.mem_singleton] at hh; simp [e, blkL, hh])
  · simpa using Ne.symm ne
  · intro ad e hh
    have := dj _ (hq ad.block (by simp [e, blkL]))
    rw [hS] at this
    simp only [List.mem_singleton] at hh
    rw [hh] at this
    simp at this
theorem TkR.setf {H : Heap} {pb fb base : Nat} {vs : List Value} {Fq S : List Nat} {t : Tk} (h : TkR H pb fb base vs Fq S t) {b : Bool} {X : Heap → Prop}
    (k : ∀ H', TkR H' pb fb base vs Fq S { t with fits := b } → Fr [pb] H H' → X H') : ∃ H', St Tryz.prog 4 H ⟨pb, 6, none⟩ (.bool b) H' ∧ X H' := by
  obtain ⟨hvl, ⟨a, n, c, fa, fn, fc, hbk, ho, hb2, hsl, hq, hS, n1, n2⟩, ne, dj, iF, iS⟩ := h
  refine Blk.setK hbk (by kernel_rfl) (by kernel_rfl) rfl rfl (by simp [tkC, hvl]) fun H' hb hf => k H' ⟨hvl, ⟨a, n, c, fa, fn, fc, ?_, ho.fr hf ?_, hb2.fr hf ?_, hsl.fr hf ?_, hq, hS, n1, n2⟩, ne, dj, iF.le hf.size, iS.le hf.size⟩ hf
  · refine Go.Proofs.Blk.cast hb ?_
    obtain ⟨v1, v2, v3, v4, rfl⟩ : ∃ v1 v2 v3 v4, vs = [v1, v2, v3, v4] := by
      match vs, hvl with
      | [v1, v2, v3, v4], _ => exact ⟨v1, v2, v3, v4, rfl⟩
    rfl
  · intro ad e hh; exact n1 (by simp only [List.mem_singleton] at hh; simp [e, blkL, hh])
  · simpa using Ne.symm ne
  · intro ad e hh
    have := dj _ (hq ad.block (by simp [e, blkL]))
    rw [hS] at this
    simp only [List.mem_singleton] at hh
    rw [hh] at this
    simp at this
theorem TkR.ldv {H : Heap} {pb fb base : Nat} {vs : List Value} {Fq S : List Nat} {t : Tk} (h : TkR H pb fb base vs Fq S t) {ty : TypeId} {j : Nat} {v : Value} (ht : aggB Tryz.prog ty = false) (hv : vs[j]? = some v) : Ld Tryz.prog ty H ⟨pb, j + 1, none⟩ v := by
  obtain ⟨hvl, ⟨a, n, c, fa, fn, fc, hbk, _⟩, _⟩ := h
  refine hbk.ldK ht ?_
  unfold tkC
  have : j < vs.length := (List.getElem?_eq_some_iff.1 hv).1
  rw [List.getElem?_cons_succ, List.getElem?_append_left this]; exact hv
theorem TkR.ldf {H : Heap} {pb fb base : Nat} {vs : List Value} {Fq S : List Nat} {t : Tk} (h : TkR H pb fb base vs Fq S t) : Ld Tryz.prog 4 H ⟨pb, 6, none⟩ (.bool t.fits) := by
  obtain ⟨hvl, ⟨a, n, c, fa, fn, fc, hbk, _⟩, _⟩ := h
  obtain ⟨v1, v2, v3, v4, rfl⟩ : ∃ v1 v2 v3 v4, vs = [v1, v2, v3, v4] := by
    match vs, hvl with
    | [v1, v2, v3, v4], _ => exact ⟨v1, v2, v3, v4, rfl⟩
  exact hbk.ldK (by kernel_rfl) rfl
structure TkB (t : Tk) (B : Nat) : Prop where
  need : t.need ≤ B
  puts : t.puts.length ≤ B
theorem TkB.take {t : Tk} {B : Nat} (h : TkB t B) (c : ByteArray) : TkB (takeM t c).1 (B + 1) := by
  obtain ⟨h1, h2⟩ := h
  unfold takeM
  split
  · exact ⟨by simp; omega, by simp; omega⟩
  · exact ⟨by simp; omega, by simp; omega⟩
theorem TkB.mono {t : Tk} {B B' : Nat} (h : TkB t B) (hb : B ≤ B') : TkB t B' := ⟨by have := h.need; omega, by have := h.puts; omega⟩
theorem wrapU64_range (n : Int) : 0 ≤ IntKind.u64.wrap n ∧ IntKind.u64.wrap n < 18446744073709551616 := by
  have : IntKind.u64.wrap n = n % 18446744073709551616 := by
    simp [IntKind.wrap, IntKind.bits, IntKind.signed]
  rw [this]; omega
def numsB (l : List Int) : List UInt8 := l.flatMap fun n => uintL (IntKind.u64.wrap n).toNat
def fileB (f : ByteArray × ByteArray × List Int) : List UInt8 := textL f.1 ++ uintL f.2.1.size ++ numsB f.2.2
theorem dirB_eq (fs : List (ByteArray × ByteArray × List Int)) : dirB fs = uintL fs.length ++ fs.flatMap fileB := rfl
theorem numsB_len (l : List Int) : (numsB l).length ≤ 10 * l.length := by
  induction l with
  | nil => simp [numsB]
  | cons x l ih =>
    have := wrapU64_range x
    have := uintL_len10 (n := (IntKind.u64.wrap x).toNat) (by omega)
    unfold numsB at ih ⊢
    simp only [List.flatMap_cons, List.length_append, List.length_cons]; omega
theorem numsB_snoc (l : List Int) (x : Int) : numsB (l ++ [x]) = numsB l ++ uintL (IntKind.u64.wrap x).toNat := by simp [numsB]
end Go.Proofs
set_option linter.unusedVariables false
set_option maxRecDepth 100000
open Go Go.GV
namespace Go.Proofs

structure PlB (st : Sto) (now : ByteArray → Option ByteArray) : Prop where
  dir : st.dir.length ≤ 1000000
  last : ∀ nm d xs, st.last nm = some (d, xs) → xs.length = nCh d.size ∧ d.size ≤ 30000000
  now : ∀ y d, now y = some d → y.size ≤ 100000 ∧ d.size ≤ 30000000
theorem NowR.len {H : Heap} {r N : Nat} {now : ByteArray → Option ByteArray} (h : NowR H r now N) :
    ∃ cnt : Nat, (∀ ty, Rd Tryz.prog (Builtin.len_ ⟨[78]⟩ ty ⟨[.map (some r)]⟩) H (.int .i64 cnt)) ∧ cnt ≤ N ∧ ∀ ys, namesOf now ys → ys.length = cnt := by
  obtain ⟨ck, L, hm, hl, hg⟩ := h
  refine ⟨L.length, fun ty => len_map SM Tryz.underlying78 hm, hl, fun ys hy => ?_⟩
  have hnd : ys.Nodup := by
    rw [List.nodup_iff_pairwise_ne]
    have := hy.1
    rw [List.pairwise_map] at this
    exact this.imp fun h e => by rw [e] at h; exact (List.lt_irrefl _) h
  have hmem : ∀ k, k ∈ ys ↔ k ∈ L.map (·.1) := fun k => by
    rw [hy.2 k]
    have h1 := hg k
    have h2 := getL_none_iff (k := k) (L := L)
    cases hn : now k with
    | none => rw [hn] at h1; simp only [Option.isSome_none, Bool.false_eq_true, false_iff]; exact h2.1 h1
    | some v =>
      rw [hn] at h1
      simp only [Option.isSome_some, true_iff]
      refine Classical.byContradiction fun h => ?_
      rw [h2.2 h] at h1; cases h1
  have := ((List.perm_ext_iff_of_nodup hnd hm.wf.keys).2 hmem).length_eq
  rw [this, List.length_map]

structure POut (H7 : Heap) (pb fb b2 base : Nat) (Fq : List Nat) (last : ByteArray → Option (ByteArray × List Int)) (now : ByteArray → Option ByteArray) (ys : List ByteArray) (t0 : Tk) (j : Nat) (x : ByteArray) (H' : Heap) : Prop where
  it : ∃ (S : List Nat) (t : Tk) (fs : List (ByteArray × ByteArray × List Int)) (all : Nat) (Qp : List Nat), TkR H' pb fb base [.map (some b2), .string ⟨#[]⟩, .slice none 0 0, .int .i64 all] Fq S t ∧ LastR H' b2 Qp (lastOf fs) ∧ x = ⟨(uintL ys.length ++ fs.flatMap fileB).toArray⟩ ∧
    filesM last now ys t0 = ((filesM last now (ys.drop j) t).1, fs ++ (filesM last now (ys.drop j) t).2) ∧ all = (fs.map fun f => f.2.2.length).sum ∧ fs.length = j ∧ TkB t (480000 * j) ∧ (fs.flatMap fileB).length ≤ 6000000 * j ∧ all ≤ 480000 * j ∧ Fr [pb, fb, b2] H7 H' ∧ Grow H7 [pb, fb] S ∧ (∀ k ∈ Qp, H7.size ≤ k ∧ k < H'.size ∧ k ∉ S)
structure PIn (H6 : Heap) (pb fb base b : Nat) (vs : List Value) (Fq S : List Nat) (old : List ByteArray) (ws : List Int) (cs : List ByteArray) (dat : ByteArray) (pre : List UInt8) (t : Tk) (B jj : Nat) (x : ByteArray) (H' : Heap) : Prop where
  it : ∃ (S2 : List Nat) (t2 : Tk) (ka : Option Addr) (kn kc : Nat) (xs : List Int), TkR H' pb fb base vs Fq S2 t2 ∧ Blk H' ⟨b, 0, none⟩ [.string dat, .slice ka kn kc] ∧ Own encInt 3 H6.size H' ka kn kc xs ∧ x = ⟨(pre ++ numsB xs).toArray⟩ ∧
    fileM old ws cs 0 t = ((fileM old ws (cs.drop jj) jj t2).1, xs ++ (fileM old ws (cs.drop jj) jj t2).2) ∧ xs.length = jj ∧ TkB t2 (B + jj) ∧ Fr (b :: S) H6 H' ∧ Grow H6 S S2 ∧ (∀ k ∈ blkL ka, k ∉ S2)
structure PDir (H6 : Heap) (pb fb b2 base : Nat) (dd : ByteArray) (all : Nat) (Fq S : List Nat) (cs : List ByteArray) (t : Tk) (B jj : Nat) (H' : Heap) : Prop where
  it : ∃ (S2 : List Nat) (t2 : Tk) (ka : Option Addr) (kn kc : Nat) (xs : List Int), TkR H' pb fb base [.map (some b2), .string dd, .slice ka kn kc, .int .i64 all] Fq S2 t2 ∧ Own encInt 3 H6.size H' ka kn kc xs ∧
    takesM cs t = ((takesM (cs.drop jj) t2).1, xs ++ (takesM (cs.drop jj) t2).2) ∧ xs.length = jj ∧ TkB t2 (B + jj) ∧ Fr S H6 H' ∧ Grow H6 S S2 ∧ (∀ k ∈ blkL ka, k ∉ S2)

theorem filesM_cons (last : ByteArray → Option (ByteArray × List Int)) (now : ByteArray → Option ByteArray) {ys : List ByteArray} {j : Nat} {y : ByteArray} (hy : ys[j]? = some y) (t : Tk) {wd dat : ByteArray} {ws : List Int} (hw : (last y).getD (⟨#[]⟩, []) = (wd, ws)) (hd : (now y).getD ⟨#[]⟩ = dat) :
    filesM last now (ys.drop j) t = ((filesM last now (ys.drop (j + 1)) (fileM (chunksS wd) ws (chunksS dat) 0 t).1).1, (y, dat, (fileM (chunksS wd) ws (chunksS dat) 0 t).2) :: (filesM last now (ys.drop (j + 1)) (fileM (chunksS wd) ws (chunksS dat) 0 t).1).2) := by
  obtain ⟨h1, h2⟩ := List.getElem?_eq_some_iff.1 hy
  rw [List.drop_eq_getElem_cons h1, h2, filesM, hw, hd]
theorem fileM_cons {old : List ByteArray} {ws : List Int} {cs : List ByteArray} {j : Nat} {c : ByteArray} (hc : cs[j]? = some c) (t : Tk) :
    fileM old ws (cs.drop j) j t = ((fileM old ws (cs.drop (j + 1)) (j + 1) (if old[j]? = some c then (t, ws.getD j 0) else takeM t c).1).1, (if old[j]? = some c then (t, ws.getD j 0) else takeM t c).2 :: (fileM old ws (cs.drop (j + 1)) (j + 1) (if old[j]? = some c then (t, ws.getD j 0) else takeM t c).1).2) := by
  obtain ⟨h1, h2⟩ := List.getElem?_eq_some_iff.1 hc
  rw [List.drop_eq_getElem_cons h1, h2, fileM]
theorem takesM_cons {cs : List ByteArray} {j : Nat} {c : ByteArray} (hc : cs[j]? = some c) (t : Tk) :
    takesM (cs.drop j) t = ((takesM (cs.drop (j + 1)) (takeM t c).1).1, (takeM t c).2 :: (takesM (cs.drop (j + 1)) (takeM t c).1).2) := by
  obtain ⟨h1, h2⟩ := List.getElem?_eq_some_iff.1 hc
  rw [List.drop_eq_getElem_cons h1, h2, takesM]
theorem getElem_ex {α : Type} {l : List α} {i : Nat} (h : i < l.length) : ∃ x, l[i]? = some x := ⟨l[i], by simp⟩
theorem nCh_le {n : Nat} (h : n ≤ 30000000) : nCh n ≤ 480000 := by unfold nCh; omega
theorem mk_size (l : List UInt8) : (⟨l.toArray⟩ : ByteArray).size = l.length := by simp [ByteArray.size]

theorem planned_ok {s d : Addr} {rn rl : Nat} {a : Option Addr} {n c : Nat} {Q Sd : List Nat} {st : Sto} {m : Dk} {N M r M' : Nat} {now : ByteArray → Option ByteArray} {H : Heap}
    {K : Option Addr → Nat → Nat → Option Nat → ByteArray → Option Addr → Nat → Nat → Int → Int → Bool → Heap → Prop} (h : SL H s d rn rl a n c Q Sd st m N M) (hn : NowR H r now M') (hM : M' ≤ 100) (hB : PlB st now)
    (hk : ∀ ys pa pn pc rp da dn dc H' Qp, namesOf now ys → Sl encPut H' pa pn pc (planM m.size st.last st.dir now ys).tk.puts → (∀ k ∈ blkL pa, H.size ≤ k) → LastR H' rp Qp (lastOf (planM m.size st.last st.dir now ys).files) →
      Sl encInt H' da dn dc (planM m.size st.last st.dir now ys).dirS → (∀ k ∈ blkL da, H.size ≤ k) → (∀ k ∈ Qp, H.size ≤ k) → H.size ≤ rp → Fr [] H H' →
      rp ∉ Qp ++ blkL da ++ blkL pa → In H' (Qp ++ blkL da ++ blkL pa) →
      K pa pn pc (some rp) ⟨(planM m.size st.last st.dir now ys).dirD.toArray⟩ da dn dc (planM m.size st.last st.dir now ys).all (planM m.size st.last st.dir now ys).tk.need (planM m.size st.last st.dir now ys).fits H') :
    CallH Tryz.prog 64 ⟨[.pointer (some s), .map (some r)]⟩ H fun v H' => ∃ a n c r s a_1 n_1 c_1 n_2 n_3 b, v = .agg ⟨[.slice a n c, .map r, .string s, .slice a_1 n_1 c_1, .int .i64 n_2, .int .i64 n_3, .bool b]⟩ ∧ K a n c r s a_1 n_1 c_1 n_2 n_3 b H' := by
  apply vc_files_Store_planned
  intro b0 H1 hn1
  have h1 := h.keep hn1.fr
  have hdl := h.dir.len
  have eb0 := hn1.eq
  have s1 := hn1.size
  refine freeList_ok h1.blk rfl rfl rfl h1.dk h1.last h1.dir (by have := hB.dir; omega) (fun nm d xs e => by have := (hB.last nm d xs e); have := nCh_le this.2; omega) fun fa fn fc H2 hfo hf2 => ?_
  refine var_blk (by kernel_rfl) (by kernel_rfl) (fun x hx => by simp [Value.cells] at hx; subst hx; rfl) (by rfl) fun fb H3 hfb hbf hf3 b2 H4 hn4 => ?_
  have hbf : Blk H3 ⟨fb, 0, none⟩ [.slice fa fn fc] := by simpa [Value.cells] using hbf
  have eb2 := hn4.eq
  have s4 := hn4.size
  refine var_blk (by kernel_rfl) (by kernel_rfl) (fun x hx => by simp [Value.cells] at hx; rcases hx with rfl | rfl | rfl | rfl | rfl | rfl | rfl <;> rfl) (by rfl) fun pb H5 hpb hbp hf5 => ?_
  have hbp : Blk H5 ⟨pb, 0, none⟩ [.slice none 0 0, .map (some b2), .string ⟨#[]⟩, .slice none 0 0, .int .i64 0, .int .i64 0, .bool true] := by simpa [Value.cells] using hbp
  have f12 := hn1.fr.keep0 hf2
  have f13 := f12.keep0 hf3
  have f14 := f13.keep0 hn4.fr
  have f15 := f14.keep0 hf5
  have s2 := hf2.size
  have s3 := hf3.size
  have s5 := hf5.size
  have lfb := hbf.lt
  have lpb := hbp.lt
  simp only at lfb lpb
  have hn5 := hn.fr f15 (by simp)
  obtain ⟨cnt, hlen, hcM, hcn⟩ := hn5.len
  refine ⟨cnt, hlen 3, ?_⟩
  rw [wrapU64 (by omega) (by omega)]
  refine Uint_ok (n := cnt) (by omega) fun H6 hf6 => ?_
  have s6 := hf6.size
  refine (hn5.fr hf6 (by simp)).names (by omega) fun ys na nn nc H7 hys hyl hno hf7 => ?_
  have s7 := hf7.size
  have f17 := (f15.keep0 hf6).keep0 hf7
  have hcl := hcn ys hys
  have hnl := hno.1
  subst hcl
  have b0p : b0 < pb := by omega
  have hb0 : Blk H7 ⟨b0, 0, none⟩ [.slice none 0 0, .map none, .string ⟨#[]⟩, .slice none 0 0, .int .i64 0, .int .i64 0, .bool false] := ((((((hn1.blk.keep hf2).keep hf3).keep hn4.fr).keep hf5).keep hf6).keep hf7)
  have hfq : ∀ k ∈ blkL fa, H1.size ≤ k ∧ k < H2.size := hfo.ge
  have hfree := ((((hfo.sl.keep hf3).keep hn4.fr).keep hf5).keep hf6).keep hf7
  have htk : TkR H7 pb fb H.size [.map (some b2), .string ⟨#[]⟩, .slice none 0 0, .int .i64 (0 : Nat)] (blkL fa) [pb, fb] { free := freeN (lastS st.last st.dir) m.size.toNat, puts := [], need := 0, fits := true } := by
    refine ⟨rfl, ⟨none, 0, 0, fa, fn, fc, (hbp.keep hf6).keep hf7, Own.nil _ _ _ _, (((hbf.keep hn4.fr).keep hf5).keep hf6).keep hf7, hfree, fun k hk => hk, rfl, by simp [blkL], by simp [blkL]⟩, by omega, ?_, ?_, ?_⟩
    · intro k hk; have := hfq k hk; simp; omega
    · intro k hk; have := hfq k hk; omega
    · intro k hk; simp only [List.mem_cons, List.mem_nil_iff, or_false] at hk; omega
  have hmap : LastR H7 b2 [] (lastOf []) := ⟨0, [], (((MapR.new SM hn4).keep SM hf5).keep SM hf6).keep SM hf7, by simp, fun _ _ => rfl⟩
  generalize ht0 : ({ free := freeN (lastS st.last st.dir) m.size.toNat, puts := [], need := 0, fits := true } : Tk) = t0 at htk
  have hFqS : ∀ k ∈ blkL fa, k ≠ pb ∧ k ≠ fb ∧ k ≠ b2 ∧ k < H7.size := fun k hk => by have := hfq k hk; omega
  refine ⟨fun vs H' => match vs with | [.string x, .int _ i] => ∃ j : Nat, i = j ∧ j ≤ ys.length ∧ POut H7 pb fb b2 H.size (blkL fa) st.last now ys t0 j x H' | _ => False,
    fun vs _ => match vs with | [_, .int _ i] => ys.length - i.toNat | _ => 0, ⟨0, rfl, by omega, ⟨[pb, fb], t0, [], 0, [], htk, hmap, by simp, by simp, rfl, rfl, ⟨by subst ht0; simp, by subst ht0; simp⟩, by simp, by omega, Fr.refl _ _, Grow.refl _ _, by simp⟩⟩, ?_⟩
  rintro J x i G0 ⟨j, rfl, hj, ⟨S, t, fs, all, Qp, htk, hlast, rfl, hfs, hall, hfl, htb, hdb, hab, hf, hg, hQp⟩⟩
  have fH0 : Fr [] H G0 := f17.keep hf (by simp; omega)
  have sG0 := hf.size
  have hb2S : b2 ∉ S := fun hk => by
    rcases hg _ hk with h | h
    · simp at h; omega
    · omega
  have hul := uintL_len10 (n := ys.length) (by omega)
  have hnames : Sl GV.encStr G0 na nn nc ys := hno.sl.fr hf fun ad e => by
    have := hno.ge ad.block (by simp [e, blkL])
    simp; omega
  refine brB_of (fun h0 => ?_) (fun h0 => ?_)
  · have h0' : j < ys.length := by simp at h0; omega
    obtain ⟨y, hy⟩ := getElem_ex h0'
    obtain ⟨dat, hdat⟩ : ∃ dat, now y = some dat := by
      have := (hys.2 y).1 (List.mem_of_getElem? hy)
      cases hn : now y with
      | none => rw [hn] at this; cases this
      | some v => exact ⟨v, rfl⟩
    have hyb := hB.now y dat hdat
    have hSL0 := h.keep fH0
    have hlk := (hn.fr fH0 (by simp)).look y
    rw [hdat] at hlk
    simp only [Option.getD_some] at hlk
    refine hnames.get rfl hy (by simp; omega) fun ad e hcell => ⟨y, ld_one (by kernel_rfl) hcell, dat, hlk, ?_⟩
    refine var_blk (by kernel_rfl) (by kernel_rfl) (fun x hx => by simp [Value.cells] at hx; rcases hx with rfl | rfl <;> rfl) (by rfl) fun b G1 hb hbk g1 => ?_
    have hbk : Blk G1 ⟨b, 0, none⟩ [.string dat, .slice none 0 0] := by simpa [Value.cells] using hbk
    have hSL1 := hSL0.keep g1
    obtain ⟨wd, wa, wn, wc, ws, _, l2, ew, hws, hwq⟩ := hSL1.last.look2 y
    refine ⟨some rl, hSL1.blk.ld (by kernel_rfl) rfl, wd, wa, wn, wc, l2, ?_⟩
    refine var_blk (by kernel_rfl) (by kernel_rfl) (fun x hx => by simp [Value.cells] at hx; rcases hx with rfl | rfl <;> rfl) (by rfl) fun b4 G2 hb4 hbk4 g2 => ?_
    have hbk4 : Blk G2 ⟨b4, 0, none⟩ [.string wd, .slice wa wn wc] := by simpa [Value.cells] using hbk4
    have hwd : ws.length = nCh wd.size ∧ wd.size ≤ 30000000 := by
      cases hl : st.last y with
      | none => rw [hl] at ew; cases ew; exact ⟨rfl, by simp [ByteArray.size]⟩
      | some v =>
        rw [hl] at ew
        simp only [Option.getD_some] at ew
        subst ew
        exact hB.last _ _ _ hl
    refine ⟨wd, hbk4.ld0 (by kernel_rfl) rfl, chunks_ok (by omega) fun oa on oc G3 hoo g3 => ?_⟩
    refine ⟨dat, ((hbk.keep g2).keep g3).ld0 (by kernel_rfl) rfl, Text_ok (by omega) fun G4 g4 => ⟨(((hbk.keep g2).keep g3).keep g4).ld0 (by kernel_rfl) rfl, ?_⟩⟩
    rw [wrapU64 (by omega) (by omega)]
    refine Uint_ok (n := dat.size) (by omega) fun G5 g5 => ?_
    have hul2 := uintL_len10 (n := dat.size) (by omega)
    have hul3 := uintL_len10 (n := y.size) (by omega)
    have htl : (textL y).length ≤ 10 + y.size := by
      unfold textL; rw [List.length_append, bl_len]; omega
    refine chk_true (decide_eq_true (by rw [mk_size, mk_size]; omega)) (chk_true (decide_eq_true (by rw [app_mk, mk_size, mk_size]; simp only [List.length_append]; omega)) ?_)
    have hbk5 := ((((hbk.keep g2).keep g3).keep g4).keep g5)
    refine ⟨dat, hbk5.ld0 (by kernel_rfl) rfl, chunks_ok (by omega) fun ca cn cc G6 hco g6 => ?_⟩
    have t1 := g1.size; have t2 := g2.size; have t3 := g3.size; have t4 := g4.size; have t5 := g5.size; have t6 := g6.size
    have lb := hbk.lt; have lb4 := hbk4.lt
    simp only at lb lb4
    have g16 : Fr [] G0 G6 := ((((g1.keep0 g2).keep0 g3).keep0 g4).keep0 g5).keep0 g6
    have htk6 := htk.fr g16 (fun _ _ => by simp) (fun _ _ => by simp)
    have hbk6 := hbk5.keep g6
    have hbk46 := (((hbk4.keep g3).keep g4).keep g5).keep g6
    have hws6 := ((((hws.keep g2).keep g3).keep g4).keep g5).keep g6
    have hoo6 := ((hoo.keep g4).keep g5).keep g6
    have hbS : b ∉ S := fun hk => by have := htk.inS b hk; omega
    have hb4S : b4 ∉ S := fun hk => by have := htk.inS b4 hk; omega
    have hcl := hco.1
    have hol := hoo.1
    have hcs := chunksS_len dat
    have hos := chunksS_len wd
    have hdn := nCh_le hyb.2
    have hpre : (⟨(uintL ys.length ++ fs.flatMap fileB).toArray⟩ ++ (⟨(textL y).toArray⟩ ++ ⟨(uintL dat.size).toArray⟩) : ByteArray) = ⟨((uintL ys.length ++ fs.flatMap fileB ++ (textL y ++ uintL dat.size)) ++ numsB []).toArray⟩ := by
      rw [app_mk, app_mk]; simp [numsB]
    generalize hPre : uintL ys.length ++ fs.flatMap fileB ++ (textL y ++ uintL dat.size) = pre at hpre
    have hpl : pre.length ≤ 10 + 6000000 * j + 100030 := by
      rw [← hPre]; simp only [List.length_append]; omega
    refine ⟨fun vs H' => match vs with | [.string x, .int _ i] => ∃ jj : Nat, i = jj ∧ jj ≤ (chunksS dat).length ∧ PIn G6 pb fb H.size b [.map (some b2), .string ⟨#[]⟩, .slice none 0 0, .int .i64 all] (blkL fa) S (chunksS wd) ws (chunksS dat) dat pre t (480000 * j) jj x H' | _ => False,
      fun vs _ => match vs with | [_, .int _ i] => (chunksS dat).length - i.toNat | _ => 0, ⟨0, rfl, by omega, ⟨S, t, none, 0, 0, [], htk6, hbk6, Own.nil _ _ _ _, hpre, by simp, rfl, htb, Fr.refl _ _, Grow.refl _ _, by simp [blkL]⟩⟩, ?_⟩
    rintro J2 x2 i2 E0 ⟨jj, rfl, hjj, ⟨S2, t2, ka, kn, kc, xs, htk2, hbkE, hko, rfl, hfm, hxl, htb2, hfE, hgE, hkS⟩⟩
    have sE := hfE.size
    have fHE : Fr [] H E0 := (fH0.keep0 g16).keep hfE (by
      intro k hk
      rcases List.mem_cons.1 hk with rfl | hk
      · have := fH0.size; omega
      · rcases hg _ hk with h | h
        · simp only [List.mem_cons, List.mem_nil_iff, or_false] at h; omega
        · omega)
    have hbS2 : b ∉ S2 := fun hk => (hgE _ hk).elim hbS fun h => by omega
    have hnl2 := numsB_len xs
    have hcE : Sl GV.encStr E0 ca cn cc (chunksS dat) := hco.sl.fr hfE fun ad e hh => by
      have h1 := hco.ge ad.block (by simp [e, blkL])
      rcases List.mem_cons.1 hh with hh | hh
      · omega
      · have := htk.inS _ hh; omega
    refine brB_of (fun h1 => ?_) (fun h1 => ?_)
    · have h1' : jj < (chunksS dat).length := by simp at h1; omega
      obtain ⟨cc', hcc⟩ := getElem_ex h1'
      refine hcE.get rfl hcc (by simp; omega) fun ad e hcell => ⟨cc', ld_one (by kernel_rfl) hcell, ?_⟩
      have hoE : Sl GV.encStr E0 oa on oc (chunksS wd) := hoo6.sl.fr hfE fun ad e hh => by
        have h1 := hoo.ge ad.block (by simp [e, blkL])
        rcases List.mem_cons.1 hh with hh | hh
        · omega
        · have := htk.inS _ hh; omega
      refine ⟨fun vs E1 => match vs with | [.int _ z] => z = (if (chunksS wd)[jj]? = some cc' then (t2, ws.getD jj 0) else takeM t2 cc').2 ∧ ∃ S3, TkR E1 pb fb H.size [.map (some b2), .string ⟨#[]⟩, .slice none 0 0, .int .i64 all] (blkL fa) S3 (if (chunksS wd)[jj]? = some cc' then (t2, ws.getD jj 0) else takeM t2 cc').1 ∧ Fr S2 E0 E1 ∧ Grow E0 S2 S3 | _ => False,
        ⟨fun vs E1 => match vs with | [.bool z] => z = decide ((chunksS wd)[jj]? = some cc') ∧ E1 = E0 | _ => False, brB_of (fun h2 => ?_) (fun h2 => ?_), ?_⟩, ?_⟩
      · have h2' : jj < (chunksS wd).length := by simp at h2; omega
        obtain ⟨oc', hoc⟩ := getElem_ex h2'
        refine hoE.get rfl hoc (by simp; omega) fun ad e hcell => ⟨oc', ld_one (by kernel_rfl) hcell, ?_, rfl⟩
        rw [beqS, hoc]; simp
      · refine ⟨?_, rfl⟩
        have h2' : (chunksS wd).length ≤ jj := by simp at h2; omega
        rw [List.getElem?_eq_none h2']; simp
      · rintro J3 z E1 ⟨rfl, rfl⟩
        refine brB_of (fun h3 => ?_) (fun h3 => ?_)
        · have h3' : (chunksS wd)[jj]? = some cc' := by simpa using h3
          have h4 : jj < (chunksS wd).length := (List.getElem?_eq_some_iff.1 h3').1
          obtain ⟨w, hw⟩ := getElem_ex (l := ws) (i := jj) (by omega)
          have hwl := hws.len
          have hb4E := hbk46.fr hfE (by simp only [List.mem_cons, not_or]; exact ⟨by omega, hb4S⟩)
          refine ⟨wa, wn, wc, hb4E.ldK (j := 1) (by kernel_rfl) rfl, ?_⟩
          have hwE : Sl encInt E1 wa wn wc ws := hws6.fr hfE fun ad e hh => by
            have h5 := h.inQ _ (hwq ad.block (by simp [e, blkL]))
            rcases List.mem_cons.1 hh with hh | hh
            · have := fH0.size; omega
            · rcases hg _ hh with h | h
              · simp only [List.mem_cons, List.mem_nil_iff, or_false] at h; omega
              · have := f17.size; omega
          refine hwE.get rfl hw (by simp; omega) fun ad e hcell => ⟨w, ld_one (by kernel_rfl) hcell, ?_, S2, ?_, Fr.refl _ _, Grow.refl _ _⟩
          · rw [if_pos h3']; simp [List.getD, hw]
          · rw [if_pos h3']; exact htk2
        · have h3' : ¬ (chunksS wd)[jj]? = some cc' := by simpa using h3
          rw [if_neg h3']
          exact takeP_ok htk2 (by have := fHE.size; omega) (by have := htb2.need; omega) (by have := htb2.puts; omega) fun E2 S3 htk3 hf3 hg3 => ⟨rfl, S3, htk3, hf3, hg3⟩
      · rintro J3 z E1 ⟨rfl, S3, htk3, hf3, hg3⟩
        have hbE1 := hbkE.fr hf3 hbS2
        have sE1 := hf3.size
        have hS3 : ∀ k, k < E0.size → k ∉ S2 → k ∉ S3 := fun k hk hn hk3 => (hg3 k hk3).elim hn fun h => by omega
        have hko1 := hko.fr hf3 fun ad e => hkS _ (by simp [e, blkL])
        refine ⟨ka, kn, kc, hbE1.ldK (j := 1) (by kernel_rfl) rfl, fun b5 E2 hn2 => ?_⟩
        have eb5 := hn2.eq
        have sE2 := hn2.size
        generalize hv : (if (chunksS wd)[jj]? = some cc' then (t2, ws.getD jj 0) else takeM t2 cc') = v at htk3 hn2 ⊢
        refine ap_grow (E := encInt) (bytes := 8) slice53 elem3 (hko1.keep hn2.fr) (sl_one encInt v.2 hn2 rfl) (by omega) (by have := hko.1; omega) fun ka' kn' kc' E3 hko3 hf4 hg4 => ?_
        have lkb : ∀ k ∈ blkL ka, G6.size ≤ k ∧ k < E0.size ∧ k ∉ S2 := fun k hk => ⟨(hko.ge k hk).1, (hko.ge k hk).2, hkS k hk⟩
        have hb2E := (hbE1.keep hn2.fr).fr hf4 (fun hh => by have := lkb _ hh; simp only at this; omega)
        have htk5 := (htk3.fr hn2.fr (fun _ _ => by simp) (fun _ _ => by simp)).fr hf4 (fun k hk hh => by have := lkb k hh; have := hFqS k hk; omega) (fun k hk hh => by have := lkb k hh; exact hS3 k this.2.1 this.2.2 hk)
        refine Go.Proofs.Blk.setK hb2E (j := 1) (v := .slice ka' kn' kc') (by kernel_rfl) (by kernel_rfl) rfl rfl (by simp) fun E4 hbE4 hf5 => ?_
        have hka' : ∀ k ∈ blkL ka', G6.size ≤ k ∧ k ∉ S3 ∧ k ≠ b := fun k hk => by
          have hge := hko3.ge k hk
          refine ⟨hge.1, fun h3 => ?_, by omega⟩
          rcases hg4 k hk with h | h
          · exact hS3 k (lkb k h).2.1 (lkb k h).2.2 h3
          · have := htk3.inS k h3; omega
        have hko4 := hko3.fr hf5 fun ad e hh => by
          have := hka' ad.block (by simp [e, blkL])
          simp at hh; omega
        have htk6 := htk5.fr hf5 (fun k hk hh => by have := hFqS k hk; simp at hh; omega) (fun k hk hh => by
          simp only [List.mem_singleton] at hh
          subst hh
          exact hS3 k (by omega) hbS2 hk)
        have hwr := wrapU64_range v.2
        have hwn : IntKind.u64.wrap v.2 = ((IntKind.u64.wrap v.2).toNat : Int) := by omega
        have f0 : Fr (b :: S) G6 E4 := by
          refine ((hfE.trans' hf3 (T := b :: S) (fun k hk _ => hk) (fun k hk hlt => ?_)).trans' hn2.fr (T := b :: S) (fun k hk _ => hk) (by simp)).trans' (hf4.trans hf5) (fun k hk _ => hk) (fun k hk hlt => ?_)
          · exact (hgE k hk).elim (fun h => List.mem_cons_of_mem _ h) fun h => by omega
          · rcases List.mem_append.1 hk with hk | hk
            · have := lkb k hk; omega
            · simp at hk; simp [hk]
        rw [hwn]
        refine Uint_ok (n := (IntKind.u64.wrap v.2).toNat) (by omega) fun E5 g7 => ?_
        have hul5 := uintL_len10 (n := (IntKind.u64.wrap v.2).toNat) (by omega)
        refine chk_true (decide_eq_true (by rw [mk_size, mk_size]; simp only [List.length_append]; omega)) ⟨⟨jj + 1, succ64 (by omega), by omega, ⟨S3, v.1, ka', kn', kc', xs ++ [v.2], htk6.fr g7 (fun _ _ => by simp) (fun _ _ => by simp), ?_, hko4.keep g7, ?_, ?_, by simp [hxl], ?_, ?_, ?_, fun k hk => (hka' k hk).2.1⟩⟩, ?_⟩
        · exact (hbE4.keep g7)
        · rw [app_mk, numsB_snoc]; simp
        · rw [hfm, fileM_cons hcc, hv]; simp
        · have h6 : TkB v.1 (480000 * j + jj + 1) := by
            rw [← hv]
            split
            · exact htb2.mono (by omega)
            · exact htb2.take _
          exact h6
        · exact f0.trans' g7 (fun k hk _ => hk) (by simp)
        · exact hgE.trans sE hg3
        · show (chunksS dat).length - (IntKind.i64.wrap ((jj : Int) + 1)).toNat < (chunksS dat).length - ((jj : Nat) : Int).toNat
          rw [succ64 (by omega)]
          exact mu_lt h1'
    · have h1' : jj = (chunksS dat).length := by simp at h1; omega
      rw [List.drop_of_length_le (by omega), fileM] at hfm
      simp only [List.append_nil] at hfm
      have hlastE := (hlast.keep g16).fr hfE (by simp only [List.mem_cons, not_or]; exact ⟨by omega, hb2S⟩) (fun k hk hh => by
        have := hQp k hk
        rcases List.mem_cons.1 hh with hh | hh
        · omega
        · exact this.2.2 hh)
      have hkge := hko.ge
      refine ⟨some b2, htk2.ldv (j := 0) (by kernel_rfl) rfl, dat, ka, kn, kc, hbkE.ldA0 (us := [.string dat, .slice ka kn kc]) (by kernel_rfl) (by kernel_rfl) rfl, ?_⟩
      refine hlastE.put y hko.sl (fun hh => ?_) fun E1 hl1 hf1 => ?_
      · rcases List.mem_append.1 hh with hh | hh
        · have := hQp _ hh; omega
        · have := hkge _ hh; omega
      · have htk3 := htk2.fr hf1 (fun k hk hh => by have := hFqS k hk; simp at hh; omega) (fun k hk hh => by
          simp only [List.mem_singleton] at hh; subst hh
          exact (hgE k hk).elim hb2S fun h => by omega)
        refine ⟨all, htk3.ldv (j := 3) (by kernel_rfl) rfl, ka, kn, kc, (hbkE.fr hf1 (by simp; omega)).ldK (j := 1) (by kernel_rfl) rfl, ?_⟩
        have hkn := hko.1
        rw [wrap64_of (by omega) (by omega)]
        refine htk3.setv (j := 3) (v := .int .i64 ((all : Int) + kn)) (by kernel_rfl) (by kernel_rfl) rfl rfl (by omega) fun E2 htk4 hf2 => ⟨⟨j + 1, succ64 (by omega), by omega, ⟨S2, t2, fs ++ [(y, dat, xs)], all + kn, Qp ++ blkL ka, ?_, ?_, ?_, ?_, ?_, by simp [hfl], htb2.mono (by omega), ?_, by omega, ?_, ?_, ?_⟩⟩, ?_⟩
        · have e : ((all : Int) + kn) = ((all + kn : Nat) : Int) := by omega
          rw [← e]; exact htk4
        · rw [lastOf_snoc]
          refine hl1.fr hf2 (by simp; omega) fun k hk hh => ?_
          simp only [List.mem_singleton] at hh; subst hh
          rcases List.mem_append.1 hk with hk | hk
          · have := hQp _ hk; omega
          · have := hkge _ hk; omega
        · rw [List.flatMap_append, ← hPre]; simp [fileB]
        · rw [hfs, filesM_cons st.last now hy t (dat := dat) ew (by simp [hdat]), hfm]; simp
        · simp [← hall]; omega
        · rw [List.flatMap_append, List.length_append]
          have : (List.flatMap fileB [(y, dat, xs)]).length ≤ 6000000 := by
            simp only [List.flatMap_cons, List.flatMap_nil, List.append_nil, fileB, List.length_append]; omega
          omega
        · refine (((hf.trans' g16 (T := [pb, fb, b2]) (fun k hk _ => hk) (by simp)).trans' hfE (T := [pb, fb, b2]) (fun k hk _ => hk) (fun k hk hlt => ?_)).trans' hf1 (T := [pb, fb, b2]) (fun k hk _ => hk) (fun k hk _ => by simp at hk; simp [hk])).trans' hf2 (fun k hk _ => hk) (fun k hk _ => by simp at hk; simp [hk])
          rcases List.mem_cons.1 hk with rfl | hk
          · omega
          · rcases hg _ hk with h | h
            · simp only [List.mem_cons, List.mem_nil_iff, or_false] at h; rcases h with h | h <;> simp [h]
            · omega
        · exact hg.trans (by omega) hgE
        · intro k hk
          have u1 := hf1.size
          have u2 := hf2.size
          rcases List.mem_append.1 hk with hk | hk
          · have := hQp _ hk
            exact ⟨this.1, by omega, fun h => (hgE k h).elim this.2.2 fun h => by omega⟩
          · have := hkge _ hk
            exact ⟨by omega, by omega, hkS k hk⟩
        · show ys.length - (IntKind.i64.wrap ((j : Int) + 1)).toNat < ys.length - ((j : Nat) : Int).toNat
          rw [succ64 (by omega)]
          exact mu_lt h0'
  · have h0' : j = ys.length := by simp at h0; omega
    rw [List.drop_of_length_le (by omega), filesM] at hfs
    simp only [List.append_nil] at hfs
    have hdB : uintL ys.length ++ fs.flatMap fileB = dirB fs := by rw [dirB_eq, hfl, h0']
    rw [hdB]
    have hdl2 : (dirB fs).length ≤ 10 + 6000000 * j := by rw [← hdB, List.length_append]; omega
    generalize hdd : (⟨(dirB fs).toArray⟩ : ByteArray) = dd
    have hds : dd.size ≤ 10 + 6000000 * j := by rw [← hdd, mk_size]; exact hdl2
    have hSge : ∀ k ∈ S, k = pb ∨ k = fb ∨ H7.size ≤ k := fun k hk => by
      rcases hg _ hk with h | h
      · simp only [List.mem_cons, List.mem_nil_iff, or_false] at h; omega
      · omega
    have hpS := htk.need_ne
    refine htk.setv (j := 1) (v := .string dd) (by kernel_rfl) (by kernel_rfl) rfl rfl (by omega) fun G1 htk1 g1 => ?_
    have htk1 : TkR G1 pb fb H.size [.map (some b2), .string dd, .slice none 0 0, .int .i64 all] (blkL fa) S t := htk1
    refine chunks_ok (by omega) fun ca cn cc G2 hco g2 => ?_
    have t1 := g1.size; have t2 := g2.size
    have hcl := hco.1
    have hcs := chunksS_len dd
    have hcb : nCh dd.size ≤ 20000000 := by unfold nCh; omega
    refine ⟨fun vs H' => match vs with | [.int _ i] => ∃ jj : Nat, i = jj ∧ jj ≤ (chunksS dd).length ∧ PDir G2 pb fb b2 H.size dd all (blkL fa) S (chunksS dd) t (480000 * j) jj H' | _ => False,
      fun vs _ => match vs with | [.int _ i] => (chunksS dd).length - i.toNat | _ => 0, ⟨0, rfl, by omega, ⟨S, t, none, 0, 0, [], htk1.fr g2 (fun _ _ => by simp) (fun _ _ => by simp), Own.nil _ _ _ _, by simp, rfl, htb, Fr.refl _ _, Grow.refl _ _, by simp [blkL]⟩⟩, ?_⟩
    rintro J2 i2 E0 ⟨jj, rfl, hjj, ⟨S2, t2, ka, kn, kc, xs, htk2, hko, hfm, hxl, htb2, hfE, hgE, hkS⟩⟩
    have sE := hfE.size
    have fHE : Fr [] H E0 := ((fH0.keep g1 (by simp; omega)).keep0 g2).keep hfE (by
      intro k hk
      have := hSge k hk
      omega)
    refine brB_of (fun h1 => ?_) (fun h1 => ?_)
    · have h1' : jj < (chunksS dd).length := by simp at h1; omega
      obtain ⟨cc', hcc⟩ := getElem_ex h1'
      have hcE : Sl GV.encStr E0 ca cn cc (chunksS dd) := hco.sl.fr hfE fun ad e hh => by
        have h1 := hco.ge ad.block (by simp [e, blkL])
        have := htk.inS _ hh; omega
      refine hcE.get rfl hcc (by simp; omega) fun ad e hcell => ⟨cc', ld_one (by kernel_rfl) hcell, ka, kn, kc, htk2.ldv (j := 2) (by kernel_rfl) rfl, ?_⟩
      refine takeP_ok htk2 (by have := fHE.size; omega) (by have := htb2.need; omega) (by have := htb2.puts; omega) fun E1 S3 htk3 hf3 hg3 => ⟨htk3.ldv (j := 2) (by kernel_rfl) rfl, fun b5 E2 hn2 => ?_⟩
      have sE1 := hf3.size
      have eb5 := hn2.eq
      have sE2 := hn2.size
      have hS3 : ∀ k, k < E0.size → k ∉ S2 → k ∉ S3 := fun k hk hn hk3 => (hg3 k hk3).elim hn fun h => by omega
      have hko1 := hko.fr hf3 fun ad e => hkS _ (by simp [e, blkL])
      have htk4 := htk3.fr hn2.fr (fun _ _ => by simp) (fun _ _ => by simp)
      refine ⟨htk4.ldv (j := 2) (by kernel_rfl) rfl, ?_⟩
      refine ap_grow (E := encInt) (bytes := 8) slice53 elem3 (hko1.keep hn2.fr) (sl_one encInt (takeM t2 cc').2 hn2 rfl) (by omega) (by have := hko.1; omega) fun ka' kn' kc' E3 hko3 hf4 hg4 => ?_
      have lkb : ∀ k ∈ blkL ka, G2.size ≤ k ∧ k < E0.size ∧ k ∉ S2 := fun k hk => ⟨(hko.ge k hk).1, (hko.ge k hk).2, hkS k hk⟩
      have htk5 := htk4.fr hf4 (fun k hk hh => by have := lkb k hh; have := hFqS k hk; omega) (fun k hk hh => by have := lkb k hh; exact hS3 k this.2.1 this.2.2 hk)
      refine htk5.setv (j := 2) (v := .slice ka' kn' kc') (by kernel_rfl) (by kernel_rfl) rfl rfl (by omega) fun E4 htk6 hf5 => ?_
      have hka' : ∀ k ∈ blkL ka', G2.size ≤ k ∧ k ∉ S3 ∧ k ≠ pb := fun k hk => by
        have hge := hko3.ge k hk
        have h7 : k ∉ S3 := fun h3 => by
          rcases hg4 k hk with h | h
          · exact hS3 k (lkb k h).2.1 (lkb k h).2.2 h3
          · have := htk3.inS k h3; omega
        exact ⟨hge.1, h7, by omega⟩
      refine ⟨⟨jj + 1, succ64 (by omega), by omega, ⟨S3, (takeM t2 cc').1, ka', kn', kc', xs ++ [(takeM t2 cc').2], htk6, hko3.fr hf5 (fun ad e hh => ?_), ?_, by simp [hxl], ?_, ?_, hgE.trans sE hg3, fun k hk => (hka' k hk).2.1⟩⟩, ?_⟩
      · have := hka' ad.block (by simp [e, blkL])
        simp at hh; omega
      · rw [hfm, takesM_cons hcc]; simp
      · exact htb2.take _
      · refine ((hfE.trans' hf3 (T := S) (fun k hk _ => hk) (fun k hk hlt => ?_)).trans' hn2.fr (T := S) (fun k hk _ => hk) (by simp)).trans' (hf4.trans hf5) (fun k hk _ => hk) (fun k hk hlt => ?_)
        · exact (hgE k hk).elim id fun h => by omega
        · rcases List.mem_append.1 hk with hk | hk
          · have := lkb k hk; omega
          · simp only [List.mem_singleton] at hk; rw [hk]; exact hpS.1
      · show (chunksS dd).length - (IntKind.i64.wrap ((jj : Int) + 1)).toNat < (chunksS dd).length - ((jj : Nat) : Int).toNat
        rw [succ64 (by omega)]
        exact mu_lt h1'
    · have h1' : jj = (chunksS dd).length := by simp at h1; omega
      rw [List.drop_of_length_le (by omega), takesM] at hfm
      simp only [List.append_nil] at hfm
      have hkn := hko.1
      have hplan : planM m.size st.last st.dir now ys = { tk := t2, files := fs, dirD := dirB fs, dirS := xs, all := all, fits := t2.fits && decide (xs.length ≤ 20) && decide ((all : Int) + 2 * xs.length ≤ m.size - 2) } := by
        unfold planM
        simp only [ht0, hfs, hdd, hfm, hall]
      have hsz : 8 ≤ m.size ∧ m.size ≤ 512 := by
        obtain ⟨r0, ck0, L0, hdl⟩ := h.dk.it
        exact hdl.size
      have hb0E : Blk E0 ⟨b0, 0, none⟩ [.slice none 0 0, .map none, .string ⟨#[]⟩, .slice none 0 0, .int .i64 0, .int .i64 0, .bool false] := by
        refine (((hb0.fr hf (by simp; omega)).fr g1 (by simp; omega)).keep g2).fr hfE fun hh => ?_
        have := hSge _ hh
        simp only at this; omega
      have hlastE : LastR E0 b2 Qp (lastOf fs) := ((hlast.fr g1 (by simp; omega) (fun k hk hh => by have := hQp k hk; simp at hh; omega)).keep g2).fr hfE hb2S (fun k hk => (hQp k hk).2.2)
      have fin : ∀ (f : Bool), f = (planM m.size st.last st.dir now ys).fits → ∃ H'_5, St Tryz.prog 4 E0 ⟨pb, 6, none⟩ (.bool f) H'_5 ∧ ∃ a n c r s a_4 n_5 c_1 n_6 n_7 b_5, Ld Tryz.prog 143 H'_5 ⟨pb, 0, none⟩ (.agg ⟨[.slice a n c, .map r, .string s, .slice a_4 n_5 c_1, .int .i64 n_6, .int .i64 n_7, .bool b_5]⟩) ∧
          ∃ H', St Tryz.prog 143 H'_5 ⟨b0, 0, none⟩ (.agg ⟨[.slice a n c, .map r, .string s, .slice a_4 n_5 c_1, .int .i64 n_6, .int .i64 n_7, .bool b_5]⟩) H' ∧ ∃ a n c r s a_5 n_8 c_2 n_9 n_10 b_6, Ld Tryz.prog 143 H' ⟨b0, 0, none⟩ (.agg ⟨[.slice a n c, .map r, .string s, .slice a_5 n_8 c_2, .int .i64 n_9, .int .i64 n_10, .bool b_6]⟩) ∧
          ∃ a_1 n_1 c_1 r_1 s_1 a_2 n_2 c_3 n_3 n_4 b, (Value.agg ⟨[.slice a n c, .map r, .string s, .slice a_5 n_8 c_2, .int .i64 n_9, .int .i64 n_10, .bool b_6]⟩) = .agg ⟨[.slice a_1 n_1 c_1, .map r_1, .string s_1, .slice a_2 n_2 c_3, .int .i64 n_3, .int .i64 n_4, .bool b]⟩ ∧ K a_1 n_1 c_1 r_1 s_1 a_2 n_2 c_3 n_3 n_4 b H' := by
        intro f hf0
        refine htk2.setf (b := f) fun E1 htk3 hf1 => ?_
        obtain ⟨_, ⟨pa, pn, pc, fa', fn', fc', hbk, ho, hb2', hsl, hq, hS, n1, n2⟩, ne, dj, iF, iS⟩ := htk3
        have u1 := hf1.size
        refine ⟨pa, pn, pc, some b2, dd, ka, kn, kc, all, t2.need, f, hbk.ldA0 (us := [.slice pa pn pc, .map (some b2), .string dd, .slice ka kn kc, .int .i64 all, .int .i64 t2.need, .bool f]) (by kernel_rfl) (by kernel_rfl) rfl, ?_⟩
        refine (hb0E.fr hf1 (by simp; omega)).st0 (by kernel_rfl) (by kernel_rfl) (fun x hx => by simp [Value.cells] at hx; rcases hx with rfl | rfl | rfl | rfl | rfl | rfl | rfl <;> rfl) (by simp [Value.cells]) fun E2 hbE hf2 => ?_
        have u2 := hf2.size
        refine ⟨pa, pn, pc, some b2, dd, ka, kn, kc, all, t2.need, f, hbE.ldA0 (us := [.slice pa pn pc, .map (some b2), .string dd, .slice ka kn kc, .int .i64 all, .int .i64 t2.need, .bool f]) (by kernel_rfl) (by kernel_rfl) (by simp [Value.cells]), ?_⟩
        have hkge := hko.ge
        have hpge := ho.ge
        have hpaS : ∀ k ∈ blkL pa, k ∈ S2 := fun k hk => by rw [hS]; simp [hk]
        have hpa0 : ∀ k ∈ blkL pa, k ≠ pb ∧ k ≠ b0 ∧ k ≠ b2 := fun k hk => by
          refine ⟨fun e => n1 (by rw [← e]; exact hk), ?_⟩
          rcases hgE k (hpaS k hk) with h | h
          · have := hSge k h
            have h8 : k ≠ pb := fun e => n1 (by rw [← e]; exact hk)
            have h9 : k ≠ fb := fun e => n2 (by rw [← e]; exact hk)
            omega
          · omega
        have hk := hk ys
        rw [hplan] at hk hf0
        simp only at hk hf0
        rw [hdd, ← hf0] at hk
        refine ⟨pa, pn, pc, some b2, dd, ka, kn, kc, all, t2.need, f, rfl, hk pa pn pc b2 ka kn kc E2 Qp hys ?_ (fun k hk => (hpge k hk).1) ?_ ?_ (fun k hk => by have := hkge k hk; have := f17.size; omega) (fun k hk => by have := hQp k hk; have := f17.size; omega) (by omega) ?_ ?_ ?_⟩
        · exact ho.sl.fr hf2 fun ad e hh => by
            have := hpa0 ad.block (by simp [e, blkL])
            simp at hh; omega
        · refine (hlastE.fr hf1 (by simp; omega) ?_).fr hf2 (by simp; omega) ?_
          · intro k hk hh
            have := hQp k hk; simp at hh; omega
          · intro k hk hh
            have := hQp k hk; simp at hh; omega
        · refine (hko.sl.fr hf1 fun ad e hh => ?_).fr hf2 fun ad e hh => ?_
          · have := hkge ad.block (by simp [e, blkL]); simp at hh; omega
          · have := hkge ad.block (by simp [e, blkL]); simp at hh; omega
        · exact (fHE.keep hf1 (by simp; omega)).keep hf2 (by simp; omega)
        · simp only [List.mem_append, not_or]
          refine ⟨⟨fun h => ?_, fun h => ?_⟩, fun h => ?_⟩
          · have := hQp _ h; omega
          · have := hkge _ h; omega
          · exact (hpa0 _ h).2.2 rfl
        · intro k hk
          simp only [List.mem_append] at hk
          rcases hk with (h | h) | h
          · have := hQp _ h; omega
          · have := hkge _ h; omega
          · have := hpge _ h; omega
      have hall2 := htb2.need
      refine ⟨ka, kn, kc, htk2.ldv (j := 2) (by kernel_rfl) rfl, t2.fits, htk2.ldf, brB_of (fun h3 => ?_) (fun h3 => ?_)⟩
      · refine brB_of (fun h4 => ?_) (fun h4 => ?_)
        · refine ⟨all, htk2.ldv (j := 3) (by kernel_rfl) rfl, some d, (h.keep fHE).blk.ld0 (by kernel_rfl) rfl, Size_ok (h.keep fHE).dk ?_⟩
          refine ⟨htk2.ldv (j := 3) (by kernel_rfl) rfl, ?_⟩
          refine fin _ ?_
          rw [hplan, h3, wrap64_of (n := 2 * (kn : Int)) (by omega) (by omega), wrap64_of (by omega) (by omega), wrap64_of (by omega) (by omega)]
          have : decide (xs.length ≤ 20) = true := by simp at h4 ⊢; omega
          rw [this, hkn]
          simp
        · refine fin _ ?_
          rw [hplan]
          have : decide (xs.length ≤ 20) = false := by simp at h4 ⊢; omega
          rw [this]; simp
      · refine fin _ ?_
        rw [hplan]
        simp only [h3, Bool.false_and]
end Go.Proofs
set_option linter.unusedVariables false
set_option maxRecDepth 100000
open Go Go.GV
namespace Go.Proofs

theorem sorted_ext : ∀ {a b : List ByteArray}, (a.map bl).Pairwise (· < ·) → (b.map bl).Pairwise (· < ·) → (∀ y, y ∈ a ↔ y ∈ b) → a = b
  | [], [], _, _, _ => rfl
  | [], y :: b, _, _, h => absurd ((h y).2 (by simp)) (by simp)
  | x :: a, [], _, _, h => absurd ((h x).1 (by simp)) (by simp)
  | x :: a, y :: b, h1, h2, h => by
    rw [List.map_cons, List.pairwise_cons] at h1 h2
    have lt1 : ∀ z ∈ a, bl x < bl z := fun z hz => h1.1 _ (List.mem_map_of_mem hz)
    have lt2 : ∀ z ∈ b, bl y < bl z := fun z hz => h2.1 _ (List.mem_map_of_mem hz)
    have hxy : x = y := by
      rcases List.mem_cons.1 ((h x).1 (by simp)) with e | e
      · exact e
      · rcases List.mem_cons.1 ((h y).2 (by simp)) with e' | e'
        · exact e'.symm
        · exact absurd (List.lt_trans (lt1 y e') (lt2 x e)) (List.lt_irrefl _)
    subst hxy
    congr 1
    refine sorted_ext h1.2 h2.2 fun z => ?_
    have := h z
    constructor
    · intro hz
      rcases List.mem_cons.1 (this.1 (List.mem_cons_of_mem _ hz)) with e | e
      · subst e; exact absurd (lt1 z hz) (List.lt_irrefl _)
      · exact e
    · intro hz
      rcases List.mem_cons.1 (this.2 (List.mem_cons_of_mem _ hz)) with e | e
      · subst e; exact absurd (lt2 z hz) (List.lt_irrefl _)
      · exact e
noncomputable def namesL (now : ByteArray → Option ByteArray) : List ByteArray := open Classical in if h : ∃ ys, namesOf now ys then h.choose else []
theorem namesL_eq {now : ByteArray → Option ByteArray} {ys : List ByteArray} (h : namesOf now ys) : namesL now = ys := by
  have hx : ∃ ys, namesOf now ys := ⟨ys, h⟩
  unfold namesL
  rw [dif_pos hx]
  have hc := hx.choose_spec
  exact sorted_ext hc.1 h.1 fun y => by rw [hc.2, h.2]
noncomputable def planN (size : Int) (st : Sto) (now : ByteArray → Option ByteArray) : Plan := planM size st.last st.dir now (namesL now)
noncomputable def changeM (size : Int) (st : Sto) (ch : (ByteArray → Option ByteArray) → ByteArray → Option ByteArray) : Sto × Int :=
  if (planN size st (ch st.now)).fits then ({ st with now := ch st.now }, 0) else (st, 2)
theorem SL.mono {H : Heap} {s d : Addr} {rn rl : Nat} {a : Option Addr} {n c : Nat} {Q Sd : List Nat} {st : Sto} {m : Dk} {N M M' : Nat} (h : SL H s d rn rl a n c Q Sd st m N M) (hM : M ≤ M') : SL H s d rn rl a n c Q Sd st m N M' :=
  ⟨h.blk, h.now.mono hM, h.last, h.dir, h.dirQ, h.dk, h.own, h.apart, h.inQ⟩

theorem change_ok {s d : Addr} {rn rl : Nat} {a : Option Addr} {n c : Nat} {Q Sd : List Nat} {st : Sto} {m : Dk} {N M : Nat} {H : Heap} {by' : Value} {G : Heap → Prop} {ch : (ByteArray → Option ByteArray) → ByteArray → Option ByteArray} {K : Int → Heap → Prop}
    (h : SL H s d rn rl a n c Q Sd st m N M) (hM : M + 1 ≤ 100) (hB : PlB st (ch st.now)) (hc : Chg by' G ch) (hG : ∀ H', Fr [] H H' → G H')
    (hk : ∀ rn' H', SL H' s d rn' rl a n c Q Sd (changeM m.size st ch).1 m N (M + 1) → Fr [s.block] H H' → K (changeM m.size st ch).2 H') :
    CallH Tryz.prog 34 ⟨[.pointer (some s), by']⟩ H fun v H' => ∃ n, v = .int .i64 n ∧ K n H' := by
  apply vc_files_Store_change
  refine ⟨some rn, h.blk.ld (by kernel_rfl) rfl, ?_⟩
  refine CallH.mono (h.now.clone (K := fun r' H' => H.size ≤ r' ∧ NowR H' r' st.now M ∧ Fr [] H H') fun r' H' h1 h2 h3 => ⟨h1, h2, h3⟩) fun v H1 => ?_
  rintro ⟨mm, rfl, r', rfl, hr, hn1, hf1⟩
  refine ⟨some r', rfl, hc r' M st.now H1 _ (hG H1 hf1) hn1 fun H2 hn2 hf2 => ?_⟩
  have s1 := hf1.size
  have s2 := hf2.size
  have f2 : Fr [] H H2 := hf1.keep hf2 (by simp; omega)
  have h2 := h.keep f2
  refine planned_ok h2 hn2 (by omega) hB fun ys pa pn pc rp da dn dc H3 Qp hys _ _ _ _ _ _ _ hf3 _ _ => ?_
  have f3 := f2.keep0 hf3
  have h3 := h2.keep hf3
  have hn3 := hn2.fr hf3 (by simp)
  have hp : planN m.size st (ch st.now) = planM m.size st.last st.dir (ch st.now) ys := by unfold planN; rw [namesL_eq hys]
  unfold changeM at hk
  rw [hp] at hk
  refine brB_of (fun h0 => ⟨_, rfl, ?_⟩) (fun h0 => ?_)
  · have h0' : (planM m.size st.last st.dir (ch st.now) ys).fits = false := by simpa using h0
    rw [h0'] at hk
    exact hk rn H3 (h3.mono (by omega)) (f3.mono (by simp))
  · have h0' : (planM m.size st.last st.dir (ch st.now) ys).fits = true := by simpa using h0
    rw [h0'] at hk
    have hs := h.blk.lt
    refine Go.Proofs.Blk.set h3.blk (j := 1) (v := .map (some r')) (by kernel_rfl) (by kernel_rfl) rfl rfl (by simp) fun H4 hb hf4 => ⟨_, rfl, hk r' H4 ⟨?_, ?_, ?_, ?_, h.dirQ, ?_, ?_, ?_, ?_⟩ (f3.trans' hf4 (by simp) (fun k hk _ => hk))⟩
    · exact hb
    · exact hn3.fr hf4 (by simp; omega)
    · refine h3.last.fr hf4 (fun hh => ?_) (fun k hk hh => ?_)
      · exact h.own (by simp only [List.mem_singleton] at hh; simp [hh])
      · exact h.own (by simp only [List.mem_singleton] at hh; rw [← hh]; simp [hk])
    · exact h3.dir.fr hf4 fun ad e hh => h.own (by simp only [List.mem_singleton] at hh; rw [← hh]; simp [h.dirQ ad.block (by simp [e, blkL])])
    · exact h3.dk.fr hf4 fun k hk hh => h.apart s.block (by simp) (by simp only [List.mem_singleton] at hh; rw [← hh]; exact hk)
    · intro hh
      rcases List.mem_cons.1 hh with hh | hh
      · omega
      · exact h.own (List.mem_cons_of_mem _ hh)
    · intro k hk hh
      simp only [List.mem_cons] at hk
      rcases hk with rfl | rfl | rfl | hk
      · exact h.apart _ (by simp) hh
      · have := h.dk.inS _ hh; omega
      · exact h.apart _ (by simp) hh
      · exact h.apart _ (by simp [hk]) hh
    · exact h3.inQ.le hf4.size

noncomputable def writeS (size : Int) (st : Sto) (name data : ByteArray) : Sto × Int := if rightP name then changeM size st (fun now => putN now name data) else (st, 100)
theorem Write10_ok {s d : Addr} {rn rl : Nat} {a : Option Addr} {n c : Nat} {Q Sd : List Nat} {st : Sto} {m : Dk} {N M : Nat} {H : Heap} {name data : ByteArray} {K : Int → Heap → Prop}
    (h : SL H s d rn rl a n c Q Sd st m N M) (hM : M + 1 ≤ 100) (hn : name.size ≤ 1000000) (hB : rightP name → PlB st (putN st.now name data))
    (hk : ∀ rn' H', SL H' s d rn' rl a n c Q Sd (writeS m.size st name data).1 m N (M + 1) → Fr [s.block] H H' → K (writeS m.size st name data).2 H') :
    CallH Tryz.prog 12 ⟨[.pointer (some s), .string name, .string data]⟩ H fun v H' => ∃ n, v = .int .i64 n ∧ K n H' := by
  apply vc_files_Store_Write
  intro b H1 hn1 b1 H2 hn2
  have f2 := hn1.fr.keep0 hn2.fr
  refine ⟨name, (hn1.blk.keep hn2.fr).ld0 (by kernel_rfl) rfl, right_ok (by omega) fun H3 f3 => ?_⟩
  have f3' := f2.keep0 f3
  unfold writeS at hk
  refine brB_of (fun h0 => ?_) (fun h0 => ?_)
  · have h0' : ¬ rightP name := by simpa using h0
    rw [if_neg h0'] at hk
    exact ⟨_, rfl, hk rn H3 ((h.keep f3').mono (by omega)) (f3'.mono (by simp))⟩
  · have h0' : rightP name := by simpa using h0
    rw [if_pos h0'] at hk
    refine change_ok (h.keep f3') hM (hB h0') (chg_write (name := name) (data := data)) (fun H' hf => ⟨(hn2.blk.keep f3).keep hf, ((hn1.blk.keep hn2.fr).keep f3).keep hf⟩) fun rn' H' h' hf => ⟨_, rfl, hk rn' H' h' (f3'.trans' hf (by simp) (fun k hk _ => hk))⟩
theorem Append10_ok {s d : Addr} {rn rl : Nat} {a : Option Addr} {n c : Nat} {Q Sd : List Nat} {st : Sto} {m : Dk} {N M : Nat} {H : Heap} {name data : ByteArray} {K : Int → Heap → Prop}
    (h : SL H s d rn rl a n c Q Sd st m N M) (hM : M + 1 ≤ 100) (hn : name.size ≤ 1000000) (hd : ((st.now name).getD ⟨#[]⟩).size + data.size ≤ 1000000000) (hB : rightP name → PlB st (putN st.now name ((st.now name).getD ⟨#[]⟩ ++ data)))
    (hk : ∀ rn' H', SL H' s d rn' rl a n c Q Sd (writeS m.size st name ((st.now name).getD ⟨#[]⟩ ++ data)).1 m N (M + 1) → Fr [s.block] H H' → K (writeS m.size st name ((st.now name).getD ⟨#[]⟩ ++ data)).2 H') :
    CallH Tryz.prog 28 ⟨[.pointer (some s), .string name, .string data]⟩ H fun v H' => ∃ n, v = .int .i64 n ∧ K n H' := by
  apply vc_files_Store_Append
  refine ⟨some rn, h.blk.ld (by kernel_rfl) rfl, _, h.now.look name, chk_true (decide_eq_true (by omega)) ?_⟩
  exact Write10_ok h hM hn hB fun rn' H' h' hf => ⟨_, rfl, hk rn' H' h' hf⟩
noncomputable def deleteS (size : Int) (st : Sto) (name : ByteArray) : Sto × Int := if rightP name then (if (st.now name).isSome then changeM size st (fun now => delN now name) else (st, 3)) else (st, 100)
theorem Delete10_ok {s d : Addr} {rn rl : Nat} {a : Option Addr} {n c : Nat} {Q Sd : List Nat} {st : Sto} {m : Dk} {N M : Nat} {H : Heap} {name : ByteArray} {K : Int → Heap → Prop}
    (h : SL H s d rn rl a n c Q Sd st m N M) (hM : M + 1 ≤ 100) (hn : name.size ≤ 1000000) (hB : PlB st (delN st.now name))
    (hk : ∀ rn' H', SL H' s d rn' rl a n c Q Sd (deleteS m.size st name).1 m N (M + 1) → Fr [s.block] H H' → K (deleteS m.size st name).2 H') :
    CallH Tryz.prog 46 ⟨[.pointer (some s), .string name]⟩ H fun v H' => ∃ n, v = .int .i64 n ∧ K n H' := by
  apply vc_files_Store_Delete
  intro b H1 hn1
  refine ⟨name, hn1.blk.ld0 (by kernel_rfl) rfl, right_ok (by omega) fun H3 f3 => ?_⟩
  have f3' := hn1.fr.keep0 f3
  unfold deleteS at hk
  refine brB_of (fun h0 => ?_) (fun h0 => ?_)
  · have h0' : ¬ rightP name := by simpa using h0
    rw [if_neg h0'] at hk
    exact ⟨_, rfl, hk rn H3 ((h.keep f3').mono (by omega)) (f3'.mono (by simp))⟩
  · have h0' : rightP name := by simpa using h0
    rw [if_pos h0'] at hk
    have h3 := h.keep f3'
    refine ⟨some rn, h3.blk.ld (by kernel_rfl) rfl, name, (hn1.blk.keep f3).ld0 (by kernel_rfl) rfl, _, _, h3.now.look2 name, brB_of (fun h1 => ?_) (fun h1 => ?_)⟩
    · have h1' : ¬ (st.now name).isSome = true := by simpa using h1
      rw [if_neg h1'] at hk
      exact ⟨_, rfl, hk rn H3 (h3.mono (by omega)) (f3'.mono (by simp))⟩
    · have h1' : (st.now name).isSome = true := by simpa using h1
      rw [if_pos h1'] at hk
      refine change_ok h3 hM hB (chg_delete (name := name)) (fun H' hf => (hn1.blk.keep f3).keep hf) fun rn' H' h' hf => ⟨_, rfl, hk rn' H' h' (f3'.trans' hf (by simp) (fun k hk _ => hk))⟩
end Go.Proofs
