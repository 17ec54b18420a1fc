/- A part of a proof: see the last text of this claim. -/
import Derived.Test.YtddfciphdbdemaaR07a
import Derived.Test.YtddfciphdbdemaaQ07b
set_option linter.unusedVariables false
set_option maxRecDepth 100000
open Go Go.GV
namespace Go.Proofs

theorem keys_ok {mt e : TypeId} (hmt : Try.prog.underlying mt = some (.map 9 e)) {H : Heap} {ro : Option Nat} {f : ByteArray → Option Value} {R : Value → Heap → Prop} (hm : ∀ r, ro = some r → MapF H r f) (hnil : ro = none → ∀ s, f s = none) {N : List ByteArray} (hN : ∀ s, f s ≠ none → s ∈ N) (hN2 : N.length ≤ 1000000)
    (hk : ∀ a' n' c' H' ks, Own GV.encStr 9 H.size H' a' n' c' ks → SetS ks (fun s => f s ≠ none) → n' ≤ 1000000 → Fr [] H H' → R (.slice a' n' c') H') :
    SemWp Try.prog (Instr.range mt (.map ro)) H fun v H' => ∃ a, v = .pointer a ∧ ∃ (I : List Value → Heap → Prop) (μ : List Value → Heap → Nat), I [.slice none 0 0] H' ∧ ∀ (J : F) (a_1 : Option Addr) (n c : Nat) (H' : Heap), I [.slice a_1 n c] H' → SemWp Try.prog (Instr.next (.pointer a) false 0) H' fun v H'_1 =>
      (v = .tuple ⟨[.bool false]⟩ ∧ CallH Try.prog 62 ⟨[.slice a_1 n c]⟩ H'_1 fun v H' => v = .tuple ⟨[]⟩ ∧ R (.slice a_1 n c) H') ∨ ∃ k x, v = .tuple ⟨[.bool true, k, x]⟩ ∧ SemWp Try.prog (Instr.entry (.pointer a)) H'_1 fun v H'_2 => ∃ k x, v = .tuple ⟨[k, x]⟩ ∧ ∃ s, k = .string s ∧ ∀ (b : Nat) (H'_3 : Heap), New H'_2 b (.cells ⟨[.string s]⟩ 9) H'_3 →
        SemWp Try.prog (Builtin.append_ ⟨[45, 45]⟩ 45 ⟨[.slice a_1 n c, .slice (some ⟨b, 0, none⟩) 1 1]⟩) H'_3 fun v H'_4 => ∃ a n_1 c_1, v = .slice a n_1 c_1 ∧ I [.slice a n_1 c_1] H'_4 ∧ μ [.slice a n_1 c_1] H'_4 < μ [.slice a_1 n c] H' := by
  have fin : ∀ {a : Option Addr} {n c : Nat} {H1 : Heap} {vs : List ByteArray}, Own GV.encStr 9 H.size H1 a n c vs → vs.Nodup → (∀ s, s ∈ vs ↔ f s ≠ none) → Fr [] H H1 → CallH Try.prog 62 ⟨[.slice a n c]⟩ H1 fun v H' => v = .tuple ⟨[]⟩ ∧ R (.slice a n c) H' := by
    intro a n c H1 vs ho hnd hall hf
    have hlen : n ≤ 1000000 := by
      have := nodup_len hnd fun s hs => hN s ((hall s).1 hs)
      have := ho.1; omega
    refine sortS_ok Try.sortS rfl ho (by omega) fun H2 ys ho2 hys hf2 => ?_
    obtain ⟨h1, h2⟩ := sorted_rise hnd hys
    exact hk a n c H2 ys ho2 ⟨h1, fun z => (h2 z).trans (hall z)⟩ hlen (hf.keep hf2 fun k hk => (ho.ge k hk).1)
  cases ro with
  | none =>
    refine range_nil hmt fun b H1 hn1 => ?_
    refine ⟨fun vs H' => vs = [.slice none 0 0] ∧ H' = H1, fun _ _ => 0, ⟨rfl, rfl⟩, ?_⟩
    rintro J a n c H2 ⟨e, rfl⟩
    simp only [List.cons.injEq, Value.slice.injEq, and_true] at e
    obtain ⟨rfl, rfl, rfl⟩ := e
    exact next_nil hn1.get (.inl ⟨rfl, fin (vs := []) (Own.nil _ _ _ _) (by simp) (fun s => by simp [hnil rfl s]) hn1.fr⟩)
  | some r =>
  obtain ⟨ck, L', hmap, hget⟩ := hm r rfl
  refine range_map TS hmt hmap fun it H1 hn1 => ?_
  have hit : H.size ≤ it := by have := hn1.eq; omega
  refine ⟨fun vs H' => match vs with
      | [.slice a n c] => ∃ (seen : Array Nat) (vs : List ByteArray), H'[it]? = some (.mapIter (some r) ck seen ck) ∧ Own GV.encStr 9 H.size H' a n c vs ∧ it ∉ blkL a ∧ vs.Nodup ∧ (∀ v ∈ vs, ∃ x ∈ L', x.1 = v ∧ x.2.2 ∈ seen) ∧ (∀ x ∈ L', x.2.2 ∈ seen → x.1 ∈ vs) ∧ Fr [] H H'
      | _ => False,
    fun _ H' => pendH H' r it, ⟨#[], [], hn1.get, Own.nil _ _ _ _, by simp [blkL], by simp, by simp, by simp, hn1.fr⟩, ?_⟩
  rintro J a n c H2 ⟨seen, vs, hi2, ho, hito, hnd, hvs, hall, hf2⟩
  have hmap2 := MapR.keep TS hmap hf2
  have mem : ∀ s, f s ≠ none ↔ ∃ x ∈ L', x.1 = s := fun s => by
    rw [← hget s]
    constructor
    · intro h
      cases hg : getL s L' with
      | none => exact absurd hg h
      | some y =>
        obtain ⟨b, hb⟩ := mem_getL hg
        exact ⟨_, hb, rfl⟩
    · rintro ⟨⟨x1, x2, x3⟩, hx, rfl⟩ h
      rw [getL_mem hmap.wf hx] at h
      cases h
  have hvlen : vs.length ≤ 1000000 := by
    have := nodup_len hnd fun s hs => hN s ((mem s).2 (by obtain ⟨x, hx, e, _⟩ := hvs s hs; exact ⟨x, hx, e⟩))
    omega
  refine next_map TS hmap2 hi2 (fun hend => ?_) fun x hx hns H3 hi3 hf3 => ?_
  · refine fin ho hnd (fun s => ?_) hf2
    rw [mem]
    exact ⟨fun hs => by obtain ⟨x, hx, e, _⟩ := hvs s hs; exact ⟨x, hx, e⟩, fun ⟨x, hx, e⟩ => e ▸ hall x hx (hend x hx)⟩
  · have hf3' : Fr [] H H3 := hf2.keep hf3 (fun k hk => by simp at hk; omega)
    refine entry_map TS (MapR.keep TS hmap hf3') hi3 hx rfl ?_
    refine ⟨x.1, rfl, ?_⟩
    have hnx : x.1 ∉ vs := fun hv => by
      obtain ⟨x', hx', e, hs'⟩ := hvs _ hv
      have : x' = x := ent_key hmap.wf hx' hx e
      subst this
      exact hns hs'
    have ho3 : Own GV.encStr 9 H.size H3 a n c vs := own_fr ho hf3 (fun k hk => by simp; exact fun e => hito (e ▸ hk))
    have hpend : pendB (seen.push x.2.2) (L'.map (·.2.2)) < pendH H2 r it := by
      rw [pendH_eq TS hmap2 hi2]
      exact pendB_push (List.mem_map.2 ⟨x, hx, rfl⟩) hns
    have hoL := ho3.1
    intro b5 H5 hn5
    have hs1 : Sl GV.encStr H5 (some ⟨b5, 0, none⟩) 1 1 [x.1] := sl_one GV.encStr x.1 hn5 rfl
    have hi5 := hn5.fr.get0 hi3
    have itlt : it < H5.size := lt_of_get hi5
    refine ap_grow (E := GV.encStr) slice45 elem9 (ho3.keep hn5.fr) hs1 (by have := hf3'.size; have := hn5.size; omega) (by omega) fun o2 p2 q2 H6 h6 hf6 hg6 => ?_
    have hi6 : H6[it]? = some (.mapIter (some r) ck (seen.push x.2.2) ck) := hf6.get hi5 hito
    have hito6 : it ∉ blkL o2 := fun hk => by
      rcases hg6 it hk with h | h
      · exact hito h
      · omega
    have hf6' : Fr [] H H6 := (hf3'.keep0 hn5.fr).keep hf6 fun k hk => (ho3.ge k hk).1
    refine ⟨⟨_, vs ++ [x.1], hi6, h6, hito6, ?_, fun v hv => ?_, fun x' hx' hs' => ?_, hf6'⟩, ?_⟩
    · rw [List.nodup_append]
      exact ⟨hnd, by simp, fun a ha b hb => by simp at hb; subst hb; exact fun e => hnx (e ▸ ha)⟩
    · rcases List.mem_append.1 hv with hv | hv
      · obtain ⟨x', hx', e, hs'⟩ := hvs v hv
        exact ⟨x', hx', e, by simp [hs']⟩
      · simp at hv; subst hv
        exact ⟨x, hx, rfl, by simp⟩
    · rcases Array.mem_push.1 hs' with h1 | h1
      · simp [hall x' hx' h1]
      · have : x' = x := ent_born hmap.wf hx' hx h1
        subst this; simp
    · show pendH H6 r it < pendH H2 r it
      rw [pendH_eq TS (MapR.keep TS hmap hf6') hi6]; exact hpend

theorem names_len {L : List Lbls} (hw : WfI L) : (L.flatMap fun l => l.map (·.1)).length ≤ 1600 := by
  have : ∀ M : List Lbls, (∀ l ∈ M, l.length ≤ 8) → (M.flatMap fun l => l.map (·.1)).length ≤ 8 * M.length := by
    intro M
    induction M with
    | nil => simp
    | cons l M ih =>
      intro h
      have h1 := ih fun m hm => h m (by simp [hm])
      have h2 := h l (by simp)
      simp only [List.flatMap_cons, List.length_append, List.length_map, List.length_cons]; omega
  have h1 := this L fun l hl => (hw.chk l hl).1
  have := hw.len
  omega
theorem Names_ok {H : Heap} {xb : Nat} {U : List Nat} {L : List Lbls} {K : Option Addr → Nat → Nat → Heap → Prop} (h : IdxH H xb U L)
    (hk : ∀ a' n' c' H' ks, Own GV.encStr 9 H.size H' a' n' c' ks → SetS ks (nameP L) → n' ≤ 1000000 → Fr [] H H' → K a' n' c' H') :
    CallH Try.prog fn_index_Index_Names ⟨[.pointer (some ⟨xb, 0, none⟩)]⟩ H fun v H' => ∃ a n c, v = .slice a n c ∧ K a n c H' := by
  apply vc_index_Index_Names
  obtain ⟨hw, a0, n0, c0, hs, rk, rh, mF, vF, hp, hnv⟩ := h
  have hname : ∀ s, ((mF s).map fun r => Value.map (some r)) ≠ none ↔ nameP L s := fun s => by
    have e1 : ((mF s).map fun r => Value.map (some r)) ≠ none ↔ mF s ≠ none := by cases mF s <;> simp
    rw [e1]
    constructor
    · intro h
      obtain ⟨v, hv⟩ := hnv s h
      cases hvF : vF s v with
      | none => exact absurd hvF hv
      | some x =>
        obtain ⟨l, hl, hm⟩ := (ids_val L s v).1 (hp.has.own s v x hvF).2
        exact ⟨l, hl, v, hm⟩
    · rintro ⟨l, hl, v, hm⟩ e
      cases hvF : vF s v with
      | none => exact (ids_val L s v).2 ⟨l, hl, hm⟩ (hp.has.no s v hvF)
      | some x => exact hp.has.out s v x hvF e
  refine ⟨_, (lookKey hp).ld (by kernel_rfl) (j := 2) rfl, ?_⟩
  have := names_len hw
  refine keys_ok (ro := some rh) (f := fun s => (mF s).map fun r => Value.map (some r)) (R := fun v H' => ∃ a n c, v = .slice a n c ∧ K a n c H') u70 (fun r e => by cases e; exact hp.has.top) (fun e => by cases e) (N := L.flatMap fun l => l.map (·.1)) (fun s hs => ?_) (by omega) fun a n c H' ks h1 h2 h3 h4 => ⟨_, _, _, rfl, hk a n c H' ks h1 (h2.iff hname) h3 h4⟩
  obtain ⟨l, hl, v, hm⟩ := (hname s).1 hs
  exact List.mem_flatMap.2 ⟨l, hl, List.mem_map.2 ⟨_, hm, rfl⟩⟩
theorem Values_ok {H : Heap} {xb : Nat} {U : List Nat} {L : List Lbls} {nm : ByteArray} {K : Option Addr → Nat → Nat → Heap → Prop} (h : IdxH H xb U L)
    (hk : ∀ a' n' c' H' ks, Own GV.encStr 9 H.size H' a' n' c' ks → SetS ks (valP L nm) → n' ≤ 1000000 → Fr [] H H' → K a' n' c' H') :
    CallH Try.prog fn_index_Index_Values ⟨[.pointer (some ⟨xb, 0, none⟩), .string nm]⟩ H fun v H' => ∃ a n c, v = .slice a n c ∧ K a n c H' := by
  apply vc_index_Index_Values
  obtain ⟨hw, a0, n0, c0, hs, rk, rh, mF, vF, hp, hnv⟩ := h
  have hval : ∀ s, ((vF nm s).map fun h => Value.slice h.1 h.2.1 h.2.2) ≠ none ↔ valP L nm s := fun s => by
    rw [← ids_val]
    cases hvF : vF nm s with
    | none => simp [hp.has.no nm s hvF]
    | some x => simp [(hp.has.own nm s x hvF).2]
  refine ⟨_, (lookKey hp).ld (by kernel_rfl) (j := 2) rfl, (mF nm), hp.has.top.look u70 z76 _ (by cases mF nm <;> rfl), ?_⟩
  have hlen := hw.len
  refine keys_ok (R := fun v H' => ∃ a n c, v = .slice a n c ∧ K a n c H') u76 (fun r e => hp.has.inner nm r e) (fun e s => ?_) (N := L.map fun l => getV l nm) (fun s hs => ?_) (by rw [List.length_map]; omega) fun a n c H' ks h1 h2 h3 h4 => ⟨_, _, _, rfl, hk a n c H' ks h1 (h2.iff hval) h3 h4⟩
  · cases hvF : vF nm s with
    | none => rfl
    | some x => exact absurd e (hp.has.out nm s x hvF)
  · obtain ⟨l, hl, hm⟩ := (hval s).1 hs
    exact List.mem_map.2 ⟨l, hl, getV_hit (hw.chk l hl) hm⟩
end Go.Proofs
