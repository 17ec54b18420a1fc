/- A part of a proof: see the last text of this claim. -/
import Derived.Test.YtgjbljhocedpfaaSeq
import Derived.Test.YtgjbljhocedpfaaSortS
import Derived.Test.YtgjbljhocedpfaaP10d
import Derived.Test.YtgjbljhocedpfaaSh10
set_option linter.unusedVariables false
set_option maxRecDepth 100000
open Go Go.GV
namespace Go.Proofs

noncomputable abbrev SM : KeyT Try.prog 9 ByteArray := keyStr Try.underlying9

/-- The keys of a map of texts, one by one. -/
def keysA (L : List (Ent ByteArray)) (ys : List ByteArray) : Prop := ys.Nodup ∧ ∀ y ∈ ys, ∃ x ∈ L, x.1 = y
def keysF (L : List (Ent ByteArray)) (ys : List ByteArray) : Prop := ys.Nodup ∧ ∀ y, y ∈ ys ↔ ∃ x ∈ L, x.1 = y
theorem keys_seq {b r ck : Nat} {L : List (Ent ByteArray)} : SeqOk Try.prog (fun s => .string s) (.func (.func 66) ⟨[]⟩ ⟨[.pointer (some ⟨b, 0, none⟩)]⟩) (keysA L) (keysF L) [b, r]
    (fun H => Blk H ⟨b, 0, none⟩ [.map (some r)] ∧ MapR SM H r ck L) := by
  intro l H I K S hG hin hd h0 stab step fin
  obtain ⟨hb, hm⟩ := hG
  refine ⟨66, ⟨[]⟩, _, rfl, by kernel_rfl, ?_⟩
  apply vc_maps_Keys_map_string_string_string_string__1
  have hSb : b ∉ S := fun h => hd b h (by simp)
  have hSr : r ∉ S := fun h => hd r h (by simp)
  refine ⟨some r, hb.ld0 (by kernel_rfl) rfl, range_map SM (mt := 51) (e := 9) Try.underlying51 hm fun it H1 hn1 => ?_⟩
  have hit := hn1.eq
  have hs1 := hn1.size
  refine ⟨fun _ H2 => ∃ (ys : List ByteArray) (seen : Array Nat) (S2 : List Nat), I ys S2 H2 ∧ ys.Nodup ∧ (∀ k, k ∈ ys ↔ ∃ x ∈ L, x.1 = k ∧ x.2.2 ∈ seen) ∧ H2[it]? = some (.mapIter (some r) ck seen ck) ∧ it ∉ S2 ∧ Fr S H H2 ∧ Grow H S S2 ∧ In H2 S2,
    fun _ H2 => pendH H2 r it, ⟨[], #[], S, stab _ _ _ _ [] h0 hn1.fr (fun _ _ => by simp) (by simp), by simp, by simp, hn1.get, fun h => by have := hin it h; omega, hn1.fr.mono (by simp), Grow.refl _ _, hin.le hn1.fr.size⟩, ?_⟩
  rintro J H2 ⟨ys, seen, S2, hI, hnd, hmem, hi2, hit2, hf2, hg2, hin2⟩
  have hm2 := hm.fr SM hf2 hSr
  have hb2 := hb.fr hf2 hSb
  refine next_map SM hm2 hi2 (fun hall => ⟨rfl, ?_⟩) fun x hx hns H3 hi3 hf3 => ?_
  · refine fin ys S2 H2 ⟨hnd, fun y => ?_⟩ hI hin2 hf2 hg2
    rw [hmem]
    exact ⟨fun ⟨x, hx, e, _⟩ => ⟨x, hx, e⟩, fun ⟨x, hx, e⟩ => ⟨x, hx, e, hall x hx⟩⟩
  · have hrit : r ≠ it := fun e => by have := hm.lt; omega
    have hm3 := hm2.fr SM hf3 (by simp; exact hrit)
    have hI3 := stab ys S2 H2 H3 [it] hI hf3 (fun k hk => by simp; exact fun e => hit2 (e ▸ hk)) (fun k hk => by simp at hk; omega)
    have hin3 : In H3 S2 := hin2.le hf3.size
    refine entry_map SM hm3 hi3 hx rfl ⟨x.1, rfl, .inr ⟨l, rfl, (step ys x.1 S2 H3 ?_ hin3 hI3).mono fun v H4 => ?_⟩⟩
    · constructor
      · rw [List.nodup_append]
        refine ⟨hnd, by simp, fun a ha b' hb' => ?_⟩
        simp only [List.mem_singleton] at hb'
        subst hb'
        intro e
        subst e
        obtain ⟨z, hz, e, hs⟩ := (hmem _).1 ha
        have := ent_key hm.wf hz hx e
        subst this
        exact hns hs
      · intro y hy
        rcases List.mem_append.1 hy with hy | hy
        · obtain ⟨z, hz, e, _⟩ := (hmem y).1 hy; exact ⟨z, hz, e⟩
        · simp only [List.mem_singleton] at hy; exact ⟨x, hx, hy.symm⟩
    · rintro ⟨rfl, S4, hI4, hf4, hg4, hin4⟩
      have hlt3 : it < H3.size := lt_of_get hi3
      have hi4 : H4[it]? = some (.mapIter (some r) ck (seen.push x.2.2) ck) := hf4.get hi3 hit2
      have hf24 : Fr S H H3 := hf2.trans' hf3 (fun k hk _ => hk) (fun k hk hlt => by simp at hk; omega)
      have hf34 : Fr S H H4 := hf24.trans' hf4 (fun k hk _ => hk) (fun k hk hlt => by
        rcases hg2 k hk with h | h
        · exact h
        · omega)
      have hm4 := hm.fr SM hf34 hSr
      refine ⟨true, rfl, brB_of (fun h => by simp at h) fun _ => ⟨⟨ys ++ [x.1], seen.push x.2.2, S4, hI4, ?_, ?_, hi4, ?_, hf34, ?_, hin4⟩, ?_⟩⟩
      · rw [List.nodup_append]
        refine ⟨hnd, by simp, fun a ha b' hb' => ?_⟩
        simp only [List.mem_singleton] at hb'
        subst hb'
        intro e
        subst e
        obtain ⟨z, hz, e, hs⟩ := (hmem _).1 ha
        have := ent_key hm.wf hz hx e
        subst this
        exact hns hs
      · intro k
        rw [List.mem_append, hmem]
        constructor
        · rintro (⟨z, hz, e, hs⟩ | h)
          · exact ⟨z, hz, e, by simp [hs]⟩
          · simp only [List.mem_singleton] at h; exact ⟨x, hx, h.symm, by simp⟩
        · rintro ⟨z, hz, e, hs⟩
          simp only [Array.mem_push] at hs
          rcases hs with hs | hs
          · exact .inl ⟨z, hz, e, hs⟩
          · right
            have := ent_born hm.wf hz hx hs
            subst this
            simp [e]
      · intro h
        rcases hg4 it h with h | h
        · exact hit2 h
        · omega
      · exact hg2.trans (by have := hf2.size; exact this) (fun k hk => (hg4 k hk).imp id fun h => by have := hf3.size; omega)
      · show pendH H4 r it < pendH H2 r it
        rw [pendH_eq SM hm2 hi2, pendH_eq SM hm4 hi4]
        exact pendB_push (List.mem_map.2 ⟨x, hx, rfl⟩) hns

/-- The keys, gathered. -/
theorem collectS_ok {seq : Value} {A F : List ByteArray → Prop} {Q : List Nat} {G : Heap → Prop} {H : Heap} {K : Option Addr → Nat → Nat → Heap → Prop} (hq : SeqOk Try.prog (fun s => .string s) seq A F Q G)
    (hA : ∀ ys, A ys → ys.length ≤ 1000000000000) (hG : ∀ H', Fr [] H H' → G H') (hQ : ∀ k ∈ Q, k < H.size)
    (hk : ∀ xs a n c H', F xs → Own GV.encStr 9 H.size H' a n c xs → Fr [] H H' → K a n c H') :
    CallH Try.prog 64 ⟨[seq]⟩ H fun v H' => ∃ a n c, v = .slice a n c ∧ K a n c H' := by
  apply vc_slices_Collect_string_
  apply vc_slices_AppendSeq___string_string_
  exact collect_loop (K := fun a n c H' => ∃ a' n' c', Value.slice a n c = .slice a' n' c' ∧ ∃ a'' n'' c'', Value.slice a' n' c' = .slice a'' n'' c'' ∧ K a'' n'' c'' H') (E := GV.encStr) (t := 9) (bytes := 16) slice41 elem9 (by kernel_rfl) (by kernel_rfl) (by kernel_rfl) (fun _ => rfl) hq (fun ys h => by have := hA ys h; omega) hG hQ fun xs a n c H' h1 h2 h3 => ⟨_, _, _, rfl, _, _, _, rfl, hk xs a n c H' h1 h2 h3⟩
theorem sortedS_ok {seq : Value} {A F : List ByteArray → Prop} {Q : List Nat} {G : Heap → Prop} {H : Heap} {K : Option Addr → Nat → Nat → Heap → Prop} (hq : SeqOk Try.prog (fun s => .string s) seq A F Q G)
    (hA : ∀ ys, A ys → ys.length ≤ 1000000000000) (hF : ∀ ys, F ys → ys.length ≤ 1000000000000) (hG : ∀ H', Fr [] H H' → G H') (hQ : ∀ k ∈ Q, k < H.size)
    (hk : ∀ xs ys a n c H', F xs → ys.map bl = (xs.map bl).mergeSort (fun x y => decide (x ≤ y)) → Own GV.encStr 9 H.size H' a n c ys → Fr [] H H' → K a n c H') :
    CallH Try.prog 51 ⟨[seq]⟩ H fun v H' => ∃ a n c, v = .slice a n c ∧ K a n c H' := by
  apply vc_slices_Sorted_string_
  refine collectS_ok hq hA hG hQ fun xs a n c H1 hx ho hf => ?_
  refine sortS_ok Try.sortS (k := 65) rfl ho (by have := hF xs hx; have := ho.1; omega) fun H2 ys ho2 he hf2 => ⟨a, n, c, rfl, ?_⟩
  exact hk xs ys a n c H2 hx he ho2 (hf.keep hf2 fun k hk => (ho.ge k hk).1)

/-- A map's keys, sorted: by their bytes, each once. -/
def keysS (L : List (Ent ByteArray)) (ys : List ByteArray) : Prop := (ys.map bl).Pairwise (· < ·) ∧ ∀ y, y ∈ ys ↔ ∃ x ∈ L, x.1 = y
theorem keysA_len {L : List (Ent ByteArray)} {ys : List ByteArray} (h : keysA L ys) : ys.length ≤ L.length := by
  have : ∀ (l k : List (List UInt8)), l.Nodup → (∀ x ∈ l, x ∈ k) → l.length ≤ k.length := by
    intro l
    induction l with
    | nil => intro k _ _; exact Nat.zero_le _
    | cons a l ih =>
      intro k hn hs
      rw [List.nodup_cons] at hn
      have ha : a ∈ k := hs a (by simp)
      have := ih (k.erase a) hn.2 fun x hx => by
        rw [List.mem_erase_of_ne (fun e => hn.1 (by rw [← e]; exact hx))]
        exact hs x (by simp [hx])
      rw [List.length_erase_of_mem ha] at this
      have h0 : 0 < k.length := List.length_pos_of_mem ha
      simp only [List.length_cons]
      omega
  have := this (ys.map bl) (L.map (fun x => bl x.1)) (by
    rw [List.nodup_iff_pairwise_ne, List.pairwise_map]
    exact (List.nodup_iff_pairwise_ne.1 h.1).imp fun hne e => hne (bl_inj e)) fun x hx => by
      obtain ⟨y, hy, rfl⟩ := List.mem_map.1 hx
      obtain ⟨z, hz, e⟩ := h.2 y hy
      exact List.mem_map.2 ⟨z, hz, by rw [e]⟩
  simpa using this
theorem keys_sorted {L : List (Ent ByteArray)} {xs ys : List ByteArray} (h : keysF L xs) (he : ys.map bl = (xs.map bl).mergeSort (fun x y => decide (x ≤ y))) : keysS L ys := by
  have hp : (ys.map bl).Perm (xs.map bl) := by rw [he]; exact List.mergeSort_perm _ _
  have hnd : (ys.map bl).Nodup := hp.nodup_iff.2 (by
    rw [List.nodup_iff_pairwise_ne, List.pairwise_map]
    exact (List.nodup_iff_pairwise_ne.1 h.1).imp fun hne e => hne (bl_inj e))
  have hs : (ys.map bl).Pairwise (· ≤ ·) := by
    rw [he]
    have := List.pairwise_mergeSort (le := fun x y : List UInt8 => decide (x ≤ y)) (fun a b c h1 h2 => by simp only [decide_eq_true_eq] at *; exact List.le_trans h1 h2) (fun a b => by simp only [Bool.or_eq_true, decide_eq_true_eq]; exact List.le_total a b) (xs.map bl)
    exact this.imp fun h => by simpa using h
  refine ⟨?_, fun y => ?_⟩
  · have := hs.and (List.nodup_iff_pairwise_ne.1 hnd)
    exact this.imp fun h => by
      rcases List.le_iff_lt_or_eq.1 h.1 with h1 | h1
      · exact h1
      · exact absurd h1 h.2
  · rw [← h.2]
    have : bl y ∈ ys.map bl ↔ bl y ∈ xs.map bl := hp.mem_iff
    simp only [List.mem_map] at this
    exact ⟨fun hy => by obtain ⟨z, hz, e⟩ := this.1 ⟨y, hy, rfl⟩; rw [← bl_inj e]; exact hz, fun hy => by obtain ⟨z, hz, e⟩ := this.2 ⟨y, hy, rfl⟩; rw [← bl_inj e]; exact hz⟩
/-- The names of a map's entries, in order. -/
theorem mapNames_ok {r ck : Nat} {L : List (Ent ByteArray)} {H : Heap} {K : Option Addr → Nat → Nat → Heap → Prop} (hm : MapR SM H r ck L) (hL : L.length ≤ 1000000000000)
    (hk : ∀ ys a n c H', keysS L ys → Own GV.encStr 9 H.size H' a n c ys → Fr [] H H' → K a n c H') :
    CallH Try.prog 52 ⟨[.map (some r)]⟩ H fun v H' => ∃ v_1, v = v_1 ∧ CallH Try.prog 51 ⟨[v_1]⟩ H' fun v H' => ∃ a n c, v = .slice a n c ∧ K a n c H' := by
  apply vc_maps_Keys_map_string_string_string_string_
  intro b H1 hn
  refine ⟨_, rfl, ?_⟩
  have hs := hn.size
  have he := hn.eq
  refine sortedS_ok (keys_seq (b := b) (r := r) (ck := ck) (L := L)) (fun ys h => by have := keysA_len h; omega) (fun ys h => by have := keysA_len (L := L) ⟨h.1, fun y hy => (h.2 y).1 hy⟩; omega) (fun H' hf => ⟨hn.blk.keep hf, (hm.keep SM hn.fr).keep SM hf⟩) (fun k hk => ?_) fun xs ys a n c H2 hF hy ho hf => ?_
  · have := hm.lt
    simp at hk
    omega
  · exact hk ys a n c H2 (keys_sorted hF hy) (ho.base (by omega)) (hn.fr.keep0 hf)
end Go.Proofs
