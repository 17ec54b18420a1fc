/- A part of a proof: see the last text of this claim. -/
import Derived.Test.YtddfciphdbdemaaP07f
set_option linter.unusedVariables false
set_option maxRecDepth 100000
open Go Go.GV
namespace Go.Proofs

open Classical in
noncomputable def idK (L : List Lbls) (l : Lbls) (k : Nat) (nm v : ByteArray) : List Int := idsL L nm v ++ if (nm, v) ∈ l.take k then [(L.length : Int)] else []
theorem idK_zero (L : List Lbls) (l : Lbls) (nm v : ByteArray) : idK L l 0 nm v = idsL L nm v := by simp [idK]
theorem idK_all (L : List Lbls) (l : Lbls) (nm v : ByteArray) : idK L l l.length nm v = idsL (L ++ [l]) nm v := by
  rw [idsL_snoc]; unfold idK; rw [List.take_length]
theorem idK_succ {L : List Lbls} {l : Lbls} {k : Nat} {x : Lbl} (hr : RiseL l) (hx : l[k]? = some x) (nm v : ByteArray) :
    (if nm = x.1 ∧ v = x.2 then idK L l k x.1 x.2 ++ [(L.length : Int)] else idK L l k nm v) = idK L l (k + 1) nm v := by
  have hno : ∀ w, (x.1, w) ∉ l.take k := fun w h => name_once hr hx h rfl
  unfold idK
  rw [List.take_add_one, hx]
  by_cases h : nm = x.1 ∧ v = x.2
  · obtain ⟨rfl, rfl⟩ := h
    rw [if_pos ⟨rfl, rfl⟩, if_neg (hno _), if_pos (by simp)]
    simp
  · rw [if_neg h]
    congr 1
    have e : ((nm, v) ∈ l.take k ++ (some x).toList) ↔ ((nm, v) ∈ l.take k) := by
      rw [List.mem_append]
      refine ⟨fun h' => h'.elim id fun h' => ?_, .inl⟩
      simp at h'
      exact absurd ⟨congrArg Prod.fst h', congrArg Prod.snd h'⟩ h
    by_cases h2 : (nm, v) ∈ l.take k
    · rw [if_pos h2, if_pos (e.2 h2)]
    · rw [if_neg h2, if_neg fun h3 => h2 (e.1 h3)]

theorem Add_ok {H : Heap} {xb : Nat} {U : List Nat} {L : List Lbls} {a : Option Addr} {n c : Nat} {l : Lbls} {K : Int → Int → Heap → Prop} (h : IdxH H xb U L) (hx : Sl encL H a n c l) (hn : n ≤ 1000000000)
    (hsep : l ≠ [] → ∀ ad, a = some ad → ad.block ∉ U)
    (hk : ∀ H' U', IdxH H' xb U' (addL L l) → Fr U H H' → Grow H U U' → K (addI L l) (addE L l) H') :
    CallH Try.prog fn_index_Index_Add ⟨[.pointer (some ⟨xb, 0, none⟩), .slice a n c]⟩ H fun v H' => ∃ i e, v = .tuple ⟨[.int .i64 i, .int .i64 e]⟩ ∧ K i e H' := by
  apply vc_index_Index_Add
  have hw := h.1
  have hlx := hx.len
  have same : ∀ H1, Fr [] H H1 → ¬ (ChkP l ∧ l ∉ L ∧ L.length < 200) → K (addI L l) (addE L l) H1 := fun H1 hf1 hno => hk H1 U (by
    have : addL L l = L := if_neg hno
    rw [this]; exact h.keep hf1) (hf1.mono (by simp)) (Grow.refl _ _)
  refine Key_ok hx hn (fun hC H1 hf1 => ?_) (fun hC H1 hf1 => ?_)
  · have hK := same H1 hf1 (fun hh => hC hh.1)
    unfold addI addE at hK
    rw [if_neg hC, if_neg hC] at hK
    exact ⟨_, _, rfl, hK⟩
  obtain ⟨_, a0, n0, c0, hs, rk, rh, mF, vF, hp, hnv⟩ := id h
  have hp1 := hp.fr hf1 (by simp)
  refine brB_of (fun h => by simp at h) (fun _ => ⟨_, (lookKey hp1).ld (by kernel_rfl) (j := 1) rfl, ?_⟩)
  have hv : fidx L ⟨(keyL l).toArray⟩ = posL L l := fidx_key hw hC
  cases hpos : posL L l with
  | some i =>
    have hK := same H1 hf1 (fun hh => hh.2.1 (List.mem_of_getElem? (posL_some hpos)))
    unfold addI addE at hK
    rw [if_pos hC, if_pos hC, hpos] at hK
    rw [hpos] at hv
    exact ⟨i, true, hp1.keys.lookOk u69 z3 _ (by unfold keyF; rw [hv]; rfl) (by unfold keyF; rw [hv]; rfl), _, _, rfl, hK⟩
  | none =>
  have hnew : l ∉ L := posL_none.1 hpos
  have e0 : n0 = L.length := by rw [hp.all.1, hp.lls.1]
  refine ⟨0, false, hp1.keys.lookOk u69 z3 _ (by unfold keyF; rw [hv, hpos]; rfl) (by unfold keyF; rw [hv, hpos]; rfl), ?_⟩
  refine ⟨_, _, _, (lookKey hp1).ld0 (by kernel_rfl) rfl, brB_of (fun h2 => ?_) (fun h2 => ?_)⟩
  · have hfull : ¬ L.length < 200 := by simp at h2; omega
    have hK := same H1 hf1 (fun hh => hfull hh.2.2)
    unfold addI addE at hK
    rw [if_pos hC, if_pos hC, hpos] at hK
    simp only [if_neg hfull] at hK
    exact ⟨_, _, rfl, hK⟩
  have hroom : L.length < 200 := by simp at h2; omega
  have eL : addL L l = L ++ [l] := if_pos ⟨hC, hnew, hroom⟩
  have eI : addI L l = L.length := by unfold addI; rw [if_pos hC, hpos]; simp only [if_pos hroom]
  have eE : addE L l = 0 := by unfold addE; rw [if_pos hC, hpos]; simp only [if_pos hroom]
  rw [eL, eI, eE] at hk
  -- the labels' copy
  refine ⟨_, _, _, (lookKey hp1).ld0 (by kernel_rfl) rfl, Clone_ok (hx.keep hf1) hn fun a1 n1 c1 H2 ho1 hf2 => ?_⟩
  have hp2 := hp1.fr hf2 (by simp)
  refine ⟨(lookKey hp2).ld0 (by kernel_rfl) rfl, ?_⟩
  intro b3 H3 hn3
  have hp3 := hp2.fr hn3.fr (by simp)
  have hf03 : Fr [] H H3 := (hf1.keep0 hf2).keep0 hn3.fr
  have ho3 : Own encL 64 0 H3 a1 n1 c1 l := (ho1.keep hn3.fr).base (Nat.zero_le _)
  refine ⟨(lookKey hp3).ld0 (by kernel_rfl) rfl, ?_⟩
  have hs1 : Sl encH H3 (some ⟨b3, 0, none⟩) 1 1 [((a1, n1, c1) : Hd)] := sl_one encH (a1, n1, c1) hn3 rfl
  refine ap_grow (E := encH) slice22 elem23 hp3.all hs1 (Nat.zero_le _) (by omega) fun a' n' c' H4 ho4 hf4 hg4 => ?_
  -- all, stored
  have hxb4 : xb ∉ blkL a0 := own_ne_cells (by decide) hp3.all hp3.cell
  have hcell4 : H4[xb]? = some (.cells ⟨[.slice a0 n0 c0, .map (some rk), .map (some rh)]⟩ 72 (0, 0)) := hf4.get hp3.cell hxb4
  have hxlt : xb < H3.size := lt_of_get hp3.cell
  refine st_blk (off := 0) (v := .slice a' n' c') hcell4 (by kernel_rfl) (by kernel_rfl) (fun x hx => by simp [Value.cells] at hx; subst hx; rfl) (by simp [Value.cells]) fun H5 hcell5 hf5 => ?_
  have hcell5 : H5[xb]? = some (.cells ⟨[.slice a' n' c', .map (some rk), .map (some rh)]⟩ 72 (0, 0)) := hcell5
  have hxa' : xb ∉ blkL a' := fun hk => by
    rcases hg4 xb hk with h5 | h5
    · exact hxb4 h5
    · omega
  let U5 := blkL a1 ++ (blkL a' ++ U)
  have hUin : ∀ k ∈ U, k < H3.size := fun k hk => hp3.inn k hk
  have hall5 : Own encH 23 0 H5 a' n' c' (hs ++ [(a1, n1, c1)]) := own_fr ho4 hf5 (fun k hk => by simp; exact fun e => hxa' (e ▸ hk))
  have keep5 : ∀ {k : Nat}, k ∉ blkL a0 → k ≠ xb → ∀ {o : Obj}, H3[k]? = some o → H5[k]? = some o := fun {k} h1 h2 {o} ho => hf5.get (hf4.get ho h1) (by simp; exact h2)
  have hf35 : Fr (xb :: blkL a0) H3 H5 := hf4.trans' hf5 (fun k hk _ => by simp [hk]) (fun k hk _ => by simp at hk; simp [hk])
  have hlls5 : LLO H5 U5 (hs ++ [(a1, n1, c1)]) (L ++ [l]) := by
    refine LLO.snoc ?_ ?_ (fun k hk => by simp [U5, hk])
    · refine (hp3.lls.fr hf35 fun i x m hx hm k hk => ?_).mono (fun k hk => by simp [U5, hk])
      have hox := (hp3.lls.2 i x m hx hm).1
      simp only [List.mem_cons, not_or]
      exact ⟨fun e => own_ne_cells (by decide) hox hp3.cell (e ▸ hk), own_ne_own (by decide) hox hp3.all k hk⟩
    · refine own_fr ho3 hf35 fun k hk => ?_
      simp only [List.mem_cons, not_or]
      exact ⟨fun e => own_ne_cells (by decide) ho3 hp3.cell (e ▸ hk), own_ne_own (by decide) ho3 hp3.all k hk⟩
  have notS : ∀ {r : Nat} {f : ByteArray → Option Value}, MapF H3 r f → r ∉ xb :: blkL a0 := fun {r f} hm => by
    simp only [List.mem_cons, not_or]
    exact ⟨fun e => map_ne_cells hm hp3.cell e.symm, own_ne_map hp3.all hm⟩
  have hkeys5 := hp3.keys.fr hf35 (notS hp3.keys)
  have hhas5 : HasH H5 U5 rh mF vF (idsL L) := (hp3.has.fr hf35 (notS hp3.has.top) (fun nm r e => notS (hp3.has.inner nm r e)) (fun nm v x k e hk => by
    have hox := (hp3.has.own nm v x e).1
    simp only [List.mem_cons, not_or]
    exact ⟨fun e => own_ne_cells (by decide) hox hp3.cell (e ▸ hk), own_ne_own (by decide) hox hp3.all k hk⟩)).mono (fun k hk => by simp [U5, hk])
  -- the key
  have hb5 : Blk H5 ⟨xb, 0, none⟩ [.slice a' n' c', .map (some rk), .map (some rh)] := ⟨xb, _, rfl, hcell5⟩
  refine ⟨_, hb5.ld (by kernel_rfl) (j := 1) rfl, ?_⟩
  refine hkeys5.put u69 _ fun H6 hkeys6 hf6 => ?_
  have hkeys6 : MapF H6 rk (keyF (L ++ [l])) := by
    have e : keyF (L ++ [l]) = fun s => if s = ⟨(keyL l).toArray⟩ then some (.int .i64 (n0 : Int)) else keyF L s := by
      funext s
      unfold keyF
      rw [fidx_snoc s (by rw [hv, hpos]), e0]
      by_cases hs : s = ⟨(keyL l).toArray⟩
      · rw [if_pos hs, if_pos hs]
      · rw [if_neg hs, if_neg hs]
    rw [e]; exact hkeys6
  have hp6 : IdxP H6 xb U5 (L ++ [l]) (idK L l 0) a' n' c' (hs ++ [(a1, n1, c1)]) rk rh mF vF := by
    have own6 : ∀ {α : Type} {E : Enc α} {t base : Nat} {a : Option Addr} {n c : Nat} {xs : List α}, Own E t base H5 a n c xs → ∀ k ∈ blkL a, k ∉ [rk] := fun ho k hk => by
      simp; exact fun e => own_ne_map ho hkeys5 (e ▸ hk)
    refine ⟨hf6.get hcell5 (by simp; exact map_ne_cells hkeys5 hcell5), own_fr hall5 hf6 (own6 hall5), hlls5.fr hf6 (fun i x m hx hm => own6 (hlls5.2 i x m hx hm).1), hkeys6, ?_, hp.kh, hp.km, by simp [U5, hp.uX], by simp [U5, hp.uK], fun k hk => by simp [U5, hk], ?_⟩
    · exact (hhas5.fr hf6 (by simp; exact fun e => hp.kh e.symm) (fun nm r e => by simp; exact hp.km nm r e) (fun nm v x k e hk => own6 (hhas5.own nm v x e).1 k hk)).ext (fun nm v => (idK_zero L l nm v).symm)
    · intro k hk
      have s6 := hf6.size
      have s5 := hf35.size
      simp only [U5, List.mem_append] at hk
      rcases hk with hk | hk | hk
      · have := (ho3.ge k hk).2; omega
      · have := (hall5.ge k hk).2; omega
      · have := hUin k hk; omega
  have hgU : Grow H U U5 := fun k hk => by
    have s3 := hf03.size
    simp only [U5, List.mem_append] at hk
    rcases hk with hk | hk | hk
    · exact .inr (by have := (ho1.ge k hk).1; have := hf1.size; omega)
    · rcases hg4 k hk with h5 | h5
      · exact .inl (hp.uA k h5)
      · exact .inr (by omega)
    · exact .inl hk
  have hf06 : Fr U H H6 := (hf03.trans' hf35 (T := U) (by simp) (fun k hk _ => by
    rcases List.mem_cons.1 hk with rfl | hk
    · exact hp.uX
    · exact hp.uA k hk)).trans' hf6 (fun k hk _ => hk) (fun k hk _ => by simp at hk; subst hk; exact hp.uK)
  have hxsep : l ≠ [] → ∀ ad, a = some ad → ad.block < H.size ∧ ad.block ∉ U := fun hne ad e => ⟨by
    obtain ⟨b, off, e2, hb⟩ := hx.arr.lt hne
    rw [e] at e2; cases e2; exact hb, hsep hne ad e⟩
  clear_value U5
  clear hp1 hp2 hp3 hn3 hs1 ho1 ho3 ho4 hf4 hg4 hcell4 hcell5 hf5 keep5 hf35 hlls5 hkeys5 hhas5 hb5 hall5 hkeys6 hf6 hUin hxb4 hxa' notS hf03
  refine ⟨fun vs H' => match vs with
      | [.int _ i] => ∃ (k : Nat) (U' : List Nat) (mF : ByteArray → Option Nat) (vF : ByteArray → ByteArray → Option Hd), i = k ∧ k ≤ n ∧ IdxP H' xb U' (L ++ [l]) (idK L l k) a' n' c' (hs ++ [(a1, n1, c1)]) rk rh mF vF ∧ Fr U H H' ∧ Grow H U U' ∧ NmV mF vF
      | _ => False,
    fun vs _ => match vs with | [.int _ i] => n - i.toNat | _ => 0, ⟨0, U5, mF, vF, rfl, by omega, hp6, hf06, hgU, hnv⟩, ?_⟩
  clear hp6 hf06 hgU
  rintro J i H7 ⟨k, U7, mF7, vF7, rfl, hle, hp7, hf7, hg7, hnv7⟩
  refine brB_of (fun h0 => ?_) (fun h0 => ⟨_, _, rfl, ?_⟩)
  · have h0' : k < n := by simpa using h0
    have hx1 : l[k]? = some (l[k]'(by omega)) := by simp
    generalize l[k]'(by omega) = x at hx1
    have hne : l ≠ [] := fun e => by subst e; simp at hx1
    have hx7 : Sl encL H7 a n c l := hx.fr hf7 fun ad e => (hxsep hne ad e).2
    refine hx7.get rfl hx1 (decide_eq_true (by omega)) fun ad ea hc => ⟨_, _, ldL hc, ?_⟩
    refine var_lbl rfl fun b H8 hb hv8 hf8 => ?_
    have hp8 := hp7.fr hf8 (by simp)
    have hbU : b ∉ U7 := fun hk => by have := hp7.inn b hk; omega
    refine ⟨fun _ H' => ∃ (U' : List Nat) (mF : ByteArray → Option Nat) (vF : ByteArray → ByteArray → Option Hd) (r : Nat), IdxP H' xb U' (L ++ [l]) (idK L l k) a' n' c' (hs ++ [(a1, n1, c1)]) rk rh mF vF ∧ mF x.1 = some r ∧ Blk H' ⟨b, 0, none⟩ [.string x.1, .string x.2] ∧ b ∉ U' ∧ b < H'.size ∧ Fr U H H' ∧ Grow H U U' ∧ (∀ nm, mF nm ≠ none → (∃ v, vF nm v ≠ none) ∨ nm = x.1), ?_, ?_⟩
    · refine ⟨_, (lookKey hp8).ld (by kernel_rfl) (j := 2) rfl, _, hv8.s0, (mF7 x.1), hp8.has.top.look u70 z76 _ (by cases mF7 x.1 <;> rfl), ?_⟩
      refine brB_of (fun h1 => ?_) (fun h1 => ?_)
      · have hno : mF7 x.1 = none := by simpa using h1
        refine ⟨_, (lookKey hp8).ld (by kernel_rfl) (j := 2) rfl, _, hv8.s0, ?_⟩
        intro b1 H9 hn9
        have hp9 := hp8.fr hn9.fr (by simp)
        have hv9 := hv8.keep hn9.fr
        refine ⟨hv9.s0, (lookKey hp9).ld (by kernel_rfl) (j := 2) rfl, ?_⟩
        refine hp9.has.top.put u70 x.1 fun H10 ht10 hf10 => ?_
        have hrhb : rh ≠ b := fun e => hbU (e ▸ hp7.has.uT)
        have hb1 : b1 = H8.size := hn9.eq
        have s9 := hn9.size
        have hblt := hv8.lt
        have own10 : ∀ {α : Type} {E : Enc α} {t base : Nat} {a : Option Addr} {n c : Nat} {xs : List α}, Own E t base H9 a n c xs → ∀ k ∈ blkL a, k ∉ [rh] := fun ho k hk => by
          simp; exact fun e => own_ne_map ho hp9.has.top (e ▸ hk)
        refine ⟨b1 :: U7, _, vF7, b1, ⟨hf10.get hp9.cell (by simp; exact map_ne_cells hp9.has.top hp9.cell), own_fr hp9.all hf10 (own10 hp9.all), (hp9.lls.fr hf10 (fun i x m hx hm => own10 (hp9.lls.2 i x m hx hm).1)).mono (fun k hk => by simp [hk]), hp9.keys.fr hf10 (by simp; exact hp9.kh), hp8.has.name hp8.inn hno hn9 ht10 hf10, hp9.kh, ?_, by simp [hp9.uX], by simp [hp9.uK], fun k hk => by simp [hp9.uA k hk], ?_⟩, if_pos rfl, hv9.fr hf10 (by simp; exact fun e => hrhb e.symm), ?_, ?_, ?_, ?_, fun s hs => ?_⟩
        · intro nm r e
          split at e
          · cases e
            intro e2
            have := hp8.inn rk hp8.uK; omega
          · exact hp9.km nm r e
        · intro j hj
          have := hf10.size
          rcases List.mem_cons.1 hj with rfl | hj
          · omega
          · have := hp9.inn j hj; omega
        · intro hk
          rcases List.mem_cons.1 hk with h5 | h5
          · have : b < H8.size := hblt
            omega
          · exact hbU h5
        · have := hf10.size; have : b < H8.size := hblt; omega
        · exact ((hf7.trans' hf8 (fun k hk _ => hk) (by simp)).trans' hn9.fr (fun k hk _ => hk) (by simp)).trans' hf10 (fun k hk _ => hk) (fun k hk hlt => by
            simp at hk; subst hk
            rcases hg7 _ hp7.has.uT with h5 | h5
            · exact h5
            · omega)
        · intro j hj
          rcases List.mem_cons.1 hj with rfl | hj
          · exact .inr (by have := hf7.size; have := hf8.size; omega)
          · exact hg7 j hj
        · by_cases h5 : s = x.1
          · exact .inr h5
          · exact .inl (hnv7 s (by rwa [if_neg h5] at hs))
      · cases hm : mF7 x.1 with
        | none => rw [hm] at h1; simp at h1
        | some r => exact ⟨U7, mF7, vF7, r, hp8, hm, hv8, hbU, hv8.lt, hf7.trans' hf8 (fun k hk _ => hk) (by simp), hg7, fun s hs => .inl (hnv7 s hs)⟩
    · clear hp7 hf7 hg7 hp8 hv8 hf8 hbU hx7
      rintro J H9 ⟨U9, mF9, vF9, r, hp9, hr, hv9, hbU, hblt, hf9, hg9, hnv9⟩
      have lx : ∀ {H' : Heap}, IdxP H' xb U9 (L ++ [l]) (idK L l k) a' n' c' (hs ++ [(a1, n1, c1)]) rk rh mF9 vF9 → Ld Try.prog 70 H' (Addr.add ⟨xb, 0, none⟩ 2) (.map (some rh)) := fun hp => (lookKey hp).ld (by kernel_rfl) (j := 2) rfl
      have ln : ∀ {H' : Heap}, IdxP H' xb U9 (L ++ [l]) (idK L l k) a' n' c' (hs ++ [(a1, n1, c1)]) rk rh mF9 vF9 → Rd Try.prog (Instr.lookup 70 (.map (some rh)) (.string x.1) false) H' (.map (some r)) := fun hp => hp.has.top.look u70 z76 _ (by rw [hr]; rfl)
      obtain ⟨ho, hol⟩ : ∃ ho : Hd, (vF9 x.1 x.2).getD (none, 0, 0) = ho := ⟨_, rfl⟩
      have lv : ∀ {H' : Heap}, IdxP H' xb U9 (L ++ [l]) (idK L l k) a' n' c' (hs ++ [(a1, n1, c1)]) rk rh mF9 vF9 → Rd Try.prog (Instr.lookup 76 (.map (some r)) (.string x.2) false) H' (.slice ho.1 ho.2.1 ho.2.2) := fun hp => (hp.has.inner _ _ hr).look u76 z40 _ (by
        rw [← hol]; cases vF9 x.1 x.2 <;> rfl)
      refine ⟨_, lx hp9, _, hv9.s0, _, ln hp9, _, hv9.s1, _, lx hp9, _, hv9.s0, _, ln hp9, _, hv9.s1, _, _, _, lv hp9, ?_⟩
      intro b1 H10 hn10
      have hp10 := hp9.fr hn10.fr (by simp)
      have hv10 := hv9.keep hn10.fr
      refine ⟨lv hp10, hv10.s1, ln hp10, hv10.s0, lx hp10, hv10.s1, ln hp10, hv10.s0, lx hp10, ?_⟩
      have hown10 : Own encInt 3 0 H10 ho.1 ho.2.1 ho.2.2 (idK L l k x.1 x.2) := by
        cases hv : vF9 x.1 x.2 with
        | none => rw [hv] at hol; simp at hol; subst hol; rw [hp10.has.no _ _ hv]; exact Own.nil _ _ _ _
        | some y => rw [hv] at hol; simp at hol; subst hol; exact (hp10.has.own _ _ _ hv).1
      have hlen : (idK L l k x.1 x.2).length ≤ 1000 := by
        unfold idK
        rw [List.length_append]
        have h1 : (idsL L x.1 x.2).length ≤ L.length := by
          unfold idsL
          rw [List.length_map]
          exact Nat.le_trans (List.length_filter_le _ _) (by simp)
        split <;> simp <;> omega
      have hs1 : Sl encInt H10 (some ⟨b1, 0, none⟩) 1 1 [(n0 : Int)] := sl_one encInt _ hn10 rfl
      refine ap_grow (E := encInt) slice40 elem3 hown10 hs1 (Nat.zero_le _) (by rw [hown10.1]; omega) fun an nn cn H11 ho11 hf11 hg11 => ?_
      have hoU : ∀ k ∈ blkL ho.1, k ∈ U9 := fun j hj => by
        cases hv : vF9 x.1 x.2 with
        | none => rw [hv] at hol; simp at hol; subst hol; cases hj
        | some y => rw [hv] at hol; simp at hol; subst hol; exact hp9.has.uV _ _ _ j hv hj
      have hbo : b ∉ blkL ho.1 := fun hk => hbU (hoU b hk)
      have hv11 := hv10.fr hf11 hbo
      have cell11 := hf11.get hp10.cell (own_ne_cells (by decide) hown10 hp10.cell)
      have top11 := hp10.has.top.fr hf11 (own_ne_map hown10 hp10.has.top)
      have in11 := (hp10.has.inner _ _ hr).fr hf11 (own_ne_map hown10 (hp10.has.inner _ _ hr))
      have hx11 : Blk H11 ⟨xb, 0, none⟩ [.slice a' n' c', .map (some rk), .map (some rh)] := ⟨xb, _, rfl, cell11⟩
      refine ⟨hv11.s1, top11.look u70 z76 _ (by rw [hr]; rfl), hv11.s0, hx11.ld (by kernel_rfl) (j := 2) rfl, ?_⟩
      refine in11.put u76 x.2 fun H12 ht12 hf12 => ?_
      rw [succ64 (by omega)]
      have hf912 : Fr (r :: blkL ho.1) H10 H12 := hf11.trans' hf12 (fun k hk _ => by simp [hk]) (fun k hk _ => by simp at hk; simp [hk])
      have own12 : ∀ {α : Type} {E : Enc α} {t base : Nat} {a : Option Addr} {n c : Nat} {xs : List α}, t ≠ 3 → Own E t base H10 a n c xs → ∀ k ∈ blkL a, k ∉ r :: blkL ho.1 := fun ht ho k hk => by
        simp only [List.mem_cons, not_or]
        exact ⟨fun e => own_ne_map ho (hp10.has.inner _ _ hr) (e ▸ hk), own_ne_own ht ho hown10 k hk⟩
      have s10 := hn10.size
      refine ⟨⟨k + 1, blkL an ++ U9, mF9, _, rfl, by omega, ⟨?_, own_fr hp10.all hf912 (own12 (by decide) hp10.all), (hp10.lls.fr hf912 (fun i x m hx hm => own12 (by decide) (hp10.lls.2 i x m hx hm).1)).mono (fun k hk => by simp [hk]), ?_,
          (hp10.has.add (new := (an, nn, cn)) hp10.inn hr hol ho11 hf11 hg11 ht12 hf12).ext (fun nm v => ?_), hp10.kh, hp10.km, by simp [hp10.uX], by simp [hp10.uK], fun k hk => by simp [hp10.uA k hk], ?_⟩, ?_, ?_, fun s hs => ?_⟩, mu_lt h0'⟩
      · refine hf912.get hp10.cell ?_
        simp only [List.mem_cons, not_or]
        exact ⟨fun e => map_ne_cells (hp10.has.inner _ _ hr) hp10.cell e, own_ne_cells (by decide) hown10 hp10.cell⟩
      · refine hp10.keys.fr hf912 ?_
        simp only [List.mem_cons, not_or]
        exact ⟨fun e => hp10.km _ _ hr e.symm, own_ne_map hown10 hp10.keys⟩
      · rw [← idK_succ hC.2.2 hx1 nm v, e0]
      · intro j hj
        have := hf912.size
        have := hf11.size
        have := hf12.size
        rcases List.mem_append.1 hj with hj | hj
        · have := (ho11.ge j hj).2; omega
        · have := hp10.inn j hj; omega
      · refine (hf9.trans' hn10.fr (fun k hk _ => hk) (by simp)).trans' hf912 (fun k hk _ => hk) fun j hj hlt => ?_
        rcases List.mem_cons.1 hj with rfl | hj
        · rcases hg9 _ (hp9.has.uM _ _ hr) with h5 | h5
          · exact h5
          · omega
        · rcases hg9 _ (hoU j hj) with h5 | h5
          · exact h5
          · omega
      · intro j hj
        rcases List.mem_append.1 hj with hj | hj
        · rcases hg11 j hj with h5 | h5
          · exact hg9 j (hoU j h5)
          · exact .inr (by have := hf9.size; omega)
        · exact hg9 j hj
      · rcases hnv9 s hs with ⟨v, h5⟩ | h5
        · refine ⟨v, ?_⟩
          dsimp only
          split
          · simp
          · exact h5
        · exact ⟨x.2, by dsimp only; rw [if_pos ⟨h5, rfl⟩]; simp⟩
  · have hkn : k = n := by simp at h0; omega
    subst hkn
    have hp7' : IdxP H7 xb U7 (L ++ [l]) (idsL (L ++ [l])) a' n' c' (hs ++ [(a1, n1, c1)]) rk rh mF7 vF7 := { hp7 with has := hp7.has.ext fun nm v => by rw [hlx]; exact idK_all L l nm v }
    have hw' : WfI (L ++ [l]) := by have := addL_wf hw l; rwa [eL] at this
    rw [e0]
    exact hk H7 U7 ⟨hw', _, _, _, _, _, _, _, _, hp7', hnv7⟩ hf7 hg7
end Go.Proofs
