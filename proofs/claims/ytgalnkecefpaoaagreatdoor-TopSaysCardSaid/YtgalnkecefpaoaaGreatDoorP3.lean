/- Part of a proof. -/
import Derived.Test.YtgalnkecefpaoaaGreatDoorP2
import Derived.Laws.RangeString
set_option linter.unusedVariables false
set_option linter.unusedSimpArgs false
set_option maxRecDepth 100000
namespace Go.SX
open Go Go.GV Go.Proofs
def srcS (s : St) (z : Nat) : SV → Option (Nat × List SV)
  | .sv j o n _ z' => bif Nat.beq z z' then (match s.G.get j with
    | .cells l => (match takeO (Nat.mul n z) (dropO o l) with | some r => some (n, r) | none => none)
    | _ => none) else none
  | .lit (.slice none n _) => bif Nat.beq n 0 then some (0, []) else none
  | .emp .. => some (0, [])
  | _ => none
def elS (P : Program) (t : TypeId) : Option (TypeId × Nat × Nat × Value) := match P.underlying t with
  | some (.slice e) => (match P.info? e with
    | some i => (match i.zero with
      | some z => bif Nat.beq z.cells.toList.length i.size then (bif Nat.blt 0 i.size then (bif Nat.blt 0 i.bytes then some (e, i.size, i.bytes, z) else none) else none) else none
      | none => none)
    | none => none)
  | _ => none
def apNew (s : St) (m z : Nat) (us : List SV) : Option (SV × St) := some (.sv s.m 0 m none z, pushC s (.cells us))
def apTo (s : St) (z m : Nat) (us : List SV) (i o n : Nat) (c : Option Nat) (l : List SV) : Option (SV × St) := match c with
  | some c => bif Nat.ble (Nat.add n m) c then (bif Nat.ble (Nat.add (Nat.add o (Nat.mul n z)) (lenN us)) (lenN l) then some (.sv i o (Nat.add n m) (some c) z, setC s i (.cells (updLS l (Nat.add o (Nat.mul n z)) us))) else none)
      else (match takeO (Nat.mul n z) (dropO o l) with | some old => apNew s (Nat.add n m) z (catL old us) | none => none)
  | none => bif Nat.beq o 0 then (bif Nat.beq (lenN l) (Nat.mul n z) then some (.sv s.m 0 (Nat.add n m) none z, pushC (setC s i .dead) (.cells (catL l us))) else none) else none
def apD (s : St) (z by_ m : Nat) (us : List SV) (d : SV) : Option (SV × St) := bif Nat.beq m 0 then some (d, s) else (match d with
  | .lit (.slice none n c) => bif Nat.beq n 0 then (bif Nat.beq c 0 then (bif Nat.ble (Nat.mul m by_) 140737488355328 then apNew s m z us else none) else none) else none
  | .sv i o n c z' => bif Nat.beq z z' then (bif Nat.ble (Nat.mul (Nat.add n m) by_) 140737488355328 then (match s.G.get i with
    | .cells l => apTo s z m us i o n c l
    | _ => none) else none) else none
  | _ => none)
def dOk (d : SV) : Bool := match d with
  | .lit (.slice none n c) => bif Nat.beq n 0 then Nat.beq c 0 else false
  | .sv .. => true
  | _ => false
def apS (P : Program) (s : St) (ts : List TypeId) (d x : SV) : Option (SV × St) := match ts with
  | [t, t'] => bif Nat.beq t t' then (match elS P t with
    | some e => (match srcS s e.2.1 x with
      | some r => bif dOk d then apD s e.2.1 e.2.2.1 r.1 r.2 d else none
      | none => none)
    | none => none) else none
  | _ => none
def msS (P : Program) (s : St) (t : TypeId) (l c : SV) : Option (SV × St) := match elS P t, intN l, intN c with
  | some e, some n, some k => bif Nat.ble n k then (bif Nat.ble (Nat.mul k e.2.2.1) 140737488355328 then
      (match newC s (ofVs (repL e.2.2.2.cells.toList k)) with | some r => some (.sv s.m 0 n (some k) e.2.1, r.2) | none => none) else none) else none
  | _, _, _ => none
def minN' (a b : Nat) : Nat := bif Nat.ble a b then a else b
def cpTo (s : St) (z : Nat) (r : Nat × List SV) (i o n : Nat) : Option (SV × St) := match s.G.get i, takeO (Nat.mul (minN' r.1 n) z) r.2 with
  | .cells l, some us => bif Nat.ble (Nat.add o (lenN us)) (lenN l) then some (.int .i64 (Lin.k (Int.ofNat (minN' r.1 n))), setC s i (.cells (updLS l o us))) else none
  | _, _ => none
def cpS (P : Program) (s : St) (ts : List TypeId) (d x : SV) : Option (SV × St) := match ts with
  | t :: _ => (match elS P t with
    | some e => (match srcS s e.2.1 x, d with
      | some r, .sv i o n _ z => bif Nat.beq e.2.1 z then cpTo s z r i o n else none
      | some r, .lit (.slice none n _) => bif Nat.beq n 0 then some (.int .i64 (Lin.k 0), s) else none
      | _, _ => none)
    | none => none)
  | _ => none
section
variable {V : Val} {T : Tab} {P : Program} {π : Pl} {m : Nat} {s : St} {H H' : Heap}
theorem elS_out {t : TypeId} {e : TypeId × Nat × Nat × Value} (h : elS P t = some e) : ∃ i, P.underlying t = some (.slice e.1) ∧ P.info? e.1 = some i ∧ i.zero = some e.2.2.2 ∧ i.size = e.2.1 ∧ i.bytes = e.2.2.1 ∧ e.2.2.2.cells.size = i.size ∧ 0 < i.size ∧ 0 < i.bytes := by
  unfold elS at h
  split at h
  · rename_i e hu
    split at h
    · rename_i i hi
      split at h
      · rename_i z hz
        have hq0 := beqD h; (repeat clear h); obtain ⟨h1, h⟩ := hq0
        have hq0 := bltD h; (repeat clear h); obtain ⟨h2, h⟩ := hq0
        have hq0 := bltD h; (repeat clear h); obtain ⟨h3, h⟩ := hq0
        cases h
        exact ⟨i, hu, hi, hz, rfl, rfl, by simpa using h1, h2, h3⟩
      · cases h
    · cases h
  · cases h
theorem srcS_ok (hR : Rel V s π H) {z : Nat} {x : SV} {v : Value} {r : Nat × List SV} (hx : okS V π s.m x v) (h : srcS s z x = some r) :
    ∃ a c vs, v = .slice a r.1 c ∧ okSL V π s.m r.2 vs ∧ vs.length = r.1 * z ∧ (∀ v ∈ vs, v.oneCell' = true) ∧ (a = none → r.1 = 0) ∧ ∀ ad, a = some ad → ∀ j u, vs[j]? = some u → cellH H (ad.add j) = some u := by
  unfold srcS at h
  split at h
  · rename_i j o n c z'
    have hq0 := beqD h; (repeat clear h); obtain ⟨hz, h⟩ := hq0
    subst hz
    split at h
    · rename_i l hG
      split at h
      · rename_i q hq
        cases h
        obtain ⟨hj, c', rfl, hn, _⟩ := hx
        obtain ⟨rfl, hlen⟩ := takeO_eq hq
        rw [dropO_eq] at hlen ⊢
        have hc := hR.ok j hj
        rw [hG] at hc
        obtain ⟨cs, rs, te, hb, k1, k2, k3⟩ := hc
        have hl2 := okSL_len k1
        have hl3 := okSL_len (okSL_take' (okSL_drop' k1 o) (Nat.mul n z))
        refine ⟨_, c', (cs.drop o).take (Nat.mul n z), rfl, okSL_take' (okSL_drop' k1 o) _, ?_, fun v hv => k3 v (List.mem_of_mem_drop (List.mem_of_mem_take hv)), (fun e => by cases e), fun ad e j' u hu => ?_⟩
        · rw [← hl3, List.length_take, Nat.min_eq_left hlen]; rfl
        · cases e
          rw [add_at, cell_of_blk hb]
          rw [List.getElem?_take] at hu
          split at hu
          · rw [List.getElem?_drop] at hu
            have := (List.getElem?_eq_some_iff.1 hu).1
            simp only [List.getElem?_toArray]
            rw [List.getElem?_append_left this]
            exact hu
          · cases hu
      · cases h
    · cases h
  · rename_i n c
    have hq0 := beqD h; (repeat clear h); obtain ⟨hn, h⟩ := hq0
    cases h
    subst hn
    exact ⟨none, c, [], hx, rfl, by simp, by simp, fun _ => rfl, fun ad e => by cases e⟩
  · cases h
    obtain ⟨_, _, c', _, _, rfl⟩ := hx
    exact ⟨_, _, [], rfl, rfl, by simp, by simp, fun _ => rfl, fun ad _ j u hu => by simp at hu⟩
  · cases h
theorem run_room {t ty e : TypeId} {i : TypeInfo} (hu : P.underlying t = some (.slice e)) (hi : P.info? e = some i) {w : World} {g o n c : Nat} {cur : Array Value} {te : TypeId} (hg : w.heap[g]? = some (.cells cur te (0, 0)))
    {a : Addr} {m c2 : Nat} {news : List Value} (hl : news.length = m * i.size) (hnews : ∀ j u, news[j]? = some u → w.cell? (a.add j) = some u) (h1 : ∀ u ∈ news, u.oneCell' = true) (hroom : n + m ≤ c) (hfit : o + n * i.size + news.length ≤ cur.size) :
    (Builtin.append_ #[t, t] ty #[.slice (some ⟨g, o, none⟩) n c, .slice (some a) m c2]).run P w = .ok (.slice (some ⟨g, o, none⟩) (n + m) c) (w.setRow g (cur.toList.take (o + n * i.size) ++ news ++ cur.toList.drop (o + n * i.size + news.length)).toArray) := by
  have hf := run_firstCells_some (P := P) w i.size m a m c2 news hl hnews
  have hst := run_storeCells_at P g (o + n * i.size) te news 0 cur w hg (by simpa using hfit) h1
  simp only [Nat.add_zero] at hst
  simp [Builtin.append_, run_underlying hu, sizeOf, typeInfo, hi, Builtin.lenOf, hroom, hf, Addr.add_lit, hst]
theorem run_none {t ty e : TypeId} {i : TypeInfo} (hu : P.underlying t = some (.slice e)) (hi : P.info? e = some i) {w : World} {b a : Option Addr} {n c c2 : Nat} (hc : n ≤ c) :
    (Builtin.append_ #[t, t] ty #[.slice b n c, .slice a 0 c2]).run P w = .ok (.slice b n c) w := by
  have h0 : (Builtin.firstCells i.size 0 (.slice a 0 c2)).run P w = .ok #[] w := by
    cases a with
    | none => rfl
    | some a =>
      have := run_loadCells_list (P := P) w a [] (by simp)
      simpa [Builtin.firstCells] using this
  cases b with
  | none => simp [Builtin.append_, run_underlying' hu, sizeOf_run hi, Builtin.lenOf, hc, h0]
  | some b => simp [Builtin.append_, run_underlying' hu, sizeOf_run hi, Builtin.lenOf, hc, h0, storeCells]
theorem alloc_mkW {E : Env} {H : Heap} {d : Dr E} (o : Obj) : (mkW E H d).drew.alloc o = mkW E (H.push o) (up d) := rfl
theorem rep_cells {z : Array Value} (k : Nat) : ∃ rs : List Value, Builtin.zeroCells z k = ⟨rs⟩ ∧ rs.length = k * z.size := ⟨(Builtin.zeroCells z k).toList, by simp, by simp [size_zeroCells]⟩
theorem apS_ok (hR : Rel V s π H) {ts : Array TypeId} {ty : TypeId} {d x y : SV} {s' : St} {u v : Value} (hd : okS V π s.m d u) (hx : okS V π s.m x v) (h : apS P s ts.toList d x = some (y, s')) :
    SemWp P (Builtin.append_ ts ty ⟨[u, v]⟩) H (Nx V s π y s') := by
  unfold apS at h
  split at h
  · rename_i t t' hts
    have hts : ts = ⟨[t, t']⟩ := by rw [← hts]
    subst hts
    have hq0 := beqD h; (repeat clear h); obtain ⟨htt, h⟩ := hq0
    subst htt
    split at h
    · rename_i e he
      obtain ⟨i, hu, hi, hz, hsz, hby, hzs, hp, hpb⟩ := elS_out he
      split at h
      · rename_i r hr
        obtain ⟨a, c2, vs, rfl, hvs, hvl, hv1, ha0, hva⟩ := srcS_ok hR hx hr
        rw [← hsz] at hvl
        cases hdk : dOk d with
        | false => rw [hdk] at h; cases h
        | true =>
        rw [hdk] at h
        simp only [cond_true] at h
        unfold apD at h
        cases hm : Nat.beq r.1 0 with
        | true =>
          rw [hm] at h
          simp only [cond_true, Option.some.injEq, Prod.mk.injEq] at h
          obtain ⟨rfl, rfl⟩ := h
          have hm := Nat.eq_of_beq_eq_true hm
          intro E dd
          have : ∃ b n c, u = .slice b n c ∧ n ≤ c := by
            unfold dOk at hdk
            split at hdk
            · rename_i n c
              refine ⟨none, n, c, hd, ?_⟩
              cases hn : Nat.beq n 0 with
              | true => have := Nat.eq_of_beq_eq_true hn; omega
              | false => rw [hn] at hdk; cases hdk
            · obtain ⟨_, c', rfl, hn, _⟩ := hd
              exact ⟨_, _, _, rfl, hn⟩
            · cases hdk
          obtain ⟨b, n, c, rfl, hnc⟩ := this
          rw [hm]
          exact ⟨_, H, dd, run_none hu hi hnc, π, Nat.le_refl _, Ext.refl _ _, hR, hd⟩
        | false =>
          rw [hm] at h
          simp only [cond_false] at h
          have hm0 : 0 < r.1 := Nat.pos_of_ne_zero fun e0 => by rw [e0] at hm; cases hm
          have : ∃ ad, a = some ad := by
            cases a with
            | none => have := ha0 rfl; omega
            | some ad => exact ⟨ad, rfl⟩
          obtain ⟨ad, rfl⟩ := this
          have hcell := hva ad rfl
          split at h
          · rename_i n c
            have hq0 := beqD h; (repeat clear h); obtain ⟨hn0, h⟩ := hq0
            have hq0 := beqD h; (repeat clear h); obtain ⟨hc0, h⟩ := hq0
            have hq0 := bleD h; (repeat clear h); obtain ⟨hb, h⟩ := hq0
            subst hn0; subst hc0
            unfold apNew at h
            simp only [Option.some.injEq, Prod.mk.injEq] at h
            obtain ⟨rfl, rfl⟩ := h
            rw [show u = .slice none 0 0 from hd]
            intro E dd
            have hb : r.1 * i.bytes ≤ 140737488355328 := by rw [hby]; exact hb
            have hr1 : r.1 ≤ r.1 * i.bytes := Nat.le_mul_of_pos_right _ hpb
            have hrun := run_append_nil (P := P) (mkW E H dd) t ty e.1 i e.2.2.2 hu hi hz ad r.1 c2 vs hvl hcell hm0 (by omega) (by omega)
            obtain ⟨rs, hrs, hrl⟩ := rep_cells (z := e.2.2.2.cells) (grownCap (mkW E H dd) r.1 0 e.1 - r.1)
            have hge := grownCap_ge (mkW E H dd) r.1 0 e.1
            rw [alloc_mkW, hrs] at hrun
            have hnew : New H H.size (.cells ⟨vs ++ rs⟩ e.1) (H.push (.cells ⟨vs ++ rs⟩ e.1)) := ⟨rfl, rfl⟩
            have hN := hR.newCells hnew.fr (Nat.le_refl _) hnew.get hvs hv1
            refine ⟨_, _, _, hrun, updPl π s.m H.size (vs.length + rs.length) 0, Nat.le_succ _, updPl_ext _ _ _ _ _, ?_, ?_⟩
            · simpa using hN
            · refine ⟨Nat.lt_succ_self _, _, by simp [updPl]; rfl, hge, by omega, ?_⟩
              simp only [updPl, if_pos]
              rw [hrl, hvl, hzs, ← hsz, Nat.zero_add, ← Nat.add_mul]
              congr 1
              omega
          · rename_i j o n c z'
            obtain ⟨hz', h⟩ := beqD h
            have hq0 := bleD h; (repeat clear h); obtain ⟨hb, h⟩ := hq0
            subst hz'
            have hb : (n + r.1) * i.bytes ≤ 140737488355328 := by rw [hby]; exact hb
            have hnr : n + r.1 ≤ (n + r.1) * i.bytes := Nat.le_mul_of_pos_right _ hpb
            obtain ⟨hj, c', rfl, hnc, hcc⟩ := hd
            split at h
            · rename_i l hG
              have hch := hR.ok j hj
              rw [hG] at hch
              obtain ⟨cs, rs0, te, hblk, k1, k2, k3⟩ := hch
              have hlc := okSL_len k1
              have grow : ∀ {olds : List Value}, olds.length = n * i.size → (∀ q u, olds[q]? = some u → cellH H (Addr.add ⟨π.b j, o, none⟩ q) = some u) → c' < n + r.1 → ∀ E dd,
                  ∃ rs cap, (Builtin.append_ #[t, t] ty #[.slice (some ⟨π.b j, o, none⟩) n c', .slice (some ad) r.1 c2]).run P (mkW E H dd) = .ok (.slice (some ⟨H.size, 0, none⟩) (n + r.1) cap) (mkW E (H.push (.cells ⟨(olds ++ vs) ++ rs⟩ e.1)) (up dd)) ∧ n + r.1 ≤ cap ∧ (olds ++ vs).length + rs.length = cap * i.size := by
                intro olds hol hoc hg E dd
                have hrun := run_append_grow (P := P) (mkW E H dd) t ty e.1 i e.2.2.2 hu hi hz ⟨π.b j, o, none⟩ n c' olds hol hoc ad r.1 c2 vs hvl hcell hg (by omega) (growslice_fits hg hb)
                obtain ⟨rs, hrs, hrl⟩ := rep_cells (z := e.2.2.2.cells) (grownCap (mkW E H dd) (n + r.1) c' e.1 - (n + r.1))
                have hge := grownCap_ge (mkW E H dd) (n + r.1) c' e.1
                rw [alloc_mkW, hrs] at hrun
                refine ⟨rs, _, ?_, hge, ?_⟩
                · rw [hrun]; congr 4
                  simp
                · rw [hrl, List.length_append, hol, hvl, hzs, ← Nat.add_mul, ← Nat.add_mul]
                  congr 1
                  omega
              unfold apTo at h
              have hX := h
              repeat clear h
              cases c with
              | some c =>
                have h := hX
                clear hX
                dsimp only at h hcc
                have hcc : c' = c := hcc
                subst hcc
                cases hroom : Nat.ble (Nat.add n r.1) c' with
                | true =>
                  rw [hroom] at h
                  simp only [cond_true] at h
                  have hroom := Nat.le_of_ble_eq_true hroom
                  have hq0 := bleD h; (repeat clear h); obtain ⟨hfit, h⟩ := hq0
                  simp only [Option.some.injEq, Prod.mk.injEq] at h
                  obtain ⟨rfl, rfl⟩ := h
                  rw [lenN_eq, lenN_eq, okSL_len hvs] at hfit
                  have hfit : o + n * e.2.1 + vs.length ≤ l.length := hfit
                  intro E dd
                  have hrun := run_room (P := P) (ty := ty) (cur := ⟨cs ++ rs0⟩) (o := o) (c2 := c2) hu hi (w := mkW E H dd) hblk hvl hcell hv1 hroom (by rw [hsz]; simp only [List.size_toArray, List.length_append]; omega)
                  refine ⟨_, rowH H (π.b j) _, dd, hrun, π, Nat.le_refl _, Ext.refl _ _, ?_, hj, c', rfl, hroom, rfl⟩
                  refine hR.write hj hG hvs hv1 hfit (fun cs' te' hb' _ => ?_) (rowH_fr _ _ _)
                  rw [hblk] at hb'
                  cases hb'
                  rw [hsz]
                  exact rowH_get hblk
                | false =>
                  rw [hroom] at h
                  simp only [cond_false] at h
                  have hroom : c' < n + r.1 := by
                    rcases Nat.lt_or_ge c' (n + r.1) with h0 | h0
                    · exact h0
                    · have : Nat.ble (Nat.add n r.1) c' = true := Nat.ble_eq_true_of_le h0
                      rw [this] at hroom; cases hroom
                  split at h
                  · rename_i old hold
                    obtain ⟨rfl, hlen⟩ := takeO_eq hold
                    rw [dropO_eq] at hlen h
                    unfold apNew at h
                    simp only [Option.some.injEq, Prod.mk.injEq] at h
                    obtain ⟨rfl, rfl⟩ := h
                    have hok := okSL_take' (okSL_drop' k1 o) (Nat.mul n e.2.1)
                    have hol := okSL_len hok
                    intro E dd
                    obtain ⟨rs, cap, hrun, hcap, hlen2⟩ := grow (olds := (cs.drop o).take (Nat.mul n e.2.1)) (by rw [← hol, List.length_take, Nat.min_eq_left hlen, hsz]; rfl) (fun q u hu => by
                      rw [add_at, cell_of_blk hblk]
                      rw [List.getElem?_take] at hu
                      split at hu
                      · rw [List.getElem?_drop] at hu
                        have := (List.getElem?_eq_some_iff.1 hu).1
                        simp only [List.getElem?_toArray]
                        rw [List.getElem?_append_left this]
                        exact hu
                      · cases hu) hroom E dd
                    have hnew : New H H.size (.cells ⟨((cs.drop o).take (Nat.mul n e.2.1) ++ vs) ++ rs⟩ e.1) (H.push (.cells ⟨((cs.drop o).take (Nat.mul n e.2.1) ++ vs) ++ rs⟩ e.1)) := ⟨rfl, rfl⟩
                    have hN := hR.newCells (l := catL ((l.drop o).take (Nat.mul n e.2.1)) r.2) hnew.fr (Nat.le_refl _) hnew.get (okSL_app hok hvs) (fun v hv => by
                      rcases List.mem_append.1 hv with hv | hv
                      · exact k3 v (List.mem_of_mem_drop (List.mem_of_mem_take hv))
                      · exact hv1 v hv)
                    refine ⟨_, _, _, hrun, _, Nat.le_succ _, updPl_ext _ _ _ _ _, hN, ?_⟩
                    refine ⟨Nat.lt_succ_self _, cap, by simp [updPl], hcap, by omega, ?_⟩
                    simp only [updPl, if_pos]
                    rw [hlen2, hsz, Nat.zero_add]
                  · cases h
              | none =>
                have h := hX
                clear hX
                dsimp only at h hcc
                have hq0 := beqD h; (repeat clear h); obtain ⟨ho0, h⟩ := hq0
                have hq0 := beqD h; (repeat clear h); obtain ⟨hln, h⟩ := hq0
                simp only [Option.some.injEq, Prod.mk.injEq] at h
                obtain ⟨rfl, rfl⟩ := h
                subst ho0
                rw [lenN_eq] at hln
                have hln : l.length = n * e.2.1 := hln
                obtain ⟨hz0, hcc⟩ : 0 < e.2.1 ∧ 0 + c' * e.2.1 = π.cap j := hcc
                have hnd : s.G.get j ≠ .dead := by rw [hG]; exact fun h => nomatch h
                have hone : ∀ v ∈ cs ++ vs, v.oneCell' = true := fun v hv => by
                  rcases List.mem_append.1 hv with hv | hv
                  · exact k3 v hv
                  · exact hv1 v hv
                intro E dd
                rcases Nat.lt_or_ge c' (n + r.1) with hlt | hge
                · obtain ⟨rs, cap, hrun, hcap, hlen2⟩ := grow (olds := cs) (by rw [← hlc, hln, hsz]) (fun q u hu => by
                      rw [add_at, cell_of_blk hblk]
                      have := (List.getElem?_eq_some_iff.1 hu).1
                      simp only [List.getElem?_toArray, Nat.zero_add]
                      rw [List.getElem?_append_left this]
                      exact hu) hlt E dd
                  have hnew : New H H.size (.cells ⟨(cs ++ vs) ++ rs⟩ e.1) (H.push (.cells ⟨(cs ++ vs) ++ rs⟩ e.1)) := ⟨rfl, rfl⟩
                  have hN := (hR.kill j).newCells (l := catL l r.2) hnew.fr (Nat.le_refl _) hnew.get (okSL_app k1 hvs) hone
                  refine ⟨_, _, _, hrun, _, Nat.le_succ _, updPl_ext _ _ _ _ _, hN, ?_⟩
                  refine ⟨Nat.lt_succ_self _, cap, by simp [updPl, setC], hcap, by omega, ?_⟩
                  simp only [updPl, setC, if_pos]
                  rw [hlen2, hsz, Nat.zero_add]
                · have hsize : (cs ++ rs0).length = c' * e.2.1 := by rw [List.length_append, k2, ← hcc, Nat.zero_add]
                  have hfit : n * e.2.1 + r.1 * e.2.1 ≤ c' * e.2.1 := by rw [← Nat.add_mul]; exact Nat.mul_le_mul_right _ hge
                  have hvl' : vs.length = r.1 * e.2.1 := by rw [hvl, hsz]
                  have hrun := run_room (P := P) (ty := ty) (cur := ⟨cs ++ rs0⟩) (o := 0) (c2 := c2) hu hi (w := mkW E H dd) hblk hvl hcell hv1 hge (by rw [hsz, hvl']; show _ ≤ (cs ++ rs0).length; rw [hsize]; omega)
                  rw [hsz] at hrun
                  have hcl : cs.length = 0 + n * e.2.1 := by rw [← hlc, hln]; omega
                  have e1 : (cs ++ rs0).take (0 + n * e.2.1) = cs := by rw [← hcl]; simp
                  simp only [e1] at hrun
                  refine ⟨_, rowH H (π.b j) _, dd, hrun, updPl π s.m (π.b j) (π.cap j) 0, Nat.le_succ _, updPl_ext _ _ _ _ _, ?_, ?_⟩
                  · refine hR.reuse hj hnd (rowH_fr _ _ _) ⟨cs ++ vs, (cs ++ rs0).drop (0 + n * e.2.1 + vs.length), te, ?_, ?_, ?_, hone⟩ rfl
                    · simp only [updPl, if_pos]
                      exact rowH_get hblk
                    · exact okSL_mono (updPl_ext _ _ _ _ _) (Nat.le_succ _) (okSL_app k1 hvs)
                    · simp only [updPl, if_pos]
                      rw [List.length_append, List.length_drop, hsize, hvl']
                      omega
                  · refine ⟨Nat.lt_succ_self _, c', by simp [updPl, setC], hge, hz0, ?_⟩
                    simp only [updPl, setC, if_pos]
                    exact hcc
            · cases h
          · cases h
      · cases h
    · cases h
  · cases h
theorem repL_rep (l : List Value) : ∀ k, repL l k = (List.replicate k l).flatten
  | 0 => rfl
  | k + 1 => by rw [repL, repL_rep l k, List.replicate_succ, List.flatten_cons]
theorem msS_ok (hR : Rel V s π H) {t : TypeId} {l c y : SV} {s' : St} {u v : Value} (hl : okS V π s.m l u) (hc : okS V π s.m c v) (h : msS P s t l c = some (y, s')) : SemWp P (Instr.makeSlice t u v) H (Nx V s π y s') := by
  unfold msS at h
  split at h
  · rename_i e n k he hn hk
    obtain ⟨i, hu, hi, hz, hsz, hby, hzs, hp, hpb⟩ := elS_out he
    obtain ⟨q1, rfl⟩ := intN_ok hn hl
    obtain ⟨q2, rfl⟩ := intN_ok hk hc
    have hq0 := bleD h; (repeat clear h); obtain ⟨hnk, h⟩ := hq0
    have hq0 := bleD h; (repeat clear h); obtain ⟨hb, h⟩ := hq0
    have hb : k * i.bytes ≤ 140737488355328 := by rw [hby]; exact hb
    split at h
    · rename_i r hr
      cases h
      intro E dd
      have hkb : k ≤ k * i.bytes := Nat.le_mul_of_pos_right _ hpb
      have hrun := run_make (P := P) (mkW E H dd) t e.1 i e.2.2.2 hu hi hz q1 q2 n k (by omega) (by omega) (by rw [Int.mul_comm, ← Int.natCast_mul]; omega) (by omega)
      have hcells : madeCells e.2.2.2.cells (k * i.size) = ⟨repL e.2.2.2.cells.toList k⟩ := by
        have := zc_flat e.2.2.2.cells.toList (by simp; omega) k
        apply Array.ext'
        rw [repL_rep, ← this, ← hzs]
        simp [madeCells, Builtin.zeroCells, Value.cells]
      simp only [Int.toNat_natCast] at hrun
      rw [hcells] at hrun
      have hnew : New H H.size (.cells ⟨repL e.2.2.2.cells.toList k⟩ e.1) (H.push (.cells ⟨repL e.2.2.2.cells.toList k⟩ e.1)) := ⟨rfl, rfl⟩
      have hr1 : r = (.ptr s.m 0, pushC s (.cells (ofVs (repL e.2.2.2.cells.toList k)))) := by
        unfold newC at hr
        cases ho : allOneS (ofVs (repL e.2.2.2.cells.toList k)) with
        | false => rw [ho] at hr; cases hr
        | true => rw [ho] at hr; cases hr; rfl
      subst hr1
      obtain ⟨π', h1, h2, h3, h4⟩ := newC_ok hR (ofVs_ok _) hr hnew
      obtain ⟨h5, h6⟩ := h4
      simp only [Value.pointer.injEq, Option.some.injEq, Addr.mk.injEq, and_true] at h6
      refine ⟨_, _, dd, hrun, π', h1, h2, h3, h5, k, ?_, hnk, rfl⟩
      rw [← h6]; rfl
    · cases h
  · cases h
theorem cpS_ok (hR : Rel V s π H) {ts : Array TypeId} {ty : TypeId} {d x y : SV} {s' : St} {u v : Value} (hd : okS V π s.m d u) (hx : okS V π s.m x v) (h : cpS P s ts.toList d x = some (y, s')) :
    SemWp P (Builtin.copy_ ts ty ⟨[u, v]⟩) H (Nx V s π y s') := by
  unfold cpS at h
  split at h
  · rename_i t tr hts
    have hts : ts = ⟨t :: tr⟩ := by rw [← hts]
    subst hts
    split at h
    · rename_i e he
      obtain ⟨inf, hu, hi, hz, hsz, hby, hzs, hp, hpb⟩ := elS_out he
      have mn : ∀ a b, minN' a b = Nat.min a b := fun a b => by
        unfold minN'
        cases hb : Nat.ble a b with
        | true => have := Nat.le_of_ble_eq_true hb; show a = min a b; omega
        | false =>
          have : b < a := by
            rcases Nat.lt_or_ge b a with h0 | h0
            · exact h0
            · rw [Nat.ble_eq_true_of_le h0] at hb; cases hb
          show b = min a b; omega
      split at h
      · rename_i r i o n c z hr
        have hq0 := beqD h; (repeat clear h); obtain ⟨hze, h⟩ := hq0
        subst hze
        obtain ⟨a, c2, vs, rfl, hvs, hvl, hv1, ha0, hva⟩ := srcS_ok hR hx hr
        unfold cpTo at h
        split at h
        · rename_i l us hG hus
          have hq0 := bleD h; (repeat clear h); obtain ⟨hfit, h⟩ := hq0
          simp only [Option.some.injEq, Prod.mk.injEq] at h
          obtain ⟨rfl, rfl⟩ := h
          obtain ⟨rfl, hle⟩ := takeO_eq hus
          obtain ⟨hi', c', rfl, _, _⟩ := hd
          have hok := okSL_take' hvs (Nat.mul (minN' r.1 n) e.2.1)
          have hol := okSL_len hok
          rw [lenN_eq, lenN_eq, hol] at hfit
          have hfit : o + (vs.take (Nat.mul (minN' r.1 n) e.2.1)).length ≤ l.length := hfit
          have hone : ∀ v ∈ vs.take (Nat.mul (minN' r.1 n) e.2.1), v.oneCell' = true := fun v hv => hv1 v (List.mem_of_mem_take hv)
          have hch := hR.ok i hi'
          rw [hG] at hch
          obtain ⟨cs, rs0, te, hblk, k1, k2, k3⟩ := hch
          have hlc := okSL_len k1
          intro E dd
          have hcl : (vs.take (Nat.mul (minN' r.1 n) e.2.1)).length = minN' r.1 n * inf.size := by rw [← hol, List.length_take, Nat.min_eq_left hle, hsz]; rfl
          have hld : (Builtin.firstCells inf.size (minN' r.1 n) (.slice a r.1 c2)).run P (mkW E H dd) = .ok (vs.take (Nat.mul (minN' r.1 n) e.2.1)).toArray (mkW E H dd) := by
            cases a with
            | none =>
              have h0 := ha0 rfl
              have : minN' r.1 n = 0 := by rw [mn, h0]; exact Nat.zero_min _
              rw [this]
              simp [Builtin.firstCells]
            | some a =>
              have := run_loadCells_list (P := P) (mkW E H dd) a (vs.take (Nat.mul (minN' r.1 n) e.2.1)) (fun j v hj => by
                rw [List.getElem?_take] at hj
                split at hj
                · exact hva a rfl j v hj
                · cases hj)
              rw [hcl] at this
              simpa [Builtin.firstCells] using this
          generalize hys : vs.take (Nat.mul (minN' r.1 n) e.2.1) = ys at *
          have hst := run_storeCells_at P (π.b i) o te ys 0 ⟨cs ++ rs0⟩ (mkW E H dd) hblk (by simp only [List.size_toArray, List.length_append]; omega) hone
          simp only [Nat.add_zero] at hst
          refine ⟨.int .i64 (minN' r.1 n : Nat), rowH H (π.b i) (List.toArray ((cs ++ rs0).take o ++ ys ++ (cs ++ rs0).drop (o + ys.length))), dd, ?_, π, Nat.le_refl _, Ext.refl _ _, hR.write hi' hG hok hone hfit (fun cs' te' hb' _ => ?_) (rowH_fr _ _ _), by simp [okS]⟩
          · unfold Builtin.copy_
            have hq : Nat.min r.1 n = minN' r.1 n := (mn _ _).symm
            simp [run_underlying' hu, Builtin.lenOf, hq, sizeOf_run hi, hld, hst, goInt]
            rfl
          · rw [hblk] at hb'
            cases hb'
            exact rowH_get hblk
        · cases h
      · rename_i r n c hr
        have hq0 := beqD h; (repeat clear h); obtain ⟨hn, h⟩ := hq0
        cases h
        subst hn
        obtain ⟨a, c2, vs, rfl, hvs, hvl, hv1, ha0, hva⟩ := srcS_ok hR hx hr
        rw [show u = .slice none 0 c from hd]
        intro E dd
        have hld : (Builtin.firstCells inf.size 0 (.slice a r.1 c2)).run P (mkW E H dd) = .ok #[] (mkW E H dd) := by
          cases a with
          | none => rfl
          | some a =>
            have := run_loadCells_list (P := P) (mkW E H dd) a [] (by simp)
            simpa [Builtin.firstCells] using this
        refine ⟨.int .i64 0, H, dd, ?_, π, Nat.le_refl _, Ext.refl _ _, hR, by simp [okS]⟩
        unfold Builtin.copy_
        simp [run_underlying' hu, Builtin.lenOf, sizeOf_run hi, hld, goInt]
      · cases h
    · cases h
  · cases h
end
def putE (r : Option (List (SV × SV) × SV × List (SV × SV))) (k x : SV) (l : List (SV × SV)) : List (SV × SV) := match r with
  | some q => catL q.1 ((k, x) :: q.2.2)
  | none => catL l [(k, x)]
def delE (r : Option (List (SV × SV) × SV × List (SV × SV))) (l : List (SV × SV)) : List (SV × SV) := match r with
  | some q => catL q.1 q.2.2
  | none => l
def mpAt (s : St) (b : Bool) : SV → Option (Nat × List (SV × SV))
  | .mp i => (match s.G.get i with | .map b' l => (match xorB b b' with | true => some (i, l) | false => none) | _ => none)
  | _ => none
def mkF (P : Program) (T : Tab) (s : St) (t : TypeId) (m k : SV) (K : Bool → Nat → List (SV × SV) → Option (List (SV × SV) × SV × List (SV × SV)) → Option (SV × St)) : Option (SV × St) := match mapT P t with
  | some b => (match keyKd b.1 k with
    | true => (match mpAt s b.1 m with
      | some q => (match findS T k q.2 with | some r => K b.1 q.1 q.2 r | none => none)
      | none => none)
    | false => none)
  | none => none
def muS (P : Program) (T : Tab) (s : St) (t : TypeId) (m k x : SV) : Option (SV × St) := mkF P T s t m k fun b i l r => some (.lit undef, setC s i (.map b (putE r k x l)))
def keyTy (P : Program) (t : TypeId) : Option TypeId := match P.underlying t with | some (.map k _) => some k | _ => none
def deS (P : Program) (T : Tab) (s : St) (ts : List TypeId) (m k : SV) : Option (SV × St) := match ts with
  | [t, t'] => (match keyTy P t with
    | some q => bif Nat.beq q t' then mkF P T s t m k fun b i l r => some (.tup [], setC s i (.map b (delE r l))) else none
    | none => none)
  | _ => none
def mmS (P : Program) (s : St) (t : TypeId) : Option (SV × St) := match mapT P t with
  | some b => some (.mp s.m, pushC s (.map b.1 []))
  | none => none
section
variable {V : Val} {T : Tab} {P : Program} {π : Pl} {m : Nat} {s : St} {H H' : Heap} {κ : Type}
theorem okEs_app {ek : κ → Value} : ∀ {l l' : List (SV × SV)} {L L' : List (Ent κ)}, okEs ek V π m l L → okEs ek V π m l' L' → okEs ek V π m (catL l l') (L ++ L')
  | [], l', L, L', h, h' => by rw [show L = [] from h]; exact h'
  | x :: l, l', L, L', h, h' => by
    obtain ⟨e, L2, rfl, h1, h2, h3⟩ := h
    exact ⟨e, L2 ++ L', rfl, h1, h2, okEs_app h3 h'⟩
theorem setL_map [DecidableEq κ] (k : κ) (v : Value) : ∀ {L : List (Ent κ)}, (L.map (·.1)).Nodup → setL k v L = L.map fun x => if x.1 = k then (k, v, x.2.2) else x
  | [], _ => rfl
  | x :: L, h => by
    simp only [List.map_cons, List.nodup_cons] at h
    unfold setL
    by_cases hx : x.1 = k
    · rw [if_pos hx, List.map_cons, if_pos hx]
      congr 1
      have : ∀ y ∈ L, ¬ y.1 = k := fun y hy e => h.1 (List.mem_map.2 ⟨y, hy, e.trans hx.symm⟩)
      rw [List.map_congr_left (g := id) (fun y hy => by rw [if_neg (this y hy)]; rfl)]
      simp
    · rw [if_neg hx, List.map_cons, if_neg hx, setL_map k v h.2]
theorem no_key {ek : κ → Value} {k : κ} {A : List (Ent κ)} (h : NoK ek (ek k) A) : ∀ x ∈ A, ¬ x.1 = k := fun x hx e => h x hx (by rw [e])
variable [DecidableEq κ]
theorem map_none {k : κ} {v : Value} {A : List (Ent κ)} (h : ∀ x ∈ A, ¬ x.1 = k) : A.map (fun x => if x.1 = k then (k, v, x.2.2) else x) = A := by
  rw [List.map_congr_left (g := id) (fun y hy => by rw [if_neg (h y hy)]; rfl)]
  simp
theorem mp_put (hT : TokN T V) {kt mt e : TypeId} (T' : KeyT P kt κ) (hi : ∀ a b, T'.ek a = T'.ek b → a = b) (hmt : P.underlying mt = some (.map kt e)) {r : Nat} {l : List (SV × SV)} (h : okMp T'.ek V π m H r l) {k x : SV} {q : κ} {v : Value}
    (hk : okS V π m k (T'.ek q)) (hx : okS V π m x v) {f} (hf : findS T k l = some f) : SemU P (Instr.mapUpdate mt (.map (some r)) (T'.ek q) v) H fun H' => okMp T'.ek V π m H' r (putE f k x l) ∧ Go.GV.Fr [r] H H' := by
  obtain ⟨ck, L, L', h1, h2, h3, h4⟩ := h
  refine put_map (L := L) (ck := ck) T' hmt ⟨h1, h2⟩ q fun H' hM hfr => ⟨⟨putC q ck L, putL q v ck L, ?_⟩, hfr⟩
  have hF := findS_ok hT hk hf h4
  cases f with
  | none =>
    have hno : getL q L = none := getL_no hi fun x hx => hF x (h3.mem_iff.2 hx)
    have e1 : putL q v ck L = L ++ [(q, v, ck)] := by unfold putL; rw [hno]
    rw [e1] at hM ⊢
    exact ⟨L' ++ [(q, v, ck)], hM.blk, hM.wf, h3.append_right _, okEs_app h4 ⟨(q, v, ck), [], rfl, hk, hx, rfl⟩⟩
  | some y =>
    obtain ⟨y0, A, en, B, e1, e2, k1, k2, k3, k4, k5, k6, k7⟩ := hF
    have he := hi _ _ k5
    have hmem : en ∈ L := h3.mem_iff.1 (by rw [e2]; simp)
    have hget : getL q L = some en.2.1 := getL_perm (b := en.2.2) h2 (by rw [← he]; exact hmem)
    have e3 : putL q v ck L = setL q v L := by unfold putL; rw [hget]
    rw [e3, setL_map q v h2.keys] at hM ⊢
    refine ⟨L'.map (fun x => if x.1 = q then (q, v, x.2.2) else x), hM.blk, hM.wf, h3.map _, ?_⟩
    rw [e2, List.map_append, List.map_cons, map_none (no_key k6), map_none (no_key k7), if_pos he]
    exact okEs_app k1 ⟨(q, v, en.2.2), B, rfl, hk, hx, k4⟩
theorem mp_del (hT : TokN T V) {kt mt e ty : TypeId} (T' : KeyT P kt κ) (hi : ∀ a b, T'.ek a = T'.ek b → a = b) (hmt : P.underlying mt = some (.map kt e)) {r : Nat} {l : List (SV × SV)} (h : okMp T'.ek V π m H r l) {k : SV} {q : κ}
    (hk : okS V π m k (T'.ek q)) {f} (hf : findS T k l = some f) : SemWp P (Builtin.delete_ ⟨[mt, kt]⟩ ty ⟨[.map (some r), T'.ek q]⟩) H fun v H' => v = .tuple ⟨[]⟩ ∧ okMp T'.ek V π m H' r (delE f l) ∧ Go.GV.Fr [r] H H' := by
  obtain ⟨ck, L, L', h1, h2, h3, h4⟩ := h
  refine del_map (L := L) (ck := ck) T' hmt ⟨h1, h2⟩ q fun H' hM hfr => ⟨⟨ck, delL q L, (L'.filter fun x => decide (x.1 ≠ q)), hM.blk, hM.wf, h3.filter _, ?_⟩, hfr⟩
  have hF := findS_ok hT hk hf h4
  have all : ∀ {A : List (Ent κ)}, NoK T'.ek (T'.ek q) A → (A.filter fun x => decide (x.1 ≠ q)) = A := fun {A} hA => by
    rw [List.filter_eq_self]
    intro x hx
    simpa using no_key hA x hx
  cases f with
  | none => rw [all hF]; exact h4
  | some y =>
    obtain ⟨y0, A, en, B, e1, e2, k1, k2, k3, k4, k5, k6, k7⟩ := hF
    have he := hi _ _ k5
    rw [e2, List.filter_append, List.filter_cons, all k6, all k7]
    simp only [he, ne_eq, not_true_eq_false, decide_false]
    exact okEs_app k1 k4
theorem mpAt_ok (hR : Rel V s π H) {b : Bool} {x : SV} {u : Value} {q : Nat × List (SV × SV)} (hx : okS V π s.m x u) (h : mpAt s b x = some q) : q.1 < s.m ∧ u = .map (some (π.b q.1)) ∧ s.G.get q.1 = .map b q.2 := by
  unfold mpAt at h
  split at h
  · rename_i i
    split at h
    · rename_i b' l' hG
      split at h
      · rename_i hb
        cases h
        have : b = b' := by rw [xorB_eq] at hb; simpa using hb
        subst this
        exact ⟨hx.1, hx.2, hG⟩
      · cases h
    · cases h
  · cases h
theorem mkF_out {t : TypeId} {m k : SV} {K : Bool → Nat → List (SV × SV) → Option (List (SV × SV) × SV × List (SV × SV)) → Option (SV × St)} {r : SV × St} (h : mkF P T s t m k K = some r) :
    ∃ b q f, mapT P t = some b ∧ keyKd b.1 k = true ∧ mpAt s b.1 m = some q ∧ findS T k q.2 = some f ∧ K b.1 q.1 q.2 f = some r := by
  unfold mkF at h
  split at h
  · rename_i b hb
    split at h
    · rename_i hk
      split at h
      · rename_i q hq
        split at h
        · rename_i f hf; exact ⟨b, q, f, hb, hk, hq, hf, h⟩
        · cases h
      · cases h
    · cases h
  · cases h
theorem muS_ok (hT : TokN T V) (hR : Rel V s π H) {t : TypeId} {m k x y : SV} {s' : St} {um uk ux : Value} (hm : okS V π s.m m um) (hk : okS V π s.m k uk) (hx : okS V π s.m x ux) (h : muS P T s t m k x = some (y, s')) :
    SemU P (Instr.mapUpdate t um uk ux) H fun H' => Nx V s π y s' undef H' := by
  obtain ⟨b, q, f, hb, hkd, hq, hf, h⟩ := mkF_out h
  cases h
  obtain ⟨hi, rfl, hG⟩ := mpAt_ok hR hm hq
  obtain ⟨kt, hu, hkt⟩ := mapT_out hb
  have hc := hR.ok q.1 hi
  rw [hG] at hc
  have hnd : s.G.get q.1 ≠ .dead := by rw [hG]; exact fun h => nomatch h
  obtain ⟨bk, be⟩ := b
  cases bk with
  | true =>
    obtain ⟨n, hn⟩ := keyKd_ok hkd hk
    subst hn
    exact (mp_put hT (keyInt hkt) (fun a b e => ekI_inj a b e) hu hc hk hx hf).mono fun H' ⟨h1, h2⟩ => ⟨π, Nat.le_refl _, Ext.refl _ _, hR.set hi hnd h2 h1 rfl, rfl⟩
  | false =>
    obtain ⟨n, hn⟩ := keyKd_ok hkd hk
    subst hn
    exact (mp_put hT (keyStr hkt) (fun a b e => ekS_inj a b e) hu hc hk hx hf).mono fun H' ⟨h1, h2⟩ => ⟨π, Nat.le_refl _, Ext.refl _ _, hR.set hi hnd h2 h1 rfl, rfl⟩
theorem deS_ok (hT : TokN T V) (hR : Rel V s π H) {ts : Array TypeId} {ty : TypeId} {m k y : SV} {s' : St} {um uk : Value} (hm : okS V π s.m m um) (hk : okS V π s.m k uk) (h : deS P T s ts.toList m k = some (y, s')) :
    SemWp P (Builtin.delete_ ts ty ⟨[um, uk]⟩) H (Nx V s π y s') := by
  unfold deS at h
  split at h
  · rename_i t t' hts
    have hts : ts = ⟨[t, t']⟩ := by rw [← hts]
    subst hts
    split at h
    · rename_i kt0 hkt0
      have hq0 := beqD h; clear h; obtain ⟨e0, h⟩ := hq0
      subst e0
      obtain ⟨b, q, f, hb, hkd, hq, hf, h⟩ := mkF_out h
      cases h
      obtain ⟨hi, rfl, hG⟩ := mpAt_ok hR hm hq
      obtain ⟨kt, hu, hkt⟩ := mapT_out hb
      have : kt0 = kt := by unfold keyTy at hkt0; rw [hu] at hkt0; cases hkt0; rfl
      subst this
      have hc := hR.ok q.1 hi
      rw [hG] at hc
      have hnd : s.G.get q.1 ≠ .dead := by rw [hG]; exact fun h => nomatch h
      obtain ⟨bk, be⟩ := b
      cases bk with
      | true =>
        obtain ⟨n, hn⟩ := keyKd_ok hkd hk
        subst hn
        exact (mp_del hT (keyInt hkt) (fun a b e => ekI_inj a b e) hu hc hk hf).mono fun v H' ⟨e, h1, h2⟩ => ⟨π, Nat.le_refl _, Ext.refl _ _, hR.set hi hnd h2 h1 rfl, [], e, rfl⟩
      | false =>
        obtain ⟨n, hn⟩ := keyKd_ok hkd hk
        subst hn
        exact (mp_del hT (keyStr hkt) (fun a b e => ekS_inj a b e) hu hc hk hf).mono fun v H' ⟨e, h1, h2⟩ => ⟨π, Nat.le_refl _, Ext.refl _ _, hR.set hi hnd h2 h1 rfl, [], e, rfl⟩
    · cases h
  · cases h
theorem mmS_ok (hR : Rel V s π H) {t : TypeId} {y : SV} {s' : St} (h : mmS P s t = some (y, s')) {b : Nat} (hn : New H b (.map #[] 0) H') : Nx V s π y s' (.map (some b)) H' := by
  unfold mmS at h
  split at h
  · rename_i q hq
    cases h
    have hw : ∀ {κ : Type} (ek : κ → Value), okMp ek V (updPl π s.m b 0 0) (s.m + 1) H' b [] := fun ek => ⟨0, [], [], by simpa using hn.get, ⟨by simp, by simp, by simp⟩, List.Perm.refl _, rfl⟩
    refine ⟨updPl π s.m b 0 0, Nat.le_succ _, updPl_ext _ _ _ _ _, hR.push hn.fr (by rw [hn.eq]; exact Nat.le_refl _) (lt_of_get hn.get) ?_ rfl, Nat.lt_succ_self _, by simp [updPl]⟩
    obtain ⟨bk, be⟩ := q
    have e : (updPl π s.m b 0 0).b s.m = b := by simp [updPl]
    cases bk with
    | true => show okMp ekI _ _ _ _ _ _; rw [e]; exact hw _
    | false => show okMp ekS _ _ _ _ _ _; rw [e]; exact hw _
  · cases h
end
set_option linter.unusedSectionVars false
def rgS (P : Program) (s : St) (t : TypeId) (x : SV) : Option (SV × St) := match P.underlying t, x with
  | some .string, .str r => (match litR r with | some l => some (.ptr s.m 0, pushC s (.siter [.b l] 0)) | none => none)
  | some (.map _ _), .mp i => (match s.G.get i with
    | .map b l => some (.ptr s.m 0, pushC (setC s i .dead) (.miter b i [] l))
    | _ => none)
  | _, _ => none
def nthB : List Nat → Nat → Option Nat
  | [], _ => none
  | c :: l, i => bif Nat.beq i 0 then some c else nthB l (Nat.sub i 1)
def over : SV := .tup [.lit (.bool false)]
def nxStr (s : St) (i : Nat) (l : List Nat) (pos : Nat) : Option (List (SV × St)) := match nthB l pos with
  | none => some [(over, setC s i .dead)]
  | some c => bif Nat.blt c 128 then some [(.tup [.lit (.bool true), .int .i64 (Lin.k (Int.ofNat pos)), .int .i32 (Lin.k (Int.ofNat c))], setC s i (.siter [.b l] (Nat.add pos 1)))] else none
def nxAll (s : St) (i : Nat) (b : Bool) (m : Nat) (gone : List (SV × SV)) : List (SV × SV) → List (SV × SV) → List (SV × St)
  | _, [] => []
  | a, e :: l => (.tup [.lit (.bool true), e.1, e.2], setC s i (.miter b m (e :: gone) (catL a l))) :: nxAll s i b m gone (catL a [e]) l
def nxMap (s : St) (i : Nat) (b : Bool) (m : Nat) (gone left : List (SV × SV)) : List (SV × St) := match left with
  | [] => [(over, setC (setC s i .dead) m (.map b gone))]
  | l => nxAll s i b m gone [] l
def nxS (s : St) (it : SV) (isS : Bool) : Option (List (SV × St)) := match it with
  | .ptr i o => (match isS, s.G.get i with
    | true, .siter [.b l] pos => bif Nat.beq o 0 then nxStr s i l pos else none
    | false, .miter b m gone left => bif Nat.beq o 0 then some (nxMap s i b m gone left) else none
    | _, _ => none)
  | _ => none
def enS (s : St) (it : SV) : Option (SV × St) := match it with
  | .ptr i o => (match s.G.get i with
    | .miter b m (e :: gone) left => bif Nat.beq o 0 then some (.tup [e.1, e.2], s) else none
    | _ => none)
  | _ => none
def crSl (P : Program) (s : St) (e : TypeId) (i o n z : Nat) : Option (SV × St) := match zeroOf P e, s.G.get i with
  | some v, .cells l => bif Nat.beq v.cells.toList.length z then (bif Nat.blt 0 z then (bif allOneS (ofVs (repL v.cells.toList n)) then (bif Nat.ble (Nat.add o (Nat.mul n z)) (lenN l) then
      (bif Nat.blt 0 n then some (.tup [], setC s i (.cells (updLS l o (ofVs (repL v.cells.toList n))))) else none) else none) else none) else none) else none
  | _, _ => none
def crS (P : Program) (s : St) (ts : List TypeId) (x : SV) : Option (SV × St) := match ts, x with
  | t :: _, .sv i o n _ z => (match P.underlying t with
    | some (.slice e) => crSl P s e i o n z
    | _ => none)
  | t :: _, .mp i => (match P.underlying t with
    | some _ => (match s.G.get i with | .map b l => some (.tup [], setC s i (.map b [])) | _ => none)
    | none => none)
  | _, _ => none
def byI : List Nat → List SV
  | [] => []
  | c :: l => .int .u8 (Lin.k (Int.ofNat (Nat.mod c 256))) :: byI l
def cbS (P : Program) (s : St) (u t : TypeId) (x : SV) : Option (SV × St) := match x with
  | .str r => (match litR r, P.underlying u, P.underlying t with
    | some l, some .string, some (.slice e) => (match P.underlying e with
      | some (.int .u8) => some (.sv s.m 0 (lenN l) none 1, pushC s (.ro (byI l)))
      | _ => none)
    | _, _, _ => none)
  | _ => none
structure Kts (P : Program) : Prop where
  i : ∃ k, P.underlying k = some (.int .i64)
  s : ∃ k, P.underlying k = some .string
section
variable {V : Val} {T : Tab} {P : Program} {π : Pl} {m : Nat} {s : St} {H H' : Heap} {κ : Type} [DecidableEq κ]
theorem nthB_eq : ∀ (l : List Nat) (i : Nat), nthB l i = l[i]?
  | [], _ => rfl
  | c :: l, 0 => rfl
  | c :: l, i + 1 => by
    have : Nat.beq (i + 1) 0 = false := rfl
    rw [nthB, this]; simpa using nthB_eq l i
theorem rgS_ok (hR : Rel V s π H) {t : TypeId} {x y : SV} {u : Value} {s' : St} (hx : okS V π s.m x u) (h : rgS P s t x = some (y, s')) : SemWp P (Instr.range t u) H (Nx V s π y s') := by
  unfold rgS at h
  split at h
  · rename_i r hu
    split at h
    · rename_i l hl
      cases h
      have hlit := litR_ok (V := V) hl
      rw [show u = _ from hx]
      have hs : strB P t = true := by unfold strB; rw [hu]
      refine (rg_str (K := fun a H' => Nx V s π (.ptr s.m 0) (pushC s (.siter [.b l] 0)) (.pointer a) H') hs fun b H' hb hg hf => ?_).mono fun v H' ⟨a, e, hh⟩ => by rw [e]; exact hh
      refine ⟨updPl π s.m b 0 0, Nat.le_succ _, updPl_ext _ _ _ _ _, hR.push hf hb (lt_of_get hg) ?_ rfl, Nat.lt_succ_self _, by simp [updPl]⟩
      show H'[(updPl π s.m b 0 0).b s.m]? = _
      rw [show (updPl π s.m b 0 0).b s.m = b by simp [updPl], hg]
      simp [denR, Seg.den, hlit]
    · cases h
  · rename_i k e i hu
    split at h
    · rename_i b l hG
      cases h
      obtain ⟨hi, rfl⟩ := hx
      have hc := hR.ok i hi
      rw [hG] at hc
      have hnd : s.G.get i ≠ .dead := by rw [hG]; exact fun h => nomatch h
      have key : ∀ {κ : Type} {ek : κ → Value}, okMp ek V π s.m H (π.b i) l → (∀ (π' : Pl) H' it, Ext s.m π π' → π'.b s.m = it → okIt ek V π' (s.m + 1) H' (π.b i) it [] l → okCh V π' (s.m + 1) H' s.m (.miter b i [] l)) →
          SemWp P (Instr.range t (.map (some (π.b i)))) H (Nx V s π (.ptr s.m 0) (pushC (setC s i .dead) (.miter b i [] l))) := by
        intro κ ek hm hch E d
        obtain ⟨ck, L, L', h1, h2, h3, h4⟩ := hm
        have hnew : New H H.size (.mapIter (some (π.b i)) ck #[] ck) (H.push (.mapIter (some (π.b i)) ck #[] ck)) := ⟨rfl, rfl⟩
        refine ⟨.pointer (some ⟨H.size, 0, none⟩), H.push (.mapIter (some (π.b i)) ck #[] ck), d, ?_, updPl π s.m H.size 0 0, Nat.le_succ _, updPl_ext _ _ _ _ _, ?_, Nat.lt_succ_self _, by simp [updPl, setC]⟩
        · have hg := getObj_run (P := P) h1 (mkW E H d) rfl
          simp only [Instr.range, Sem.run_bind, run_underlying' hu, Result.andThen_ok, hg]
          rfl
        · have hx := updPl_ext π s.m H.size 0 0
          refine (hR.kill i).pushE (b := H.size) (k := 0) (n := 0) hnew.fr (Nat.le_refl _) (lt_of_get hnew.get) (hch (updPl π s.m H.size 0 0) _ H.size hx (by simp [updPl]) ?_) ?_
          · exact ⟨ck, L, [], L', #[], hnew.fr.get0 h1, hnew.get, h2, by simpa using h3, rfl, okEs_mono hx (Nat.le_succ _) h4, rfl⟩
          · intro e he
            simp [exC] at he
            subst he
            refine ⟨hi, fun j hj hl => ?_, fun j hj e' he' => ?_, fun x o ho => ((hR.fr x o ho).2 e hi).1 hnd⟩
            · rcases set_get s e .dead j with e0 | ⟨_, e0⟩ | ⟨hne, e0⟩
              · exact absurd e0 hl
              · exact absurd e0 hl
              · exact hR.dj j e hj hi hne (by rw [← e0]; exact hl) hnd
            · rcases set_get s e .dead j with e0 | ⟨_, e0⟩ | ⟨hne, e0⟩
              · rw [e0] at he'; simp [exC] at he'
              · rw [e0] at he'; simp [exC] at he'
              · rw [e0] at he'; exact (hR.ex j hj e' he').2 e hi hnd
      cases b with
      | true =>
        refine key hc fun π' H' it hx hit h => ?_
        show okIt ekI V π' (s.m + 1) H' (π'.b i) (π'.b s.m) [] l
        rw [(hx i hi).1, hit]; exact h
      | false =>
        refine key hc fun π' H' it hx hit h => ?_
        show okIt ekS V π' (s.m + 1) H' (π'.b i) (π'.b s.m) [] l
        rw [(hx i hi).1, hit]; exact h
    · cases h
  · cases h
theorem okEs_split {ek : κ → Value} : ∀ {l : List (SV × SV)} {A : List (Ent κ)} {x : Ent κ} {B : List (Ent κ)}, okEs ek V π m l (A ++ x :: B) → ∃ a e b, l = a ++ e :: b ∧ okEs ek V π m a A ∧ okS V π m e.1 (ek x.1) ∧ okS V π m e.2 x.2.1 ∧ okEs ek V π m b B
  | [], A, x, B, h => by have h : A ++ x :: B = [] := h; simp at h
  | e :: l, [], x, B, h => by
    obtain ⟨y, L', e1, h1, h2, h3⟩ := h
    simp only [List.nil_append, List.cons.injEq] at e1
    obtain ⟨rfl, rfl⟩ := e1
    exact ⟨[], e, l, rfl, rfl, h1, h2, h3⟩
  | e :: l, y :: A, x, B, h => by
    obtain ⟨z, L', e1, h1, h2, h3⟩ := h
    simp only [List.cons_append, List.cons.injEq] at e1
    obtain ⟨rfl, rfl⟩ := e1
    obtain ⟨a, e', b, rfl, k1, k2, k3, k4⟩ := okEs_split h3
    exact ⟨e :: a, e', b, rfl, ⟨y, A, rfl, h1, h2, k1⟩, k2, k3, k4⟩
theorem nxAll_mem {i : Nat} {b : Bool} {mm : Nat} {gone : List (SV × SV)} : ∀ (a2 : List (SV × SV)) (a : List (SV × SV)) (e : SV × SV) (l2 : List (SV × SV)),
    (.tup [.lit (.bool true), e.1, e.2], setC s i (.miter b mm (e :: gone) (a ++ (a2 ++ l2)))) ∈ nxAll s i b mm gone a (a2 ++ e :: l2)
  | [], a, e, l2 => by simp [nxAll, catL_eq]
  | x :: a2, a, e, l2 => by
    unfold nxAll
    simp only [List.cons_append]
    have := nxAll_mem (i := i) (b := b) (mm := mm) (gone := gone) a2 (a ++ [x]) e l2
    refine List.mem_cons_of_mem _ ?_
    rw [catL_eq a [x]]
    simpa [List.append_assoc] using this
theorem nxMap_ok {kt : TypeId} (T' : KeyT P kt κ) (hR : Rel V s π H) {i mm : Nat} {b : Bool} {gone left : List (SV × SV)} {ty : TypeId} (hi : i < s.m) (hG : s.G.get i = .miter b mm gone left)
    (hit : okIt T'.ek V π s.m H (π.b mm) (π.b i) gone left) (hb1 : ∀ l, okMp T'.ek V π s.m H (π.b mm) l → okCh V π s.m H mm (.map b l)) (hb2 : ∀ H' g l, okIt T'.ek V π s.m H' (π.b mm) (π.b i) g l → okCh V π s.m H' i (.miter b mm g l)) :
    SemWp P (Instr.next (.pointer (some ⟨π.b i, 0, none⟩)) false ty) H fun v H' => ∃ r, r ∈ nxMap s i b mm gone left ∧ Nx V s π r.1 r.2 v H' := by
  obtain ⟨ck, L, Lg, Ll, seen, h1, h2, h3, h4, h5, h6, h7⟩ := hit
  have hnd : s.G.get i ≠ .dead := by rw [hG]; exact fun h => nomatch h
  have hseen : ∀ {q : Nat}, q ∈ seen ↔ q ∈ Lg.map (·.2.2) := fun {q} => by rw [← h7]; simp
  have hnod : ((Lg ++ Ll).map (·.2.2)).Nodup := (h4.map _).nodup_iff.2 h3.born
  refine (next_map (T := T') (KE := fun H' => ∃ r, r ∈ nxMap s i b mm gone left ∧ Nx V s π r.1 r.2 (.tuple #[.bool false]) H') (KN := fun k x H' => ∃ r, r ∈ nxMap s i b mm gone left ∧ Nx V s π r.1 r.2 (.tuple #[.bool true, k, x]) H') ⟨h1, h3⟩ h2 (fun hall => ?_) (fun x hx hns H' hH' hf => ?_)).mono fun v H' hh => ?_
  · cases left with
    | cons e l =>
      obtain ⟨y, Ll', rfl, _, _, _⟩ := h6
      have hy : y ∈ L := h4.mem_iff.1 (by simp)
      have := hseen.1 (hall y hy)
      obtain ⟨z, hz, hzy⟩ := List.mem_map.1 this
      rw [List.map_append, List.nodup_append] at hnod
      exact absurd hzy (hnod.2.2 _ (List.mem_map.2 ⟨z, hz, rfl⟩) _ (List.mem_map.2 ⟨y, by simp, rfl⟩))
    | nil =>
      rw [show Ll = [] from h6] at h4
      refine ⟨_, by unfold nxMap; exact List.mem_singleton.2 rfl, π, Nat.le_refl _, Ext.refl _ _, hR.back hi hG (hb1 _ ⟨ck, L, Lg, h1, h3, by simpa using h4, h5⟩) rfl, ?_⟩
      exact ⟨[.bool false], rfl, .bool false, [], rfl, rfl, rfl⟩
  · have hx2 : x ∈ Ll := by
      rcases List.mem_append.1 (h4.mem_iff.2 hx) with h | h
      · exact absurd (hseen.2 (List.mem_map.2 ⟨x, h, rfl⟩)) hns
      · exact h
    obtain ⟨A, B, rfl⟩ := List.append_of_mem hx2
    obtain ⟨a, e, l2, rfl, k1, k2, k3, k4⟩ := okEs_split h6
    have hne : ∃ z zs, a ++ e :: l2 = z :: zs := by cases a <;> exact ⟨_, _, rfl⟩
    have hmem : (.tup [.lit (.bool true), e.1, e.2], setC s i (.miter b mm (e :: gone) (a ++ l2))) ∈ nxMap s i b mm gone (a ++ e :: l2) := by
      obtain ⟨z, zs, hz⟩ := hne
      have := nxAll_mem (s := s) (i := i) (b := b) (mm := mm) (gone := gone) a [] e l2
      unfold nxMap
      rw [hz] at this ⊢
      simpa using this
    refine ⟨_, hmem, π, Nat.le_refl _, Ext.refl _ _, ?_, ⟨_, rfl, .bool true, _, rfl, rfl, T'.ek x.1, _, rfl, k2, x.2.1, [], rfl, k3, rfl⟩⟩
    refine hR.setE hi hnd hf (hb2 _ _ _ ⟨ck, L, x :: Lg, A ++ B, seen.push x.2.2, ?_, hH', h3, ?_, ⟨x, Lg, rfl, k2, k3, h5⟩, ?_, by simp [h7]⟩) (fun e' he' => by rw [hG]; exact he')
    · refine hf.get h1 ?_
      obtain ⟨_, hm2⟩ := hR.ex i hi mm (by rw [hG]; simp [exC])
      have := hm2 i hi hnd
      simp only [List.mem_singleton]
      exact fun e => this e.symm
    · refine (List.Perm.trans ?_ h4)
      simp only [List.cons_append]
      have : (Lg ++ (A ++ x :: B)).Perm (Lg ++ (x :: (A ++ B))) := List.Perm.append_left _ List.perm_middle
      exact (List.Perm.trans this List.perm_middle).symm
    · rw [← catL_eq]; exact okEs_app k1 k4
  · rcases hh with ⟨rfl, h⟩ | ⟨k, x, rfl, h⟩
    · exact h
    · exact h
theorem nxS_ok (hK : Kts P) (hR : Rel V s π H) {it : SV} {u : Value} {isS : Bool} {ty : TypeId} {l : List (SV × St)} (hx : okS V π s.m it u) (h : nxS s it isS = some l) :
    SemWp P (Instr.next u isS ty) H fun v H' => ∃ r, r ∈ l ∧ Nx V s π r.1 r.2 v H' := by
  unfold nxS at h
  split at h
  · rename_i i o
    obtain ⟨hi, rfl⟩ := hx
    split at h
    · rename_i bs pos hG
      have hq := beqD h
      clear h
      obtain ⟨rfl, h⟩ := hq
      have hc := hR.ok i hi
      rw [hG] at hc
      have hc : H[π.b i]? = some (.stringIter (txt (byteL bs)) pos) := by
        have hc : H[π.b i]? = some (.stringIter ⟨(denR V [.b bs]).toArray⟩ pos) := hc
        rw [hc]; simp [denR, Seg.den, txt]
      have hsz : (txt (byteL bs)).size = bs.length := by rw [txt_size]; simp [byteL]
      unfold nxStr at h
      rw [nthB_eq] at h
      refine nx_str (ty := ty) hc (fun hle => ?_) (fun hlt H' hH' hf => ?_)
      · rw [List.getElem?_eq_none (by omega)] at h
        cases h
        exact ⟨_, List.mem_singleton.2 rfl, π, Nat.le_refl _, Ext.refl _ _, hR.kill i, [.bool false], rfl, .bool false, [], rfl, rfl, rfl⟩
      · have hlt' : pos < bs.length := by omega
        rw [List.getElem?_eq_getElem hlt'] at h
        dsimp only at h
        have hq := bltD h
        clear h
        obtain ⟨hc128, h⟩ := hq
        cases h
        have hget : (txt (byteL bs))[pos]'hlt = UInt8.ofNat bs[pos] := by
          show (byteL bs).toArray[pos]'_ = _
          simp [byteL]
        have hb : ((txt (byteL bs))[pos]'hlt).toNat = bs[pos] := by rw [hget]; simp; omega
        have hd := decode_ascii (txt (byteL bs)) pos hlt (by rw [hb]; exact hc128)
        rw [hd] at hH' ⊢
        refine ⟨_, List.mem_singleton.2 rfl, π, Nat.le_refl _, Ext.refl _ _, hR.set hi (by rw [hG]; exact fun h => nomatch h) hf ?_ rfl, ?_⟩
        · show H'[π.b i]? = some (.stringIter ⟨(denR V [.b bs]).toArray⟩ (pos + 1))
          rw [hH']; simp [denR, Seg.den, txt]
        · refine ⟨_, rfl, .bool true, _, rfl, rfl, _, _, rfl, by simp [okS], .int .i32 _, [], rfl, ?_, rfl⟩
          simp only [okS, hb, den_k]
          rfl
    · rename_i b mm gone left hG
      have hq := beqD h
      clear h
      obtain ⟨rfl, h⟩ := hq
      cases h
      have hc := hR.ok i hi
      rw [hG] at hc
      cases b with
      | true =>
        obtain ⟨kt, hkt⟩ := hK.i
        exact nxMap_ok (keyInt hkt) hR hi hG hc (fun l h => h) (fun H' g l h => h)
      | false =>
        obtain ⟨kt, hkt⟩ := hK.s
        exact nxMap_ok (keyStr hkt) hR hi hG hc (fun l h => h) (fun H' g l h => h)
    · cases h
  · cases h
theorem enS_ok (hK : Kts P) (hR : Rel V s π H) {it y : SV} {u : Value} {s' : St} (hx : okS V π s.m it u) (h : enS s it = some (y, s')) : SemWp P (Instr.entry u) H (Nx V s π y s') := by
  unfold enS at h
  split at h
  · rename_i i o
    obtain ⟨hi, rfl⟩ := hx
    split at h
    · rename_i b mm e gone left hG
      have hq := beqD h
      clear h
      obtain ⟨rfl, h⟩ := hq
      cases h
      have hc := hR.ok i hi
      rw [hG] at hc
      have key : ∀ {κ : Type} [DecidableEq κ] {kt : TypeId} (T' : KeyT P kt κ), okIt T'.ek V π s.m H (π.b mm) (π.b i) (e :: gone) left → SemWp P (Instr.entry (.pointer (some ⟨π.b i, 0, none⟩))) H (Nx V s π (.tup [e.1, e.2]) s) := by
        intro κ _ kt T' hit
        obtain ⟨ck, L, Lg, Ll, seen, h1, h2, h3, h4, h5, h6, h7⟩ := hit
        obtain ⟨x, Lg', rfl, k1, k2, k3⟩ := h5
        have hsn : seen = (Lg'.map (·.2.2)).reverse.toArray.push x.2.2 := by
          apply Array.ext'
          have := congrArg List.reverse h7
          simpa using this
        rw [hsn] at h2
        refine (entry_map (T := T') (L := L) (ck := ck) (x := x) (K := fun k v H' => Nx V s π (.tup [e.1, e.2]) s (.tuple #[k, v]) H') ⟨h1, h3⟩ h2 (h4.mem_iff.1 (by simp)) rfl ?_).mono fun v H' ⟨k, y, e1, hh⟩ => by rw [e1]; exact hh
        exact ⟨π, Nat.le_refl _, Ext.refl _ _, hR, _, rfl, T'.ek x.1, _, rfl, k1, x.2.1, [], rfl, k2, rfl⟩
      cases b with
      | true => obtain ⟨kt, hkt⟩ := hK.i; exact key (keyInt hkt) hc
      | false => obtain ⟨kt, hkt⟩ := hK.s; exact key (keyStr hkt) hc
    · cases h
  · cases h
theorem repL_rep' (l : List Value) : ∀ k, repL l k = (List.replicate k l).flatten
  | 0 => rfl
  | k + 1 => by rw [repL, repL_rep' l k, List.replicate_succ, List.flatten_cons]
theorem repL_len (l : List Value) : ∀ k, (repL l k).length = k * l.length
  | 0 => by simp [repL]
  | k + 1 => by rw [repL, List.length_append, repL_len l k, Nat.add_one_mul]; omega
theorem crSl_ok (hR : Rel V s π H) {t t0 e : TypeId} {tr : List TypeId} {ty : TypeId} {i o n z : Nat} {c : Nat} {y : SV} {s' : St} (hi : i < s.m) (hu : P.underlying t = some (.slice e)) (h : crSl P s e i o n z = some (y, s')) :
    SemWp P (Builtin.clear_ ⟨t :: tr⟩ ty ⟨[.slice (some ⟨π.b i, o, none⟩) n c]⟩) H (Nx V s π y s') := by
  unfold crSl at h
  split at h
  · rename_i v l hv hG
    have h1 := beqD h
    clear h
    obtain ⟨h1, h⟩ := h1
    have h2 := bltD h
    clear h
    obtain ⟨h2, h⟩ := h2
    cases hone : allOneS (ofVs (repL v.cells.toList n)) with
    | false => rw [hone] at h; cases h
    | true =>
    rw [hone] at h
    simp only [cond_true] at h
    have h3 := bleD h
    clear h
    obtain ⟨h3, h⟩ := h3
    have h4 := bltD h
    clear h
    obtain ⟨h4, h⟩ := h4
    cases h
    rw [lenN_eq] at h3
    have h3 : o + n * z ≤ l.length := h3
    have hlen : (repL v.cells.toList n).length = n * z := by rw [repL_len, h1]
    have hok : okSL V π s.m (ofVs (repL v.cells.toList n)) (repL v.cells.toList n) := ofVs_ok _
    have h1c := allOneS_ok hone hok
    have hch := hR.ok i hi
    rw [hG] at hch
    obtain ⟨cs, rs, te, hblk, k1, k2, k3⟩ := hch
    have hlc := okSL_len k1
    intro E d
    have hz : (Builtin.zeroCells v.cells n).toList = repL v.cells.toList n := by
      have := zc_flat v.cells.toList (by rw [h1]; exact h2) n
      rw [repL_rep', ← this]
      simp [Builtin.zeroCells, Value.cells]
    have hst := run_storeCells_at P (π.b i) o te (repL v.cells.toList n) 0 ⟨cs ++ rs⟩ (mkW E H d) hblk (by simp only [List.size_toArray, List.length_append, hlen]; omega) h1c
    simp only [Nat.add_zero] at hst
    refine ⟨.tuple #[], rowH H (π.b i) (List.toArray ((cs ++ rs).take o ++ repL v.cells.toList n ++ (cs ++ rs).drop (o + (repL v.cells.toList n).length))), d, ?_, π, Nat.le_refl _, Ext.refl _ _, hR.write hi hG hok h1c (by rw [hlen]; exact h3) (fun cs' te' hb' _ => ?_) (rowH_fr _ _ _), [], rfl, rfl⟩
    · obtain ⟨n', rfl⟩ : ∃ q, n = q + 1 := ⟨n - 1, by omega⟩
      unfold Builtin.clear_
      simp [run_underlying' hu, zeroOf_run hv, hz, hst]
      rfl
    · rw [hblk] at hb'
      cases hb'
      exact rowH_get hblk
  · cases h
theorem crS_ok (hR : Rel V s π H) {ts : Array TypeId} {ty : TypeId} {x y : SV} {u : Value} {s' : St} (hx : okS V π s.m x u) (h : crS P s ts.toList x = some (y, s')) : SemWp P (Builtin.clear_ ts ty ⟨[u]⟩) H (Nx V s π y s') := by
  unfold crS at h
  split at h
  · rename_i t tr i o n c z hts
    have hts : ts = ⟨t :: tr⟩ := by rw [← hts]
    subst hts
    split at h
    · rename_i e hu
      obtain ⟨hi, c', rfl, _⟩ := hx
      exact crSl_ok (t0 := t) hR hi hu h
    · cases h
  · rename_i t tr i hts
    have hts : ts = ⟨t :: tr⟩ := by rw [← hts]
    subst hts
    split at h
    · rename_i d hu
      split at h
      · rename_i b l hG
        cases h
        obtain ⟨hi, rfl⟩ := hx
        have hc := hR.ok i hi
        rw [hG] at hc
        have hnd : s.G.get i ≠ .dead := by rw [hG]; exact fun h => nomatch h
        have key : ∀ {κ : Type} {ek : κ → Value}, okMp ek V π s.m H (π.b i) l → (∀ H', okMp ek V π s.m H' (π.b i) [] → okCh V π s.m H' i (.map b [])) → SemWp P (Builtin.clear_ ⟨t :: tr⟩ ty ⟨[.map (some (π.b i))]⟩) H (Nx V s π (.tup []) (setC s i (.map b []))) := by
          intro κ ek hm hch E dd
          obtain ⟨ck, L, L', h1, h2, h3, h4⟩ := hm
          refine ⟨.tuple #[], setH H (π.b i) (.map #[] ck), dd, ?_, π, Nat.le_refl _, Ext.refl _ _, hR.set hi hnd (setH_fr _ _ _) (hch _ ⟨ck, [], [], ?_, ⟨by simp, by simp, by simp⟩, List.Perm.refl _, rfl⟩) rfl, ⟨[], rfl, rfl⟩⟩
          · simp [Builtin.clear_, run_underlying' hu, getObj_run h1 (mkW E H dd) rfl, setObj_run h1]
          · exact setH_get h1
        cases b with
        | true => exact key hc fun H' h => h
        | false => exact key hc fun H' h => h
      · cases h
    · cases h
  · cases h
theorem byI_ok : ∀ l : List Nat, okSL V π m (byI l) ((byteL l).map fun b => .int .u8 b.toNat)
  | [] => rfl
  | c :: l => ⟨_, _, rfl, by simp only [okS, den_k]; simp; rfl, byI_ok l⟩
theorem cbS_ok (hR : Rel V s π H) {a t : TypeId} {x y : SV} {u : Value} {s' : St} (hx : okS V π s.m x u) (h : cbS P s a t x = some (y, s')) : SemWp P (convert a t u) H (Nx V s π y s') := by
  unfold cbS at h
  split at h
  · rename_i r
    split at h
    · rename_i l e hl hu ht
      split at h
      · rename_i he
        cases h
        have hlit := litR_ok (V := V) hl
        rw [show u = .string (txt (denR V r)) from hx, hlit]
        intro E d
        have hr := run_bytes_of_string (P := P) (mkW E H d) a t e (txt (byteL l)) hu ht he
        have hge : (txt (byteL l)).size ≤ grownCap (mkW E H d) (txt (byteL l)).size 0 e := by simpa using grownCap_ge (mkW E H d) (txt (byteL l)).size 0 e
        have hsz : (txt (byteL l)).size = lenN l := by rw [txt_size, lenN_eq]; simp [byteL]
        generalize hcap : grownCap (mkW E H d) (txt (byteL l)).size 0 e = cap at *
        refine ⟨_, H.push (.cells (bytesRow (txt (byteL l)) cap) e ((bytesRow (txt (byteL l)) cap).size, (bytesRow (txt (byteL l)) cap).size + 1)), ⟨d.1 + 1, Nat.le_succ_of_le d.2⟩, hr, updPl π s.m H.size cap 0, Nat.le_succ _, updPl_ext _ _ _ _ _, ?_, ?_⟩
        · refine hR.push (b := H.size) (push_fr _ _) (Nat.le_refl _) (by simp) ⟨(byteL l).map fun b => .int .u8 b.toNat, List.replicate (cap - (txt (byteL l)).size) (.int .u8 0), e, ((bytesRow (txt (byteL l)) cap).size, (bytesRow (txt (byteL l)) cap).size + 1), ?_, byI_ok l⟩ rfl
          rw [show (updPl π s.m H.size cap 0).b s.m = H.size by simp [updPl]]
          simp only [Array.getElem?_push_size]
          congr 2
          unfold bytesRow
          apply Array.ext'
          simp [txt]
        · refine ⟨Nat.lt_succ_self _, cap, by simp [updPl, hsz]; rfl, by omega, by decide, by simp [updPl]⟩
      · cases h
    · cases h
  · cases h
end
def two (a b : Res) : Res := match a with | some x => (match b with | some y => some (catL x y) | none => none) | none => none
def kAll : List (SV × St) → KO → Res
  | [], _ => some []
  | x :: l, K => two (K x.1 x.2) (kAll l K)
def kR1 (r : R1) (s : St) (K : KO) : Res := match r with
  | .no => none
  | .one x => K x s
  | .two => two (K (.lit (.bool true)) s) (K (.lit (.bool false)) s)
def kR2 (r : Option (SV × St)) (K : KO) : Res := match r with | some q => K q.1 q.2 | none => none
def kOuts (r : Res) (K : KO) : Res := match r with
  | some [x] => K x.1 x.2
  | some l => kAll l K
  | none => none
structure Rn where
  code : Bool → Nat → Code → Fr → List Nat → St → (Ex → Fr → List Nat → St → Res) → Res
  call : Nat → List SV → St → Res
  yield : Nat → List SV → St → Res
  dcall : Nat → List SV → St → Res
def kCallV (rn : Rn) (g : SV) (args : List SV) (s : St) (K : KO) : Res := match g with
  | .clo k [] [] => kOuts (rn.call k args s) K
  | .clo k a b => kOuts (rn.call k (catL a (catL args b)) s) K
  | .yld i => kOuts (rn.yield i args s) K
  | _ => none
def kBl (P : Program) (T : Tab) (s : St) (b : Builtin) (ts : List TypeId) (xs : List SV) (K : KO) : Res := match b with
  | .append => (match xs with | [d, x] => kR2 (apS P s ts d x) K | _ => none)
  | .copy => (match xs with | [d, x] => kR2 (cpS P s ts d x) K | _ => none)
  | .delete => (match xs with | [m, k] => kR2 (deS P T s ts m k) K | _ => none)
  | .clear => (match xs with | [x] => kR2 (crS P s ts x) K | _ => none)
  | b => kR1 (blS P T s b ts xs) s K
def kCall (P : Program) (T : Tab) (rn : Rn) (n : Nat) (f : Fr) (s : St) (c : Call) (K : KO) : Res := match c.callee with
  | .builtin b => kBl P T s b c.argTypes.toList (evsS n f c.args.toList) K
  | .value g => kCallV rn (evS n f g) (evsS n f c.args.toList) s K
  | _ => none
def kCv (P : Program) (T : Tab) (s : St) (u t : TypeId) (x : SV) (K : KO) : Res := match cvS P T u t x with
  | some y => K y s
  | none => kR2 (cbS P s u t x) K
def kOp (P : Program) (T : Tab) (rn : Rn) (n : Nat) (f : Fr) (s : St) (o : Op) (K : KO) : Res := match o with
  | .alloc t => kR2 (alS P s t) K
  | .box _ x => kR2 (bxS s (evS n f x)) K
  | .buildSlice t len ps => kR2 (newSl s len (bsS P t len (evpS n f ps.toList))) K
  | .store t a x => kR2 (stoS P s t (evS n f a) (evS n f x)) K
  | .makeMap t none => kR2 (mmS P s t) K
  | .makeSlice t l c => kR2 (msS P s t (evS n f l) (evS n f c)) K
  | .mapUpdate t m k x => kR2 (muS P T s t (evS n f m) (evS n f k) (evS n f x)) K
  | .insert t m k x => kR2 (muS P T s t (evS n f m) (evS n f k) (evS n f x)) K
  | .call c => kCall P T rn n f s c K
  | .range t x => kR2 (rgS P s t (evS n f x)) K
  | .next it isS => kOuts (nxS s (evS n f it) isS) K
  | .entry it => kR2 (enS s (evS n f it)) K
  | .convert u t x => kCv P T s u t (evS n f x) K
  | o => kR1 (stS P T n f s o) s K
section
variable {V : Val} {T : Tab} {P : Program} {π : Pl} {m : Nat} {s : St} {H H' : Heap} {K : KO} {o' outs : List (SV × St)}
theorem two_out {a b : Res} {o : List (SV × St)} (h : two a b = some o) : (∃ x, a = some x ∧ ∀ r ∈ x, r ∈ o) ∧ ∃ y, b = some y ∧ ∀ r ∈ y, r ∈ o := by
  unfold two at h
  split at h
  · rename_i x
    split at h
    · rename_i y
      cases h
      rw [catL_eq]
      exact ⟨⟨x, rfl, fun r hr => List.mem_append_left _ hr⟩, y, rfl, fun r hr => List.mem_append_right _ hr⟩
    · cases h
  · cases h
theorem kAll_out : ∀ {l : List (SV × St)} {o : List (SV × St)}, kAll l K = some o → ∀ x ∈ l, ∃ y, K x.1 x.2 = some y ∧ ∀ r ∈ y, r ∈ o
  | [], o, h, x, hx => by simp at hx
  | a :: l, o, h, x, hx => by
    obtain ⟨⟨y, h1, h2⟩, z, h3, h4⟩ := two_out h
    rcases List.mem_cons.1 hx with rfl | hx
    · exact ⟨y, h1, h2⟩
    · obtain ⟨w, h5, h6⟩ := kAll_out h3 x hx
      exact ⟨w, h5, fun r hr => h4 r (h6 r hr)⟩
theorem kOuts_out {r : Res} {o : List (SV × St)} (h : kOuts r K = some o) : ∃ l, r = some l ∧ ∀ x ∈ l, ∃ y, K x.1 x.2 = some y ∧ ∀ r ∈ y, r ∈ o := by
  unfold kOuts at h
  split at h
  · rename_i x
    exact ⟨_, rfl, fun y hy => by simp at hy; subst hy; exact ⟨o, h, fun r hr => hr⟩⟩
  · rename_i l _
    exact ⟨l, rfl, kAll_out h⟩
  · cases h
theorem post_nx (ho : ∀ r ∈ o', r ∈ outs) {x : SV} {s' : St} (hk : K x s' = some o') {v : Value} (h : Nx V s π x s' v H') : Post V s.m π K outs v H' := by
  obtain ⟨π', h1, h2, h3, h4⟩ := h
  exact ⟨x, s', π', h1, h2, h3, h4, o', hk, ho⟩
theorem kR2_ok {n : Nat} {g : F} {o : Oper} {r : Option (SV × St)} (h : kR2 r K = some o') (ho : ∀ r ∈ o', r ∈ outs) (hop : ∀ x s', r = some (x, s') → OpH P n g o H (Nx V s π x s')) : OpH P n g o H (Post V s.m π K outs) := by
  unfold kR2 at h
  split at h
  · rename_i q
    exact (hop q.1 q.2 rfl).mono fun v H' hv => post_nx ho h hv
  · cases h
theorem kR1_post (hR : Rel V s π H) {r : R1} (h : kR1 r s K = some o') (ho : ∀ r ∈ o', r ∈ outs) {v : Value} (hv : okR V π s.m r v) : Post V s.m π K outs v H := by
  unfold kR1 at h
  split at h
  · cases h
  · rename_i x
    exact ⟨x, s, π, Nat.le_refl _, Ext.refl _ _, hR, hv, o', h, ho⟩
  · obtain ⟨b, rfl⟩ := hv
    obtain ⟨⟨x, h1, h2⟩, y, h3, h4⟩ := two_out h
    cases b with
    | true => exact ⟨.lit (.bool true), s, π, Nat.le_refl _, Ext.refl _ _, hR, rfl, x, h1, fun r hr => ho r (h2 r hr)⟩
    | false => exact ⟨.lit (.bool false), s, π, Nat.le_refl _, Ext.refl _ _, hR, rfl, y, h3, fun r hr => ho r (h4 r hr)⟩
theorem kR1_no {r : R1} (h : kR1 r s K = some o') : r ≠ .no := by
  intro e; subst e; cases h
theorem still_ok (hT : TokN T V) (hR : Rel V s π H) {n : Nat} {f : Fr} {g : F} (hf : okF V π s.m f g) {o : Oper} (h : kR1 (stS P T n f s o.op) s K = some o') (ho : ∀ r ∈ o', r ∈ outs) : OpH P n g o H (Post V s.m π K outs) := by
  obtain ⟨v, h1, h2⟩ := stS_ok (P := P) hT hR hf (kR1_no h)
  exact OpH.run fun E d => ⟨v, H, d, h2 (mkW E H d) fun i _ => rfl, kR1_post hR h ho h1⟩
def CallX (P : Program) (k : FuncId) (args : Array Value) (H : Heap) (K : Value → Heap → Prop) : Prop := (okFn P k = true ∧ CallH P k args H K) ∨ (okFn P k = false ∧ ExtH P k args H K)
theorem CallX.mono {k : FuncId} {args : Array Value} {R R' : Value → Heap → Prop} (h : CallX P k args H R) (hr : ∀ v H', R v H' → R' v H') : CallX P k args H R' := by
  rcases h with ⟨h1, h2⟩ | ⟨h1, h2⟩
  · exact .inl ⟨h1, h2.mono hr⟩
  · exact .inr ⟨h1, h2.mono hr⟩
def CallsOk (P : Program) (V : Val) (call : Nat → List SV → St → Res) : Prop := ∀ k args s outs, call k args s = some outs → ∀ π H vs, Rel V s π H → okSL V π s.m args vs → CallX P k ⟨vs⟩ H (Out V s.m π outs)
def OpW (ro : Option Nat) (P : Program) (n : Nat) (f : F) (o : Oper) (H : Heap) (K : Value → Heap → Prop) : Prop :=
  ∀ (Df : List Deferred) (E : Env) (next : Act → World → Prop) (Q : Exit → Act → World → Prop), Goes Df n f o K E next → ∀ d, o.wpIn (WideF ro) 0 P (mkA Df n f) (mkW E H d) next Q
theorem wideH {ro : Option Nat} {n : Nat} {g : F} {o : Oper} {R : Value → Heap → Prop} (h : OpH P n g o H R) (hd : ∀ c, o.op ≠ .defer c) : OpW ro P n g o H R := fun Df E next Q hg d => op_in hd (h Df E next Q hg d)
theorem OpW.mono {ro : Option Nat} {n : Nat} {g : F} {o : Oper} {R R' : Value → Heap → Prop} (h : OpW ro P n g o H R) (hk : ∀ v H', R v H' → R' v H') : OpW ro P n g o H R' := fun Df E next Q hg d => h Df E next Q (fun v H' d' k => hg v H' d' (hk v H' k)) d
theorem yield_op {ro : Option Nat} {n : Nat} {g : F} {o : Oper} {x : Operand} {as : Array Operand} {ts : Array TypeId} (ho : o.op = .call { callee := .value x, args := as, argTypes := ts }) {l : Nat} (hx : ev n g x = .func (.yield l) #[] #[]) {R : Value → Heap → Prop}
    (h : YieldH P l (evs n g as.toList) H R) : OpW ro P n g o H R := by
  intro Df E next Q hg d
  refine ⟨fun _ _ => trivial, ?_⟩
  have e : o.semAt (WideF ro).round (mkA Df n g).eval = execOp (mkA Df n g).eval o := by
    cases ro with
    | none => exact Oper.semAt_none _ _
    | some l => exact Oper.semAt_some l _ _ (by rw [ho]; intro c h; cases h)
  rw [e, eval_fun]
  obtain ⟨fn, tmps, assign, body, h1, h2⟩ := h E d
  have e2 : (execOp (ev n g) o).run P (mkW E H d) = .ok (.round l fn tmps assign body) (mkW E H d) := by
    simp [execOp, ho, resolve, Deferred.ofValue, hx, invoke, map_evs, h1]
  rw [e2, Oper.uponIn_round]
  refine ⟨fun h => by simp [WideF, Fence.wide] at h, ?_⟩
  refine RoundIn.mono (F := Fence.wide) h2 fun e w' => ?_
  rintro ⟨v, H', d', rfl, rfl, hk⟩
  show next ((mkA Df n g).put o.dst v) _
  rw [put_mkA]
  exact hg v H' d' hk
def YieldsOk (P : Program) (V : Val) (yield : Nat → List SV → St → Res) : Prop := ∀ i args s outs, yield i args s = some outs → ∀ π H vs, i < s.m → Rel V s π H → okSL V π s.m args vs → YieldH P (π.b i) vs H (Out V s.m π outs)
theorem out_post (hl : ∀ x ∈ o', ∃ y, K x.1 x.2 = some y ∧ ∀ r ∈ y, r ∈ outs) {v : Value} (h : Out V s.m π o' v H') : Post V s.m π K outs v H' := by
  obtain ⟨r, hr, h1, π', h2, h3, h4⟩ := h
  obtain ⟨y, h5, h6⟩ := hl r hr
  exact ⟨r.1, r.2, π', h1, h2, h3, h4, y, h5, h6⟩
theorem callX_op {n : Nat} {g : F} {o : Oper} {x : Operand} {as : Array Operand} {ts : Array TypeId} (ho : o.op = .call { callee := .value x, args := as, argTypes := ts }) {k : Nat} {fs cs vs : List Value} (hx : ev n g x = .func (.func k) ⟨fs⟩ ⟨cs⟩) (hv : evs n g as.toList = vs) {R : Value → Heap → Prop}
    (h : CallX P k ⟨fs ++ (vs ++ cs)⟩ H R) : OpH P n g o H R := by
  have e : (⟨fs⟩ : Array Value) ++ (⟨vs⟩ : Array Value) ++ (⟨cs⟩ : Array Value) = ⟨fs ++ (vs ++ cs)⟩ := by simp
  rcases h with ⟨h1, h2⟩ | ⟨h1, h2⟩
  · refine OpH.call (fun E d => ?_) h2
    rw [← e]
    have hv' : as.map (ev n g) = ⟨vs⟩ := by rw [map_evs, hv]
    simp [execOp, ho, resolve, Deferred.ofValue, hx, invoke, hv', okFn_run h1]
  · refine OpH.run fun E d => ?_
    obtain ⟨v, H', d', hr, hk⟩ := h2 E d
    refine ⟨v, H', d', ?_, hk⟩
    rw [← e] at hr
    have hv' : as.map (ev n g) = ⟨vs⟩ := by rw [map_evs, hv]
    simp [execOp, ho, resolve, Deferred.ofValue, hx, invoke, hv'] at hr ⊢
    simp [hr]
theorem kCallV_ok {ro : Option Nat} {rn : Rn} (hc : CallsOk P V rn.call) (hy : YieldsOk P V rn.yield) (hR : Rel V s π H) {n : Nat} {f : Fr} {g : F} (hf : okF V π s.m f g) {o : Oper} {x : Operand} {as : Array Operand} {ts : Array TypeId} (ho : o.op = .call { callee := .value x, args := as, argTypes := ts })
    (h : kCallV rn (evS n f x) (evsS n f as.toList) s K = some o') (hs : ∀ r ∈ o', r ∈ outs) : OpW ro P n g o H (Post V s.m π K outs) := by
  have hd : ∀ c, o.op ≠ .defer c := fun c e => by rw [ho] at e; cases e
  have ex := evS_ok (V := V) (π := π) (m := s.m) n hf x
  have ea := evsS_ok (V := V) (π := π) (m := s.m) n hf as.toList
  have fin : ∀ {k : Nat} {args : List SV} {fs cs : List Value}, kOuts (rn.call k args s) K = some o' → ev n g x = .func (.func k) ⟨fs⟩ ⟨cs⟩ → okSL V π s.m args (fs ++ (evs n g as.toList ++ cs)) → OpH P n g o H (Post V s.m π K outs) := by
    intro k args fs cs h hx hok
    obtain ⟨l, h1, h2⟩ := kOuts_out h
    have := hc k args s l h1 π H _ hR hok
    refine (callX_op ho hx rfl this).mono fun v H' hv => out_post (fun x hx => ?_) hv
    obtain ⟨y, h3, h4⟩ := h2 x hx
    exact ⟨y, h3, fun r hr => hs r (h4 r hr)⟩
  unfold kCallV at h
  split at h
  · rename_i k hx
    rw [hx] at ex
    obtain ⟨fs, cs, e, h1, h2⟩ := ex
    rw [show fs = [] from h1, show cs = [] from h2] at e
    exact wideH (fin h e (by simpa using ea)) hd
  · rename_i k a b _ hx
    rw [hx] at ex
    obtain ⟨fs, cs, e, h1, h2⟩ := ex
    exact wideH (fin h e (okSL_app h1 (okSL_app ea h2))) hd
  · rename_i i hx
    rw [hx] at ex
    obtain ⟨hi, e⟩ := ex
    obtain ⟨l, h1, h2⟩ := kOuts_out h
    refine (yield_op ho e (hy i _ s l h1 π H _ hi hR ea)).mono fun v H' hv => out_post (fun x hx => ?_) hv
    obtain ⟨y, h3, h4⟩ := h2 x hx
    exact ⟨y, h3, fun r hr => hs r (h4 r hr)⟩
  · cases h
theorem sem_op {n : Nat} {g : F} {o : Oper} {sm : Sem Value} {R : Value → Heap → Prop} (hs : SemWp P sm H R) (hx : ∀ w v w', sm.run P w = .ok v w' → (execOp (ev n g) o).run P w = .ok (.value v) w') : OpH P n g o H R :=
  OpH.run fun E d => by
    obtain ⟨v, H', d', hr, hk⟩ := hs E d
    exact ⟨v, H', d', hx _ _ _ hr, hk⟩
theorem semU_op {n : Nat} {g : F} {o : Oper} {sm : Sem Unit} {R : Value → Heap → Prop} (hs : SemU P sm H fun H' => R undef H') (hx : ∀ w w', sm.run P w = .ok () w' → (execOp (ev n g) o).run P w = .ok .skip w') : OpH P n g o H R :=
  OpH.skip fun E d => by
    obtain ⟨H', d', hr, hk⟩ := hs E d
    exact ⟨H', d', hx _ _ hr, hk⟩
theorem kBl_ok (hT : TokN T V) (hR : Rel V s π H) {n : Nat} {f : Fr} {g : F} (hf : okF V π s.m f g) {o : Oper} {b : Builtin} {as : Array Operand} {ts : Array TypeId} (hop : o.op = .call { callee := .builtin b, args := as, argTypes := ts })
    (h : kBl P T s b ts.toList (evsS n f as.toList) K = some o') (hs : ∀ r ∈ o', r ∈ outs) : OpH P n g o H (Post V s.m π K outs) := by
  have ea := evsS_ok (V := V) (π := π) (m := s.m) n hf as.toList
  have pair : ∀ {x y : SV}, evsS n f as.toList = [x, y] → ∃ u v, as.map (ev n g) = ⟨[u, v]⟩ ∧ okS V π s.m x u ∧ okS V π s.m y v := by
    intro x y e
    rw [e] at ea
    obtain ⟨c1, cs, e1, k1, c2, cs', rfl, k2, rfl⟩ := ea
    exact ⟨c1, c2, by rw [map_evs, e1], k1, k2⟩
  unfold kBl at h
  split at h
  · split at h
    · rename_i d x hd
      obtain ⟨u, v, e, k1, k2⟩ := pair hd
      exact kR2_ok h hs fun y s' hr => sem_op (apS_ok hR k1 k2 hr (ty := o.type)) fun w v w' hr => by simp [execOp, hop, resolve, invoke, builtin, e, hr]
    · cases h
  · split at h
    · rename_i d x hd
      obtain ⟨u, v, e, k1, k2⟩ := pair hd
      exact kR2_ok h hs fun y s' hr => sem_op (cpS_ok hR k1 k2 hr (ty := o.type)) fun w v w' hr => by simp [execOp, hop, resolve, invoke, builtin, e, hr]
    · cases h
  · split at h
    · rename_i d x hd
      obtain ⟨u, v, e, k1, k2⟩ := pair hd
      exact kR2_ok h hs fun y s' hr => sem_op (deS_ok hT hR k1 k2 hr (ty := o.type)) fun w v w' hr => by simp [execOp, hop, resolve, invoke, builtin, e, hr]
    · cases h
  · split at h
    · rename_i x hd
      rw [hd] at ea
      obtain ⟨u, cs, e, k1, k2⟩ := ea
      rw [show cs = [] from k2] at e
      have e : as.map (ev n g) = ⟨[u]⟩ := by rw [map_evs, e]
      exact kR2_ok h hs fun y s' hr => sem_op (crS_ok hR k1 hr (ty := o.type)) fun w v w' hr => by simp [execOp, hop, resolve, invoke, builtin, e, hr]
    · cases h
  · refine still_ok (P := P) hT hR hf (f := f) (n := n) ?_ hs
    rw [hop]
    exact h
theorem kOp_ok {ro : Option Nat} {rn : Rn} (hK : Kts P) (hT : TokN T V) (hc : CallsOk P V rn.call) (hy : YieldsOk P V rn.yield) (hR : Rel V s π H) {n : Nat} {f : Fr} {g : F} (hf : okF V π s.m f g) {o : Oper} (h : kOp P T rn n f s o.op K = some o') (hs : ∀ r ∈ o', r ∈ outs) :
    OpW ro P n g o H (Post V s.m π K outs) := by
  have E := fun x => evS_ok (V := V) (π := π) (m := s.m) n hf x
  unfold kOp at h
  split at h
  all_goals rename_i ho
  case h_1 t => exact wideH (kR2_ok h hs fun x s' hr => alS_ok hR ho hr) fun c e => by rw [ho] at e; cases e
  case h_2 t x => exact wideH (kR2_ok h hs fun x s' hr => bxS_ok hR hf ho hr) fun c e => by rw [ho] at e; cases e
  case h_3 t len ps => exact wideH (kR2_ok h hs fun x s' hr => bsS_ok hR hf ho hr) fun c e => by rw [ho] at e; cases e
  case h_4 t a x => exact wideH (kR2_ok h hs fun x s' hr => stoS_ok hR hf ho hr) fun c e => by rw [ho] at e; cases e
  case h_5 t =>
    refine wideH (kR2_ok h hs fun x s' hr => OpH.vc ?_) (fun c e => by rw [ho] at e; cases e)
    unfold vcOp
    have hst : isStill P o.op = false := by rw [ho]; rfl
    rw [hst, cond_false, ho]
    intro b H' hn
    exact mmS_ok hR hr hn
  case h_6 t l c => exact wideH (kR2_ok h hs fun x s' hr => sem_op (msS_ok hR (E l) (E c) hr) fun w v w' hr => by simp [execOp, ho, hr]) fun c e => by rw [ho] at e; cases e
  case h_7 t mm k x => exact wideH (kR2_ok h hs fun y s' hr => semU_op (muS_ok hT hR (E mm) (E k) (E x) hr) fun w w' hr => by simp [execOp, ho, hr]) fun c e => by rw [ho] at e; cases e
  case h_8 t mm k x => exact wideH (kR2_ok h hs fun y s' hr => semU_op (muS_ok hT hR (E mm) (E k) (E x) hr) fun w w' hr => by simp [execOp, ho, hr]) fun c e => by rw [ho] at e; cases e
  case h_9 c =>
    obtain ⟨callee, args, argTypes⟩ := c
    unfold kCall at h
    split at h
    · rename_i b hb
      simp only at hb
      subst hb
      exact wideH (kBl_ok hT hR hf ho h hs) fun c e => by rw [ho] at e; cases e
    · rename_i x hb
      simp only at hb
      subst hb
      exact kCallV_ok hc hy hR hf ho h hs
    · cases h
  case h_10 t x => exact wideH (kR2_ok h hs fun y s' hr => sem_op (rgS_ok hR (E x) hr) fun w v w' hr => by simp [execOp, ho, hr]) fun c e => by rw [ho] at e; cases e
  case h_11 it isS =>
    obtain ⟨l, h1, h2⟩ := kOuts_out h
    refine wideH (OpH.mono (sem_op (nxS_ok hK hR (E it) h1 (ty := o.type)) fun w v w' hr => by simp [execOp, ho, hr]) fun v H' hv => ?_) fun c e => by rw [ho] at e; cases e
    obtain ⟨r, hr, hn⟩ := hv
    obtain ⟨y, h3, h4⟩ := h2 r hr
    exact post_nx (fun z hz => hs z (h4 z hz)) h3 hn
  case h_12 it => exact wideH (kR2_ok h hs fun y s' hr => sem_op (enS_ok hK hR (E it) hr) fun w v w' hr => by simp [execOp, ho, hr]) fun c e => by rw [ho] at e; cases e
  case h_13 u t x =>
    unfold kCv at h
    split at h
    · rename_i y hy
      obtain ⟨r, h3, h4⟩ := cvS_ok (P := P) hT (E x) hy
      exact wideH (OpH.run fun E d => ⟨r, H, d, by simp [execOp, ho, h4], y, s, π, Nat.le_refl _, Ext.refl _ _, hR, h3, o', h, hs⟩) fun c e => by rw [ho] at e; cases e
    · exact wideH (kR2_ok h hs fun y s' hr => sem_op (cbS_ok hR (E x) hr) fun w v w' hr => by simp [execOp, ho, hr]) fun c e => by rw [ho] at e; cases e
  case h_14 => exact wideH (still_ok hT hR hf h hs) fun c e => by rw [e] at h; cases h
end
variable {Df : List Deferred}
def chkS (ops : List Oper) : Sched → Nat → Bool
  | .done, m => doneC ops m
  | .quiet i r, m => match ops[i]? with
    | none => false
    | some o => bif quietB ops m i o then (bif r.isMain then chkS ops r (mrk m i) else false) else false
  | .pick r, m => bif pickC ops m r then chkS ops r m else false
  | .alt i r r', m => bif mainC r then (bif chkS ops r (mrk m i) then (bif r'.isStop then true else chkS ops r' m) else false) else false
  | .stop, _ => true
def Wn (ops : List Oper) (n : Nat) (f : F) (o : Oper) (b : Bool) : Prop := Region.wanted o (yielded ops.toArray (mkA [] n f).tmps) = b
def gR (ro : Option Nat) (P : Program) (n : Nat) (ops : List Oper) (bef : List Nat) (K : F → Heap → Prop) : Sched → Pend → F → Heap → Prop
  | .done, _, f, H => K f H
  | .quiet i s, D, f, H => match ops[i]? with
    | none => False
    | some o => (Wn ops n f o true ∧ ∃ v Φ, Φ H ∧ (∀ w : World, Φ w.heap → (execOp (ev n f) o).run P w = .ok (.value v) w) ∧ gR ro P n ops bef K s ((i, Φ) :: D) (updO f o.dst v) H) ∨
        (Wn ops n f o false ∧ gR ro P n ops bef K s D (updO f o.dst undef) H)
  | .pick s, D, f, H => gR ro P n ops bef K s D f H
  | .alt i s r, D, f, H => match ops[i]? with
    | none => False
    | some o => ((Wn ops n f o true ∧ OpW ro P n f o H fun v H' => (∀ x ∈ keepP bef i D, x.2 H') ∧ gR ro P n ops bef K s (keepP bef i D) (updO f o.dst v) H') ∨
        (Wn ops n f o false ∧ gR ro P n ops bef K s (keepP bef i D) (updO f o.dst undef) H)) ∧ (r.isStop = false → gR ro P n ops bef K r D f H)
  | .stop, _, _, _ => False
theorem gR_sound {ro : Option Nat} {P : Program} {n : Nat} {ops : List Oper} {bef : List Nat} {K : F → Heap → Prop} {E : Env} {Q : Act → World → Prop} (hQ : ∀ f H d, K f H → Q (mkA Df n f) (mkW E H d)) (hb : befOk ops bef = true) (hsel : Region.noSelect ops.toArray = true)
    (hnd : ∀ (i : Nat) (o : Oper), ops.toArray[i]? = some o → ∀ c, o.op ≠ .defer c) :
    ∀ (s : Sched), (∀ (m : Nat) (D : Pend) (listed : Array Bool) (fuel : Nat) (f : F) (H : Heap) (d : Dr E), gR ro P n ops bef K s D f H → chkS ops s m = true → s.isMain = true → GV.Told ops m listed → Closed (befF bef) listed → s.depth ≤ fuel → (∀ x ∈ D, x.2 H) →
        wpGI ro P .any ops.toArray (fun e a w => e = .normal ∧ Q a w) (befF bef) fuel listed (pwP D) (mkA Df n f) (mkW E H d)) ∧
      (∀ (m : Nat) (D : Pend) (listed : Array Bool) (fuel : Nat) (f : F) (H : Heap) (d : Dr E), gR ro P n ops bef K s D f H → chkS ops s m = true → GV.Told ops m listed → Closed (befF bef) listed → s.depth ≤ fuel + 1 → (∀ x ∈ D, x.2 H) →
        ∀ i ∈ s.alts, i ∈ Region.ready .any ops.toArray listed → wpOpIn (WideF ro) 0 P ops.toArray (fun e a w => e = .normal ∧ Q a w) i
          (fun a' w' => allW (keepW (befF bef) i (pwP D)) w' ∧ wpGI ro P .any ops.toArray (fun e a w => e = .normal ∧ Q a w) (befF bef) fuel (listed.setIfInBounds i true) (keepW (befF bef) i (pwP D)) a' w') (mkA Df n f) (mkW E H d)) := by
  have hB := befOk_of hb
  intro s
  induction s with
  | done =>
    refine ⟨fun m D listed fuel f H d h hch _ ht hc _ hD => ?_, fun m D listed fuel f H d h hch ht hc _ hD i hi => by simp [Sched.alts] at hi⟩
    have hr : doneC ops m = true := hch
    have hnil : Region.ready .any ops.toArray listed = [] := by
      cases hl : Region.ready .any ops.toArray listed with
      | nil => rfl
      | cons x l => have := ready_in ht hr x (by rw [hl]; simp); simp at this
    cases fuel with
    | zero => exact ⟨hnil, rfl, hQ _ _ _ h⟩
    | succ fuel => exact ⟨fun _ => ⟨rfl, hQ _ _ _ h⟩, by rw [hnil]; simp⟩
  | quiet i s ih =>
    refine ⟨fun m D listed fuel f H d h hch _ ht hc hfu hD => ?_, fun m D listed fuel f H d h hch ht hc _ hD i hi => by simp [Sched.alts] at hi⟩
    unfold gR at h
    unfold chkS at hch
    split at h
    · exact h.elim
    · rename_i o hi
      rw [hi] at hch
      dsimp only at hch
      cases hq : quietB ops m i o with
      | false => rw [hq] at hch; cases hch
      | true =>
      cases hmain : s.isMain with
      | false => rw [hq, hmain] at hch; cases hch
      | true =>
      rw [hq, hmain] at hch
      simp only [cond_true] at hch
      have hil : i < ops.length := (List.getElem?_eq_some_iff.1 hi).1
      have hr := quiet_ready ht hi hq
      cases fuel with
      | zero => simp [Sched.depth] at hfu
      | succ fuel =>
        have hfu' : s.depth ≤ fuel := by simp [Sched.depth] at hfu; exact hfu
        have hi' : ops.toArray[i]? = some o := by simpa using hi
        have hcl' := hc.set hB hr
        rcases h with ⟨hw, v, Φ, hF, hrun, h⟩ | ⟨hw, h⟩
        · have hy : YieldsIf P ops.toArray (fun w => Φ w.heap) o v (mkA Df n f) := .inl ⟨hw, fun w hw => by rw [eval_fun]; exact hrun w hw⟩
          refine wpGI_first hnd hi' (Region.noSelect_spec hsel) (fun c a w hp => by cases hp.1) hB fuel listed (pwP D) (mkA Df n f) (mkW E H d) (quiet_free ht hq) hc hr hy hF (allW_pw.2 hD) ?_
          rw [put_mkA]
          refine ih.1 _ ((i, Φ) :: D) _ _ _ _ d h hch hmain (ht.set hil) hcl' hfu' fun x hx => ?_
          rcases List.mem_cons.1 hx with rfl | hx
          · exact hF
          · exact hD x hx
        · have hy : YieldsIf P ops.toArray (fun _ => True) o undef (mkA Df n f) := .inr ⟨hw, rfl⟩
          refine wpGI_first hnd hi' (Region.noSelect_spec hsel) (fun c a w hp => by cases hp.1) hB fuel listed (pwP D) (mkA Df n f) (mkW E H d) (quiet_free ht hq) hc hr hy trivial (allW_pw.2 hD) ?_
          rw [put_mkA]
          exact wpGI_true _ _ _ _ _ (ih.1 _ _ _ _ _ _ d h hch hmain (ht.set hil) hcl' hfu' hD)
  | pick s ih =>
    refine ⟨fun m D listed fuel f H d h hch _ ht hc hfu hD => ?_, fun m D listed fuel f H d h hch ht hc _ hD i hi => by simp [Sched.alts] at hi⟩
    unfold gR at h
    unfold chkS at hch
    cases hr : pickC ops m s with
    | false => rw [hr] at hch; cases hch
    | true =>
    rw [hr] at hch
    simp only [cond_true] at hch
    simp only [pickC, Bool.and_eq_true] at hr
    obtain ⟨hr, ha⟩ := hr
    have hne : Region.ready .any ops.toArray listed ≠ [] := by
      cases hal : s.alts with
      | nil => rw [hal] at ha; cases ha
      | cons i l =>
        rw [hal] at ha
        simp only [altsOk] at ha
        split at ha
        · rename_i o ho
          simp only [Bool.and_eq_true, Bool.not_eq_true'] at ha
          intro hnil
          have hil : i < ops.length := (List.getElem?_eq_some_iff.1 ho).1
          have : i ∈ Region.ready .any ops.toArray listed := by
            refine mem_ready.2 ⟨by rw [ht.getD hil]; exact ha.1, o, by simpa using ho, fun e he hbi => ?_⟩
            have h1 := ha.2
            unfold waitsOk at h1
            rw [List.all_eq_true] at h1
            have := h1 e (by simpa using he)
            rw [hbi] at this
            have hbt : bitB m e.on = true := by simpa using this
            rw [ht.getD (ht.lt _ hbt)]
            exact hbt
          rw [hnil] at this
          cases this
        · cases ha
    have hdep : s.depth ≤ fuel := hfu
    cases fuel with
    | zero =>
      exfalso
      cases s with
      | alt i s r =>
        simp only [Sched.depth] at hdep
        cases hbb : Nat.ble (s.depth + 1) r.depth with
        | true => rw [hbb] at hdep; have := Nat.le_of_ble_eq_true hbb; simp only [cond_true] at hdep; omega
        | false => rw [hbb] at hdep; simp only [cond_false] at hdep; omega
      | _ => simp [Sched.alts, altsOk] at ha
    | succ fuel =>
      refine ⟨fun h0 => absurd h0 hne, fun i hi => ?_⟩
      exact ih.2 m D listed fuel f H d h hch ht hc hdep hD i (ready_in ht hr i hi) hi
  | alt i s r ih ihr =>
    refine ⟨fun m D listed fuel f H d h hch hm => by simp [Sched.isMain] at hm, fun m D listed fuel f H d h hch ht hc hfu hD k hk hkr => ?_⟩
    unfold gR at h
    unfold chkS at hch
    cases hmain : mainC s with
    | false => rw [hmain] at hch; cases hch
    | true =>
    cases hcs : chkS ops s (mrk m i) with
    | false => rw [hmain, hcs] at hch; cases hch
    | true =>
    rw [hmain, hcs] at hch
    simp only [cond_true] at hch
    split at h
    · exact h.elim
    · rename_i o hi
      have hdep : s.depth ≤ fuel ∧ r.depth ≤ fuel + 1 := by
        simp only [Sched.depth] at hfu
        cases hbb : Nat.ble (s.depth + 1) r.depth with
        | true => rw [hbb] at hfu; have := Nat.le_of_ble_eq_true hbb; simp only [cond_true] at hfu; omega
        | false =>
          rw [hbb] at hfu
          simp only [cond_false] at hfu
          have : ¬ s.depth + 1 ≤ r.depth := fun hle => by rw [Nat.ble_eq_true_of_le hle] at hbb; cases hbb
          omega
      by_cases hki : k = i
      · subst hki
        have hil : k < ops.length := (List.getElem?_eq_some_iff.1 hi).1
        have hcl' := hc.set hB hkr
        rw [keep_pw]
        unfold wpOpIn
        have hi' : ops.toArray[k]? = some o := by simpa using hi
        simp only [hi']
        have hDk : ∀ x ∈ keepP bef k D, x ∈ D := by
          have aux : ∀ D : Pend, ∀ x ∈ keepP bef k D, x ∈ D := by
            intro D
            induction D with
            | nil => intro x hx; simp [keepP] at hx
            | cons y D ihD =>
              obtain ⟨yi, yF⟩ := y
              intro x hx
              simp only [keepP] at hx
              cases hbb : bitB (bef.getD k 0) yi with
              | true => rw [hbb] at hx; exact List.mem_cons_of_mem _ (ihD x hx)
              | false =>
                rw [hbb] at hx
                rcases List.mem_cons.1 hx with rfl | hx
                · exact List.mem_cons_self ..
                · exact List.mem_cons_of_mem _ (ihD x hx)
          exact aux D
        rcases h.1 with ⟨hw, h⟩ | ⟨hw, h⟩
        · have hw' : Region.wanted o (yielded ops.toArray (mkA Df n f).tmps) = true := hw
          rw [if_pos hw']
          refine h Df E _ _ (fun v H' d' hall => ?_) d
          exact ⟨allW_pw.2 hall.1, ih.1 _ _ _ _ _ _ d' hall.2 hcs hmain (ht.set hil) hcl' hdep.1 hall.1⟩
        · have hw' : Region.wanted o (yielded ops.toArray (mkA Df n f).tmps) = false := hw
          rw [if_neg (by rw [hw']; simp), put_mkA]
          exact ⟨fun _ _ => trivial, allW_pw.2 fun x hx => hD x (hDk x hx), ih.1 _ _ _ _ _ _ d h hcs hmain (ht.set hil) hcl' hdep.1 fun x hx => hD x (hDk x hx)⟩
      · have hk' : k ∈ r.alts := by
          simp only [Sched.alts, List.mem_cons] at hk
          rcases hk with h | h
          · exact absurd h hki
          · exact h
        have hns : r.isStop = false := by cases r <;> first | rfl | simp [Sched.alts] at hk'
        rw [hns] at hch
        exact ihr.2 m D listed fuel f H d (h.2 hns) hch ht hc hdep.2 hD k hk' hkr
  | stop => exact ⟨fun m D listed fuel f H d h => h.elim, fun m D listed fuel f H d h => h.elim⟩
theorem gReg_sound {ro : Option Nat} {P : Program} {n : Nat} {ops : List Oper} {bef : List Nat} {s : Sched} {K : F → Heap → Prop} {E : Env} {Q : Exit → Act → World → Prop} {id : Nat} (hm : P.follows .mixedOrders = true) (hQ : ∀ f H d, K f H → Q .normal (mkA Df n f) (mkW E H d))
    (hB : regB ops bef s = true) (hC : chkS ops s 0 = true) (hND : noDefB ops = true) {f : F} {H : Heap} (h : gR ro P n ops bef K s [] f H) (d : Dr E) : (Code.region id ops.toArray true).wpIn (WideF ro) 0 P Q (mkA Df n f) (mkW E H d) := by
  simp only [regB, Bool.and_eq_true] at hB
  obtain ⟨⟨⟨hb, hsel⟩, hdep⟩, hmain⟩ := hB
  refine Code.wpIn_mono (Q := fun e a w => e = .normal ∧ Q .normal a w) (fun e a w hq => by obtain ⟨rfl, hq⟩ := hq; exact hq) ?_
  have hT : GV.Told ops 0 (Array.replicate ops.toArray.size false) := by
    refine ⟨by simp, fun i hi => ?_, fun i hi => by simp [bitB_eq] at hi⟩
    have : i < ops.toArray.size := by simpa using hi
    simp [bitB_eq, hi]
  have hCl : Closed (befF bef) (Array.replicate ops.toArray.size false) := by
    intro x hx
    rw [Array.getD_eq_getD_getElem?, Array.getElem?_replicate] at hx
    split at hx <;> simp at hx
  exact wpIn_region_any hm (wpAny_of_GI (bef := befF bef) _ _ [] _ _
    ((gR_sound (Q := fun a w => Q .normal a w) hQ hb hsel (fun i o h c => noDef_of hND i o (by simpa using h) c) s).1 0 [] _ ops.toArray.size f H (up d) h hC hmain hT hCl (by simpa using Nat.le_of_ble_eq_true hdep) (by simp)))
end Go.SX
