/- A part of a proof: see the last text of this claim. -/
import Derived.Test.YtgjbljhocedpfaaP10u
set_option linter.unusedVariables false
set_option maxRecDepth 100000
open Go Go.GV
namespace Go.Proofs

/-! a disk that was never cut -/
structure DkOk (m : Dk) : Prop where
  off : m.off = false
  left : m.left = 0
  keep : 0 ≤ m.keep ∧ m.keep < 18446744073709551616
theorem last_fine {m : Dk} (h : DkOk m) : lastM m = ({ m with calls := m.calls + 1 }, false) := by
  unfold lastM
  rw [if_pos (by rw [h.left]; decide), h.left]
  have : (if (0 : Int) > 0 - 1 then (0 : Int) else 0 - 1) = 0 := by decide
  rw [this, ← h.left]
theorem write_fine {m : Dk} (h : DkOk m) {i : Int} {s : ByteArray} (h1 : 0 ≤ i) (h2 : i < m.size) (h3 : s.size ≤ 64) : writeM m i s = ({ m with wait := setW m.wait i (m.wait i ++ [s]), calls := m.calls + 1 }, 0) := by
  unfold writeM
  have ho := h.off
  rw [if_neg (by simp [ho]), if_neg (by omega)]
  have := last_fine (m := { m with wait := setW m.wait i (m.wait i ++ [s]) }) ⟨h.off, h.left, h.keep⟩
  simp only [this]
  rfl
theorem flush_fine {m : Dk} (h : DkOk m) : flushM m = (settleM (fun _ n => n) { m with calls := m.calls + 1 }, 0) := by
  unfold flushM
  have ho := h.off
  rw [if_neg (by simp [ho]), last_fine h]
  rfl
theorem lay_fine : ∀ (l : List (Int × ByteArray)) (m : Dk), DkOk m → (∀ p ∈ l, 0 ≤ p.1 ∧ p.1 < m.size ∧ p.2.size ≤ 64) → (layM m l).2 = 0 ∧ DkOk (layM m l).1 ∧ (layM m l).1.calls = m.calls + l.length + 1
  | [], m, h, _ => by
    unfold layM
    rw [flush_fine h]
    exact ⟨rfl, ⟨h.off, h.left, h.keep⟩, by simp [settleM]⟩
  | p :: l, m, h, hp => by
    have h0 := hp p (by simp)
    unfold layM
    rw [write_fine h h0.1 h0.2.1 h0.2.2]
    simp only [ne_eq, not_true_eq_false, if_false]
    have := lay_fine l { m with wait := setW m.wait p.1 (m.wait p.1 ++ [p.2]), calls := m.calls + 1 } ⟨h.off, h.left, h.keep⟩ fun q hq => hp q (by simp [hq])
    refine ⟨this.1, this.2.1, ?_⟩
    rw [this.2.2]
    simp only [List.length_cons]
    omega

/-! what a plan takes -/
theorem chunks_small {s c : ByteArray} (h : c ∈ chunksS s) : c.size ≤ 64 := by
  unfold chunksS chunkB at h
  simp only [List.mem_map, List.mem_range] at h
  obtain ⟨l, ⟨i, hi, rfl⟩, rfl⟩ := h
  rw [mk_size, List.length_drop, List.length_take]
  omega
def TkS (t : Tk) : Prop := ∀ p ∈ t.puts, p.2.size ≤ 64
theorem TkS.take {t : Tk} {c : ByteArray} (h : TkS t) (hc : c.size ≤ 64) : TkS (takeM t c).1 := by
  unfold takeM
  split
  · exact h
  · intro p hp
    rcases List.mem_append.1 hp with hp | hp
    · exact h p hp
    · rw [List.mem_singleton.1 hp]; exact hc
theorem TkS.takes : ∀ {l : List ByteArray} {t : Tk}, TkS t → (∀ c ∈ l, c.size ≤ 64) → TkS (takesM l t).1
  | [], _, h, _ => h
  | c :: l, t, h, hc => TkS.takes (l := l) (h.take (hc c (by simp))) fun x hx => hc x (by simp [hx])
theorem TkS.file {old : List ByteArray} {ws : List Int} : ∀ {l : List ByteArray} {j : Nat} {t : Tk}, TkS t → (∀ c ∈ l, c.size ≤ 64) → TkS (fileM old ws l j t).1
  | [], _, _, h, _ => h
  | c :: l, j, t, h, hc => by
    refine TkS.file (l := l) ?_ fun x hx => hc x (by simp [hx])
    split
    · exact h
    · exact h.take (hc c (by simp))
theorem TkS.files {last : ByteArray → Option (ByteArray × List Int)} {now : ByteArray → Option ByteArray} : ∀ {l : List ByteArray} {t : Tk}, TkS t → TkS (filesM last now l t).1
  | [], _, h => h
  | c :: l, t, h => TkS.files (l := l) (h.file fun x hx => chunks_small hx)
theorem filesM_fits {last : ByteArray → Option (ByteArray × List Int)} {now : ByteArray → Option ByteArray} : ∀ {l : List ByteArray} {t : Tk}, (filesM last now l t).1.fits = true → t.fits = true
  | [], _, h => h
  | c :: l, t, h => fileM_fits (filesM_fits (l := l) h)
/-- What is taken was free. -/
theorem takesM_mem : ∀ {l : List ByteArray} {t : Tk}, (takesM l t).1.fits = true → (∀ z ∈ (takesM l t).2, z ∈ t.free) ∧ ∀ z ∈ (takesM l t).1.free, z ∈ t.free
  | [], _, h => ⟨by simp [takesM], fun z hz => hz⟩
  | c :: l, t, h => by
    have h1 := takesM_mem (l := l) h
    obtain ⟨_, x, r, h2, h3⟩ := takeM_fits (takesM_fits (l := l) h)
    rw [h3] at h1
    simp only [takesM, h3, h2]
    refine ⟨fun z hz => ?_, fun z hz => ?_⟩
    · rcases List.mem_cons.1 hz with e | e
      · simp [e]
      · simp [h1.1 z e]
    · simp [h1.2 z hz]
theorem fileM_mem {old : List ByteArray} {ws : List Int} : ∀ {l : List ByteArray} {j : Nat} {t : Tk}, ws.length = old.length → (fileM old ws l j t).1.fits = true → (∀ z ∈ (fileM old ws l j t).2, z ∈ t.free ∨ z ∈ ws) ∧ ∀ z ∈ (fileM old ws l j t).1.free, z ∈ t.free
  | [], _, _, _, h => ⟨by simp [fileM], fun z hz => hz⟩
  | c :: l, j, t, hw, h => by
    have h1 := fileM_mem (l := l) hw h
    have h2 := fileM_fits (l := l) h
    simp only [fileM]
    split
    · rename_i hc
      rw [if_pos hc] at h1
      have hj : j < ws.length := by rw [hw]; exact (List.getElem?_eq_some_iff.1 hc).1
      refine ⟨fun z hz => ?_, h1.2⟩
      rcases List.mem_cons.1 hz with e | e
      · rw [e]; right; simp [List.getD, hj]
      · exact h1.1 z e
    · rename_i hc
      rw [if_neg hc] at h1 h2
      obtain ⟨_, x, r, h3, h4⟩ := takeM_fits h2
      rw [h4] at h1 ⊢
      rw [h3]
      refine ⟨fun z hz => ?_, fun z hz => by simp [h1.2 z hz]⟩
      rcases List.mem_cons.1 hz with e | e
      · simp [e]
      · exact (h1.1 z e).imp (fun h => by simp [h]) id
def LastOk (last : ByteArray → Option (ByteArray × List Int)) : Prop := ∀ nm d xs, last nm = some (d, xs) → xs.length = nCh d.size
theorem filesM_mem {last : ByteArray → Option (ByteArray × List Int)} {now : ByteArray → Option ByteArray} (hl : LastOk last) : ∀ {l : List ByteArray} {t : Tk}, (filesM last now l t).1.fits = true →
    (∀ f ∈ (filesM last now l t).2, ∀ z ∈ f.2.2, z ∈ t.free ∨ lastS last [] z) ∧ ∀ z ∈ (filesM last now l t).1.free, z ∈ t.free
  | [], _, h => ⟨by simp [filesM], fun z hz => hz⟩
  | y :: l, t, h => by
    have h1 := filesM_mem hl (l := l) h
    have h2 := filesM_fits (l := l) h
    have hw : (((last y).getD (⟨#[]⟩, [])).2).length = (chunksS ((last y).getD (⟨#[]⟩, [])).1).length := by
      rw [chunksS_len]
      cases hy : last y with
      | none => rfl
      | some v => exact hl y v.1 v.2 hy
    have h3 := fileM_mem hw h2
    simp only [filesM]
    refine ⟨fun f hf z hz => ?_, fun z hz => h3.2 z (h1.2 z hz)⟩
    rcases List.mem_cons.1 hf with e | e
    · subst e
      refine (h3.1 z hz).imp id fun hz => ?_
      cases hy : last y with
      | none => rw [hy] at hz; simp at hz
      | some v => rw [hy] at hz; exact .inr ⟨y, v.1, v.2, hy, hz⟩
    · exact (h1.1 f e z hz).imp (fun h => h3.2 z h) id
theorem filesM_names {last : ByteArray → Option (ByteArray × List Int)} {now : ByteArray → Option ByteArray} : ∀ (l : List ByteArray) (t : Tk), (filesM last now l t).2.map (·.1) = l
  | [], _ => rfl
  | y :: l, t => by simp only [filesM, List.map_cons]; rw [filesM_names l]
theorem filesM_data {last : ByteArray → Option (ByteArray × List Int)} {now : ByteArray → Option ByteArray} : ∀ {l : List ByteArray} {t : Tk}, ∀ f ∈ (filesM last now l t).2, f.2.1 = (now f.1).getD ⟨#[]⟩ ∧ f.2.2.length = nCh f.2.1.size
  | [], _, f, h => by simp [filesM] at h
  | y :: l, t, f, h => by
    simp only [filesM] at h
    rcases List.mem_cons.1 h with e | e
    · subst e
      refine ⟨rfl, ?_⟩
      show (fileM _ _ _ _ _).2.length = _
      rw [fileM_len, chunksS_len]
    · exact filesM_data (l := l) f e
theorem lastOf_nil : lastOf [] = fun _ => none := rfl
theorem lastOf_mem : ∀ (fs : List (ByteArray × ByteArray × List Int)), (fs.map (·.1)).Nodup → ∀ y v, lastOf fs y = some v ↔ (y, v) ∈ fs := by
  intro fs hnd y v
  have key : ∀ (fs : List (ByteArray × ByteArray × List Int)) (g : ByteArray → Option (ByteArray × List Int)), (fs.map (·.1)).Nodup → (∀ x ∈ fs, g x.1 = none) → (fs.foldl (fun f x => putF f x.1 x.2) g y = some v ↔ (y, v) ∈ fs ∨ g y = some v) := by
    intro fs
    induction fs with
    | nil => intro g _ _; simp
    | cons x l ih =>
      intro g hn hg
      rw [List.map_cons, List.nodup_cons] at hn
      simp only [List.foldl_cons]
      rw [ih _ hn.2 fun z hz => by
        unfold putF
        rw [if_neg (fun e => hn.1 (by rw [← e]; exact List.mem_map_of_mem hz))]
        exact hg z (by simp [hz])]
      have hgx := hg x (by simp)
      unfold putF
      constructor
      · rintro (h | h)
        · exact .inl (by simp [h])
        · split at h
          · rename_i e; cases h; exact .inl (by rw [e]; simp)
          · exact .inr h
      · rintro (h | h)
        · rcases List.mem_cons.1 h with e | e
          · right; rw [← e]; simp
          · exact .inl e
        · right
          rw [if_neg (fun e => by rw [e, hgx] at h; cases h)]
          exact h
  have := key fs (fun _ => none) hnd (fun _ _ => rfl)
  simpa [lastOf] using this

/-! the same files again: nothing is taken for them -/
theorem fileM_same {old : List ByteArray} {ws : List Int} (hw : ws.length = old.length) (t : Tk) : ∀ (k j : Nat), old.length = j + k → fileM old ws (old.drop j) j t = (t, ws.drop j)
  | 0, j, h => by
    rw [List.drop_of_length_le (by omega), List.drop_of_length_le (by omega)]; rfl
  | k + 1, j, h => by
    have hj : j < old.length := by omega
    have hj' : j < ws.length := by omega
    rw [List.drop_eq_getElem_cons hj, fileM, if_pos (by simp)]
    rw [fileM_same hw t k (j + 1) (by omega), List.drop_eq_getElem_cons hj']
    simp [List.getD, hj']
theorem filesM_same {last last' : ByteArray → Option (ByteArray × List Int)} {now : ByteArray → Option ByteArray} (t' : Tk) : ∀ (ys : List ByteArray) (t : Tk), (∀ f ∈ (filesM last now ys t).2, last' f.1 = some f.2) → filesM last' now ys t' = (t', (filesM last now ys t).2)
  | [], t, _ => rfl
  | y :: ys, t, h => by
    have hd := filesM_data (last := last) (now := now) (l := y :: ys) (t := t)
    simp only [filesM] at h hd ⊢
    have h0 := h _ List.mem_cons_self
    have hd0 := hd _ List.mem_cons_self
    simp only at h0 hd0
    rw [h0]
    simp only [Option.getD_some]
    have hs := fileM_same (old := chunksS ((now y).getD ⟨#[]⟩)) (ws := (fileM (chunksS ((last y).getD (⟨#[]⟩, [])).1) ((last y).getD (⟨#[]⟩, [])).2 (chunksS ((now y).getD ⟨#[]⟩)) 0 t).2) (by rw [hd0.2, chunksS_len]) t' (chunksS ((now y).getD ⟨#[]⟩)).length 0 (by simp)
    rw [List.drop_zero, List.drop_zero] at hs
    rw [hs]
    simp only
    rw [filesM_same t' ys _ fun f hf => h f (List.mem_cons_of_mem _ hf)]

/-! room -/
theorem takesM_room : ∀ (l : List ByteArray) (t : Tk), t.fits = true → l.length ≤ t.free.length → (takesM l t).1.fits = true ∧ (takesM l t).1.free.length = t.free.length - l.length
  | [], t, h, _ => ⟨h, by simp [takesM]⟩
  | c :: l, t, h, hl => by
    have : takeM t c = ({ t with free := t.free.drop 1, puts := t.puts ++ [(t.free.headD 0, c)], need := t.need + 1 }, t.free.headD 0) := by
      unfold takeM
      cases hf : t.free with
      | nil => rw [hf] at hl; simp at hl
      | cons x r => rfl
    simp only [takesM, this]
    have hr := takesM_room l { t with free := t.free.drop 1, puts := t.puts ++ [(t.free.headD 0, c)], need := t.need + 1 } h (by simp at hl ⊢; omega)
    refine ⟨hr.1, ?_⟩
    rw [hr.2]
    simp only [List.length_drop, List.length_cons]
    omega
theorem fileM_room {old : List ByteArray} {ws : List Int} : ∀ (l : List ByteArray) (j : Nat) (t : Tk), t.fits = true → l.length ≤ t.free.length → (fileM old ws l j t).1.fits = true ∧ t.free.length - l.length ≤ (fileM old ws l j t).1.free.length
  | [], j, t, h, _ => ⟨h, by simp [fileM]⟩
  | c :: l, j, t, h, hl => by
    have hlc : (c :: l).length = l.length + 1 := rfl
    have ht : takeM t c = ({ t with free := t.free.drop 1, puts := t.puts ++ [(t.free.headD 0, c)], need := t.need + 1 }, t.free.headD 0) := by
      unfold takeM
      cases hf : t.free with
      | nil => rw [hf] at hl; simp at hl
      | cons x r => rfl
    simp only [fileM]
    split
    · have hr := fileM_room (old := old) (ws := ws) l (j + 1) t h (by omega)
      exact ⟨hr.1, Nat.le_trans (by omega) hr.2⟩
    · rw [ht]
      have hr := fileM_room (old := old) (ws := ws) l (j + 1) { t with free := t.free.drop 1, puts := t.puts ++ [(t.free.headD 0, c)], need := t.need + 1 } h (by simp; omega)
      refine ⟨hr.1, Nat.le_trans ?_ hr.2⟩
      simp only [List.length_drop]
      omega
theorem freeN_room {T : Int → Prop} {n : Nat} {L : List Int} (h : ∀ k, T k → k ∈ L) : n - 2 ≤ (freeN T n).length + L.length := by
  have hn : ((List.range n).filter fun k : Nat => decide (2 ≤ k)).map (fun k : Nat => (k : Int)) |>.Nodup := by
    rw [List.nodup_iff_pairwise_ne, List.pairwise_map]
    refine ((List.nodup_iff_pairwise_ne.1 List.nodup_range).filter _).imp fun h e => h (by omega)
  have hl : (((List.range n).filter fun k : Nat => decide (2 ≤ k)).map (fun k : Nat => (k : Int))).length = n - 2 := by
    rw [List.length_map]
    induction n with
    | zero => rfl
    | succ n ih =>
      rw [List.range_succ, List.filter_append, List.length_append, ih (by
        rw [List.nodup_iff_pairwise_ne, List.pairwise_map]
        exact ((List.nodup_iff_pairwise_ne.1 List.nodup_range).filter _).imp fun h e => h (by omega))]
      by_cases h2 : 2 ≤ n
      · simp [h2]; omega
      · simp [h2]; omega
  have := nodup_sub _ (freeN T n ++ L) hn fun x hx => by
    simp only [List.mem_map, List.mem_filter, List.mem_range, decide_eq_true_eq] at hx
    obtain ⟨k, ⟨h1, h2⟩, rfl⟩ := hx
    by_cases hT : T (k : Int)
    · exact List.mem_append_right _ (h _ hT)
    · exact List.mem_append_left _ (freeN_mem.2 ⟨by omega, by omega, hT⟩)
  rw [hl, List.length_append] at this
  exact this
theorem freeN_count {T : Int → Prop} {n : Nat} {L : List Int} (hn : L.Nodup) (h : ∀ k, k ∈ L ↔ T k) (hr : ∀ k, T k → 2 ≤ k ∧ k < n) : (freeN T n).length + L.length = n - 2 := by
  have h1 := freeN_room (T := T) (n := n) (L := L) fun k hk => (h k).2 hk
  have h2 := nodup_512 (n := n - 2) (l := (freeN T n ++ L).map (· - 2)) (by
    rw [List.nodup_iff_pairwise_ne, List.pairwise_map]
    have hnd : (freeN T n ++ L).Nodup := by
      rw [List.nodup_append]
      refine ⟨freeN_nodup T n, hn, fun a ha b hb e => ?_⟩
      subst e
      exact (freeN_mem.1 ha).2.2 ((h a).1 hb)
    exact (List.nodup_iff_pairwise_ne.1 hnd).imp fun h e => h (by omega)) fun x hx => by
      simp only [List.mem_map, List.mem_append] at hx
      obtain ⟨y, hy, rfl⟩ := hx
      rcases hy with hy | hy
      · have := freeN_mem.1 hy; omega
      · have := hr y ((h y).1 hy); omega
  simp only [List.length_map, List.length_append] at h2
  omega
end Go.Proofs
