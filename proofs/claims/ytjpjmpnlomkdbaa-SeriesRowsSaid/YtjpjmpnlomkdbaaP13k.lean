/- A part of a proof: see the last text of this claim. -/
import Derived.Test.YtjpjmpnlomkdbaaP13j
set_option linter.unusedVariables false
set_option maxRecDepth 100000
open Go Go.GV
namespace Go.Proofs

/-- One row more. -/
theorem Grp.put {H H' H'' : Heap} {base r ck : Nat} {L : List (Ent Int)} {G : Int → List Smp} {id : Int} {a' : Option Addr} {n' c' : Nat} {x : Smp} {S : List Nat} (h : Grp H base r L G)
    (hf : Fr S H H') (hS : ∀ a n c, getL id L = some (.slice a n c) → S = blkL a) (hS0 : getL id L = none → S = []) (ho : Own encS 26 base H' a' n' c' (G id ++ [x])) (hr : r < H.size)
    (hg : Grow H S (blkL a')) (hf2 : Fr [r] H' H'') : Grp H'' base r (putL id (.slice a' n' c') ck L) (fun j => if j = id then G id ++ [x] else G j) := by
  have hra : r ∉ blkL a' := fun hk => by
    rcases hg r hk with h1 | h1
    · cases hl : getL id L with
      | none => rw [hS0 hl] at h1; cases h1
      | some v =>
        obtain ⟨a, n, c, rfl, _, _, h4⟩ := h.ent id v hl
        rw [hS a n c hl] at h1; exact h4 h1
    · omega
  have dS : ∀ j a n c, j ≠ id → getL j L = some (.slice a n c) → Dj (blkL a) S := fun j a n c hj hl => by
    cases hl' : getL id L with
    | none => rw [hS0 hl']; exact fun _ _ => by simp
    | some v =>
      obtain ⟨a2, n2, c2, rfl, _, _, _⟩ := h.ent id v hl'
      rw [hS a2 n2 c2 hl']; exact h.dj j id a n c a2 n2 c2 hj hl hl'
  have dA : ∀ j a n c, j ≠ id → getL j L = some (.slice a n c) → Dj (blkL a) (blkL a') := fun j a n c hj hl k hk hk' => by
    rcases hg k hk' with h1 | h1
    · exact dS j a n c hj hl k hk h1
    · obtain ⟨_, _, _, e, h2, _⟩ := h.ent j _ hl
      cases e
      have := h2.bIn k hk; omega
  refine ⟨fun j v hj => ?_, fun j j' a n c a2 n2 c2 hne hj hj' => ?_, fun j hj => ?_⟩
  · rw [getL_putL] at hj
    by_cases e : j = id
    · subst e
      rw [if_pos rfl] at hj
      cases hj
      rw [if_pos rfl]
      exact ⟨_, _, _, rfl, own_fr ho hf2 (fun k hk hk' => by simp at hk'; subst hk'; exact hra hk), by simp, hra⟩
    · rw [if_neg e] at hj
      rw [if_neg e]
      obtain ⟨a, n, c, rfl, h2, h3, h4⟩ := h.ent j v hj
      exact ⟨a, n, c, rfl, own_fr (own_fr h2 hf (dS j a n c e hj)) hf2 (fun k hk hk' => by simp at hk'; subst hk'; exact h4 hk), h3, h4⟩
  · rw [getL_putL] at hj hj'
    by_cases e : j = id
    · subst e
      rw [if_pos rfl] at hj
      cases hj
      rw [if_neg (fun e => hne e.symm)] at hj'
      exact (dA j' a2 n2 c2 (fun e => hne e.symm) hj').symm
    · rw [if_neg e] at hj
      by_cases e' : j' = id
      · subst e'
        rw [if_pos rfl] at hj'
        cases hj'
        exact dA j a n c e hj
      · rw [if_neg e'] at hj'
        exact h.dj j j' a n c a2 n2 c2 hne hj hj'
  · rw [getL_putL] at hj
    by_cases e : j = id
    · rw [if_pos e] at hj; cases hj
    · rw [if_neg e] at hj
      rw [if_neg e]; exact h.no j hj
theorem Grp.ext {H : Heap} {base r : Nat} {L : List (Ent Int)} {G G' : Int → List Smp} (h : Grp H base r L G) (e : ∀ j, G j = G' j) : Grp H base r L G' := by
  have : G = G' := funext e
  subst this; exact h
theorem Grp.keep {H H' : Heap} {base r : Nat} {L : List (Ent Int)} {G : Int → List Smp} (h : Grp H base r L G) (hf : Fr [] H H') : Grp H' base r L G :=
  ⟨fun id v hv => by obtain ⟨a, n, c, e, h2, h3, h4⟩ := h.ent id v hv; exact ⟨a, n, c, e, h2.keep hf, h3, h4⟩, h.dj, h.no⟩

/-- Where the entries lie. -/
def adL (L : List (Ent Int)) (id : Int) : Option Addr := match getL id L with | some (.slice a _ _) => a | _ => none
theorem adL_of {L : List (Ent Int)} {id : Int} {a : Option Addr} {n c : Nat} (h : getL id L = some (.slice a n c)) : adL L id = a := by unfold adL; rw [h]

/-- How far the groups are sorted. -/
structure Mor (H : Heap) (base r it ck : Nat) (L : List (Ent Int)) (G : Int → List Smp) (seen : Array Nat) (o : Option Addr) (l c : Nat) (ms : List Sr) (ss : List Srs) : Prop where
  map : MapR MT H r ck L
  itr : H[it]? = some (.mapIter (some r) ck seen ck)
  un : ∀ e ∈ L, e.2.2 ∉ seen → ∃ n c, e.2.1 = .slice (adL L e.1) n c ∧ Own encS 26 base H (adL L e.1) n c (G e.1)
  msr : All2 (fun m s => m.1 = s.1 ∧ m.2.1 = adL L m.1 ∧ Own encS 26 base H m.2.1 m.2.2.1 m.2.2.2 s.2 ∧ FinP (G m.1) s.2) ms ss
  key : ∀ id, (∃ m ∈ ms, m.1 = id) ↔ ∃ e ∈ L, e.1 = id ∧ e.2.2 ∈ seen
  nd : (ms.map (·.1)).Nodup
  mo : Own encSr 68 base H o l c ms
  od : ∀ e ∈ L, Dj (blkL o) (blkL (adL L e.1))
  dj : ∀ e ∈ L, ∀ e' ∈ L, e.1 ≠ e'.1 → Dj (blkL (adL L e.1)) (blkL (adL L e'.1))
  ro : r ∉ blkL o ∧ it ∉ blkL o ∧ r ≠ it
  ra : ∀ e ∈ L, r ∉ blkL (adL L e.1) ∧ it ∉ blkL (adL L e.1)
  ne : ∀ e ∈ L, G e.1 ≠ []
theorem Mor.start {H H' : Heap} {base r it ck : Nat} {L : List (Ent Int)} {G : Int → List Smp} (h : Grp H base r L G) (hm : MapR MT H r ck L) (hn : New H it (.mapIter (some r) ck #[] ck) H') : Mor H' base r it ck L G #[] none 0 0 [] [] := by
  have hi := hn.eq
  have hg : ∀ e ∈ L, ∃ a n c, e.2.1 = .slice a n c ∧ getL e.1 L = some (.slice a n c) ∧ Own encS 26 base H a n c (G e.1) ∧ G e.1 ≠ [] ∧ r ∉ blkL a := fun e he => by
    have h1 := getL_mem hm.wf (k := e.1) (v := e.2.1) (b := e.2.2) he
    obtain ⟨a, n, c, e1, h2, h3, h4⟩ := h.ent _ _ h1
    exact ⟨a, n, c, e1, by rw [← e1]; exact h1, h2, h3, h4⟩
  refine ⟨hm.keep MT hn.fr, hn.get, fun e he _ => ?_, .nil, fun id => by simp, by simp, Own.nil _ _ _ _, fun e _ k hk => by simp [blkL] at hk, fun e he e' he' hne => ?_, ⟨by simp [blkL], by simp [blkL], by have := hm.lt; omega⟩, fun e he => ?_, fun e he => ?_⟩
  · obtain ⟨a, n, c, e1, e2, h2, _⟩ := hg e he
    rw [adL_of e2]
    exact ⟨n, c, e1, h2.keep hn.fr⟩
  · obtain ⟨a, n, c, _, e2, _⟩ := hg e he
    obtain ⟨a', n', c', _, e2', _⟩ := hg e' he'
    rw [adL_of e2, adL_of e2']
    exact h.dj _ _ _ _ _ _ _ _ hne e2 e2'
  · obtain ⟨a, n, c, _, e2, h2, _, h4⟩ := hg e he
    rw [adL_of e2]
    exact ⟨h4, fun hk => by have := h2.bIn it hk; omega⟩
  · obtain ⟨a, n, c, _, e2, h2, h3, h4⟩ := hg e he
    exact h3

theorem Mor.step {H H1 H4 H5 H6 : Heap} {base r it ck : Nat} {L : List (Ent Int)} {G : Int → List Smp} {seen : Array Nat} {o : Option Addr} {l c : Nat} {ms : List Sr} {ss : List Srs} {e : Ent Int} {n' c' : Nat} {f : List Smp} {o' : Option Addr} {l' d' : Nat}
    (h : Mor H base r it ck L G seen o l c ms ss) (he : e ∈ L) (hns : e.2.2 ∉ seen) (hi : H1[it]? = some (.mapIter (some r) ck (seen.push e.2.2) ck)) (hf1 : Fr [it] H H1) (hf2 : Fr (blkL (adL L e.1)) H1 H4)
    (ho4 : Own encS 26 base H4 (adL L e.1) n' c' f) (hF : FinP (G e.1) f) (hf5 : Fr [] H4 H5) (ho6 : Own encSr 68 base H6 o' l' d' (ms ++ [(e.1, (adL L e.1, n', c'))])) (hf6 : Fr (blkL o) H5 H6) (hg : Grow H5 (blkL o) (blkL o')) :
    Mor H6 base r it ck L G (seen.push e.2.2) o' l' d' (ms ++ [(e.1, (adL L e.1, n', c'))]) (ss ++ [(e.1, f)]) := by
  have hw := h.map.wf
  have s1 := hf1.size
  have s2 := hf2.size
  have s5 := hf5.size
  have hit : it < H.size := lt_of_get h.itr
  have hr : r < H.size := h.map.lt
  have r1 : r ∉ blkL (adL L e.1) := (h.ra e he).1
  have i1 : it ∉ blkL (adL L e.1) := (h.ra e he).2
  -- what is elsewhere stays
  have own : ∀ {a : Option Addr} {p q : Nat} {xs : List Smp}, Own encS 26 base H a p q xs → it ∉ blkL a → Dj (blkL a) (blkL (adL L e.1)) → Dj (blkL o) (blkL a) → Own encS 26 base H6 a p q xs := fun ho h1 h2 h3 =>
    own_fr ((own_fr (own_fr ho hf1 (fun k hk hk' => by simp at hk'; subst hk'; exact h1 hk)) hf2 h2).keep hf5) hf6 h3.symm
  have hdiff : ∀ e' ∈ L, e'.2.2 ≠ e.2.2 → e'.1 ≠ e.1 := fun e' he' hne hk => hne (by rw [ent_key hw he' he hk])
  have hgl : ∀ {T : List Nat}, Dj (blkL o) T → (∀ k ∈ T, k < H5.size) → Dj (blkL o') T := fun hd hT k hk hk' => by
    rcases hg k hk with h1 | h1
    · exact hd k h1 hk'
    · have := hT k hk'; omega
  refine ⟨((h.map.fr MT hf1 (by simp; exact h.ro.2.2)).fr MT hf2 r1 |>.keep MT hf5).fr MT hf6 h.ro.1, ?_, fun e' he' hns' => ?_, ?_, fun id => ?_, ?_, ho6, fun e' he' => ?_, h.dj, ⟨?_, ?_, h.ro.2.2⟩, h.ra, h.ne⟩
  · exact hf6.get (hf5.get0 (hf2.get hi i1)) h.ro.2.1
  · have hne : e'.2.2 ≠ e.2.2 := fun hk => hns' (by rw [hk]; simp)
    have hns2 : e'.2.2 ∉ seen := fun hk => hns' (by simp [hk])
    obtain ⟨n, c, e1, h2⟩ := h.un e' he' hns2
    exact ⟨n, c, e1, own h2 (h.ra e' he').2 (h.dj e' he' e he (hdiff e' he' hne)) (h.od e' he')⟩
  · refine (h.msr.mono fun m s hm hs hR => ?_).app (.cons ⟨rfl, rfl, own_fr (ho4.keep hf5) hf6 (h.od e he).symm, hF⟩ .nil)
    obtain ⟨g1, g2, g3, g4⟩ := hR
    obtain ⟨e', he', hk, hs'⟩ := (h.key m.1).1 ⟨m, hm, rfl⟩
    have hne : e'.1 ≠ e.1 := fun hk' => hns (by rw [← ent_key hw he' he hk']; exact hs')
    refine ⟨g1, g2, own g3 ?_ ?_ ?_, g4⟩
    · rw [g2, ← hk]; exact (h.ra e' he').2
    · rw [g2, ← hk]; exact h.dj e' he' e he hne
    · rw [g2, ← hk]; exact h.od e' he'
  · constructor
    · rintro ⟨m, hm, rfl⟩
      rcases List.mem_append.1 hm with hm | hm
      · obtain ⟨e', he', hk, hs'⟩ := (h.key m.1).1 ⟨m, hm, rfl⟩
        exact ⟨e', he', hk, by simp [hs']⟩
      · simp at hm; subst hm
        exact ⟨e, he, rfl, by simp⟩
    · rintro ⟨e', he', rfl, hs'⟩
      by_cases hk : e'.2.2 = e.2.2
      · have := ent_born hw he' he hk
        subst this
        exact ⟨_, List.mem_append_right _ (List.mem_singleton.2 rfl), rfl⟩
      · have hs2 : e'.2.2 ∈ seen := by simpa [hk] using hs'
        obtain ⟨m, hm, hk'⟩ := (h.key e'.1).2 ⟨e', he', rfl, hs2⟩
        exact ⟨m, List.mem_append_left _ hm, hk'⟩
  · rw [List.map_append, List.nodup_append]
    refine ⟨h.nd, by simp, fun a ha b hb hab => ?_⟩
    simp at hb
    subst hb
    obtain ⟨m, hm, hk⟩ := List.mem_map.1 ha
    obtain ⟨e', he', hk', hs'⟩ := (h.key m.1).1 ⟨m, hm, rfl⟩
    exact hns (by rw [← ent_key hw he' he (by rw [hk', hk, hab])]; exact hs')
  · refine hgl (h.od e' he') fun k hk => ?_
    by_cases hs' : e'.2.2 ∈ seen
    · obtain ⟨m, hm, hk'⟩ := (h.key e'.1).2 ⟨e', he', rfl, hs'⟩
      obtain ⟨s, _, g1, g2, g3, _⟩ := h.msr.mem hm
      rw [← hk', ← g2] at hk
      have := g3.bIn k hk; omega
    · obtain ⟨_, _, _, h2⟩ := h.un e' he' hs'
      have := h2.bIn k hk; omega
  · intro hk
    rcases hg r hk with h1 | h1
    · exact h.ro.1 h1
    · omega
  · intro hk
    rcases hg it hk with h1 | h1
    · exact h.ro.2.1 h1
    · omega
end Go.Proofs
