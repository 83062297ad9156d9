/- Who sends next, told by keys: the same whether one looks at flows, at copies of flows, or at slots. -/
import Derived.Test.YteojodcdehkejaaMA9
set_option linter.unusedVariables false
namespace Go.Proofs.Yteojodcdehkejaa
open Go Go.RowKit
/-- of a row of keys with deficit, quantum and first size: k sends next -/
inductive NT : List (Nat × Int × Int × Int) → Bool → Nat → Prop
  | here {k : Nat} {df qt sz : Int} {rest : List (Nat × Int × Int × Int)} {t : Bool} (h : sz ≤ df + (if t then 0 else qt)) : NT ((k, df, qt, sz) :: rest) t k
  | step {k k' : Nat} {df qt sz : Int} {rest : List (Nat × Int × Int × Int)} {t : Bool} (h : df + (if t then 0 else qt) < sz) (n : NT (rest ++ [(k, df + (if t then 0 else qt), qt, sz)]) false k') : NT ((k, df, qt, sz) :: rest) t k'
theorem NT.det {l : List (Nat × Int × Int × Int)} {t : Bool} {k k' : Nat} (h : NT l t k) (h' : NT l t k') : k = k' := by
  induction h with
  | here h =>
    cases h' with
    | here _ => rfl
    | step h2 _ => omega
  | step h _ ih =>
    cases h' with
    | here h2 => omega
    | step _ n2 => exact ih n2
theorem NT.key (ψ : Nat → Nat) {l : List (Nat × Int × Int × Int)} {t : Bool} {k : Nat} (h : NT l t k) : NT (l.map fun e => (ψ e.1, e.2)) t (ψ k) := by
  induction h with
  | here h => exact NT.here h
  | step h _ ih =>
    refine NT.step h ?_
    simpa using ih
theorem NT.mem {l : List (Nat × Int × Int × Int)} {t : Bool} {k : Nat} (h : NT l t k) : k ∈ l.map (·.1) := by
  induction h with
  | here h => simp
  | step h _ ih =>
    simp only [List.map_append, List.map_cons, List.map_nil, List.mem_append, List.mem_cons, List.not_mem_nil, or_false] at ih ⊢
    exact ih.symm
def tlOf (fl : List Fl) (j : Nat) : Nat × Int × Int × Int := match fl[j]? with
  | some f => (j, f.df, f.qt, f.sz)
  | none => (j, 0, 0, 0)
theorem tlOf_some {fl : List Fl} {j : Nat} {f : Fl} (h : fl[j]? = some f) : tlOf fl j = (j, f.df, f.qt, f.sz) := by simp [tlOf, h]
theorem tlOf_set {fl : List Fl} {i j : Nat} (g : Fl) (h : j ≠ i) : tlOf (fl.set i g) j = tlOf fl j := by
  unfold tlOf
  rw [List.getElem?_set_ne (Ne.symm h)]
theorem nt_turns {fl : List Fl} {ri : List Nat} {t : Bool} {fl' : List Fl} {ri' : List Nat} {t' : Bool} (k : Turns fl ri t fl' ri' t') :
    ∀ {i : Nat} {rest : List Nat} {f : Fl}, ri' = i :: rest → ri.Nodup → fl'[i]? = some f → f.sz ≤ f.df + (if t' then 0 else f.qt) → NT (ri.map (tlOf fl)) t i := by
  induction k with
  | refl fl ri t =>
    intro i rest f e _ hf hs
    subst e
    rw [List.map_cons, tlOf_some hf]
    exact NT.here hs
  | @step fl i0 rest0 t f0 fl' ri' t' hf h _ ih =>
    intro i rest f e hn hff hs
    have hn' := List.nodup_cons.1 hn
    have hi := ih e (by
      rw [List.nodup_append]
      exact ⟨hn'.2, by simp, fun a ha b hb hab => by simp at hb; subst hb; subst hab; exact hn'.1 ha⟩) hff hs
    rw [List.map_cons, tlOf_some hf]
    refine NT.step h ?_
    rw [List.map_append, List.map_cons, List.map_nil, tlOf_some (List.getElem?_set_self (some_lt hf)), Fl.add_sz] at hi
    have e3 : rest0.map (tlOf (fl.set i0 (f0.add (if t then 0 else f0.qt)))) = rest0.map (tlOf fl) := List.map_congr_left fun j hj => tlOf_set _ (fun e2 => hn'.1 (by rw [← e2]; exact hj))
    rw [e3] at hi
    exact hi
def slOf (Q : Nat → Int) (L : Nat → List P6) (df : Nat → Int) (s : Nat) : Nat × Int × Int × Int := (s, df s, Q s, szOf (L s))
theorem nt_mt {Q : Nat → Int} {L : Nat → List P6} {df : Nat → Int} {r : List Nat} {t : Bool} {df' : Nat → Int} {r' : List Nat} {t' : Bool} (k : MT Q L df r t df' r' t') :
    ∀ {s : Nat} {rest : List Nat}, r' = s :: rest → r.Nodup → szOf (L s) ≤ df' s + (if t' then 0 else Q s) → NT (r.map (slOf Q L df)) t s := by
  induction k with
  | refl df r t =>
    intro s rest e _ hs
    subst e
    exact NT.here hs
  | @step df s0 rest0 t df' r' t' h _ ih =>
    intro s rest e hn hs
    have hn' := List.nodup_cons.1 hn
    have hi := ih e (by
      rw [List.nodup_append]
      exact ⟨hn'.2, by simp, fun a ha b hb hab => by simp at hb; subst hb; subst hab; exact hn'.1 ha⟩) hs
    rw [List.map_cons]
    refine NT.step h ?_
    rw [List.map_append, List.map_cons, List.map_nil] at hi
    have e1 : slOf Q L (upd df s0 (df s0 + (if t then 0 else Q s0))) s0 = (s0, df s0 + (if t then 0 else Q s0), Q s0, szOf (L s0)) := by unfold slOf; rw [upd_self]
    have e3 : rest0.map (slOf Q L (upd df s0 (df s0 + (if t then 0 else Q s0)))) = rest0.map (slOf Q L df) := List.map_congr_left fun j hj => by
      unfold slOf
      rw [upd_ne df _ (show j ≠ s0 from fun e2 => hn'.1 (by rw [← e2]; exact hj))]
    rw [e1, e3] at hi
    exact hi
theorem NextS.nt {x : Wd} {N : Nat} (h : Wf x N) {df1 : Nat → Int} {s : Nat} {rest : List Nat} {t1 : Bool} {p : P6} {qs : List P6} (k : NextS x df1 s rest t1 p qs) : NT (x.ring.map (slOf x.Q x.L x.df)) x.turn s :=
  nt_mt k.mt rfl h.nd (by rw [k.q]; exact k.en)
/-- from the numbers of flows to slots -/
theorem nt_slot {x : Wd} {N : Nat} (h : Wf x N) {j : Nat} (k : NT ((x.ring.map x.idx).map (tlOf x.dr.fl)) x.turn j) : ∃ s, s ∈ x.ring ∧ x.idx s = j ∧ NT (x.ring.map (slOf x.Q x.L x.df)) x.turn s := by
  have hm := k.mem
  rw [List.map_map, List.map_map] at hm
  obtain ⟨s, hs, hsj⟩ := List.mem_map.1 hm
  have hs4 := h.lt hs
  have e1 : ∀ s, s ∈ x.ring → tlOf x.dr.fl (x.idx s) = (x.idx s, x.df s, x.Q s, szOf (x.L s)) := fun s hs => by
    rw [tlOf_some (h.at_ (h.lt hs)), Fl.sz_of]; rfl
  have hsj2 : x.idx s = j := by
    have : (tlOf x.dr.fl (x.idx s)).1 = j := hsj
    rw [e1 s hs] at this; exact this
  refine ⟨s, hs, hsj2, ?_⟩
  have k2 := k.key (fun i => x.sl.getD i 0)
  rw [List.map_map, List.map_map] at k2
  have e2 : x.sl.getD j 0 = s := by rw [← hsj2, List.getD_eq_getElem?_getD, h.sl_at hs4]; rfl
  rw [e2] at k2
  rw [List.map_congr_left (g := slOf x.Q x.L x.df) (fun u hu => by
    show ((x.sl.getD (tlOf x.dr.fl (x.idx u)).1 0, (tlOf x.dr.fl (x.idx u)).2) : Nat × Int × Int × Int) = _
    rw [e1 u hu]
    show (x.sl.getD (x.idx u) 0, _) = _
    rw [List.getD_eq_getElem?_getD, h.sl_at (h.lt hu)]; rfl)] at k2
  exact k2
end Go.Proofs.Yteojodcdehkejaa
/- Copies of the flows of a ring, in plain terms. -/
namespace Go.Proofs.Yteojodcdehkejaa
open Go Go.RowKit
/-- cfl are copies of the ring's flows -/
def Cp (fl : List Fl) (ri : List Nat) (cfl : List Fl) : Prop := ∀ (k : Nat) (c : Fl), cfl[k]? = some c → ∃ (i : Nat) (f : Fl), ri[k]? = some i ∧ fl[i]? = some f ∧ c = { f with b := c.b }
theorem filterMap_range {α : Type} : ∀ (l : List α), (List.range l.length).filterMap (fun i => l[i]?) = l
  | [] => rfl
  | a :: l => by
    rw [List.length_cons, List.range_succ_eq_map]
    simp only [List.filterMap_cons, List.getElem?_cons_zero, List.filterMap_map]
    have := filterMap_range l
    congr 1
theorem perm_pick {α : Type} (l : List α) (is : List Nat) (hn : is.Nodup) (hl : ∀ i, i ∈ is → i < l.length) : ∃ rest, l.Perm (is.filterMap (fun i => l[i]?) ++ rest) := by
  refine ⟨((List.range l.length).filter (fun i => !decide (i ∈ is))).filterMap (fun i => l[i]?), ?_⟩
  have h1 : (List.range l.length).Perm ((List.range l.length).filter (fun i => decide (i ∈ is)) ++ (List.range l.length).filter (fun i => !decide (i ∈ is))) := (List.filter_append_perm _ _).symm
  have h2 : ((List.range l.length).filter (fun i => decide (i ∈ is))).Perm is := by
    refine (List.perm_ext_iff_of_nodup (List.nodup_range.sublist List.filter_sublist) hn).2 fun i => ?_
    simp only [List.mem_filter, List.mem_range, decide_eq_true_iff]
    exact ⟨fun h => h.2, fun h => ⟨hl i h, h⟩⟩
  have h3 := (h1.trans (h2.append_right _)).filterMap (fun i => l[i]?)
  rw [filterMap_range, List.filterMap_append] at h3
  exact h3
section
variable {fl cfl : List Fl} {ri : List Nat}
theorem Cp.at_ (h : Cp fl ri cfl) (hl : cfl.length = ri.length) {k i : Nat} (hi : ri[k]? = some i) : ∃ c f, cfl[k]? = some c ∧ fl[i]? = some f ∧ c = { f with b := c.b } := by
  have hk := some_lt hi
  obtain ⟨c, hc⟩ : ∃ c, cfl[k]? = some c := ⟨cfl[k]'(by omega), by simp⟩
  obtain ⟨i', f, h1, h2, h3⟩ := h k c hc
  rw [hi] at h1; cases h1
  exact ⟨c, f, hc, h2, h3⟩
theorem Cp.q_perm (h : Cp fl ri cfl) (hl : cfl.length = ri.length) (hn : ri.Nodup) : ∃ rq, (fl.map CQ).Perm (cfl.map CQ ++ rq) := by
  have hlt : ∀ i, i ∈ ri → i < (fl.map CQ).length := fun i hi => by
    obtain ⟨k, hk⟩ := List.getElem?_of_mem hi
    obtain ⟨c, f, _, hf, _⟩ := h.at_ hl hk
    have := some_lt hf
    simpa using this
  obtain ⟨rq, hp⟩ := perm_pick (fl.map CQ) ri hn hlt
  refine ⟨rq, ?_⟩
  have e : ri.filterMap (fun i => (fl.map CQ)[i]?) = cfl.map CQ := by
    rw [← List.map_id (ri.filterMap _)]
    clear hp hn
    induction ri generalizing cfl with
    | nil => cases cfl with
      | nil => rfl
      | cons a l => simp at hl
    | cons i ri ih =>
      cases cfl with
      | nil => simp at hl
      | cons c cfl =>
        obtain ⟨c', f, h1, h2, h3⟩ := h.at_ hl (k := 0) (i := i) rfl
        simp at h1
        subst h1
        have e1 : CQ c = CQ f := by rw [h3]; rfl
        have h' : Cp fl ri cfl := fun k c' hc => h (k + 1) c' (by simpa using hc)
        have := ih h' (by simpa using hl) (fun i hi => hlt i (by simp [hi]))
        simp only [List.filterMap_cons, List.getElem?_map, h2, Option.map_some, List.map_cons, List.map_id, id, e1] at this ⊢
        rw [this]
  rw [e] at hp
  exact hp
theorem Cp.fine (h : Cp fl ri cfl) (hl : cfl.length = ri.length) (hf : FineAt fl ri) : FineAt cfl (List.range cfl.length) := fun k hk => by
  have hk' : k < cfl.length := by simpa using hk
  obtain ⟨i, hi⟩ : ∃ i, ri[k]? = some i := ⟨ri[k]'(by omega), by simp⟩
  obtain ⟨c, f, h1, h2, h3⟩ := h.at_ hl hi
  obtain ⟨f', hf', hF⟩ := hf i (List.mem_of_getElem? hi)
  rw [h2] at hf'; cases hf'
  refine ⟨c, h1, ?_⟩
  rw [h3]
  exact ⟨hF.q, hF.q1, hF.q2, hF.d1, hF.d3, hF.s2⟩
theorem Cp.nt (h : Cp fl ri cfl) (hl : cfl.length = ri.length) {t : Bool} {k : Nat} (n : NT ((List.range cfl.length).map (tlOf cfl)) t k) : ∃ j c f, ri[k]? = some j ∧ cfl[k]? = some c ∧ fl[j]? = some f ∧ c = { f with b := c.b } ∧ NT (ri.map (tlOf fl)) t j := by
  have hm := n.mem
  have hk : k < cfl.length := by
    rw [List.map_map] at hm
    obtain ⟨k', h1, h2⟩ := List.mem_map.1 hm
    have h1' : k' < cfl.length := by simpa using h1
    have : (tlOf cfl k').1 = k' := by unfold tlOf; split <;> rfl
    have h2' : (tlOf cfl k').1 = k := h2
    omega
  obtain ⟨j, hj⟩ : ∃ j, ri[k]? = some j := ⟨ri[k]'(by omega), by simp⟩
  obtain ⟨c, f, h1, h2, h3⟩ := h.at_ hl hj
  refine ⟨j, c, f, hj, h1, h2, h3, ?_⟩
  have n2 := n.key (fun i => ri.getD i 0)
  have e1 : ri.getD k 0 = j := by rw [List.getD_eq_getElem?_getD, hj]; rfl
  rw [e1] at n2
  have e2 : ((List.range cfl.length).map (tlOf cfl)).map (fun e => ((ri.getD e.1 0, e.2) : Nat × Int × Int × Int)) = ri.map (tlOf fl) := by
    refine List.ext_getElem? fun m => ?_
    rw [List.getElem?_map, List.getElem?_map, List.getElem?_map]
    by_cases hm : m < cfl.length
    · obtain ⟨i, hi⟩ : ∃ i, ri[m]? = some i := ⟨ri[m]'(by omega), by simp⟩
      obtain ⟨c', f', g1, g2, g3⟩ := h.at_ hl hi
      rw [List.getElem?_range hm, hi]
      simp only [Option.map_some]
      rw [tlOf_some g1, tlOf_some g2]
      simp only [List.getD_eq_getElem?_getD, hi, Option.getD_some]
      rw [g3]; rfl
    · rw [List.getElem?_eq_none (by simpa using hm), List.getElem?_eq_none (by omega)]; rfl
  rw [e2] at n2
  exact n2
end
theorem blocksOf_range (cfl : List Fl) : blocksOf cfl (List.range cfl.length) = cfl.map (·.b) := by
  unfold blocksOf
  refine List.ext_getElem? fun m => ?_
  rw [List.getElem?_map, List.getElem?_map]
  by_cases hm : m < cfl.length
  · rw [List.getElem?_range hm]; simp [hm]
  · rw [List.getElem?_eq_none (by simpa using hm), List.getElem?_eq_none (by omega)]; rfl
end Go.Proofs.Yteojodcdehkejaa
