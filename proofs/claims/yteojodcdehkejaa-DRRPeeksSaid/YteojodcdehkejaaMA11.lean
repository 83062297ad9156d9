/- A []Move that came in, opened. -/
import Derived.Test.YteojodcdehkejaaChecked
import Derived.Test.YteojodcdehkejaaMA1
import Derived.OpenShut
import Derived.ChangeOld
import Derived.WideShapes
import Derived.Test.YteojodcdehkejaaMA10
set_option linter.unusedVariables false
namespace Go.Proofs.Yteojodcdehkejaa
open Go Go.RowKit

/-- a slice of moves, wherever it lies -/
def MoveRow (w : World) (ao : Option Addr) (len : Nat) : Prop :=
  ∀ i, i < len → ∃ b off, ∃ k o n : Int, ao = some ⟨b, off, none⟩ ∧ w.cell? ⟨b, off + i * 3, none⟩ = some (.int .i64 k) ∧ w.cell? ⟨b, off + (i * 3 + 1), none⟩ = some (.int .i64 o) ∧
    w.cell? ⟨b, off + (i * 3 + 2), none⟩ = some (.int .i64 n)
theorem mcell_lit {w : World} {a : Addr} {v : Value} (h : w.cell? (a.add 0) = some v) : ∃ b off, a = ⟨b, off, none⟩ := by
  obtain ⟨b, off, sp⟩ := a
  cases sp with
  | none => exact ⟨b, off, rfl⟩
  | some s =>
    simp only [Addr.add, if_true, World.cell?] at h
    cases hb : w.heap[b]? with
    | none => simp [hb] at h
    | some o => cases o <;> simp [hb] at h
section
variable {H : Type} {enc : TypeId × Value → H} {w : World} {base fuel : Nat} {spare : Nat → Bool} {held : Bool}
set_option maxRecDepth 100000 in
theorem open_move {cs : List Value} {y : DataW H × List MemPlace} (h : DataW.trod enc Try.prog w base spare held fuel 45 cs = some y) :
    ∃ k o n : Int, cs = [.int .i64 k, .int .i64 o, .int .i64 n] := by
  obtain ⟨xs, m, _, _, hl, hxl, hf⟩ := DataW.trod_struct Try.underlying45 h
  have hc4 : Try.prog.cellsOf 45 = 3 := by kernel_rfl
  have hc1 : Try.prog.cellsOf 3 = 1 := by kernel_rfl
  rw [hc4] at hl
  match cs, hl with
  | [c0, c1, c2], _ =>
    simp at hxl
    have f0 : DataW.trod enc Try.prog w base spare held m 3 (List.take (Try.prog.cellsOf 3) [c0, c1, c2]) = xs[0]? := hf 0 _ rfl
    rw [hc1] at f0
    replace f0 : DataW.trod enc Try.prog w base spare held m 3 [c0] = xs[0]? := f0
    have f1 : DataW.trod enc Try.prog w base spare held m 3 (List.take (Try.prog.cellsOf 3) [c1, c2]) = xs[1]? := hf 1 _ rfl
    rw [hc1] at f1
    replace f1 : DataW.trod enc Try.prog w base spare held m 3 [c1] = xs[1]? := f1
    have f2 : DataW.trod enc Try.prog w base spare held m 3 (List.take (Try.prog.cellsOf 3) [c2]) = xs[2]? := hf 2 _ rfl
    rw [hc1] at f2
    replace f2 : DataW.trod enc Try.prog w base spare held m 3 [c2] = xs[2]? := f2
    rw [List.getElem?_eq_getElem (by omega)] at f0 f1 f2
    obtain ⟨k, e0, _⟩ := DataW.trod_int Try.underlying3 f0
    obtain ⟨o, e1, _⟩ := DataW.trod_int Try.underlying3 f1
    obtain ⟨n, e2, _⟩ := DataW.trod_int Try.underlying3 f2
    simp at e0 e1 e2
    subst e0 e1 e2
    exact ⟨k, o, n, rfl⟩
set_option maxRecDepth 100000 in
theorem open_moves {cs : List Value} {y : DataW H × List MemPlace} (h : DataW.trod enc Try.prog w base spare held fuel 41 cs = some y) :
    ∃ a len cap, cs = [.slice a len cap] ∧ len ≤ maxLen ∧ MoveRow w a len := by
  have hc4 : Try.prog.cellsOf 45 = 3 := by kernel_rfl
  rcases DataW.trod_slice Try.underlying41 h with ⟨h0, _⟩ | ⟨a, len, cap, elems, rest, n, _, rfl, _, hb, hl, hm, hlen, hel, _, _⟩
  · exact ⟨_, _, _, h0, by unfold maxLen; omega, fun i hi => by omega⟩
  · have each : ∀ i, i < len → ∃ k o n : Int, w.cell? (a.add (i * 3)) = some (.int .i64 k) ∧ w.cell? (a.add (i * 3 + 1)) = some (.int .i64 o) ∧ w.cell? (a.add (i * 3 + 2)) = some (.int .i64 n) := fun i hi => by
      have he := hel i hi
      rw [hc4, List.getElem?_eq_getElem (by omega)] at he
      simp only [Option.bind_eq_some_iff] at he
      obtain ⟨cs, h1, h2⟩ := he
      obtain ⟨_, _, h3⟩ := World.cells?_some h1
      obtain ⟨k, o, n, rfl⟩ := open_move h2
      have g0 := h3 0 (by omega)
      have g1 := h3 1 (by omega)
      have g2 := h3 2 (by omega)
      rw [Addr.add_add] at g0 g1 g2
      exact ⟨k, o, n, g0, g1, g2⟩
    refine ⟨_, _, _, rfl, by omega, fun i hi => ?_⟩
    obtain ⟨k0, _, _, h0, _⟩ := each 0 (by omega)
    obtain ⟨b, off, rfl⟩ := mcell_lit (by simpa using h0)
    obtain ⟨k, o, n, h1, h2, h3⟩ := each i hi
    simp only [Addr.add_lit] at h1 h2 h3
    exact ⟨b, off, k, o, n, rfl, h1, h2, h3⟩
end
theorem okWide_arr {P : Program} {w : World} {r : Reach} {base : Nat} {t : TypeId} {v : Value} {n : Nat} {e : TypeId} (ht : P.underlying t = some (.array n e)) (h : Value.okWide P w r base t v) : ∃ cs, v = .agg cs ∧ cs.size = P.cellsOf t := by
  unfold Value.okWide at h
  simp only [ht] at h
  obtain ⟨cs, hv, hs, _⟩ := h
  exact ⟨cs, hv, hs⟩
set_option maxRecDepth 100000 in
theorem open_arr4 {H : Type} {enc : TypeId × Value → H} {w : World} {base fuel b0 : Nat} {spare : Nat → Bool} {held : Bool} {r : Reach} {v : Value} {y : DataW H × List MemPlace} (hv : Value.okWide Try.prog w r b0 40 v)
    (h : DataW.trod enc Try.prog w base spare held fuel 40 v.cells.toList = some y) : ∃ x0 x1 x2 x3 : Int, v = .agg #[.int .i64 x0, .int .i64 x1, .int .i64 x2, .int .i64 x3] := by
  obtain ⟨cs, rfl, hs⟩ := okWide_arr Try.underlying40 hv
  have hc4 : Try.prog.cellsOf 40 = 4 := by kernel_rfl
  have hc1 : Try.prog.cellsOf 3 = 1 := by kernel_rfl
  rw [hc4] at hs
  obtain ⟨xs, m, _, _, hl, hxl, hf⟩ := DataW.trod_array Try.underlying40 h
  obtain ⟨l⟩ := cs
  simp only [Value.cells] at hf hl
  simp at hs
  match l, hs with
  | [c0, c1, c2, c3], _ =>
    have f0 := hf 0 (by omega)
    have f1 := hf 1 (by omega)
    have f2 := hf 2 (by omega)
    have f3 := hf 3 (by omega)
    rw [hc1] at f0 f1 f2 f3
    rw [List.getElem?_eq_getElem (by omega)] at f0 f1 f2 f3
    replace f0 : DataW.trod enc Try.prog w base spare held m 3 [c0] = some _ := f0
    replace f1 : DataW.trod enc Try.prog w base spare held m 3 [c1] = some _ := f1
    replace f2 : DataW.trod enc Try.prog w base spare held m 3 [c2] = some _ := f2
    replace f3 : DataW.trod enc Try.prog w base spare held m 3 [c3] = some _ := f3
    obtain ⟨k, e0, _⟩ := DataW.trod_int Try.underlying3 f0
    obtain ⟨o, e1, _⟩ := DataW.trod_int Try.underlying3 f1
    obtain ⟨n, e2, _⟩ := DataW.trod_int Try.underlying3 f2
    obtain ⟨u, e3, _⟩ := DataW.trod_int Try.underlying3 f3
    simp at e0 e1 e2 e3
    subst e0 e1 e2 e3
    exact ⟨k, o, n, u, rfl⟩
end Go.Proofs.Yteojodcdehkejaa
/- What the laws of turns by moves share. -/
namespace Go.Proofs.Yteojodcdehkejaa
open Go Go.RowKit
attribute [local go_sem] calmQ_normal wide_fn wide_depth Oper.semAt_some run_store_func

theorem mv_lt {w : World} {b o : Nat} {v : Value} (h : w.cell? ⟨b, o, none⟩ = some v) : b < w.heap.size := by
  unfold World.cell? at h
  cases hb : w.heap[b]? with
  | none => simp [hb] at h
  | some x => exact (Array.getElem?_eq_some_iff.1 hb).1
/-- the moves that came in, in a later world -/
theorem MoveRow.fr {w w' : World} {ao : Option Addr} {len : Nat} (h : MoveRow w ao len) (f : Fr [] w w') : MoveRow w' ao len := by
  intro i hi
  obtain ⟨b, off, k, o, n, ha, h1, h2, h3⟩ := h i hi
  have lt : b < w.heap.size := mv_lt h1
  exact ⟨b, off, k, o, n, ha, (f.cell (p := ⟨b, _, none⟩) lt (by simp)).trans h1, (f.cell (p := ⟨b, _, none⟩) lt (by simp)).trans h2, (f.cell (p := ⟨b, _, none⟩) lt (by simp)).trans h3⟩
theorem Sep.from {w w0 w1 : World} {cs : List Chunk} (f : Fr [] w w0) (k : Sep w0 [] w1 cs) : Sep w [] w1 cs := ⟨f.trans' k.fr, k.hs, fun b hb => (k.gr b hb).imp id (Nat.le_trans f.size)⟩
/-- how many of the ring have a slot below f -/
def nF (r : List Nat) (f : Nat) : Nat := (r.filter fun s => decide (s < f)).length
theorem nF_zero (r : List Nat) : nF r 0 = 0 := by simp [nF]
theorem nF_le (r : List Nat) (f : Nat) : nF r f ≤ r.length := List.length_filter_le _ _
theorem nF_succ (r : List Nat) (f : Nat) : nF r (f + 1) = nF r f + r.count f := by
  unfold nF
  induction r with
  | nil => rfl
  | cons a r ih =>
    rw [List.filter_cons, List.filter_cons, List.count_cons]
    by_cases h1 : a < f
    · have h2 : a < f + 1 := by omega
      have h3 : ¬ a = f := by omega
      simp [h1, h2, h3, ih]; omega
    · by_cases h2 : a = f
      · subst h2; simp [ih]; omega
      · have h3 : ¬ a < f + 1 := by omega
        simp [h1, h2, h3, ih]
theorem nF_all {r : List Nat} {f : Nat} (h : ∀ s, s ∈ r → s < f) : nF r f = r.length := by
  unfold nF
  rw [List.filter_eq_self.2 (fun s hs => by simpa using h s hs)]
theorem hds_len (G : Nat → Int) (l : List Nat) : (hds G l).length = l.length * 2 := by
  unfold hds
  induction l with
  | nil => rfl
  | cons a l ih => rw [List.flatMap_cons, List.length_append, ih]; simp; omega
theorem hds_at {G : Nat → Int} {l : List Nat} {m s : Nat} (h : l[m]? = some s) (j : Nat) (hj : j < 2) : (hds G l)[m * 2 + j]? = [Value.int .i64 (s : Int), .int .i64 (G s)][j]? := by
  unfold hds
  induction l generalizing m with
  | nil => simp at h
  | cons a l ih =>
    rw [List.flatMap_cons]
    cases m with
    | zero =>
      simp at h; subst h
      rw [List.getElem?_append_left (by simp; omega)]; simp
    | succ m =>
      simp only [List.getElem?_cons_succ] at h
      rw [List.getElem?_append_right (by simp; omega), ← ih h]
      congr 1
      simp; omega
theorem hds_at0 {G : Nat → Int} {l : List Nat} {m s : Nat} (h : l[m]? = some s) : (hds G l)[m * 2]? = some (.int .i64 s) := hds_at h 0 (by omega)
theorem hds_at1 {G : Nat → Int} {l : List Nat} {m s : Nat} (h : l[m]? = some s) : (hds G l)[m * 2 + 1]? = some (.int .i64 (G s)) := hds_at h 1 (by omega)
theorem take_count {l : List Nat} {m s f : Nat} (h : l[m]? = some s) : (l.take (m + 1)).count f = (l.take m).count f + if s = f then 1 else 0 := by
  rw [List.take_add_one, h, List.count_append]
  simp [List.count_singleton]
theorem wrapm {x : Int} (h1 : 0 ≤ x) (h2 : x ≤ 1125899906842624) : IntKind.i64.wrap x = x := by
  rw [IntKind.wrap_i64]; omega
end Go.Proofs.Yteojodcdehkejaa
/- Fairness by turns, in plain terms: what one flow is sent more than another. -/
namespace Go.Proofs.Yteojodcdehkejaa
open Go Go.RowKit

/-- the two flows of a pair, in the ring's order -/
def pr (r : List Nat) (a b : Nat) : List Nat := r.filter fun s => decide (s = a ∨ s = b)
theorem pr_app (r q : List Nat) (a b : Nat) : pr (r ++ q) a b = pr r a b ++ pr q a b := List.filter_append ..
theorem pr_a (r : List Nat) (a b : Nat) : pr (a :: r) a b = a :: pr r a b := List.filter_cons_of_pos (by simp)
theorem pr_b (r : List Nat) (a b : Nat) : pr (b :: r) a b = b :: pr r a b := List.filter_cons_of_pos (by simp)
theorem pr_o (r : List Nat) {a b s : Nat} (h1 : s ≠ a) (h2 : s ≠ b) : pr (s :: r) a b = pr r a b := List.filter_cons_of_neg (by simp [h1, h2])
theorem pr_nil (a b : Nat) : pr [] a b = [] := rfl
theorem pr_none {r : List Nat} {a b : Nat} (ha : a ∉ r) (hb : b ∉ r) : pr r a b = [] := by
  unfold pr
  rw [List.filter_eq_nil_iff]
  intro s hs
  have h1 : s ≠ a := fun e => ha (e ▸ hs)
  have h2 : s ≠ b := fun e => hb (e ▸ hs)
  simp [h1, h2]
theorem pr_one {r : List Nat} {a b : Nat} (hn : r.Nodup) (ha : a ∉ r) (hb : b ∈ r) : pr r a b = [b] := by
  induction r with
  | nil => cases hb
  | cons c r ih =>
    have hn' := List.nodup_cons.1 hn
    have ha' : a ≠ c ∧ a ∉ r := by simpa using ha
    by_cases e : c = b
    · subst e; rw [pr_b, pr_none ha'.2 hn'.1]
    · rw [pr_o _ (Ne.symm ha'.1) e]
      refine ih hn'.2 ha'.2 ?_
      rcases List.mem_cons.1 hb with h | h
      · exact absurd h.symm e
      · exact h
theorem pr_one' {r : List Nat} {a b : Nat} (hn : r.Nodup) (ha : a ∈ r) (hb : b ∉ r) : pr r a b = [a] := by
  have := pr_one (a := b) (b := a) hn hb ha
  rw [← this]
  unfold pr
  congr 1
  funext s
  simp [or_comm]
theorem pr_two {r : List Nat} {a b : Nat} (hn : r.Nodup) (ha : a ∈ r) (hb : b ∈ r) (hab : a ≠ b) : pr r a b = [a, b] ∨ pr r a b = [b, a] := by
  induction r with
  | nil => cases ha
  | cons c r ih =>
    have hn' := List.nodup_cons.1 hn
    by_cases e : c = a
    · subst e
      left
      rw [pr_a, pr_one hn'.2 hn'.1]
      rcases List.mem_cons.1 hb with h | h
      · exact absurd h.symm hab
      · exact h
    · by_cases e2 : c = b
      · subst e2
        right
        rw [pr_b, pr_one' hn'.2 _ hn'.1]
        rcases List.mem_cons.1 ha with h | h
        · exact absurd h hab
        · exact h
      · rw [pr_o _ e e2]
        refine ih hn'.2 ?_ ?_
        · rcases List.mem_cons.1 ha with h | h
          · exact absurd h.symm e
          · exact h
        · rcases List.mem_cons.1 hb with h | h
          · exact absurd h.symm e2
          · exact h
theorem pr_erase {r : List Nat} {a b f : Nat} (hn : r.Nodup) (h1 : f ≠ a) (h2 : f ≠ b) : pr (r.erase f) a b = pr r a b := by
  induction r with
  | nil => rfl
  | cons c r ih =>
    have hn' := List.nodup_cons.1 hn
    by_cases e : c = f
    · subst e; rw [List.erase_cons_head, pr_o _ h1 h2]
    · rw [List.erase_cons_tail (by simpa using e)]
      by_cases ea : c = a
      · subst ea; rw [pr_a, pr_a, ih hn'.2]
      · by_cases eb : c = b
        · subst eb; rw [pr_b, pr_b, ih hn'.2]
        · rw [pr_o _ ea eb, pr_o _ ea eb, ih hn'.2]
/-- is a the next one of the pair to get its quantum? -/
def nx (r : List Nat) (t : Bool) (a b : Nat) : Prop := (pr r a b = [a, b] ∧ ¬ (t = true ∧ r.head? = some a)) ∨ (pr r a b = [b, a] ∧ t = true ∧ r.head? = some b)
open Classical in
noncomputable def nq (Q : Nat → Int) (r : List Nat) (t : Bool) (a b : Nat) : Int := if nx r t a b then 0 else Q a * Q b
/-- what a has been sent more than b, but for a constant -/
noncomputable def phi (Q df : Nat → Int) (r : List Nat) (t : Bool) (a b : Nat) : Int := nq Q r t a b - df a * Q b + df b * Q a
theorem nq_yes {Q : Nat → Int} {r : List Nat} {t : Bool} {a b : Nat} (h : nx r t a b) : nq Q r t a b = 0 := by unfold nq; rw [if_pos h]
theorem nq_no {Q : Nat → Int} {r : List Nat} {t : Bool} {a b : Nat} (h : ¬ nx r t a b) : nq Q r t a b = Q a * Q b := by unfold nq; rw [if_neg h]
theorem nq_congr {Q : Nat → Int} {r r' : List Nat} {t t' : Bool} {a b : Nat} (h : nx r t a b ↔ nx r' t' a b) : nq Q r t a b = nq Q r' t' a b := by
  by_cases e : nx r t a b
  · rw [nq_yes e, nq_yes (h.1 e)]
  · rw [nq_no e, nq_no (fun k => e (h.2 k))]
theorem nx_off {r : List Nat} {t : Bool} {a b : Nat} (h : ∀ s, r.head? = some s → s ≠ a ∧ s ≠ b) : nx r t a b ↔ pr r a b = [a, b] := by
  unfold nx
  constructor
  · rintro (⟨h1, _⟩ | ⟨_, _, h3⟩)
    · exact h1
    · exact absurd rfl (h b h3).2
  · intro h1
    exact .inl ⟨h1, fun hh => absurd rfl (h a hh.2).1⟩
theorem nx_false {r : List Nat} {a b : Nat} : nx r false a b ↔ pr r a b = [a, b] := by
  unfold nx; simp
theorem nx_a {r : List Nat} {t : Bool} {a b : Nat} (hn : (a :: r).Nodup) (hb : b ∈ r) (hab : a ≠ b) : nx (a :: r) t a b ↔ t = false := by
  have hn' := List.nodup_cons.1 hn
  unfold nx
  rw [pr_a, pr_one hn'.2 hn'.1 hb]
  have : ¬ [a, b] = [b, a] := fun e => hab (by simpa using congrArg List.head? e)
  simp [this, hab]
theorem nx_b {r : List Nat} {t : Bool} {a b : Nat} (hn : (b :: r).Nodup) (ha : a ∈ r) (hab : a ≠ b) : nx (b :: r) t a b ↔ t = true := by
  have hn' := List.nodup_cons.1 hn
  unfold nx
  rw [pr_b, pr_one' hn'.2 ha hn'.1]
  have : ¬ [b, a] = [a, b] := fun e => hab (by simpa using (congrArg List.head? e).symm)
  simp [this]
theorem nx_rot_a {r : List Nat} {a b : Nat} (hn : (a :: r).Nodup) (hb : b ∈ r) (hab : a ≠ b) : ¬ nx (r ++ [a]) false a b := by
  have hn' := List.nodup_cons.1 hn
  rw [nx_false, pr_app, pr_one hn'.2 hn'.1 hb, pr_a, pr_nil]
  intro e
  exact hab (by simpa using (congrArg List.head? e).symm)
theorem nx_rot_b {r : List Nat} {a b : Nat} (hn : (b :: r).Nodup) (ha : a ∈ r) : nx (r ++ [b]) false a b := by
  have hn' := List.nodup_cons.1 hn
  rw [nx_false, pr_app, pr_one' hn'.2 ha hn'.1, pr_b, pr_nil]
  rfl
section
variable {Q df : Nat → Int} {s : Nat} {rest : List Nat} {t : Bool} {a b : Nat}
/-- a turn that sends nothing changes nothing -/
theorem phi_turn (hn : (s :: rest).Nodup) (ha : a ∈ s :: rest) (hb : b ∈ s :: rest) (hab : a ≠ b) :
    phi Q (upd df s (df s + (if t then 0 else Q s))) (rest ++ [s]) false a b = phi Q df (s :: rest) t a b := by
  by_cases ea : s = a
  · subst ea
    have hb' : b ∈ rest := (List.mem_cons.1 hb).resolve_left (Ne.symm hab)
    unfold phi
    rw [nq_no (nx_rot_a hn hb' hab), upd_self, upd_ne _ _ (Ne.symm hab)]
    cases t with
    | false => rw [nq_yes ((nx_a hn hb' hab).2 rfl)]; simp only [Bool.false_eq_true, if_false, Int.add_mul]; omega
    | true => rw [nq_no (fun h => by have := (nx_a hn hb' hab).1 h; cases this)]; simp
  · by_cases eb : s = b
    · subst eb
      have ha' : a ∈ rest := (List.mem_cons.1 ha).resolve_left hab
      unfold phi
      rw [nq_yes (nx_rot_b hn ha'), upd_self, upd_ne _ _ hab]
      cases t with
      | false =>
        rw [nq_no (fun h => by have := (nx_b hn ha' hab).1 h; cases this)]
        simp only [Bool.false_eq_true, if_false, Int.add_mul]
        rw [Int.mul_comm (Q s) (Q a)]; omega
      | true => rw [nq_yes ((nx_b hn ha' hab).2 rfl)]; simp
    · unfold phi
      rw [upd_ne _ _ (Ne.symm ea), upd_ne _ _ (Ne.symm eb)]
      congr 2
      refine nq_congr ?_
      rw [nx_false, nx_off (fun u hu => by simp at hu; subst hu; exact ⟨ea, eb⟩), pr_app, pr_o _ ea eb, pr_o _ ea eb, pr_nil, List.append_nil]
/-- a packet is sent, its flow stays -/
theorem phi_sent (hn : (s :: rest).Nodup) (ha : a ∈ s :: rest) (hb : b ∈ s :: rest) (hab : a ≠ b) (z : Int) :
    phi Q (upd df s (df s + (if t then 0 else Q s) - z)) (s :: rest) true a b = phi Q df (s :: rest) t a b + (if s = a then z * Q b else 0) - (if s = b then z * Q a else 0) := by
  by_cases ea : s = a
  · subst ea
    have hb' : b ∈ rest := (List.mem_cons.1 hb).resolve_left (Ne.symm hab)
    unfold phi
    rw [nq_no (fun h => by have := (nx_a hn hb' hab).1 h; cases this), upd_self, upd_ne _ _ (Ne.symm hab), if_pos rfl, if_neg hab]
    cases t with
    | false => rw [nq_yes ((nx_a hn hb' hab).2 rfl)]; simp only [Bool.false_eq_true, if_false, Int.add_mul, Int.sub_mul]; omega
    | true => rw [nq_no (fun h => by have := (nx_a hn hb' hab).1 h; cases this)]; simp only [if_true, Int.add_mul, Int.sub_mul]; omega
  · by_cases eb : s = b
    · subst eb
      have ha' : a ∈ rest := (List.mem_cons.1 ha).resolve_left hab
      unfold phi
      rw [nq_yes ((nx_b hn ha' hab).2 rfl), upd_self, upd_ne _ _ hab, if_neg ea, if_pos rfl]
      cases t with
      | false =>
        rw [nq_no (fun h => by have := (nx_b hn ha' hab).1 h; cases this)]
        simp only [Bool.false_eq_true, if_false, Int.add_mul, Int.sub_mul]
        rw [Int.mul_comm (Q s) (Q a)]; omega
      | true => rw [nq_yes ((nx_b hn ha' hab).2 rfl)]; simp only [if_true, Int.add_mul, Int.sub_mul]; omega
    · unfold phi
      rw [upd_ne _ _ (Ne.symm ea), upd_ne _ _ (Ne.symm eb), if_neg ea, if_neg eb]
      have : nq Q (s :: rest) true a b = nq Q (s :: rest) t a b := by
        refine nq_congr ?_
        rw [nx_off (fun u hu => by simp at hu; subst hu; exact ⟨ea, eb⟩), nx_off (fun u hu => by simp at hu; subst hu; exact ⟨ea, eb⟩)]
      rw [this]; omega
/-- another flow leaves the ring's head -/
theorem phi_gone (ea : s ≠ a) (eb : s ≠ b) (v : Int) : phi Q (upd df s v) rest false a b = phi Q df (s :: rest) t a b := by
  unfold phi
  rw [upd_ne _ _ (Ne.symm ea), upd_ne _ _ (Ne.symm eb)]
  congr 2
  refine nq_congr ?_
  rw [nx_false, nx_off (fun u hu => by simp at hu; subst hu; exact ⟨ea, eb⟩), pr_o _ ea eb]
end
/-- another flow is struck from the ring -/
theorem phi_struck {Q df : Nat → Int} {r : List Nat} {t : Bool} {a b f : Nat} (hn : r.Nodup) (ea : f ≠ a) (eb : f ≠ b) (v : Int) :
    phi Q (upd df f v) (r.erase f) (if r.head? = some f then false else t) a b = phi Q df r t a b := by
  unfold phi
  rw [upd_ne _ _ (Ne.symm ea), upd_ne _ _ (Ne.symm eb)]
  congr 2
  refine nq_congr ?_
  by_cases e : r.head? = some f
  · rw [if_pos e, nx_false, pr_erase hn ea eb, nx_off (fun u hu => by rw [e] at hu; cases hu; exact ⟨ea, eb⟩)]
  · rw [if_neg e]
    unfold nx
    rw [pr_erase hn ea eb, erase_head e, erase_head e]
/-- another flow joins the ring -/
theorem phi_more {Q df : Nat → Int} {r : List Nat} {t : Bool} {a b f : Nat} (ea : f ≠ a) (eb : f ≠ b) (hr : r ≠ []) : phi Q df (r ++ [f]) t a b = phi Q df r t a b := by
  unfold phi
  congr 2
  refine nq_congr ?_
  unfold nx
  rw [pr_app, pr_o _ ea eb, pr_nil, List.append_nil]
  cases r with
  | nil => exact absurd rfl hr
  | cons c r => simp
/-- bounds -/
theorem phi_hi {Q df : Nat → Int} {r : List Nat} {t : Bool} {a b : Nat} {M : Int} (hn : r.Nodup) (ha : a ∈ r) (hb : b ∈ r) (hab : a ≠ b) (qa : 0 ≤ Q a) (qb : 0 ≤ Q b) (da : 0 ≤ df a)
    (hh : t = true ∧ r.head? = some b → df b ≤ Q b + M) (hd : ¬ (t = true ∧ r.head? = some b) → df b ≤ M) : phi Q df r t a b ≤ Q a * Q b + Q a * M := by
  have h0 : 0 ≤ df a * Q b := Int.mul_nonneg da qb
  unfold phi
  by_cases e : nx r t a b
  · rw [nq_yes e]
    by_cases hb' : t = true ∧ r.head? = some b
    · have := Int.mul_le_mul_of_nonneg_right (hh hb') qa
      rw [Int.add_mul, Int.mul_comm (Q b), Int.mul_comm M] at this
      omega
    · have := Int.mul_le_mul_of_nonneg_right (hd hb') qa
      rw [Int.mul_comm M] at this
      have := Int.mul_nonneg qa qb
      omega
  · rw [nq_no e]
    have hb' : ¬ (t = true ∧ r.head? = some b) := fun h => e (by
      obtain ⟨h1, h2⟩ := h
      cases r with
      | nil => cases hb
      | cons c r =>
        simp at h2; subst h2
        exact (nx_b hn ((List.mem_cons.1 ha).resolve_left hab) hab).2 h1)
    have := Int.mul_le_mul_of_nonneg_right (hd hb') qa
    rw [Int.mul_comm M] at this
    omega
theorem phi_lo {Q df : Nat → Int} {r : List Nat} {t : Bool} {a b : Nat} {M : Int} (hn : r.Nodup) (ha : a ∈ r) (hb : b ∈ r) (hab : a ≠ b) (qa : 0 ≤ Q a) (qb : 0 ≤ Q b) (db : 0 ≤ df b)
    (hh : t = true ∧ r.head? = some a → df a ≤ Q a + M) (hd : ¬ (t = true ∧ r.head? = some a) → df a ≤ M) : - (Q b * M) ≤ phi Q df r t a b := by
  have h0 : 0 ≤ df b * Q a := Int.mul_nonneg db qa
  unfold phi
  by_cases e : nx r t a b
  · rw [nq_yes e]
    have ha' : ¬ (t = true ∧ r.head? = some a) := fun h => by
      obtain ⟨h1, h2⟩ := h
      cases r with
      | nil => cases ha
      | cons c r =>
        simp at h2; subst h2
        have := (nx_a hn ((List.mem_cons.1 hb).resolve_left (Ne.symm hab)) hab).1 e
        rw [h1] at this; cases this
    have := Int.mul_le_mul_of_nonneg_right (hd ha') qb
    rw [Int.mul_comm M] at this
    omega
  · rw [nq_no e]
    by_cases ha' : t = true ∧ r.head? = some a
    · have := Int.mul_le_mul_of_nonneg_right (hh ha') qb
      rw [Int.add_mul, Int.mul_comm M] at this
      omega
    · have := Int.mul_le_mul_of_nonneg_right (hd ha') qb
      rw [Int.mul_comm M] at this
      have := Int.mul_nonneg qa qb
      omega

theorem mt_phi {Q : Nat → Int} {L : Nat → List P6} {df : Nat → Int} {r : List Nat} {t : Bool} {df' : Nat → Int} {r' : List Nat} {t' : Bool} (k : MT Q L df r t df' r' t') {a b : Nat} (hab : a ≠ b) :
    r.Nodup → a ∈ r → b ∈ r → phi Q df' r' t' a b = phi Q df r t a b ∧ r'.Nodup ∧ a ∈ r' ∧ b ∈ r' := by
  induction k with
  | refl df r t => exact fun hn ha hb => ⟨rfl, hn, ha, hb⟩
  | @step df s rest t df' r' t' _ _ ih =>
    intro hn ha hb
    have hn' := List.nodup_cons.1 hn
    obtain ⟨h1, h2, h3, h4⟩ := ih (List.nodup_append.2 ⟨hn'.2, by simp, fun x hx y hy e => by simp at hy; subst hy; subst e; exact hn'.1 hx⟩) (by simp at ha ⊢; exact ha.symm) (by simp at hb ⊢; exact hb.symm)
    exact ⟨h1.trans (phi_turn hn ha hb hab), h2, h3, h4⟩
def Dat.X (d : Dat) (a b : Nat) : Int := d.sent a * d.Q b - d.sent b * d.Q a
noncomputable def Dat.P (d : Dat) (a b : Nat) : Int := phi d.Q d.df d.ring d.turn a b
theorem outS_fair {x : Wd} {N : Nat} (h : Wf x N) {a b f : Nat} (ha : a ∈ x.ring.erase f) (hb : b ∈ x.ring.erase f) : (x.outS f).dat.P a b = x.dat.P a b :=
  phi_struck h.nd (fun e => ((h.nd.mem_erase_iff).1 ha).1 e.symm) (fun e => ((h.nd.mem_erase_iff).1 hb).1 e.symm) 0
/-- a move keeps the balance of two flows that wait throughout -/
theorem mv_fair {x x' : Wd} {N : Nat} (h : Wf x N) {kd fl sz : Int} (hR : MvR kd fl sz x x') {a b : Nat} (hab : a ≠ b) (ha : a ∈ x.ring) (hb : b ∈ x.ring) (ha' : a ∈ x'.ring) (hb' : b ∈ x'.ring) :
    x'.dat.X a b - x'.dat.P a b = x.dat.X a b - x.dat.P a b := by
  have er : x'.ring = x'.dat.ring := rfl
  rw [er] at ha' hb'
  obtain ⟨f, hf, _, hc⟩ := hR
  rcases hc with ⟨_, hc⟩ | ⟨_, hc⟩ | ⟨_, hd⟩ | ⟨_, z, _, _, _, hd⟩
  · rcases hc with ⟨hr, _⟩ | ⟨df1, s, rest, t1, p, qs, ns, hd⟩
    · rw [hr] at ha; cases ha
    · rw [hd] at ha' hb' ⊢
      obtain ⟨h1, h2, h3, h4⟩ := mt_phi ns.mt hab h.nd ha hb
      have ha2 : a ∈ (if qs = [] then rest else s :: rest) := ha'
      have hb2 : b ∈ (if qs = [] then rest else s :: rest) := hb'
      have h1' : phi x.Q df1 (s :: rest) t1 a b = x.dat.P a b := h1
      show (upd x.sent s (x.sent s + p.f3) a * x.Q b - upd x.sent s (x.sent s + p.f3) b * x.Q a) - phi x.Q (upd df1 s (if qs = [] then 0 else df1 s + (if t1 then 0 else x.Q s) - p.f3)) (if qs = [] then rest else s :: rest) (if qs = [] then false else true) a b = (x.sent a * x.Q b - x.sent b * x.Q a) - x.dat.P a b
      by_cases hq : qs = []
      · rw [if_pos hq] at ha2 hb2
        have hn' := List.nodup_cons.1 h2
        have ea : s ≠ a := fun e => hn'.1 (e ▸ ha2)
        have eb : s ≠ b := fun e => hn'.1 (e ▸ hb2)
        simp only [if_pos hq]
        rw [upd_ne _ _ (Ne.symm ea), upd_ne _ _ (Ne.symm eb), phi_gone (t := t1) ea eb, h1']
      · simp only [if_neg hq]
        rw [phi_sent h2 h3 h4 hab, h1']
        by_cases ea : s = a
        · subst ea
          rw [upd_self, upd_ne _ _ (Ne.symm hab), if_pos rfl, if_neg hab, Int.add_mul]; omega
        · by_cases eb : s = b
          · subst eb
            rw [upd_self, upd_ne _ _ hab, if_neg ea, if_pos rfl, Int.add_mul]; omega
          · rw [upd_ne _ _ (Ne.symm ea), upd_ne _ _ (Ne.symm eb), if_neg ea, if_neg eb]; omega
  · rcases hc with ⟨_, hd⟩ | ⟨qs, v, hq, hd⟩
    · rw [hd]
    · rw [hd] at ha' hb' ⊢
      by_cases hqs : qs = []
      · rw [if_pos hqs] at ha' hb' ⊢
        rw [outS_fair h ha' hb']; rfl
      · rw [if_neg hqs]; rfl
  · rw [hd] at ha' hb' ⊢
    have e := outS_fair h (f := f) ha' hb'
    have e2 : (x.anew f).dat.P a b = (x.outS f).dat.P a b := rfl
    rw [e2, e]; rfl
  · rw [hd] at ha' hb' ⊢
    have e1 : (x.put f z [] [] (.slice none 0 0) []).dat.X a b = x.dat.X a b := rfl
    have e2 : (x.put f z [] [] (.slice none 0 0) []).dat.P a b = phi x.Q x.df (if x.L f = [] then x.ring ++ [f] else x.ring) x.turn a b := rfl
    have e3 : x.dat.P a b = phi x.Q x.df x.ring x.turn a b := rfl
    rw [e1, e2, e3]
    by_cases hl : x.L f = []
    · rw [if_pos hl]
      have hfr : f ∉ x.ring := fun hm => ((h.mem f).1 hm).2 hl
      have ea : f ≠ a := fun e => hfr (by rw [e]; exact ha)
      have eb : f ≠ b := fun e => hfr (by rw [e]; exact hb)
      have en : x.ring ≠ [] := fun e => by rw [e] at ha; cases ha
      rw [phi_more ea eb en]
    · rw [if_neg hl]
theorem fair_bd {x : Wd} {N : Nat} (h : Wf x N) {M : Int} (hM : x.most ≤ M) {a b : Nat} (hab : a ≠ b) (ha : a ∈ x.ring) (hb : b ∈ x.ring) :
    x.dat.P a b ≤ x.Q a * x.Q b + x.Q a * M ∧ -(x.Q b * M) ≤ x.dat.P a b := by
  have qa := (h.q a (h.lt ha)).1
  have qb := (h.q b (h.lt hb)).1
  have bd : ∀ s, s ∈ x.ring → (x.hold s → x.df s ≤ x.Q s + M) ∧ (¬ x.hold s → x.df s ≤ M) := fun s hs =>
    ⟨fun hh => by have := h.dh s hh; omega, fun hh => by have := h.ds s hs hh; have := (h.hd hs).2; omega⟩
  have qa0 : 0 ≤ x.Q a := by omega
  have qb0 : 0 ≤ x.Q b := by omega
  exact ⟨phi_hi h.nd ha hb hab qa0 qb0 (h.d0 a (h.lt ha)) (bd b hb).1 (bd b hb).2, phi_lo h.nd ha hb hab qa0 qb0 (h.d0 b (h.lt hb)) (bd a ha).1 (bd a ha).2⟩
/-- a pair's stretch: what the law has seen as the least, and that it may not be far below -/
def Str (x : Wd) (M least : Int) (a b : Nat) : Prop := ∃ K : Int, x.dat.X a b = K + x.dat.P a b ∧ K - x.Q b * M ≤ least
theorem Str.start {x : Wd} {N : Nat} (h : Wf x N) {M : Int} (hM : x.most ≤ M) {a b : Nat} (hab : a ≠ b) (ha : a ∈ x.ring) (hb : b ∈ x.ring) : Str x M (x.dat.X a b) a b :=
  ⟨x.dat.X a b - x.dat.P a b, by omega, by have := (fair_bd h hM hab ha hb).2; omega⟩
theorem Str.least {x : Wd} {N : Nat} (h : Wf x N) {M : Int} (hM : x.most ≤ M) {a b : Nat} (hab : a ≠ b) (ha : a ∈ x.ring) (hb : b ∈ x.ring) {l : Int} (k : Str x M l a b) : Str x M (min l (x.dat.X a b)) a b := by
  obtain ⟨K, h1, h2⟩ := k
  have := (fair_bd h hM hab ha hb).2
  exact ⟨K, h1, by omega⟩
theorem Str.bound {x : Wd} {N : Nat} (h : Wf x N) {M : Int} (hM : x.most ≤ M) {a b : Nat} (hab : a ≠ b) (ha : a ∈ x.ring) (hb : b ∈ x.ring) {l : Int} (k : Str x M l a b) : x.dat.X a b - l ≤ x.Q a * x.Q b + M * x.Q a + M * x.Q b := by
  obtain ⟨K, h1, h2⟩ := k
  have := (fair_bd h hM hab ha hb).1
  rw [Int.mul_comm M (x.Q a), Int.mul_comm M (x.Q b)]
  omega
theorem Str.move {x x' : Wd} {N : Nat} (h : Wf x N) {kd fl sz : Int} (hR : MvR kd fl sz x x') (hQ : x'.Q = x.Q) {M l : Int} {a b : Nat} (hab : a ≠ b) (ha : a ∈ x.ring) (hb : b ∈ x.ring) (ha' : a ∈ x'.ring) (hb' : b ∈ x'.ring) (k : Str x M l a b) : Str x' M l a b := by
  obtain ⟨K, h1, h2⟩ := k
  have := mv_fair h hR hab ha hb ha' hb'
  exact ⟨K, by omega, by rw [hQ]; exact h2⟩
theorem MvR.Q {x x' : Wd} {kd fl sz : Int} (hR : MvR kd fl sz x x') : x'.Q = x.Q := by
  have e : x'.Q = x'.dat.Q := rfl
  rw [e]
  obtain ⟨f, hf, _, hc⟩ := hR
  rcases hc with ⟨_, ⟨_, hd⟩ | ⟨df1, s, rest, t1, p, qs, ns, hd⟩⟩ | ⟨_, ⟨_, hd⟩ | ⟨qs, v, hq, hd⟩⟩ | ⟨_, hd⟩ | ⟨_, z, _, _, _, hd⟩ <;> rw [hd]
  · rfl
  · rfl
  · rfl
  · split <;> rfl
  · rfl
  · rfl
theorem MvR.most {x x' : Wd} {kd fl sz : Int} (hR : MvR kd fl sz x x') : x'.most ≤ max x.most (wrap64 (bits .and .i64 sz 1023 + 1)) := by
  have e : x'.most = x'.dat.most := rfl
  rw [e]
  obtain ⟨f, hf, _, hc⟩ := hR
  rcases hc with ⟨_, ⟨_, hd⟩ | ⟨df1, s, rest, t1, p, qs, ns, hd⟩⟩ | ⟨_, ⟨_, hd⟩ | ⟨qs, v, hq, hd⟩⟩ | ⟨_, hd⟩ | ⟨_, z, hz, _, _, hd⟩ <;> rw [hd]
  · exact Int.le_max_left _ _
  · exact Int.le_max_left _ _
  · exact Int.le_max_left _ _
  · split <;> exact Int.le_max_left _ _
  · exact Int.le_max_left _ _
  · rw [hz]; exact Int.le_refl _
end Go.Proofs.Yteojodcdehkejaa
