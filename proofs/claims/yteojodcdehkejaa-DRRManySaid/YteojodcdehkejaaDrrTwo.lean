/- Two flows, a packet each: what Next sends first. -/
import Derived.Test.YteojodcdehkejaaDrrNext
namespace Go.Proofs.Yteojodcdehkejaa
open Go Go.RowKit
attribute [local go_sem] calmQ_normal wide_fn wide_depth Oper.semAt_some run_store_func

set_option maxRecDepth 100000 in
theorem dlen {w : World} {d : Dr} (h : Holds w d.chunks) :
    Calls Try.prog 27 #[.pointer (some ⟨d.b, 0, none⟩)] w fun e w' => e = .returned (.int .i64 d.n) ∧ w' = w := by
  have h5 : w.cell? ⟨d.b, 5, none⟩ = some (.int .i64 d.n) := (show Blk w d.b 92 d.head from h.get (i := 0) rfl).cell 5
  clear h
  go_enter Try.func27, Try.ntmps27
  go_wp2
  go_ret
  exact ⟨rfl, rfl⟩

theorem Turns.inv {P : List Fl → List Nat → Bool → Prop} {a : List Fl} {ra : List Nat} {ta : Bool} {b : List Fl} {rb : List Nat} {tb : Bool} (h : Turns a ra ta b rb tb) (h0 : P a ra ta)
    (hs : ∀ fl i rest t f, P fl (i :: rest) t → fl[i]? = some f → f.df + (if t then 0 else f.qt) < f.sz → P (fl.set i (f.add (if t then 0 else f.qt))) (rest ++ [i]) false) : P b rb tb := by
  induction h with
  | refl => exact h0
  | step hf hl _ ih => exact ih (hs _ _ _ _ _ h0 hf hl)
theorem Fl.add_add (f : Fl) (x y : Int) : (f.add x).add y = f.add (x + y) := by simp [Fl.add, Int.add_assoc]
/-- what two flows come to, no packet being sent -/
def TwoAt (f0 f1 : Fl) (fl : List Fl) (ri : List Nat) (tt : Bool) : Prop :=
  tt = false ∧ ∃ c : Nat, (ri = [0, 1] ∧ fl = [f0.add (c * f0.qt), f1.add (c * f1.qt)] ∧ (c = 0 ∨ (f0.df + c * f0.qt < f0.sz ∧ f1.df + c * f1.qt < f1.sz))) ∨
    (ri = [1, 0] ∧ fl = [f0.add ((c + 1) * f0.qt), f1.add (c * f1.qt)] ∧ f0.df + (c + 1) * f0.qt < f0.sz ∧ (c = 0 ∨ f1.df + c * f1.qt < f1.sz))
theorem two_turns {f0 f1 : Fl} {fl : List Fl} {ri : List Nat} {tt : Bool} (h : Turns [f0, f1] [0, 1] false fl ri tt) : TwoAt f0 f1 fl ri tt := by
  refine h.inv ?_ ?_
  · refine ⟨rfl, 0, .inl ⟨rfl, ?_, .inl rfl⟩⟩
    simp [Fl.add_zero]
  · rintro fl i rest t f ⟨rfl, c, ⟨hr, rfl, hc⟩ | ⟨hr, rfl, h0, hc⟩⟩ hf hl
    · simp only [List.cons.injEq] at hr
      obtain ⟨rfl, rfl⟩ := hr
      simp only [List.getElem?_cons_zero, Option.some.injEq] at hf
      subst hf
      simp only [Fl.add, Fl.sz, Bool.false_eq_true, if_false] at hl
      refine ⟨rfl, c, .inr ⟨rfl, ?_, ?_, ?_⟩⟩
      · simp only [Bool.false_eq_true, if_false, List.set_cons_zero]
        rw [Fl.add_add, show (f0.add (c * f0.qt)).qt = f0.qt from rfl, Int.add_mul, Int.one_mul]
      · simp only [Fl.sz]; rw [Int.add_mul, Int.one_mul]; omega
      · rcases hc with hc | hc
        · exact .inl hc
        · exact .inr hc.2
    · simp only [List.cons.injEq] at hr
      obtain ⟨rfl, rfl⟩ := hr
      simp only [List.getElem?_cons_succ, List.getElem?_cons_zero, Option.some.injEq] at hf
      subst hf
      simp only [Fl.add, Fl.sz, Bool.false_eq_true, if_false] at hl
      refine ⟨rfl, c + 1, .inl ⟨rfl, ?_, .inr ⟨?_, ?_⟩⟩⟩
      · simp only [Bool.false_eq_true, if_false, List.set_cons_succ, List.set_cons_zero]
        rw [Fl.add_add, show (f1.add (c * f1.qt)).qt = f1.qt from rfl, Int.natCast_add, Int.natCast_one, Int.add_mul (c : Int) 1 f1.qt, Int.one_mul]
      · rw [Int.natCast_add, Int.natCast_one]; exact h0
      · simp only [Fl.sz]; rw [Int.natCast_add, Int.natCast_one, Int.add_mul, Int.one_mul]; omega
theorem Turns.stop {fl : List Fl} {i : Nat} {rest : List Nat} {t : Bool} {f : Fl} (hf : fl[i]? = some f) (hs : f.sz ≤ f.df + (if t then 0 else f.qt)) {fl' : List Fl} {ri' : List Nat} {t' : Bool} (h : Turns fl (i :: rest) t fl' ri' t') : fl' = fl ∧ ri' = i :: rest ∧ t' = t := by
  cases h with
  | refl => exact ⟨rfl, rfl, rfl⟩
  | step hf' hl _ => rw [hf] at hf'; cases hf'; omega
/-- two flows that wait with a packet each, nothing granted yet -/
structure Two (d : Dr) (f0 f1 : Fl) (p0 p1 : P6) : Prop where
  fl : d.fl = [f0, f1]
  ring : d.ring = [f0.b, f1.b]
  turn : d.turn = false
  n : d.n = 2
  a0 : f0.slot = 0 ∧ f0.gen = 1
  a1 : f1.slot = 1 ∧ f1.gen = 1
  q0 : f0.q = [p0]
  q1 : f1.q = [p1]
  t0 : 1 ≤ f0.qt ∧ f0.qt ≤ 1073741824
  t1 : 1 ≤ f1.qt ∧ f1.qt ≤ 1073741824
  d0 : f0.df = 0
  d1 : f1.df = 0
  b0 : f0.by_ = p0.f3
  b1 : f1.by_ = p1.f3
  z0 : 1 ≤ p0.f3 ∧ p0.f3 ≤ 65536
  z1 : 1 ≤ p1.f3 ∧ p1.f3 ≤ 65536
/-- one of them has sent -/
structure One (d : Dr) (g0 g1 : Fl) : Prop where
  fl : d.fl = [g0, g1]
  turn : d.turn = false
  n : d.n = 1
  a0 : g0.slot = 0 ∧ g0.gen = 1
  a1 : g1.slot = 1 ∧ g1.gen = 1
theorem two_next {w : World} {d : Dr} {f0 f1 : Fl} {p0 p1 : P6} (h : Holds w d.chunks) (T : Two d f0 f1 p0 p1) (t : Int) :
    Calls Try.prog 14 #[.pointer (some ⟨d.b, 0, none⟩), .int .i64 t] w fun e w' => ∃ d' g0 g1 p, ∃ c : Nat, e = .returned (.tuple #[aggp6 p, .bool true]) ∧ Sep w (Chunks.bs d.chunks) w' d'.chunks ∧ d'.b = d.b ∧ One d' g0 g1 ∧
      ((p = p0 ∧ g0.df = 0 ∧ g1.df = c * f1.qt ∧ p0.f3 ≤ (c + 1) * f0.qt ∧ (c = 0 ∨ (c * f0.qt < p0.f3 ∧ c * f1.qt < p1.f3))) ∨
       (p = p1 ∧ g0 = f0.add ((c + 1) * f0.qt) ∧ g1.df = 0 ∧ p1.f3 ≤ (c + 1) * f1.qt ∧ (c + 1) * f0.qt < p0.f3 ∧ (c = 0 ∨ c * f1.qt < p1.f3) ∧ d'.ring = [f0.b] ∧ g1.q = [] ∧ g1.by_ = 0)) := by
  have F0 : Fine f0 := ⟨by simp [T.q0], T.t0.1, T.t0.2, by rw [T.d0]; omega, by rw [T.d0]; omega, by have := T.z0; simp [Fl.sz, T.q0]; omega⟩
  have F1 : Fine f1 := ⟨by simp [T.q1], T.t1.1, T.t1.2, by rw [T.d1]; omega, by rw [T.d1]; omega, by have := T.z1; simp [Fl.sz, T.q1]; omega⟩
  have hri : d.ring = blocksOf d.fl [0, 1] := by rw [T.ring, T.fl]; rfl
  have hz0 : f0.sz = p0.f3 := by simp [Fl.sz, T.q0]
  have hz1 : f1.sz = p1.f3 := by simp [Fl.sz, T.q1]
  refine (dnext h hri (by rw [T.fl]; intro i hi; simp at hi; rcases hi with rfl | rfl; (· exact ⟨f0, rfl, F0⟩); exact ⟨f1, rfl, F1⟩) (by simp) (by simp) (by simp) t (by rw [T.n]; omega) (by rw [T.n]; omega)
    (by
      rw [T.fl]
      intro f hf
      simp at hf
      have := T.z0; have := T.z1
      rcases hf with rfl | rfl
      · refine ⟨by rw [T.b0]; omega, fun p qs hq => ?_⟩
        rw [T.q0] at hq; cases hq
        rw [T.b0]; omega
      · refine ⟨by rw [T.b1]; omega, fun p qs hq => ?_⟩
        rw [T.q1] at hq; cases hq
        rw [T.b1]; omega)).mono ?_
  rintro e w' ⟨fl, tt, i, rest, f, g, p, qs, rds, rds2, htr, hnd, hfine, hfi, hg, hq, hsz, rfl, k⟩
  rw [T.fl, T.turn] at htr
  obtain ⟨rfl, c, ⟨hr, rfl, hc⟩ | ⟨hr, rfl, h0, hc⟩⟩ := two_turns htr
  · simp only [List.cons.injEq] at hr
    obtain ⟨rfl, rfl⟩ := hr
    simp only [List.getElem?_cons_zero, Option.some.injEq] at hfi
    subst hfi
    simp only [Bool.false_eq_true, if_false] at hg
    have hgq : g = f0.qt := hg
    subst hgq
    rw [show (f0.add (c * f0.qt)).q = [p0] from T.q0] at hq
    cases hq
    rw [if_pos rfl] at k
    refine ⟨_, _, _, p0, c, rfl, k, rfl, ⟨rfl, rfl, ?_, T.a0, T.a1⟩, .inl ⟨rfl, rfl, ?_, ?_, ?_⟩⟩
    · show d.n - 1 = 1
      rw [T.n]; rfl
    · show f1.df + c * f1.qt = c * f1.qt
      rw [T.d1]; omega
    · have : p0.f3 ≤ f0.df + c * f0.qt + f0.qt := hsz
      rw [T.d0] at this; rw [Int.add_mul, Int.one_mul]; omega
    · rw [T.d0, T.d1, hz0, hz1] at hc
      rcases hc with hc | hc
      · exact .inl hc
      · exact .inr ⟨by omega, by omega⟩
  · simp only [List.cons.injEq] at hr
    obtain ⟨rfl, rfl⟩ := hr
    simp only [List.getElem?_cons_succ, List.getElem?_cons_zero, Option.some.injEq] at hfi
    subst hfi
    simp only [Bool.false_eq_true, if_false] at hg
    have hgq : g = f1.qt := hg
    subst hgq
    rw [show (f1.add (c * f1.qt)).q = [p1] from T.q1] at hq
    cases hq
    rw [if_pos rfl] at k
    refine ⟨_, _, _, p1, c, rfl, k, rfl, ⟨rfl, rfl, ?_, T.a0, T.a1⟩, .inr ⟨rfl, rfl, rfl, ?_, ?_, ?_, rfl, rfl, ?_⟩⟩
    · show d.n - 1 = 1
      rw [T.n]; rfl
    · have : p1.f3 ≤ f1.df + c * f1.qt + f1.qt := hsz
      rw [T.d1] at this; rw [Int.add_mul, Int.one_mul]; omega
    · rw [T.d0, hz0] at h0; omega
    · rw [T.d1, hz1] at hc
      rcases hc with hc | hc
      · exact .inl hc
      · exact .inr (by omega)
    · show f1.by_ - p1.f3 = 0
      rw [T.b1]; omega
end Go.Proofs.Yteojodcdehkejaa
