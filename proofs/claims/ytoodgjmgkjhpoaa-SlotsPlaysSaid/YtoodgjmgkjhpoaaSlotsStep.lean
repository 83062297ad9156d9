/- A []Step of the slots' statements that came in, opened. -/
import Derived.Test.YtoodgjmgkjhpoaaChecked
import Derived.Test.YtoodgjmgkjhpoaaBase
import Derived.OpenShut
import Derived.ChangeOld
namespace Go.Proofs.Ytoodgjmgkjhpoaa
open Go Go.RowKit

/-- a slice of steps, wherever it lies -/
def SStepRow (w : World) (ao : Option Addr) (len : Nat) : Prop :=
  ∀ i, i < len → ∃ b off, ∃ k p x2 x3 v : Int, ao = some ⟨b, off, none⟩ ∧ w.cell? ⟨b, off + i * 5, none⟩ = some (.int .i64 k) ∧ w.cell? ⟨b, off + (i * 5 + 1), none⟩ = some (.int .i64 p) ∧
    w.cell? ⟨b, off + (i * 5 + 2), none⟩ = some (.int .i64 x2) ∧ w.cell? ⟨b, off + (i * 5 + 3), none⟩ = some (.int .i64 x3) ∧ w.cell? ⟨b, off + (i * 5 + 4), none⟩ = some (.int .i64 v)
theorem scell_lit {w : World} {a : Addr} {v : Value} (h : w.cell? (a.add 0) = some v) : ∃ b off, a = ⟨b, off, none⟩ := by
  obtain ⟨b, off, sp⟩ := a
  cases sp with
  | none => exact ⟨b, off, rfl⟩
  | some s =>
    simp only [Addr.add, if_true, World.cell?] at h
    cases hb : w.heap[b]? with
    | none => simp [hb] at h
    | some o => cases o <;> simp [hb] at h
section
variable {H : Type} {enc : TypeId × Value → H} {w : World} {base fuel : Nat} {spare : Nat → Bool} {held : Bool}
set_option maxRecDepth 100000 in
theorem open_handle {cs : List Value} {y : DataW H × List MemPlace} (h : DataW.trod enc Try.prog w base spare held fuel 32 cs = some y) :
    ∃ k o : Int, cs = [.int .i64 k, .int .i64 o] := by
  obtain ⟨xs, m, _, _, hl, hxl, hf⟩ := DataW.trod_struct Try.underlying32 h
  have hc4 : Try.prog.cellsOf 32 = 2 := by kernel_rfl
  have hc1 : Try.prog.cellsOf 3 = 1 := by kernel_rfl
  rw [hc4] at hl
  match cs, hl with
  | [c0, c1], _ =>
    simp at hxl
    have f0 : DataW.trod enc Try.prog w base spare held m 3 (List.take (Try.prog.cellsOf 3) [c0, c1]) = xs[0]? := hf 0 _ rfl
    rw [hc1] at f0
    replace f0 : DataW.trod enc Try.prog w base spare held m 3 [c0] = xs[0]? := f0
    have f1 : DataW.trod enc Try.prog w base spare held m 3 (List.take (Try.prog.cellsOf 3) [c1]) = xs[1]? := hf 1 _ rfl
    rw [hc1] at f1
    replace f1 : DataW.trod enc Try.prog w base spare held m 3 [c1] = xs[1]? := f1
    rw [List.getElem?_eq_getElem (by omega)] at f0 f1
    obtain ⟨k, e0, _⟩ := DataW.trod_int Try.underlying3 f0
    obtain ⟨o, e1, _⟩ := DataW.trod_int Try.underlying3 f1
    simp at e0 e1
    subst e0 e1
    exact ⟨k, o, rfl⟩
set_option maxRecDepth 100000 in
theorem open_sstep {cs : List Value} {y : DataW H × List MemPlace} (h : DataW.trod enc Try.prog w base spare held fuel 90 cs = some y) :
    ∃ k p x2 x3 v : Int, cs = [.int .i64 k, .int .i64 p, .int .i64 x2, .int .i64 x3, .int .i64 v] := by
  obtain ⟨xs, m, _, _, hl, hxl, hf⟩ := DataW.trod_struct Try.underlying90 h
  have hc4 : Try.prog.cellsOf 90 = 5 := by kernel_rfl
  have hc2 : Try.prog.cellsOf 32 = 2 := by kernel_rfl
  have hc1 : Try.prog.cellsOf 3 = 1 := by kernel_rfl
  rw [hc4] at hl
  match cs, hl with
  | [c0, c1, c2, c3, c4], _ =>
    simp at hxl
    have f0 : DataW.trod enc Try.prog w base spare held m 3 (List.take (Try.prog.cellsOf 3) [c0, c1, c2, c3, c4]) = xs[0]? := hf 0 _ rfl
    rw [hc1] at f0
    replace f0 : DataW.trod enc Try.prog w base spare held m 3 [c0] = xs[0]? := f0
    have f1 : DataW.trod enc Try.prog w base spare held m 3 (List.take (Try.prog.cellsOf 3) [c1, c2, c3, c4]) = xs[1]? := hf 1 _ rfl
    rw [hc1] at f1
    replace f1 : DataW.trod enc Try.prog w base spare held m 3 [c1] = xs[1]? := f1
    have f2 : DataW.trod enc Try.prog w base spare held m 32 (List.take (Try.prog.cellsOf 32) [c2, c3, c4]) = xs[2]? := hf 2 _ rfl
    rw [hc2] at f2
    replace f2 : DataW.trod enc Try.prog w base spare held m 32 [c2, c3] = xs[2]? := f2
    have f3 : DataW.trod enc Try.prog w base spare held m 3 (List.take (Try.prog.cellsOf 3) [c4]) = xs[3]? := hf 3 _ rfl
    rw [hc1] at f3
    replace f3 : DataW.trod enc Try.prog w base spare held m 3 [c4] = xs[3]? := f3
    rw [List.getElem?_eq_getElem (by omega)] at f0 f1 f2 f3
    obtain ⟨k, e0, _⟩ := DataW.trod_int Try.underlying3 f0
    obtain ⟨o, e1, _⟩ := DataW.trod_int Try.underlying3 f1
    obtain ⟨n, u, e2⟩ := open_handle f2
    obtain ⟨v, e3, _⟩ := DataW.trod_int Try.underlying3 f3
    simp at e0 e1 e2 e3
    obtain ⟨rfl, rfl⟩ := e2
    subst e0 e1 e3
    exact ⟨k, o, n, u, v, rfl⟩
set_option maxRecDepth 100000 in
theorem open_ssteps {cs : List Value} {y : DataW H × List MemPlace} (h : DataW.trod enc Try.prog w base spare held fuel 80 cs = some y) :
    ∃ a len cap, cs = [.slice a len cap] ∧ len ≤ maxLen ∧ SStepRow w a len := by
  have hc4 : Try.prog.cellsOf 90 = 5 := by kernel_rfl
  rcases DataW.trod_slice Try.underlying80 h with ⟨h0, _⟩ | ⟨a, len, cap, elems, rest, n, _, rfl, _, hb, hl, hm, hlen, hel, _, _⟩
  · exact ⟨_, _, _, h0, by unfold maxLen; omega, fun i hi => by omega⟩
  · have each : ∀ i, i < len → ∃ k p x2 x3 v : Int, w.cell? (a.add (i * 5)) = some (.int .i64 k) ∧ w.cell? (a.add (i * 5 + 1)) = some (.int .i64 p) ∧ w.cell? (a.add (i * 5 + 2)) = some (.int .i64 x2) ∧ w.cell? (a.add (i * 5 + 3)) = some (.int .i64 x3) ∧ w.cell? (a.add (i * 5 + 4)) = some (.int .i64 v) := fun i hi => by
      have he := hel i hi
      rw [hc4, List.getElem?_eq_getElem (by omega)] at he
      simp only [Option.bind_eq_some_iff] at he
      obtain ⟨cs, h1, h2⟩ := he
      obtain ⟨_, _, h3⟩ := World.cells?_some h1
      obtain ⟨k, p, x2, x3, v, rfl⟩ := open_sstep h2
      have g0 := h3 0 (by omega)
      have g1 := h3 1 (by omega)
      have g2 := h3 2 (by omega)
      have g3 := h3 3 (by omega)
      have g4 := h3 4 (by omega)
      rw [Addr.add_add] at g0 g1 g2 g3 g4
      exact ⟨k, p, x2, x3, v, g0, g1, g2, g3, g4⟩
    refine ⟨_, _, _, rfl, by omega, fun i hi => ?_⟩
    obtain ⟨k0, _, _, _, _, h0, _⟩ := each 0 (by omega)
    obtain ⟨b, off, rfl⟩ := scell_lit (by simpa using h0)
    obtain ⟨k, p, x2, x3, v, h1, h2, h3, h4, h5⟩ := each i hi
    simp only [Addr.add_lit] at h1 h2 h3 h4 h5
    exact ⟨b, off, k, p, x2, x3, v, rfl, h1, h2, h3, h4, h5⟩
end
end Go.Proofs.Ytoodgjmgkjhpoaa
