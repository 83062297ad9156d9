/- Things of several cells, all of them numbers. -/
import Derived.Test.YteojodcdehkejaaRingCore
namespace Go.Proofs.Yteojodcdehkejaa
open Go Go.RowKit

/-- three numbers -/
structure P3 where
  f0 : Int
  f1 : Int
  f2 : Int
/-- six numbers -/
structure P6 where
  f0 : Int
  f1 : Int
  f2 : Int
  f3 : Int
  f4 : Int
  f5 : Int
def encP3 (x : P3) : List Value := [.int .i64 x.f0, .int .i64 x.f1, .int .i64 x.f2]
def encP6 (x : P6) : List Value := [.int .i64 x.f0, .int .i64 x.f1, .int .i64 x.f2, .int .i64 x.f3, .int .i64 x.f4, .int .i64 x.f5]
theorem Splice.three {cs : List Value} {m : Nat} (h : m * 3 + 3 ≤ cs.length) (a b c : Value) : Splice cs (((cs.set (m * 3) a).set (m * 3 + 1) b).set (m * 3 + 2) c) 3 m [a, b, c] := by
  refine ⟨by simp, fun j hj => ?_, fun k hk => ?_⟩
  · match j, hj with
    | 0, _ => simp [List.getElem?_set]; omega
    | 1, _ => simp [List.getElem?_set]; omega
    | 2, _ => simp [List.getElem?_set]; omega
  · rw [List.getElem?_set_ne (by omega), List.getElem?_set_ne (by omega), List.getElem?_set_ne (by omega)]
theorem Splice.six {cs : List Value} {m : Nat} (h : m * 6 + 6 ≤ cs.length) (a b c d e f : Value) :
    Splice cs ((((((cs.set (m * 6) a).set (m * 6 + 1) b).set (m * 6 + 2) c).set (m * 6 + 3) d).set (m * 6 + 4) e).set (m * 6 + 5) f) 6 m [a, b, c, d, e, f] := by
  refine ⟨by simp, fun j hj => ?_, fun k hk => ?_⟩
  · match j, hj with
    | 0, _ => simp [List.getElem?_set]; omega
    | 1, _ => simp [List.getElem?_set]; omega
    | 2, _ => simp [List.getElem?_set]; omega
    | 3, _ => simp [List.getElem?_set]; omega
    | 4, _ => simp [List.getElem?_set]; omega
    | 5, _ => simp [List.getElem?_set]; omega
  · rw [List.getElem?_set_ne (by omega), List.getElem?_set_ne (by omega), List.getElem?_set_ne (by omega), List.getElem?_set_ne (by omega), List.getElem?_set_ne (by omega), List.getElem?_set_ne (by omega)]
/-- the place m's cells lie in a row of L places -/
theorem place_in {L sz m n : Nat} (hm : m < L) (hn : n = L * sz) : m * sz + sz ≤ n := by
  rw [hn]
  calc m * sz + sz = (m + 1) * sz := by rw [Nat.add_mul, Nat.one_mul]
    _ ≤ L * sz := Nat.mul_le_mul_right _ hm
end Go.Proofs.Yteojodcdehkejaa
