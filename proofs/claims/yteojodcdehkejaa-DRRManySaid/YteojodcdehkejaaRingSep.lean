/- A ring as a piece of memory. -/
import Derived.Test.YteojodcdehkejaaRingCore
import Derived.Test.YteojodcdehkejaaSep
namespace Go.Proofs.Yteojodcdehkejaa
open Go Go.RowKit

def Chunk.ring {α : Type} (TR E sz : Nat) (enc : α → List Value) (r : Nat) (ds : List Nat) (xs : List α) : Chunk where
  bs := r :: ds
  ok w := RingAt TR E sz enc w r ds xs
  kept h hk := RingAt.kept h hk
  lt h := RingAt.lt h
theorem Sep.ring {α : Type} {TR E sz : Nat} {enc : α → List Value} {w0 w : World} {S0 : List Nat} {cs : List Chunk} (h : Sep w0 S0 w cs) (i : Nat) {r : Nat} {ds : List Nat} {xs : List α} (hi : cs[i]? = some (Chunk.ring TR E sz enc r ds xs)) : RingAt TR E sz enc w r ds xs := h.hs.get hi
/-- a ring that a call has turned -/
theorem Sep.ring1 {α : Type} {TR E sz : Nat} {enc : α → List Value} {w0 w w' : World} {S0 : List Nat} {cs : List Chunk} (h : Sep w0 S0 w cs) (i : Nat) {r : Nat} {ds ds' : List Nat} {xs ys : List α} (hi : cs[i]? = some (Chunk.ring TR E sz enc r ds xs))
    (k : RingAt TR E sz enc w' r ds' ys) (f : Fr (r :: ds) w w') (g : Gr w ds ds') : Sep w0 S0 w' (cs.set i (Chunk.ring TR E sz enc r ds' ys)) :=
  h.call1' i hi (Sep.of_one (c := Chunk.ring TR E sz enc r ds' ys) f k (Gr.cons r g))
end Go.Proofs.Yteojodcdehkejaa
