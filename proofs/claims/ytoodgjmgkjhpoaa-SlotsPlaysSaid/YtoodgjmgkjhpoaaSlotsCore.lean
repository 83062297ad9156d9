/- Slots, in plain lists. -/
import Derived.Test.YtoodgjmgkjhpoaaRingCore
namespace Go.Proofs.Ytoodgjmgkjhpoaa
open Go Go.RowKit

structure Slot (α : Type) where
  v : α
  held : Bool
  gen : Nat

/-- Slots in memory: the struct at the head of block b, its cells in block d. -/
structure SlotsAt {α : Type} (TS TE : Nat) (enc : Slot α → List Value) (w : World) (b d last : Nat) (L : List (Slot α)) (cnt : Nat) : Prop where
  hb : Blk w b TS [.slice (some ⟨d, 0, none⟩) L.length L.length, .int .i64 last, .int .i64 cnt]
  hd : Blk w d TE (L.flatMap enc)
  ne : b ≠ d
  room : L.length ≤ 65536
  lastL : last ≤ 2147483647
  gens : ∀ s, s ∈ L → s.gen ≤ last
variable {α : Type} {TS TE : Nat} {enc : Slot α → List Value} {w w' : World} {b d last cnt : Nat} {L : List (Slot α)}
theorem SlotsAt.kept (h : SlotsAt TS TE enc w b d last L cnt) (hk : ∀ x, x ∈ [b, d] → w'.heap[x]? = w.heap[x]?) : SlotsAt TS TE enc w' b d last L cnt :=
  ⟨(hk b (by simp)).trans h.hb, (hk d (by simp)).trans h.hd, h.ne, h.room, h.lastL, h.gens⟩
theorem SlotsAt.fr (h : SlotsAt TS TE enc w b d last L cnt) {S : List Nat} (f : Fr S w w') (hd : ∀ x, x ∈ [b, d] → x ∉ S) : SlotsAt TS TE enc w' b d last L cnt :=
  h.kept fun x hx => f.block x (by simp at hx; rcases hx with rfl | rfl; exact h.hb.lt; exact h.hd.lt) (hd x hx)
theorem SlotsAt.sim (h : SlotsAt TS TE enc w b d last L cnt) (s : Sim w w') : SlotsAt TS TE enc w' b d last L cnt := h.kept fun x _ => by rw [s.heap]
/-- the least slot that may be given -/
def freeIdx (last : Nat) (L : List (Slot α)) : Option Nat := L.findIdx? fun s => !s.held && s.gen != last
end Go.Proofs.Ytoodgjmgkjhpoaa
