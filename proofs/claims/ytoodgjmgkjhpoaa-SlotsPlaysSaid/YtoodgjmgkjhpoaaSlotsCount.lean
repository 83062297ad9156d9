/- How many slots are held. -/
import Derived.Test.YtoodgjmgkjhpoaaSlotsRef6
namespace Go.Proofs.Ytoodgjmgkjhpoaa
open Go Go.RowKit

def held (L : List (Slot Int)) : Nat := L.countP (·.held)
theorem heldTo_count (L : List (Slot Int)) : ∀ j, j ≤ L.length → (heldTo L j).length = (L.take j).countP (·.held) := by
  intro j
  induction j with
  | zero => intro _; simp [heldTo]
  | succ j ih =>
    intro hj
    obtain ⟨s, hs⟩ : ∃ s, L[j]? = some s := ⟨L[j], by simp [show j < L.length by omega]⟩
    have h1 := ih (by omega)
    rw [List.take_add_one, hs, List.countP_append]
    cases hh : s.held with
    | true => rw [heldTo_yes hs hh, List.length_append]; simp [h1, hh]
    | false => rw [heldTo_no hs hh]; simp [h1, hh]
theorem held_len (L : List (Slot Int)) : (heldTo L L.length).length = held L := by
  rw [heldTo_count L L.length (Nat.le_refl _), List.take_length]; rfl
theorem held_le (L : List (Slot Int)) : held L ≤ L.length := List.countP_le_length
theorem held_set {L : List (Slot Int)} {i : Nat} {s t : Slot Int} (hs : L[i]? = some s) : held (L.set i t) + (if s.held then 1 else 0) = held L + (if t.held then 1 else 0) := by
  unfold held
  induction L generalizing i with
  | nil => simp at hs
  | cons a L ih =>
    cases i with
    | zero =>
      simp at hs
      subst hs
      simp only [List.set_cons_zero, List.countP_cons]
      omega
    | succ i =>
      simp only [List.getElem?_cons_succ] at hs
      have := ih hs
      simp only [List.set_cons_succ, List.countP_cons]
      omega
theorem held_new (n : Nat) : held (List.replicate n ⟨0, false, 0⟩) = 0 := by
  simp [held, List.countP_replicate]
theorem held_drop {L : List (Slot Int)} {i : Nat} {s : Slot Int} (hs : L[i]? = some s) (hh : s.held = true) (g : Nat) (v : Int) : held L = held (L.set i ⟨v, false, g⟩) + 1 := by
  have := held_set (t := ⟨v, false, g⟩) hs
  simp [hh] at this
  omega
theorem held_put {L : List (Slot Int)} {i : Nat} {s : Slot Int} (hs : L[i]? = some s) (hh : s.held = false) (g : Nat) (v : Int) : held (L.set i ⟨v, true, g⟩) = held L + 1 := by
  have := held_set (t := ⟨v, true, g⟩) hs
  simp [hh] at this
  omega
theorem held_same {L : List (Slot Int)} {i : Nat} {s : Slot Int} (hs : L[i]? = some s) (hh : s.held = true) (g : Nat) (v : Int) : held (L.set i ⟨v, true, g⟩) = held L := by
  have := held_set (t := ⟨v, true, g⟩) hs
  simp [hh] at this
  omega
theorem freeIdx_at {last i : Nat} {L : List (Slot Int)} (h : freeIdx last L = some i) : ∃ s, L[i]? = some s ∧ s.held = false ∧ s.gen ≠ last := by
  unfold freeIdx at h
  rw [List.findIdx?_eq_some_iff_getElem] at h
  obtain ⟨hi, hp, _⟩ := h
  refine ⟨L[i], by simp [hi], ?_⟩
  simpa using hp
end Go.Proofs.Ytoodgjmgkjhpoaa
