/- Small facts of numbers. -/
import Derived.Test.YteojodcdehkejaaBase
namespace Go.Proofs.Yteojodcdehkejaa
open Go Go.RowKit

theorem and_range (x : Int) (M : Nat) (hM : M < 9223372036854775808) : ∃ r : Nat, bits .and .i64 x (M : Int) = (r : Int) ∧ r ≤ M := by
  refine ⟨(BitVec.ofInt 64 x &&& BitVec.ofInt 64 (M : Int)).toNat, ?_, ?_⟩
  · have h : (BitVec.ofInt 64 x &&& BitVec.ofInt 64 (M : Int)).toNat ≤ M := by
      rw [BitVec.toNat_and]
      refine Nat.le_trans Nat.and_le_right ?_
      simp
      omega
    unfold bits
    show IntKind.wrap .i64 (((BitVec.ofInt 64 x &&& BitVec.ofInt 64 (M : Int)).toNat : Nat) : Int) = _
    generalize (BitVec.ofInt 64 x &&& BitVec.ofInt 64 (M : Int)).toNat = r at *
    have := IntKind.wrap_i64 (r : Int)
    rw [this]
    omega
  · rw [BitVec.toNat_and]
    refine Nat.le_trans Nat.and_le_right ?_
    simp
    omega
theorem and_up (x : Int) (M : Nat) (hM : M < 9223372036854775807) : ∃ r : Nat, wrap64 (bits .and .i64 x (M : Int) + 1) = (r : Int) ∧ 1 ≤ r ∧ r ≤ M + 1 := by
  obtain ⟨r, h1, h2⟩ := and_range x M (by omega)
  refine ⟨r + 1, ?_, by omega, by omega⟩
  rw [h1]
  unfold wrap64
  omega

/-- one cell of an owned row is written -/
theorem OwnS.set {w : World} {e sz g n cap : Nat} {xs : List Value} {S : List Nat} (h : OwnS w e sz (.slice (some ⟨g, 0, none⟩) n cap) n xs S) (k : Nat) (v : Value) :
    OwnS (w.setCell ⟨g, k, none⟩ v) e sz (.slice (some ⟨g, 0, none⟩) n cap) n (xs.set k v) S := by
  refine ⟨by rw [List.length_set]; exact h.1, ?_⟩
  rcases h.2 with ⟨h, _⟩ | ⟨g', cap', cur, hv, hS, hg, h1, h2, h3, h4⟩
  · cases h
  · cases hv
    have hb : Blk w g e cur.toList := by unfold Blk; simpa using hg
    have hb2 := hb.set k v
    unfold Blk at hb2
    exact .inr ⟨g, cap, _, rfl, hS, hb2, h1, h2, by simpa using h3, by rw [← h4, List.take_set]⟩
theorem OwnS.frz {w : World} {e sz g n cap : Nat} {xs : List Value} {S : List Nat} (h : OwnS w e sz (.slice (some ⟨g, 0, none⟩) n cap) n xs S) (k : Nat) : w.frozen? ⟨g, k, none⟩ = false := by
  rcases h.2 with ⟨h, _⟩ | ⟨g', cap', cur, hv, hS, hg, h1, h2, h3, h4⟩
  · cases h
  · cases hv
    have hb : Blk w g e cur.toList := by unfold Blk; simpa using hg
    exact hb.frz k
end Go.Proofs.Yteojodcdehkejaa
