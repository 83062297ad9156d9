/- Rings of int: the contracts of their functions: the ends. -/
import Derived.Test.YtoodgjmgkjhpoaaRingPI
namespace Go.Proofs.Ytoodgjmgkjhpoaa
open Go Go.RowKit
attribute [local go_sem] calmQ_normal wide_fn wide_depth Oper.semAt_some

theorem front_i {w : World} {r : Nat} {ds : List Nat} {x : Int} {xs : List Int} (h : Rgi w r ds (x :: xs)) :
    Calls Try.prog 78 #[.pointer (some ⟨r, 0, none⟩)] w fun e w' => e = .returned (.tuple #[Value.int .i64 x, .bool true]) ∧ ∃ n, w' = w.drewN n := by
  have hcall := Lib.hid (at_yesZ_i h (i := 0) (x := x) (by omega) (by simp))
  clear h
  go_enter Try.func78, Try.ntmps78
  go_wp2_with (go_at_call 26; refine hcall.out.mono ?_; rintro e w' ⟨rfl, n1, rfl⟩)
  go_ret2
  exact ⟨rfl, _, rfl⟩
theorem front_no_i {w : World} {r : Nat} {ds : List Nat} (h : Rgi w r ds []) :
    Calls Try.prog 78 #[.pointer (some ⟨r, 0, none⟩)] w fun e w' => e = .returned (.tuple #[Value.int .i64 0, .bool false]) ∧ w' = w := by
  have hcall := Lib.hid (at_no_i h 0 (by simp))
  clear h
  go_enter Try.func78, Try.ntmps78
  go_wp2_with (go_at_call 26; refine hcall.out.mono ?_; rintro e w' ⟨rfl, rfl⟩)
  go_ret2
  exact ⟨rfl, rfl⟩
theorem back_i {w : World} {r : Nat} {ds : List Nat} {x : Int} {xs : List Int} (h : Rgi w r ds (xs ++ [x])) :
    Calls Try.prog 79 #[.pointer (some ⟨r, 0, none⟩)] w fun e w' => e = .returned (.tuple #[Value.int .i64 x, .bool true]) ∧ ∃ n, w' = w.drewN n := by
  have hcall := Lib.hid (at_yesZ_i h (i := xs.length) (x := x) (by omega) (by simp))
  have hlen : xs.length ≤ 1073741824 := by
    obtain ⟨d, L, head, rfl, cs, hb, hL, hd, hbd, hc⟩ := h.conc (by simp)
    have := hc.room
    simp at this
    omega
  obtain ⟨L, head, sv, hb, hL, hrest⟩ := h
  have h2 := hb.cell 2
  simp at h2
  clear hb hrest
  go_enter Try.func79, Try.ntmps79
  go_wp2_with (go_at_call 26; refine hcall.out.mono ?_; rintro e w' ⟨rfl, n1, rfl⟩)
  go_ret2
  exact ⟨rfl, _, rfl⟩
theorem back_no_i {w : World} {r : Nat} {ds : List Nat} (h : Rgi w r ds []) :
    Calls Try.prog 79 #[.pointer (some ⟨r, 0, none⟩)] w fun e w' => e = .returned (.tuple #[Value.int .i64 0, .bool false]) ∧ w' = w := by
  have hcall := Lib.hid (at_no_i h (-1) (by simp))
  obtain ⟨L, head, sv, hb, hL, hrest⟩ := h
  have h2 := hb.cell 2
  simp at h2
  clear hb hrest
  go_enter Try.func79, Try.ntmps79
  go_wp2_with (go_at_call 26; refine hcall.out.mono ?_; rintro e w' ⟨rfl, rfl⟩)
  go_ret2
  exact ⟨rfl, rfl⟩
end Go.Proofs.Ytoodgjmgkjhpoaa
