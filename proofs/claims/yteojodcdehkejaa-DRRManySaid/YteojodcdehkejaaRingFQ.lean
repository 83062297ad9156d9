/- Rings of *millrace/drr.flow: the contracts of their functions: the ends. -/
import Derived.Test.YteojodcdehkejaaRingPQ
namespace Go.Proofs.Yteojodcdehkejaa
open Go Go.RowKit
attribute [local go_sem] calmQ_normal wide_fn wide_depth Oper.semAt_some

theorem front_q {w : World} {r : Nat} {ds : List Nat} {x : (Option Nat)} {xs : List (Option Nat)} (h : Rgq w r ds (x :: xs)) :
    Calls Try.prog 48 #[.pointer (some ⟨r, 0, none⟩)] w fun e w' => e = .returned (.tuple #[ptrV x, .bool true]) ∧ ∃ n, w' = w.drewN n := by
  have hcall := Lib.hid (at_yesZ_q h (i := 0) (x := x) (by omega) (by simp))
  clear h
  go_enter Try.func48, Try.ntmps48
  go_wp2_with (go_at_call 85; refine hcall.out.mono ?_; rintro e w' ⟨rfl, n1, rfl⟩)
  go_ret2
  exact ⟨rfl, _, rfl⟩
theorem front_no_q {w : World} {r : Nat} {ds : List Nat} (h : Rgq w r ds []) :
    Calls Try.prog 48 #[.pointer (some ⟨r, 0, none⟩)] w fun e w' => e = .returned (.tuple #[ptrV none, .bool false]) ∧ w' = w := by
  have hcall := Lib.hid (at_no_q h 0 (by simp))
  clear h
  go_enter Try.func48, Try.ntmps48
  go_wp2_with (go_at_call 85; refine hcall.out.mono ?_; rintro e w' ⟨rfl, rfl⟩)
  go_ret2
  exact ⟨rfl, rfl⟩
end Go.Proofs.Yteojodcdehkejaa
