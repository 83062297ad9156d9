/- The statements' told over rings: it answers true. -/
import Derived.Test.YtoodgjmgkjhpoaaRingTI
import Derived.Test.YtoodgjmgkjhpoaaArith
namespace Go.Proofs.Ytoodgjmgkjhpoaa
open Go Go.RowKit
attribute [local go_sem] calmQ_normal wide_fn wide_depth Oper.semAt_some

/-- a ring made since w₀ -/
structure RO (w₀ w : World) (r : Nat) (ds : List Nat) (xs : List Int) : Prop where
  at_ : Rgi w r ds xs
  new : ∀ x, x ∈ r :: ds → w₀.heap.size ≤ x
  fr : Fr [] w₀ w
theorem RO.step {w₀ w w' : World} {r : Nat} {ds ds' : List Nat} {xs xs' : List Int} (h : RO w₀ w r ds xs) (k : Rgi w' r ds' xs') (f : Fr (r :: ds) w w') (g : Gr w ds ds') : RO w₀ w' r ds' xs' := by
  have hz := h.fr.size
  refine ⟨k, fun x hx => ?_, h.fr.trans (fun x hx => .inr (h.new x hx)) f⟩
  rcases List.mem_cons.1 hx with rfl | hx
  · exact h.new _ (by simp)
  · rcases g x hx with h' | h'
    · exact h.new x (by simp [h'])
    · omega
theorem RO.fr0 {w₀ w w' : World} {r : Nat} {ds : List Nat} {xs : List Int} (h : RO w₀ w r ds xs) (f : Fr [] w w') : RO w₀ w' r ds xs := ⟨h.at_.fr f (by simp), h.new, h.fr.trans' f⟩

set_option maxRecDepth 100000 in
set_option maxHeartbeats 4000000 in
theorem told4 (w : World) : Calls Try.prog 21 #[] w fun e w' => e = .returned (.bool true) ∧ Fr [] w w' := by
  go_enter Try.func21, Try.ntmps21
  go_wp2_with fail
  refine (new_i w).mono ?_
  rintro e w1 ⟨rfl, h1, f1, hz1⟩
  have H1 : Hid (RO w w1 w.heap.size [] []) := ⟨h1, by simp, f1⟩
  clear h1 f1 hz1
  go_wp2_with fail
  refine (popF_no_i H1.out.at_).mono ?_
  rintro e w2 ⟨rfl, rfl⟩
  go_wp2_with fail
  refine (pushB_i H1.out.at_ (by simp) 1).mono ?_
  rintro e w3 ⟨rfl, ds3, h3, f3, g3⟩
  have H3 := Lib.hid (H1.out.step h3 f3 g3)
  clear h3 f3 g3 H1
  go_wp2_with fail
  refine (pushB_i H3.out.at_ (by simp) 2).mono ?_
  rintro e w4 ⟨rfl, ds4, h4, f4, g4⟩
  have H4 := Lib.hid (H3.out.step h4 f4 g4)
  clear h4 f4 g4 H3
  go_wp2_with fail
  refine (pushF_i H4.out.at_ (by simp) 0).mono ?_
  rintro e w5 ⟨rfl, ds5, h5, f5, g5⟩
  have H5 := Lib.hid (H4.out.step h5 f5 g5)
  clear h5 f5 g5 H4
  go_wp2_with fail
  refine (turn_i H5.out.at_ (by simp) (by simp) 1).mono ?_
  rintro e w6 ⟨rfl, ds6, h6, f6, g6⟩
  have H6 := Lib.hid (H5.out.step h6 f6 g6)
  clear h6 f6 g6 H5
  go_wp2_with fail
  refine (at_yesZ_i H6.out.at_ (i := 2) (x := 0) (by omega) (by rfl)).mono ?_
  rintro e w7 ⟨rfl, q, rfl⟩
  have H7 := Lib.hid (H6.out.fr0 ((Fr.refl [] w6).drewN q))
  clear H6
  go_wp2_with fail
  refine (len_i H7.out.at_).mono ?_
  rintro e w8 ⟨rfl, rfl⟩
  go_wp2
  go_ret
  exact ⟨rfl, H7.out.fr⟩
end Go.Proofs.Ytoodgjmgkjhpoaa
