/- The statements' same of pairs: two lists that hold the same. -/
import Derived.Test.YtoodgjmgkjhpoaaSlotsGoes
namespace Go.Proofs.Ytoodgjmgkjhpoaa
open Go Go.RowKit
attribute [local go_sem] calmQ_normal wide_fn wide_depth Oper.semAt_some

set_option maxHeartbeats 4000000 in
set_option maxRecDepth 100000 in
theorem psame {w : World} {u v : Value} {n : Nat} {xs : List P3} {S T : List Nat} (hu : OwnS w 104 3 u n (xs.flatMap encP3) S) (hv : OwnS w 104 3 v n (xs.flatMap encP3) T) (hn : n = xs.length) (hn2 : n ≤ 1073741824) :
    Calls Try.prog 59 #[u, v] w fun e w' => e = .returned (.bool true) ∧ Fr [] w w' := by
  obtain ⟨uao, ucap, rfl⟩ := hu.val
  obtain ⟨vao, vcap, rfl⟩ := hv.val
  have HN := Lib.hid hn
  have HU := Lib.hid hu
  have HV := Lib.hid hv
  clear hn hu hv
  go_enter Try.func59, Try.ntmps59
  go_wp2
  go_loopg [5] n (fun k i wr => ∃ j : Nat, k + j = n ∧ i = .int .i64 j ∧ ∃ q, wr = w.drewN q)
  case atStart => exact ⟨0, by omega, rfl, 0, rfl⟩
  case round =>
    obtain ⟨j, hk, rfl, q, rfl⟩ := hrel
    by_cases hj : j < n
    · obtain ⟨x, hx⟩ : ∃ x, xs[j]? = some x := ⟨xs[j]'(by rw [← HN.out]; exact hj), by simp⟩
      obtain ⟨g, cap, hv, _⟩ := HU.out.head (by omega)
      cases hv
      obtain ⟨g2, cap2, hv, _⟩ := HV.out.head (by omega)
      cases hv
      obtain ⟨c0, c1, c2⟩ := flat3_cells HU.out hx hj
      obtain ⟨d0, d1, d2⟩ := flat3_cells HV.out hx hj
      clear hx
      go_wp2
      go_quiet (fail)
      go_wp2
      go_roundg (gk - 1)
      case measure => omega
      case rel => exact ⟨j + 1, by omega, by go_num, _, rfl⟩
    · go_wp2
      go_ret
      exact ⟨rfl, (Fr.refl [] w).drewN _⟩
end Go.Proofs.Ytoodgjmgkjhpoaa
