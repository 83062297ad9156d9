/- The statements' ends: it answers true where the ring and the list hold the same. -/
import Derived.Test.YtoodgjmgkjhpoaaRingDo
import Derived.Test.YtoodgjmgkjhpoaaRingFI
namespace Go.Proofs.Ytoodgjmgkjhpoaa
open Go Go.RowKit
attribute [local go_sem] calmQ_normal wide_fn wide_depth Oper.semAt_some

set_option maxRecDepth 100000 in
set_option maxHeartbeats 2000000 in
theorem ends_none {w : World} {r : Nat} {ds : List Nat} (hr : Rgi w r ds []) (ao : Option Addr) (cap : Nat) (i : Int) :
    Calls Try.prog 48 #[.pointer (some ⟨r, 0, none⟩), .slice ao 0 cap, .int .i64 i] w fun e w' => e = .returned (.bool true) ∧ Fr [] w w' := by
  have HR := Lib.hid hr
  clear hr
  have hi : i < 0 ∨ 0 ≤ i := by omega
  rcases hi with hi | hi
  all_goals
    go_enter Try.func48, Try.ntmps48
    go_wp2_with fail
    refine (front_no_i HR.out).mono ?_
    rintro e w1 ⟨rfl, hw1⟩
    subst hw1
    go_wp2_with fail
    refine (back_no_i HR.out).mono ?_
    rintro e w2 ⟨rfl, hw2⟩
    subst hw2
    go_wp2_with fail
    refine (at_no_i HR.out i (by simp; omega)).mono ?_
    rintro e w3 ⟨rfl, hw3⟩
    subst hw3
    go_wp2_with fail
    refine (len_i HR.out).mono ?_
    rintro e w4 ⟨rfl, hw4⟩
    subst hw4
    go_wp2
    go_ret
    exact ⟨rfl, Fr.refl _ _⟩

set_option maxRecDepth 100000 in
set_option maxHeartbeats 2000000 in
theorem ends_some {w : World} {r : Nat} {ds : List Nat} {xs : List Int} {v : Value} {m : Nat} {S : List Nat} (hr : Rgi w r ds xs) (hv : OwnS w 3 1 v (m + 1) (xs.flatMap encI) S) (hm : m ≤ 1048576) (i : Int) :
    Calls Try.prog 48 #[.pointer (some ⟨r, 0, none⟩), v, .int .i64 i] w fun e w' => e = .returned (.bool true) ∧ Fr [] w w' := by
  have hl := hv.1
  rw [len_flat, Nat.mul_one, Nat.mul_one] at hl
  obtain ⟨x0, t0, h0⟩ : ∃ x0 t0, xs = x0 :: t0 := by
    cases xs with
    | nil => simp at hl
    | cons a b => exact ⟨a, b, rfl⟩
  obtain ⟨t1, x1, h1⟩ : ∃ t1 x1, xs = t1 ++ [x1] := by
    rcases List.eq_nil_or_concat xs with h | ⟨a, b, h⟩
    · rw [h] at hl; simp at hl
    · exact ⟨a, b, by simpa using h⟩
  have hlen1 : t1.length = m := by rw [h1] at hl; simp at hl; omega
  obtain ⟨g, cap, rfl, _⟩ := hv.head (by omega)
  have hcell : ∀ (k : Nat) (x : Int), xs[k]? = some x → w.cell? ⟨g, k, none⟩ = some (.int .i64 x) := fun k x hx => by
    have := some_lt hx
    rw [hv.cellAt k (by omega), flat1, List.getElem?_map, hx]
    rfl
  have c0 := hcell 0 x0 (by rw [h0]; rfl)
  have c1 := hcell m x1 (by rw [h1]; simp [hlen1])
  have HC := Lib.hid hcell
  have hg := World.block_lt_of_cell? _ _ c0
  have HF := Lib.hid (show Rgi w r ds (x0 :: t0) from h0 ▸ hr)
  have HB := Lib.hid (show ∀ X, Fr [] w X → Rgi X r ds (t1 ++ [x1]) from fun X f => h1 ▸ hr.fr f (by simp))
  have HLen := Lib.hid (show ∀ X, Fr [] w X → Calls Try.prog 25 #[.pointer (some ⟨r, 0, none⟩)] X fun e w' => e = .returned (.int .i64 ((m : Int) + 1)) ∧ w' = X from fun X f => by
    have := len_i (hr.fr f (by simp))
    rw [hl] at this
    exact this)
  have HR := Lib.hid hr
  have HL := Lib.hid hl
  clear hr hv hl h0 h1 hlen1 hcell
  have C0 := Lib.hid c0
  have C1 := Lib.hid c1
  clear c0 c1
  have hi : (i < 0 ∨ (0 ≤ i ∧ (m : Int) + 1 ≤ i)) ∨ (0 ≤ i ∧ i < (m : Int) + 1) := by omega
  rcases hi with hi | ⟨hi1, hi2⟩
  · rcases hi with hi | ⟨hi1, hi2⟩
    all_goals
      go_enter Try.func48, Try.ntmps48
      go_wp2_with fail
      refine (front_i HF.out).mono ?_
      rintro e w1 ⟨rfl, q1, hw1⟩
      have F1 : Hid (Fr [] w w1) := by rw [hw1]; exact (Fr.refl _ _).drewN _
      clear hw1
      go_wp2_with fail
      refine (back_i (HB.out _ F1.out)).mono ?_
      rintro e w2 ⟨rfl, q2, hw2⟩
      have F2 : Hid (Fr [] w w2) := by rw [hw2]; exact F1.out.drewN _
      clear hw2
      go_wp2_with fail
      refine (at_no_i (HR.out.fr F2.out (by simp)) i (by have := HL.out; omega)).mono ?_
      rintro e w3 ⟨rfl, hw3⟩
      subst hw3
      have c0 := (F2.out.cell (p := ⟨g, 0, none⟩) hg (by simp)).trans C0.out
      have c1 := (F2.out.cell (p := ⟨g, m, none⟩) hg (by simp)).trans C1.out
      go_wp2_with fail
      refine (HLen.out _ F2.out).mono ?_
      rintro e w4 ⟨rfl, hw4⟩
      subst hw4
      go_wp2
      go_ret
      exact ⟨rfl, F2.out⟩
  · obtain ⟨k, rfl⟩ := Int.eq_ofNat_of_zero_le hi1
    obtain ⟨x, hx⟩ : ∃ x, xs[k]? = some x := ⟨xs[k]'(by have := HL.out; omega), by have := HL.out; simp [show k < xs.length by omega]⟩
    have C2 := Lib.hid (HC.out k x hx)
    have HX := Lib.hid hx
    clear hx
    go_enter Try.func48, Try.ntmps48
    go_wp2_with fail
    refine (front_i HF.out).mono ?_
    rintro e w1 ⟨rfl, q1, hw1⟩
    have F1 : Hid (Fr [] w w1) := by rw [hw1]; exact (Fr.refl _ _).drewN _
    clear hw1
    go_wp2_with fail
    refine (back_i (HB.out _ F1.out)).mono ?_
    rintro e w2 ⟨rfl, q2, hw2⟩
    have F2 : Hid (Fr [] w w2) := by rw [hw2]; exact F1.out.drewN _
    clear hw2
    go_wp2_with fail
    refine (at_yes_i (HR.out.fr F2.out (by simp)) HX.out).mono ?_
    rintro e w3 ⟨rfl, q3, hw3⟩
    have F3 : Hid (Fr [] w w3) := by rw [hw3]; exact F2.out.drewN _
    clear hw3
    have c0 := (F3.out.cell (p := ⟨g, 0, none⟩) hg (by simp)).trans C0.out
    have c1 := (F3.out.cell (p := ⟨g, m, none⟩) hg (by simp)).trans C1.out
    have c2 := (F3.out.cell (p := ⟨g, k, none⟩) hg (by simp)).trans C2.out
    go_wp2_with fail
    refine (HLen.out _ F3.out).mono ?_
    rintro e w4 ⟨rfl, hw4⟩
    subst hw4
    go_wp2
    go_ret
    exact ⟨rfl, F3.out⟩
end Go.Proofs.Ytoodgjmgkjhpoaa
