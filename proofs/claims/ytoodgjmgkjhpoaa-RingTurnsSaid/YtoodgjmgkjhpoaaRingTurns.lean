/- The statement RingTurns: the walk: of whatever list and numbers it answers true. -/
import Derived.Test.YtoodgjmgkjhpoaaRingSame
namespace Go.Proofs.Ytoodgjmgkjhpoaa
open Go Go.RowKit
attribute [local go_sem] calmQ_normal wide_fn wide_depth Oper.semAt_some

theorem neg_up {b : Int} (h0 : -9223372036854775808 ≤ b) (h1 : b ≤ 9223372036854775807) : wrap64 (-wrap64 (b + 1)) = -b - 1 := by
  unfold wrap64
  omega
theorem take_snoc {xs : List Int} {j : Nat} {x : Int} (hx : xs[j]? = some x) : xs.take (j + 1) = xs.take j ++ [x] := by
  rw [List.take_add_one, hx]
  rfl
theorem drop_cons {xs : List Int} {j : Nat} {x : Int} (hx : xs[j]? = some x) : xs.drop j = x :: xs.drop (j + 1) := by
  obtain ⟨h1, h2⟩ := List.getElem?_eq_some_iff.1 hx
  rw [List.drop_eq_getElem_cons h1, h2]
theorem i64_range {b : Int} (h : (Lit.int .i64 b).wf = true) : -9223372036854775808 ≤ b ∧ b ≤ 9223372036854775807 := by
  simp only [Lit.wf, IntKind.min, IntKind.max, IntKind.signed, IntKind.bits, Bool.and_eq_true, decide_eq_true_eq, if_true] at h
  omega

set_option maxRecDepth 100000 in
set_option maxHeartbeats 2000000 in
theorem turns_walk (w : World) (ao : Option Addr) (len cap : Nat) (zs : List Int) (a b : Int) (hlm : len ≤ maxLen) (hlc : len ≤ cap)
    (wa : (Lit.int .i64 a).wf = true) (wb : (Lit.int .i64 b).wf = true)
    (hrow : ∀ n, n ≤ len → RowI w ao ((List.range n).map fun k => zs.getD k 0)) :
    Calls Try.prog 6 #[.slice ao len cap, .int .i64 a, .int .i64 b] w fun e w' => e = .returned (.bool true) ∧ Fr [] w w' := by
  obtain ⟨ha1, ha2⟩ := i64_range wa
  obtain ⟨hb1, hb2⟩ := i64_range wb
  have hna := Lib.hid (neg_up ha1 ha2)
  have hnb := Lib.hid (neg_up hb1 hb2)
  have HR0 := Lib.hid hrow
  unfold maxLen at hlm
  clear wa wb hrow
  go_enter Try.func6, Try.ntmps6
  by_cases hl : 1000 < len
  case' pos =>
    obtain ⟨blk, off, rfl, _⟩ := HR0.out len (Nat.le_refl _) 0 (zs.getD 0 0) (by rw [List.getElem?_map, List.getElem?_range (by omega)]; rfl)
    go_wp2_with fail
    generalize hao : (some (⟨blk, off, none⟩ : Addr)) = ao at HR0 ⊢
    clear hao
    obtain ⟨N, hN, hN2, hN3⟩ : ∃ N : Nat, (1000 : Nat) = N ∧ N ≤ 1000 ∧ N ≤ len := ⟨1000, rfl, by omega, by omega⟩
  case' neg =>
    go_wp2_with fail
    obtain ⟨N, hN, hN2, hN3⟩ : ∃ N : Nat, len = N ∧ N ≤ 1000 ∧ N ≤ len := ⟨len, rfl, by omega, by omega⟩
  all_goals
    rw [hN]
    have HR := Lib.hid (HR0.out N hN3)
    obtain ⟨xs, hxs⟩ : ∃ xs, (List.range N).map (fun k => zs.getD k 0) = xs := ⟨_, rfl⟩
    rw [hxs] at HR
    have HL : Hid (N = xs.length) := by rw [← hxs]; unfold Hid; simp
    clear hN HR0 hxs hl hN3 hlm hlc
    refine (new_i w).mono ?_
    rintro e w1 ⟨rfl, h1, f1, hz1'⟩
    have hz1 : w.heap.size < w1.heap.size := by omega
    clear hz1'
    go_wp2_with fail
    refine (new_i w1).mono ?_
    rintro e w2 ⟨rfl, h2, f2, hz2⟩
    have T0 : Hid (R2 w w2 w.heap.size [] [] w1.heap.size [] []) := ⟨h1.fr f2 (by simp), h2, by simp; omega, by simp; omega, f1.trans' f2⟩
    clear h1 f1 h2 f2 hz2
    go_wp2_with fail
    refine (told4 w2).mono ?_
    rintro e w3 ⟨rfl, f3⟩
    have T1 := Lib.hid (T0.out.fr0 f3)
    clear f3 T0
    go_wp2_with fail
    go_loopg [9] (N + 1) (fun k iv wr => ∃ j : Nat, k + j = N + 1 ∧ j ≤ N ∧ iv = .int .i64 j ∧ ∃ dr dt, Hid (R2 w wr w.heap.size dr (xs.take j) w1.heap.size dt (xs.take j).reverse))
    case atStart => exact ⟨0, by omega, by omega, rfl, [], [], by simpa using T1⟩
    case round =>
      obtain ⟨j, hk, hj, rfl, dr, dt, hT⟩ := hrel
      clear T1
      by_cases hjN : j < N
      · obtain ⟨x, hx⟩ : ∃ x, xs[j]? = some x := ⟨xs[j]'(by have := HL.out; omega), by have := HL.out; simp [show j < xs.length by omega]⟩
        obtain ⟨b1, o1, rfl, h1⟩ := HR.out j x hx
        have hbl := World.block_lt_of_cell? _ _ h1
        have c1 := (hT.out.fr.cell (p := ⟨b1, o1 + j, none⟩) hbl (by simp)).trans h1
        have H1 := Lib.hid h1
        have HX := Lib.hid hx
        clear h1 hx
        go_wp2_with fail
        refine (pushB_i hT.out.a (by simp; omega) x).mono ?_
        rintro e w4 ⟨rfl, dr', k4, f4, g4⟩
        have T4 := Lib.hid (hT.out.one k4 f4 g4)
        have c1 := (T4.out.fr.cell (p := ⟨b1, o1 + j, none⟩) hbl (by simp)).trans H1.out
        clear k4 f4 g4
        go_wp2_with fail
        refine (pushF_i T4.out.b (by simp; omega) x).mono ?_
        rintro e w5 ⟨rfl, dt', k5, f5, g5⟩
        have T5 := Lib.hid (T4.out.two k5 f5 g5)
        clear k5 f5 g5 c1
        go_wp2_with fail
        go_roundg (gk - 1)
        case measure => omega
        case rel => exact ⟨j + 1, by omega, by omega, by go_num, dr', dt', by rw [take_snoc HX.out, List.reverse_append]; exact T5⟩
      · obtain rfl : j = N := by omega
        have T6 : Hid (R2 w wr w.heap.size dr xs w1.heap.size dt ((xs.take 0).reverse ++ (xs.drop 0).reverse)) := by
          have := hT.out
          rw [List.take_of_length_le (by have := HL.out; omega)] at this
          unfold Hid
          simpa using this
        clear hT
        go_wp2_with fail
        go_loopg [10] (j + 1) (fun k iv wr => ∃ i : Nat, k + i = j + 1 ∧ i ≤ j ∧ iv = .int .i64 i ∧ ∃ dr dt, Hid (R2 w wr w.heap.size dr xs w1.heap.size dt ((xs.take i).reverse ++ (xs.drop i).reverse)))
        case atStart => exact ⟨0, by omega, by omega, rfl, dr, dt, T6⟩
        case round =>
          obtain ⟨i, hk, hi, rfl, dr, dt, hT⟩ := hrel
          clear T6
          by_cases hij : i < j
          · obtain ⟨x, hx⟩ : ∃ x, xs[i]? = some x := ⟨xs[i]'(by have := HL.out; omega), by have := HL.out; simp [show i < xs.length by omega]⟩
            obtain ⟨b1, o1, rfl, h1⟩ := HR.out i x hx
            have hbl := World.block_lt_of_cell? _ _ h1
            have H1 := Lib.hid h1
            have HX := Lib.hid hx
            clear h1 hx
            have hys : Hid ((xs.take i).reverse ++ (xs.drop i).reverse = ((xs.take i).reverse ++ (xs.drop (i + 1)).reverse) ++ [x]) := by
              unfold Hid
              rw [drop_cons HX.out, List.reverse_cons, List.append_assoc]
            obtain ⟨ys, hys2⟩ : ∃ ys, (xs.take i).reverse ++ (xs.drop (i + 1)).reverse = ys := ⟨_, rfl⟩
            rw [hys.out] at hT
            rw [hys2] at hT
            have HY := Lib.hid hys2
            have HYL : ys.length ≤ 1000 := by rw [← hys2]; have := HL.out; simp; omega
            clear hys hys2
            go_wp2_with fail
            refine (popB_i hT.out.b).mono ?_
            rintro e w4 ⟨rfl, k4, f4⟩
            have T4 := Lib.hid (hT.out.two k4 f4 (Gr.refl _ _))
            have c1 := (T4.out.fr.cell (p := ⟨b1, o1 + i, none⟩) hbl (by simp)).trans H1.out
            clear k4 f4
            go_wp2_with fail
            refine (pushB_i T4.out.b (by omega) x).mono ?_
            rintro e w5 ⟨rfl, dt5, k5, f5, g5⟩
            have T5 := Lib.hid (T4.out.two k5 f5 g5)
            clear k5 f5 g5 c1
            go_wp2_with fail
            refine (popB_i T5.out.b).mono ?_
            rintro e w6 ⟨rfl, k6, f6⟩
            have T6 := Lib.hid (T5.out.two k6 f6 (Gr.refl _ _))
            clear k6 f6
            go_wp2_with fail
            refine (pushF_i T6.out.b (by omega) x).mono ?_
            rintro e w7 ⟨rfl, dt7, k7, f7, g7⟩
            have T7 := Lib.hid (T6.out.two k7 f7 g7)
            clear k7 f7 g7
            go_wp2_with fail
            go_roundg (gk - 1)
            case measure => omega
            case rel =>
              refine ⟨i + 1, by omega, by omega, by go_num, dr, dt7, ?_⟩
              rw [take_snoc HX.out, List.reverse_append, List.reverse_singleton, List.singleton_append, List.cons_append, HY.out]
              exact T7
          · obtain rfl : i = j := by omega
            go_wp2_with fail
            refine (turnZ hT.out.a (by have := HL.out; omega) a).mono ?_
            rintro e w4 ⟨rfl, d4, k4, f4, g4⟩
            have T4 := Lib.hid (hT.out.one k4 f4 g4)
            clear k4 f4 g4 hT
            go_wp2_with fail
            refine (turnZ T4.out.a (by rw [rotZ_len]; have := HL.out; omega) b).mono ?_
            rintro e w5 ⟨rfl, d5, k5, f5, g5⟩
            have T5 := Lib.hid (T4.out.one k5 f5 g5)
            clear k5 f5 g5 T4
            go_wp2_with fail
            refine (turnZ T5.out.a (by rw [rotZ_len, rotZ_len]; have := HL.out; omega) i).mono ?_
            rintro e w6 ⟨rfl, d6, k6, f6, g6⟩
            have T6' := T5.out.one k6 f6 g6
            rw [rotZ_add, rotZ_add] at T6'
            have T6 := Lib.hid T6'
            clear k6 f6 g6 T5 T6'
            have hcase : (-2305843009213693952 < a ∧ a < 2305843009213693952 ∧ -2305843009213693952 < b ∧ b < 2305843009213693952) ∨ (a ≤ -2305843009213693952) ∨ (-2305843009213693952 < a ∧ 2305843009213693952 ≤ a) ∨ (-2305843009213693952 < a ∧ a < 2305843009213693952 ∧ b ≤ -2305843009213693952) ∨ (-2305843009213693952 < a ∧ a < 2305843009213693952 ∧ -2305843009213693952 < b ∧ 2305843009213693952 ≤ b) := by omega
            rcases hcase with ⟨q1, q2, q3, q4⟩ | ⟨q1⟩ | ⟨q1, q2⟩ | ⟨q1, q2, q3⟩ | ⟨q1, q2, q3, q4⟩
            case' inl =>
              go_wp2_with fail
              refine (turnZ T6.out.a (by rw [rotZ_len]; have := HL.out; omega) (-a - b)).mono ?_
              rintro e wz ⟨rfl, d7, k7, f7, g7⟩
              have T7' := T6.out.one k7 f7 g7
              rw [rotZ_add, rotZ_none _ _ (by have := HL.out; rw [show a + (b + (i : Int)) + (-a - b) = (i : Int) from by omega, this]; exact Int.emod_self)] at T7'
              have TZ := Lib.hid T7'
              clear k7 f7 g7 T6 T7'
            case' inr.inl =>
              go_wp2_with fail
              refine (turnZ T6.out.a (by rw [rotZ_len]; have := HL.out; omega) _).mono ?_
              rintro e w7 ⟨rfl, d7, k7, f7, g7⟩
              have T7' := T6.out.one k7 f7 g7
              rw [rotZ_add] at T7'
              have T7 := Lib.hid T7'
              clear k7 f7 g7 T6 T7'
              go_wp2_with fail
              refine (turnZ T7.out.a (by rw [rotZ_len]; have := HL.out; omega) 1).mono ?_
              rintro e w8 ⟨rfl, d8, k8, f8, g8⟩
              have T8' := T7.out.one k8 f8 g8
              rw [rotZ_add] at T8'
              have T8 := Lib.hid T8'
              clear k8 f8 g8 T7 T8'
              go_wp2_with fail
              refine (turnZ T8.out.a (by rw [rotZ_len]; have := HL.out; omega) _).mono ?_
              rintro e w9 ⟨rfl, d9, k9, f9, g9⟩
              have T9' := T8.out.one k9 f9 g9
              rw [rotZ_add] at T9'
              have T9 := Lib.hid T9'
              clear k9 f9 g9 T8 T9'
              go_wp2_with fail
              refine (turnZ T9.out.a (by rw [rotZ_len]; have := HL.out; omega) 1).mono ?_
              rintro e wz ⟨rfl, dz, kz, fz, gz⟩
              have TZ' := T9.out.one kz fz gz
              rw [rotZ_add, rotZ_none _ _ (by have hL := HL.out; have ea := hna.out; have eb := hnb.out; exact (congrArg (· % (xs.length : Int)) (show _ = (i : Int) from by first | omega | (unfold wrap64 at *; omega))).trans (by show (i : Int) % (xs.length : Int) = 0; rw [← hL]; exact Int.emod_self))] at TZ'
              have TZ := Lib.hid TZ'
              clear kz fz gz T9 TZ'
            case' inr.inr.inl =>
              go_wp2_with fail
              refine (turnZ T6.out.a (by rw [rotZ_len]; have := HL.out; omega) _).mono ?_
              rintro e w7 ⟨rfl, d7, k7, f7, g7⟩
              have T7' := T6.out.one k7 f7 g7
              rw [rotZ_add] at T7'
              have T7 := Lib.hid T7'
              clear k7 f7 g7 T6 T7'
              go_wp2_with fail
              refine (turnZ T7.out.a (by rw [rotZ_len]; have := HL.out; omega) 1).mono ?_
              rintro e w8 ⟨rfl, d8, k8, f8, g8⟩
              have T8' := T7.out.one k8 f8 g8
              rw [rotZ_add] at T8'
              have T8 := Lib.hid T8'
              clear k8 f8 g8 T7 T8'
              go_wp2_with fail
              refine (turnZ T8.out.a (by rw [rotZ_len]; have := HL.out; omega) _).mono ?_
              rintro e w9 ⟨rfl, d9, k9, f9, g9⟩
              have T9' := T8.out.one k9 f9 g9
              rw [rotZ_add] at T9'
              have T9 := Lib.hid T9'
              clear k9 f9 g9 T8 T9'
              go_wp2_with fail
              refine (turnZ T9.out.a (by rw [rotZ_len]; have := HL.out; omega) 1).mono ?_
              rintro e wz ⟨rfl, dz, kz, fz, gz⟩
              have TZ' := T9.out.one kz fz gz
              rw [rotZ_add, rotZ_none _ _ (by have hL := HL.out; have ea := hna.out; have eb := hnb.out; exact (congrArg (· % (xs.length : Int)) (show _ = (i : Int) from by first | omega | (unfold wrap64 at *; omega))).trans (by show (i : Int) % (xs.length : Int) = 0; rw [← hL]; exact Int.emod_self))] at TZ'
              have TZ := Lib.hid TZ'
              clear kz fz gz T9 TZ'
            case' inr.inr.inr.inl =>
              go_wp2_with fail
              refine (turnZ T6.out.a (by rw [rotZ_len]; have := HL.out; omega) _).mono ?_
              rintro e w7 ⟨rfl, d7, k7, f7, g7⟩
              have T7' := T6.out.one k7 f7 g7
              rw [rotZ_add] at T7'
              have T7 := Lib.hid T7'
              clear k7 f7 g7 T6 T7'
              go_wp2_with fail
              refine (turnZ T7.out.a (by rw [rotZ_len]; have := HL.out; omega) 1).mono ?_
              rintro e w8 ⟨rfl, d8, k8, f8, g8⟩
              have T8' := T7.out.one k8 f8 g8
              rw [rotZ_add] at T8'
              have T8 := Lib.hid T8'
              clear k8 f8 g8 T7 T8'
              go_wp2_with fail
              refine (turnZ T8.out.a (by rw [rotZ_len]; have := HL.out; omega) _).mono ?_
              rintro e w9 ⟨rfl, d9, k9, f9, g9⟩
              have T9' := T8.out.one k9 f9 g9
              rw [rotZ_add] at T9'
              have T9 := Lib.hid T9'
              clear k9 f9 g9 T8 T9'
              go_wp2_with fail
              refine (turnZ T9.out.a (by rw [rotZ_len]; have := HL.out; omega) 1).mono ?_
              rintro e wz ⟨rfl, dz, kz, fz, gz⟩
              have TZ' := T9.out.one kz fz gz
              rw [rotZ_add, rotZ_none _ _ (by have hL := HL.out; have ea := hna.out; have eb := hnb.out; exact (congrArg (· % (xs.length : Int)) (show _ = (i : Int) from by first | omega | (unfold wrap64 at *; omega))).trans (by show (i : Int) % (xs.length : Int) = 0; rw [← hL]; exact Int.emod_self))] at TZ'
              have TZ := Lib.hid TZ'
              clear kz fz gz T9 TZ'
            case' inr.inr.inr.inr =>
              go_wp2_with fail
              refine (turnZ T6.out.a (by rw [rotZ_len]; have := HL.out; omega) _).mono ?_
              rintro e w7 ⟨rfl, d7, k7, f7, g7⟩
              have T7' := T6.out.one k7 f7 g7
              rw [rotZ_add] at T7'
              have T7 := Lib.hid T7'
              clear k7 f7 g7 T6 T7'
              go_wp2_with fail
              refine (turnZ T7.out.a (by rw [rotZ_len]; have := HL.out; omega) 1).mono ?_
              rintro e w8 ⟨rfl, d8, k8, f8, g8⟩
              have T8' := T7.out.one k8 f8 g8
              rw [rotZ_add] at T8'
              have T8 := Lib.hid T8'
              clear k8 f8 g8 T7 T8'
              go_wp2_with fail
              refine (turnZ T8.out.a (by rw [rotZ_len]; have := HL.out; omega) _).mono ?_
              rintro e w9 ⟨rfl, d9, k9, f9, g9⟩
              have T9' := T8.out.one k9 f9 g9
              rw [rotZ_add] at T9'
              have T9 := Lib.hid T9'
              clear k9 f9 g9 T8 T9'
              go_wp2_with fail
              refine (turnZ T9.out.a (by rw [rotZ_len]; have := HL.out; omega) 1).mono ?_
              rintro e wz ⟨rfl, dz, kz, fz, gz⟩
              have TZ' := T9.out.one kz fz gz
              rw [rotZ_add, rotZ_none _ _ (by have hL := HL.out; have ea := hna.out; have eb := hnb.out; exact (congrArg (· % (xs.length : Int)) (show _ = (i : Int) from by first | omega | (unfold wrap64 at *; omega))).trans (by show (i : Int) % (xs.length : Int) = 0; rw [← hL]; exact Int.emod_self))] at TZ'
              have TZ := Lib.hid TZ'
              clear kz fz gz T9 TZ'
            all_goals
              have hys : ((xs.take i).reverse ++ (xs.drop i).reverse).length = i := by have := HL.out; simp; omega
              have hlist := Lib.hid (show Calls Try.prog 31 #[.pointer (some ⟨w.heap.size, 0, none⟩)] wz fun e w' => ∃ v S, e = .returned v ∧ OwnS w' 3 1 v i (xs.flatMap encI) S ∧ Gr wz [] S ∧ Fr [] wz w' from by
                have := list_i TZ.out.a
                rw [← show i = xs.length from HL.out] at this
                exact this)
              have hlen := Lib.hid (fun (W : World) (f : Fr [] wz W) => show Calls Try.prog 25 #[.pointer (some ⟨w1.heap.size, 0, none⟩)] W fun e w' => e = .returned (.int .i64 (i : Nat)) ∧ w' = W from by
                have := len_i (TZ.out.b.fr f (by simp))
                rw [hys] at this
                exact this)
              clear hys
              go_wp2_with fail
              refine hlist.out.mono ?_
              rintro e w8 ⟨v, S8, rfl, o8, g8, f8⟩
              obtain ⟨ao8, cap8, rfl⟩ := o8.val
              have hsame := Lib.hid (same_yes (ca := cap8) (cb := cap) HL.out (by unfold maxLen; omega) o8.row ((HR.out.fr TZ.out.fr (by simp)).fr f8 (by simp)))
              have F8 := Lib.hid f8
              clear o8 g8 f8
              go_wp2_with fail
              refine hsame.out.mono ?_
              rintro e w9 ⟨rfl, f9⟩
              have F9 := Lib.hid (F8.out.trans' f9)
              clear f9 hsame
              go_wp2_with fail
              refine (hlen.out _ F9.out).mono ?_
              rintro e w10 ⟨rfl, rfl⟩
              go_wp2
              go_ret
              exact ⟨rfl, TZ.out.fr.trans' F9.out⟩
end Go.Proofs.Ytoodgjmgkjhpoaa
