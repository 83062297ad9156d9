/- Rings of *millrace/drr.flow: the contracts of their functions, fifth part: Take, Turn. -/
import Derived.Test.YteojodcdehkejaaRingPQ
import Derived.Test.YteojodcdehkejaaRingRot
namespace Go.Proofs.Yteojodcdehkejaa
open Go Go.RowKit
attribute [local go_sem] calmQ_normal wide_fn wide_depth Oper.semAt_some

set_option maxRecDepth 100000 in
set_option maxHeartbeats 1000000 in
theorem take_no_q {w : World} {r : Nat} {ds : List Nat} {xs : List (Option Nat)} (h : Rgq w r ds xs) (i : Int) (hi : i < 0 ∨ (xs.length : Int) ≤ i) :
    Calls Try.prog 77 #[.pointer (some ⟨r, 0, none⟩), .int .i64 i] w fun e w' => e = .returned (.tuple #[ptrV none, .bool false]) ∧ w' = w := by
  have hcall := Lib.hid (at_no_q h i hi)
  clear h hi
  go_enter Try.func77, Try.ntmps77
  go_wp2_with (go_at_call 85; refine hcall.out.mono ?_; rintro e w' ⟨rfl, rfl⟩)
  go_ret2
  exact ⟨rfl, rfl⟩

theorem shift_len_q (xs : List (Option Nat)) (i j : Nat) (hij : i ≤ j) (hj : j < xs.length) : ((xs.eraseIdx i).take j ++ xs.drop j).length = xs.length := by
  rw [List.length_append, List.length_take, List.length_drop, List.length_eraseIdx]
  split <;> omega
theorem shift_at_q (xs : List (Option Nat)) (i j : Nat) (hij : i ≤ j) (hj : j + 1 < xs.length) : ((xs.eraseIdx i).take j ++ xs.drop j)[j + 1]? = some xs[j + 1] := by
  have hl : ((xs.eraseIdx i).take j).length = j := by
    rw [List.length_take, List.length_eraseIdx]
    split <;> omega
  rw [List.getElem?_append_right (by omega), hl, List.getElem?_drop]
  simp [hj]
theorem shift_set_q (xs : List (Option Nat)) (i j : Nat) (hij : i ≤ j) (hj : j + 1 < xs.length) : ((xs.eraseIdx i).take j ++ xs.drop j).set j xs[j + 1] = (xs.eraseIdx i).take (j + 1) ++ xs.drop (j + 1) := by
  have hl : ((xs.eraseIdx i).take j).length = j := by
    rw [List.length_take, List.length_eraseIdx]
    split <;> omega
  rw [List.set_append_right _ _ (by omega), hl, Nat.sub_self, List.drop_eq_getElem_cons (show j < xs.length by omega), List.set_cons_zero]
  have e : (xs.eraseIdx i)[j]? = some xs[j + 1] := by
    rw [List.getElem?_eraseIdx_of_ge hij]; simp [hj]
  rw [List.take_add_one, e]
  simp
theorem shift_end_q (xs : List (Option Nat)) (i j : Nat) (hi : i < xs.length) (hj : j + 1 = xs.length) : (xs.eraseIdx i).take j ++ xs.drop j = xs.eraseIdx i ++ [xs[j]] := by
  rw [List.take_of_length_le (by rw [List.length_eraseIdx]; split <;> omega), List.drop_eq_getElem_cons (by omega), List.drop_of_length_le (by omega)]

set_option maxRecDepth 100000 in
set_option maxHeartbeats 1000000 in
theorem take_q {w : World} {r : Nat} {ds : List Nat} {xs : List (Option Nat)} (h : Rgq w r ds xs) {i : Nat} {x : (Option Nat)} (hx : xs[i]? = some x) :
    Calls Try.prog 77 #[.pointer (some ⟨r, 0, none⟩), .int .i64 i] w fun e w' => e = .returned (.tuple #[ptrV x, .bool true]) ∧ Rgq w' r ds (xs.eraseIdx i) ∧ Fr (r :: ds) w w' := by
  have hil := some_lt hx
  have hcall := Lib.hid (at_yes_q h hx)
  have hlen : xs.length ≤ 1073741824 := by
    obtain ⟨d, L, head, rfl, cs, hb, hL, hd, hbd, hc⟩ := h.conc (by omega)
    have := hc.room
    omega
  have hcs := Lib.hid (shift_len_q xs i)
  have hat := Lib.hid (shift_at_q xs i)
  have hst := Lib.hid (shift_set_q xs i)
  have hen := Lib.hid (shift_end_q xs i)
  have HX := Lib.hid hx
  have H := Lib.hid h
  clear h hx
  go_enter Try.func77, Try.ntmps77
  go_wp2_with (go_at_call 85; refine hcall.out.mono ?_; rintro e w' ⟨rfl, n1, rfl⟩)
  go_loopg [1] xs.length (fun k iv wr => ∃ j : Nat, k + j = xs.length + i ∧ iv = .int .i64 j ∧ i ≤ j ∧ j < xs.length ∧ Rgq wr r ds ((xs.eraseIdx i).take j ++ xs.drop j) ∧ Fr (r :: ds) w wr)
  case atStart =>
    refine ⟨i, by omega, rfl, Nat.le_refl _, hil, ?_, (Fr.refl _ _).drewN n1⟩
    rw [show (xs.eraseIdx i).take i = xs.take i from by rw [List.eraseIdx_eq_take_drop_succ, List.take_append_of_le_length (by simp; omega), List.take_take, Nat.min_self], List.take_append_drop]
    exact H.out.drewN n1
  case round =>
    obtain ⟨j, hk, rfl, hij, hjl, hR, hF⟩ := hrel
    have h2 : wr.cell? ⟨r, 2, none⟩ = some (.int .i64 xs.length) := by
      obtain ⟨L, head, sv, hb, _, _⟩ := hR
      have := hb.cell 2
      rw [hcs.out j hij hjl] at this
      simpa using this
    have HR := Lib.hid hR
    have HFF := Lib.hid hF
    clear hR hF
    by_cases hj1 : j + 1 < xs.length
    · have hc1 := Lib.hid (at_yesZ_q HR.out (i := (j : Int) + 1) (x := xs[j + 1]) (by omega) (by rw [show ((j : Int) + 1).toNat = j + 1 from by omega]; exact hat.out j hij hj1))
      have hc2 := Lib.hid (fun n => set_yesZ_q (HR.out.drewN n) (i := (j : Int)) (by omega) (by rw [hcs.out j hij hjl]; simpa using hjl) xs[j + 1])
      go_wp2_with (go_at_call 85; refine hc1.out.mono ?_; rintro e w' ⟨rfl, n2, rfl⟩)
      refine (hc2.out n2).mono ?_
      rintro e w1 ⟨rfl, hr1, hf1⟩
      have HR1 := Lib.hid hr1
      have HF1 := Lib.hid hf1
      clear hr1 hf1 h2
      go_wp2
      go_roundg (gk - 1)
      case measure => omega
      case rel =>
        refine ⟨j + 1, by omega, by go_num, by omega, hj1, ?_, ?_⟩
        · rw [← hst.out j hij hj1]
          simpa using HR1.out
        · exact (HFF.out.drewN n2).trans' (HF1.out.mono (fun b hb => List.mem_cons_of_mem _ hb))
    · have hc1 := Lib.hid (popB_q (by rw [← hen.out j hil (by omega)]; exact HR.out))
      go_wp2_with (go_at_call 98; refine hc1.out.mono ?_; rintro e w1 ⟨rfl, hr1, hf1⟩)
      go_ret2
      exact ⟨rfl, hr1, HFF.out.trans' hf1⟩

theorem rot_pop_q (xs : List (Option Nat)) (j : Nat) (hj : j < xs.length) : rot xs j = xs[j] :: (xs.drop (j + 1) ++ xs.take j) := by
  unfold rot
  rw [List.drop_eq_getElem_cons hj, List.cons_append]
theorem rot_push_q (xs : List (Option Nat)) (j : Nat) (hj : j < xs.length) : (xs.drop (j + 1) ++ xs.take j) ++ [xs[j]] = rot xs (j + 1) := by
  unfold rot
  rw [List.take_succ_eq_append_getElem hj, List.append_assoc]
theorem rot_len_q (xs : List (Option Nat)) (j : Nat) (hj : j ≤ xs.length) : (rot xs j).length = xs.length := by
  unfold rot; simp; omega

set_option maxRecDepth 100000 in
set_option maxHeartbeats 1000000 in
theorem turn_no_q {w : World} {r : Nat} {ds : List Nat} (h : Rgq w r ds []) (i : Int) :
    Calls Try.prog 75 #[.pointer (some ⟨r, 0, none⟩), .int .i64 i] w fun e w' => e = .returned (.tuple #[]) ∧ w' = w := by
  obtain ⟨L, head, sv, hb, hL, hrest⟩ := h
  have h2 := hb.cell 2
  simp at h2
  clear hb hrest
  go_enter Try.func75, Try.ntmps75
  go_wp2
  refine bodyPost_ret (results_none rfl _ _ _) rfl ?_
  exact ⟨rfl, rfl⟩

theorem tmod_neg {n L : Int} (hL : 0 < L) (h : n.tmod L < 0) : n.tmod L + L = n % L := by
  have h1 := Int.tmod_eq_emod (a := n) (b := L)
  have h2 := Int.emod_nonneg n (show L ≠ 0 by omega)
  have h3 := Int.emod_lt_of_pos n hL
  rw [h1] at h ⊢
  split at h <;> split <;> omega
theorem tmod_pos {n L : Int} (hL : 0 < L) (h : ¬ n.tmod L < 0) : n.tmod L = n % L := by
  have h1 := Int.tmod_eq_emod (a := n) (b := L)
  have h2 := Int.emod_nonneg n (show L ≠ 0 by omega)
  have h3 := Int.emod_lt_of_pos n hL
  rw [h1] at h ⊢
  split at h <;> split <;> omega

set_option maxRecDepth 100000 in
set_option maxHeartbeats 1000000 in
theorem turn_q {w : World} {r : Nat} {ds : List Nat} {xs : List (Option Nat)} (h : Rgq w r ds xs) (hn : 0 < xs.length) (hx : xs.length ≤ 268435456) (i : Int) :
    Calls Try.prog 75 #[.pointer (some ⟨r, 0, none⟩), .int .i64 i] w fun e w' => e = .returned (.tuple #[]) ∧ ∃ ds', Rgq w' r ds' (rot xs (i % xs.length).toNat) ∧ Fr (r :: ds) w w' ∧ Gr w ds ds' := by
  have H := Lib.hid h
  obtain ⟨L, head, sv, hb, hL, hrest⟩ := h
  have h2 := hb.cell 2
  simp at h2
  clear hb hrest
  have hn0 : ((xs.length : Int) == 0) = false := by rw [beq_eq_false_iff_ne]; omega
  have hpop := Lib.hid (rot_pop_q xs)
  have hpush := Lib.hid (rot_push_q xs)
  have htb : -(xs.length : Int) ≤ i.tmod xs.length ∧ i.tmod xs.length < xs.length := by
    have h1 := Int.tmod_eq_emod (a := i) (b := xs.length)
    have h2 := Int.emod_nonneg i (show (xs.length : Int) ≠ 0 by omega)
    have h3 := Int.emod_lt_of_pos i (show (0 : Int) < xs.length by omega)
    rw [h1]; split <;> omega
  obtain ⟨htb1, htb2⟩ := htb
  obtain ⟨k, hk⟩ : ∃ k : Nat, Hid (k = (i % xs.length).toNat) := ⟨_, Lib.hid rfl⟩
  have hkl : k ≤ xs.length := by
    rw [hk.out]
    have h3 := Int.emod_lt_of_pos i (show (0 : Int) < xs.length by omega)
    omega
  have hkk : ((i % xs.length : Int)) = k := by
    rw [hk.out]
    have h2 := Int.emod_nonneg i (show (xs.length : Int) ≠ 0 by omega)
    omega
  have HN : Hid (i.tmod xs.length < 0 → i.tmod xs.length + xs.length = k) := fun h => by rw [tmod_neg (by omega) h]; exact hkk
  have HP : Hid (0 ≤ i.tmod xs.length → i.tmod xs.length = k) := fun h => by rw [tmod_pos (by omega) (by omega)]; exact hkk
  clear hkk
  go_enter Try.func75, Try.ntmps75
  go_wp2_with fail
  all_goals (
    first
      | (have hb : i.tmod xs.length < 0 := by omega
         rw [HN.out hb, show decide (i.tmod xs.length < 0) = true from decide_eq_true hb]
         clear hb)
      | (have hb : 0 ≤ i.tmod xs.length := by omega
         rw [HP.out hb, show decide ((k : Int) < 0) = false from decide_eq_false (by omega)]
         clear hb)
    clear htb1 htb2 HN HP
    go_loopg [26] k (fun g jv wr => ∃ j : Nat, g + j = k ∧ jv = .int .i64 j ∧ ∃ ds', Rgq wr r ds' (rot xs j) ∧ Fr (r :: ds) w wr ∧ Gr w ds ds')
    case atStart => exact ⟨0, by omega, rfl, ds, by simpa [rot] using H.out, Fr.refl _ _, Gr.refl _ _⟩
    case round =>
      obtain ⟨j, hg, rfl, ds', hR, hF, hG⟩ := hrel
      by_cases hj : j < k
      · have hjl : j < xs.length := by omega
        have hc1 := Lib.hid (popF_q (by rw [← hpop.out j hjl]; exact hR))
        have HF := Lib.hid hF
        have HG := Lib.hid hG
        clear hR hF hG
        go_wp2_with (go_at_call 96; refine hc1.out.mono ?_; rintro e w1 ⟨rfl, hr1, hf1⟩)
        have hc2 := Lib.hid (pushB_q hr1 (by simp; omega) xs[j])
        have HF1 := Lib.hid hf1
        clear hr1 hf1 hc1
        refine hc2.out.mono ?_
        rintro e w2 ⟨rfl, ds2, hr2, hf2, hg2⟩
        have HR2 := Lib.hid hr2
        have HF2 := Lib.hid hf2
        have HG2 := Lib.hid hg2
        clear hr2 hf2 hg2 hc2
        go_wp2
        go_roundg (gk - 1)
        case measure => omega
        case rel =>
          have g1 : Gr w (r :: ds) (r :: ds') := Gr.cons r HG.out
          have f1 : Fr (r :: ds) w w1 := HF.out.trans g1 HF1.out
          refine ⟨j + 1, by omega, by go_num, ds2, by rw [← hpush.out j hjl]; exact HR2.out, f1.trans g1 HF2.out, HG.out.trans f1.size HG2.out⟩
      · obtain rfl : j = k := by omega
        go_wp2
        go_end0
        exact ⟨rfl, ds', by rw [← hk.out]; exact hR, hF, hG⟩)
end Go.Proofs.Yteojodcdehkejaa
