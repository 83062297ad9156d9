/- The statement's do: SSet, STake; one contract of all of do. -/
import Derived.Test.YtoodgjmgkjhpoaaRingDo2
import Derived.Deep.RegionHeld3
namespace Go.Proofs.Ytoodgjmgkjhpoaa
open Go Go.RowKit
attribute [local go_sem] calmQ_normal wide_fn wide_depth Oper.semAt_some

/-- the box of a step, and what has turned since a world: what the regions of do ask of a world -/
theorem held_step {w0 : World} {B : Nat} {n V : Int} {A C : World} (h : A.cell? ⟨B, 2, none⟩ = some (.int .i64 n) ∧ A.cell? ⟨B, 3, none⟩ = some (.int .i64 V) ∧ Fr [] w0 A) (f : Fr [] A C) :
    C.cell? ⟨B, 2, none⟩ = some (.int .i64 n) ∧ C.cell? ⟨B, 3, none⟩ = some (.int .i64 V) ∧ Fr [] w0 C :=
  ⟨(f.cell (p := ⟨B, 2, none⟩) (World.block_lt_of_cell? _ _ h.1) (by simp)).trans h.1, (f.cell (p := ⟨B, 3, none⟩) (World.block_lt_of_cell? _ _ h.2.1) (by simp)).trans h.2.1, h.2.2.trans' f⟩

set_option maxRecDepth 100000 in
set_option maxHeartbeats 2000000 in
theorem do_set_no {w : World} {r : Nat} {ds : List Nat} {xs : List Int} {v : Value} {S : List Nat} (hr : Rgi w r ds xs) (hv : OwnS w 3 1 v xs.length (xs.flatMap encI) S) (hd : ∀ x, x ∈ S → x ∉ r :: ds) (hn : xs.length ≤ 65536) (o n V : Int) (hN : n < 0 ∨ (xs.length : Int) ≤ n) :
    Calls Try.prog 47 #[.pointer (some ⟨r, 0, none⟩), v, .agg #[.int .i64 5, .int .i64 o, .int .i64 n, .int .i64 V]] w (Did w r ds S xs.length) := by
  obtain ⟨m, hm⟩ : ∃ m, xs.length = m := ⟨_, rfl⟩
  have HM := Lib.hid hm
  have HR := Lib.hid (hr.fr ((Fr.refl [] w).alloc (.cells #[.int .i64 5, .int .i64 o, .int .i64 n, .int .i64 V] 64)) (by simp))
  have HV := Lib.hid (hv.alloc (.cells #[.int .i64 5, .int .i64 o, .int .i64 n, .int .i64 V] 64))
  have HD := Lib.hid hd
  have hcall := Lib.hid (fun X (k : Rgi X r ds xs) => set_no_i k n V hN)
  obtain ⟨ao, cap, rfl⟩ := hv.val
  rw [hm] at hn hN ⊢
  clear hr hv hd hm
  have hc : n < 0 ∨ (0 ≤ n ∧ (m : Int) ≤ n) := by omega
  clear hN
  rcases hc with hc | ⟨hc1, hc2⟩
  all_goals
    go_enter Try.func47, Try.ntmps47
    go_wp2_with fail
    refine (hcall.out _ (HR.out.sim ⟨rfl, rfl, rfl, rfl⟩)).mono ?_
    rintro e w1 ⟨rfl, hw1⟩
    subst hw1
    go_wp2
    refine bodyPost_ret (v := .tuple #[.slice ao m cap, .bool true]) (by simp [results, Try.results47, go_sem]) rfl ?_
    have hm := HM.out
    subst hm
    exact ⟨_, S, ds, xs, rfl, HR.out.sim ⟨rfl, rfl, rfl, rfl⟩, HV.out.sim ⟨rfl, rfl, rfl, rfl⟩, ((Fr.refl (r :: ds) w).alloc _).sim ⟨rfl, rfl, rfl, rfl⟩, Gr.refl _ _, Gr.refl _ _, HD.out, by omega⟩

theorem set_take_drop {xs : List Int} {k : Nat} (hk : k < xs.length) (V : Int) : (xs.eraseIdx k).take k ++ V :: (xs.eraseIdx k).drop k = xs.set k V := by
  rw [List.eraseIdx_eq_take_drop_succ, List.set_eq_take_append_cons_drop, if_pos hk]
  rw [List.take_append_of_le_length (by simp; omega), List.drop_append_of_le_length (by simp; omega)]
  rw [List.take_take, Nat.min_self]
  simp

set_option maxRecDepth 100000 in
set_option maxHeartbeats 4000000 in
theorem do_set_yes {w : World} {r : Nat} {ds : List Nat} {xs : List Int} {v : Value} {S : List Nat} (hr : Rgi w r ds xs) (hv : OwnS w 3 1 v xs.length (xs.flatMap encI) S) (hd : ∀ x, x ∈ S → x ∉ r :: ds) (hn : xs.length ≤ 65536) (o V : Int) (k : Nat) (hk : k < xs.length) :
    Calls Try.prog 47 #[.pointer (some ⟨r, 0, none⟩), v, .agg #[.int .i64 5, .int .i64 o, .int .i64 k, .int .i64 V]] w (Did w r ds S xs.length) := by
  obtain ⟨m, hm⟩ : ∃ m, xs.length = m := ⟨_, rfl⟩
  have HM := Lib.hid hm
  have HK := Lib.hid hk
  have hb1 : w.heap.size ∉ r :: ds := fun h => by have := hr.lt _ h; omega
  have HB1 := Lib.hid hb1
  have HR := Lib.hid (hr.fr ((Fr.refl [] w).alloc (.cells #[.int .i64 5, .int .i64 o, .int .i64 k, .int .i64 V] 64)) (by simp))
  have hBx := Lib.hid (Blk.new w 64 [.int .i64 5, .int .i64 o, .int .i64 k, .int .i64 V])
  have HD := Lib.hid hd
  have hcall := Lib.hid (fun X (q : Rgi X r ds xs) => set_yes_i q hk V)
  rw [hm] at hn hv hk ⊢
  obtain ⟨ao, cap, rfl⟩ := hv.val
  have HV2 := Lib.hid hv
  clear hr hv hd hb1 hm
  have hkm : (k : Int) < (m : Int) := by omega
  go_enter Try.func47, Try.ntmps47
  go_wp2_with fail
  refine (hcall.out _ (HR.out.sim ⟨rfl, rfl, rfl, rfl⟩)).mono ?_
  rintro e w1 ⟨rfl, k1, f1⟩
  have hnd : w.heap.size ∉ ds := fun h => HB1.out (by simp [h])
  have c2 : w1.cell? ⟨w.heap.size, 2, none⟩ = some (.int .i64 k) := by
    have := ((hBx.out.sim ⟨rfl, rfl, rfl, rfl⟩).fr f1 hnd).cell 2
    simpa using this
  have c3 : w1.cell? ⟨w.heap.size, 3, none⟩ = some (.int .i64 V) := by
    have := ((hBx.out.sim ⟨rfl, rfl, rfl, rfl⟩).fr f1 hnd).cell 3
    simpa using this
  have F0 : Hid (Fr (r :: ds) w w1) := (((Fr.refl (r :: ds) w).alloc _).sim ⟨rfl, rfl, rfl, rfl⟩).trans' (f1.mono (by simp; intro b h; exact .inr h))
  have hv1 := Lib.hid (HV2.out.fr F0.out HD.out)
  have K1 := Lib.hid k1
  clear k1 f1 hcall hnd
  have hm6 : m ≤ 1048576 := by omega
  go_wp2
  have hS0 : w1.drew.cell? ⟨w.heap.size, 2, none⟩ = some (.int .i64 k) ∧ w1.drew.cell? ⟨w.heap.size, 3, none⟩ = some (.int .i64 V) ∧ Fr [] w1 w1.drew := ⟨c2, c3, (Fr.refl _ _).drew⟩
  go_region_held3 (fun w' => w'.cell? ⟨w.heap.size, 2, none⟩ = some (.int .i64 k) ∧ w'.cell? ⟨w.heap.size, 3, none⟩ = some (.int .i64 V) ∧ Fr [] w1 w')
    (first | exact hS0 | exact held_step (by assumption) (by assumption))
    (first
      | (go_at_call 76; refine (without_ok (hv1.out.fr (And.right (And.right (by assumption))) (by simp)) hm6 k hk).mono ?_; rintro e w2 ⟨u, S2, rfl, o2, g2, f2⟩)
      | (go_at_call 73; refine (with_ok (by assumption) (by omega) k (by omega) V).mono ?_; rintro e w3 ⟨u3, S3, rfl, o3, g3, f3⟩))
  have F2 : Hid (Fr [] w1 w3) := ((Fr.refl [] w1).drew.trans' f2).trans' f3
  have O3 := Lib.hid o3
  have G3 : Hid (Gr w1 [] S3) := fun x hx => by
    rcases g3 x hx with h | h
    · cases h
    · have h1 := f2.size
      exact .inr (Nat.le_trans h1 h)
  clear o2 g2 f2 o3 g3 f3
  go_wp2
  refine bodyPost_ret (v := .tuple #[u3, .bool true]) (by simp [results, Try.results47, go_sem]) rfl ?_
  have hl2 := K1.out.lt
  have hz1 := F0.out.size
  refine ⟨u3, S3, ds, xs.set k V, rfl, K1.out.fr F2.out (by simp), ?_, F0.out.trans (Gr.nil _ _) (F2.out.mono (by simp)), Gr.refl _ _, ?_, ?_, by have := HM.out; simp; omega⟩
  · have o3 := O3.out
    have hm := HM.out
    rw [set_take_drop HK.out, show m - 1 + 1 = m from by omega] at o3
    rw [List.length_set, hm]
    exact o3
  · exact fun x hx => by rcases G3.out x hx with h | h; cases h; exact .inr (by omega)
  · intro x hx hm
    rcases G3.out x hx with h | h
    · cases h
    · have := hl2 x hm
      omega

set_option maxRecDepth 100000 in
set_option maxHeartbeats 2000000 in
theorem do_take_no {w : World} {r : Nat} {ds : List Nat} {xs : List Int} {v : Value} {S : List Nat} (hr : Rgi w r ds xs) (hv : OwnS w 3 1 v xs.length (xs.flatMap encI) S) (hd : ∀ x, x ∈ S → x ∉ r :: ds) (hn : xs.length ≤ 65536) (o n V : Int) (hN : n < 0 ∨ (xs.length : Int) ≤ n) :
    Calls Try.prog 47 #[.pointer (some ⟨r, 0, none⟩), v, .agg #[.int .i64 6, .int .i64 o, .int .i64 n, .int .i64 V]] w (Did w r ds S xs.length) := by
  obtain ⟨m, hm⟩ : ∃ m, xs.length = m := ⟨_, rfl⟩
  have HM := Lib.hid hm
  have HR := Lib.hid (hr.fr ((Fr.refl [] w).alloc (.cells #[.int .i64 6, .int .i64 o, .int .i64 n, .int .i64 V] 64)) (by simp))
  have HV := Lib.hid (hv.alloc (.cells #[.int .i64 6, .int .i64 o, .int .i64 n, .int .i64 V] 64))
  have hBx := Lib.hid (Blk.new w 64 [.int .i64 6, .int .i64 o, .int .i64 n, .int .i64 V])
  have HD := Lib.hid hd
  have hcall := Lib.hid (fun X (k : Rgi X r ds xs) => take_no_i k n hN)
  obtain ⟨ao, cap, rfl⟩ := hv.val
  rw [hm] at hn hN ⊢
  clear hr hv hd hm
  go_enter Try.func47, Try.ntmps47
  go_wp2_with fail
  refine (hcall.out _ (HR.out.sim ⟨rfl, rfl, rfl, rfl⟩)).mono ?_
  rintro e w1 ⟨rfl, hw1⟩
  have f1 : Fr [] (w.alloc (.cells #[.int .i64 6, .int .i64 o, .int .i64 n, .int .i64 V] 64)) w1 := by rw [hw1]; exact (Fr.refl _ _).sim ⟨rfl, rfl, rfl, rfl⟩
  have c2 : w1.cell? ⟨w.heap.size, 2, none⟩ = some (.int .i64 n) := by
    have := (hBx.out.fr f1 (by simp)).cell 2
    simpa using this
  have c3 : w1.cell? ⟨w.heap.size, 3, none⟩ = some (.int .i64 V) := by
    have := (hBx.out.fr f1 (by simp)).cell 3
    simpa using this
  have F1 := Lib.hid f1
  clear f1 hcall hw1
  go_wp2
  have hS0 : w1.drew.cell? ⟨w.heap.size, 2, none⟩ = some (.int .i64 n) ∧ w1.drew.cell? ⟨w.heap.size, 3, none⟩ = some (.int .i64 V) ∧ Fr [] w1 w1.drew := ⟨c2, c3, (Fr.refl _ _).drew⟩
  go_region_held3 (fun w' => w'.cell? ⟨w.heap.size, 2, none⟩ = some (.int .i64 n) ∧ w'.cell? ⟨w.heap.size, 3, none⟩ = some (.int .i64 V) ∧ Fr [] w1 w')
    (first | exact hS0 | exact held_step (by assumption) (by assumption))
    (first
      | (go_at_call 74; refine (gone_out n hN).mono ?_; rintro e w2 ⟨rfl, hw2⟩; have f2 : Fr [] _ w2 := (by rw [hw2]; exact Fr.refl _ _); clear hw2)
      | (go_at_call 75; refine (took_out n hN).mono ?_; rintro e w3 ⟨rfl, hw3⟩; have f3 : Fr [] _ w3 := (by rw [hw3]; exact Fr.refl _ _); clear hw3))
  all_goals
    first | have f4 := f2.trans' f3 | have f4 := f3.trans' f2
    have F2 : Hid (Fr [] w1 _) := (Fr.refl [] w1).drew.trans' f4
    clear f2 f3 f4
    go_wp2
    refine bodyPost_ret (v := .tuple #[.slice ao m cap, .bool true]) (by simp [results, Try.results47, go_sem]) rfl ?_
    have hm := HM.out
    subst hm
    have F3 := F1.out.trans' F2.out
    exact ⟨_, S, ds, xs, rfl, HR.out.fr F3 (by simp), HV.out.fr F3 (by simp), (((Fr.refl [] w).alloc _).trans' F3).mono (by simp), Gr.refl _ _, Gr.refl _ _, HD.out, by omega⟩

set_option maxRecDepth 100000 in
set_option maxHeartbeats 4000000 in
theorem do_take_yes {w : World} {r : Nat} {ds : List Nat} {xs : List Int} {v : Value} {S : List Nat} (hr : Rgi w r ds xs) (hv : OwnS w 3 1 v xs.length (xs.flatMap encI) S) (hd : ∀ x, x ∈ S → x ∉ r :: ds) (hn : xs.length ≤ 65536) (o V : Int) (k : Nat) (hk : k < xs.length) :
    Calls Try.prog 47 #[.pointer (some ⟨r, 0, none⟩), v, .agg #[.int .i64 6, .int .i64 o, .int .i64 k, .int .i64 V]] w (Did w r ds S xs.length) := by
  obtain ⟨m, hm⟩ : ∃ m, xs.length = m := ⟨_, rfl⟩
  obtain ⟨x, hx⟩ : ∃ x, xs[k]? = some x := ⟨xs[k], by simp [hk]⟩
  have HX := Lib.hid hx
  have HM := Lib.hid hm
  have HK := Lib.hid hk
  have hb1 : w.heap.size ∉ r :: ds := fun h => by have := hr.lt _ h; omega
  have HB1 := Lib.hid hb1
  have HR := Lib.hid (hr.fr ((Fr.refl [] w).alloc (.cells #[.int .i64 6, .int .i64 o, .int .i64 k, .int .i64 V] 64)) (by simp))
  have hBx := Lib.hid (Blk.new w 64 [.int .i64 6, .int .i64 o, .int .i64 k, .int .i64 V])
  have HD := Lib.hid hd
  have hcall := Lib.hid (fun X (q : Rgi X r ds xs) => take_i q hx)
  rw [hm] at hn hv hk ⊢
  obtain ⟨ao, cap, rfl⟩ := hv.val
  have HV2 := Lib.hid hv
  clear hr hv hd hb1 hm hx
  go_enter Try.func47, Try.ntmps47
  go_wp2_with fail
  refine (hcall.out _ (HR.out.sim ⟨rfl, rfl, rfl, rfl⟩)).mono ?_
  rintro e w1 ⟨rfl, k1, f1⟩
  have c2 : w1.cell? ⟨w.heap.size, 2, none⟩ = some (.int .i64 k) := by
    have := ((hBx.out.sim ⟨rfl, rfl, rfl, rfl⟩).fr f1 HB1.out).cell 2
    simpa using this
  have c3 : w1.cell? ⟨w.heap.size, 3, none⟩ = some (.int .i64 V) := by
    have := ((hBx.out.sim ⟨rfl, rfl, rfl, rfl⟩).fr f1 HB1.out).cell 3
    simpa using this
  have F0 : Hid (Fr (r :: ds) w w1) := (((Fr.refl (r :: ds) w).alloc _).sim ⟨rfl, rfl, rfl, rfl⟩).trans' f1
  have hv1 := Lib.hid (HV2.out.fr F0.out HD.out)
  have K1 := Lib.hid k1
  clear k1 f1 hcall
  have hm6 : m ≤ 1048576 := by omega
  go_wp2
  have hS0 : w1.drew.cell? ⟨w.heap.size, 2, none⟩ = some (.int .i64 k) ∧ w1.drew.cell? ⟨w.heap.size, 3, none⟩ = some (.int .i64 V) ∧ Fr [] w1 w1.drew := ⟨c2, c3, (Fr.refl _ _).drew⟩
  go_region_held3 (fun w' => w'.cell? ⟨w.heap.size, 2, none⟩ = some (.int .i64 k) ∧ w'.cell? ⟨w.heap.size, 3, none⟩ = some (.int .i64 V) ∧ Fr [] w1 w')
    (first | exact hS0 | exact held_step (by assumption) (by assumption))
    (first
      | (go_at_call 74; refine (gone_in (hv1.out.fr (And.right (And.right (by assumption))) (by simp)) hm6 k hk).mono ?_; rintro e w2 ⟨u, S2, rfl, o2, g2, f2⟩)
      | (go_at_call 75; refine (took_in (hv1.out.fr (And.right (And.right (by assumption))) (by simp)) HX.out hm6).mono ?_; rintro e w3 ⟨rfl, hw3⟩; have f3 : Fr [] _ w3 := (by rw [hw3]; exact Fr.refl _ _); clear hw3))
  all_goals
    first | have f4 := f2.trans' f3 | have f4 := f3.trans' f2
    first | have o4 := o2.fr f3 (by simp) | have o4 := o2
    have F2 : Hid (Fr [] w1 _) := (Fr.refl [] w1).drew.trans' f4
    have O2 := Lib.hid o4
    have G2 : Hid (Gr w1 [] S2) := fun x hx => by
      rcases g2 x hx with h | h
      · cases h
      · first
        | exact .inr h
        | (have h1 := f3.size; exact .inr (Nat.le_trans h1 h))
    clear o2 g2 f2 f3 f4 o4
    go_wp2
    refine bodyPost_ret (v := .tuple #[u, .bool true]) (by simp [results, Try.results47, go_sem]) rfl ?_
    have hl2 := K1.out.lt
    have hz1 := F0.out.size
    have hlen : (xs.eraseIdx k).length = m - 1 := by rw [List.length_eraseIdx_of_lt HK.out, HM.out]
    refine ⟨u, S2, ds, xs.eraseIdx k, rfl, K1.out.fr F2.out (by simp), ?_, F0.out.trans (Gr.nil _ _) (F2.out.mono (by simp)), Gr.refl _ _, ?_, ?_, by omega⟩
    · rw [hlen]
      exact O2.out
    · exact fun x hx => by rcases G2.out x hx with h | h; cases h; exact .inr (by omega)
    · intro x hx hm
      rcases G2.out x hx with h | h
      · cases h
      · have := hl2 x hm
        omega

/-- do, of whatever step -/
theorem do_ok {w : World} {r : Nat} {ds : List Nat} {xs : List Int} {v : Value} {S : List Nat} (hr : Rgi w r ds xs) (hv : OwnS w 3 1 v xs.length (xs.flatMap encI) S) (hd : ∀ x, x ∈ S → x ∉ r :: ds) (hn : xs.length ≤ 65536) (K o n V : Int) :
    Calls Try.prog 47 #[.pointer (some ⟨r, 0, none⟩), v, .agg #[.int .i64 K, .int .i64 o, .int .i64 n, .int .i64 V]] w (Did w r ds S xs.length) := by
  have hrange : (n < 0 ∨ (xs.length : Int) ≤ n) ∨ ∃ k : Nat, n = k ∧ k < xs.length := by
    by_cases h : n < 0 ∨ (xs.length : Int) ≤ n
    · exact .inl h
    · exact .inr ⟨n.toNat, by omega, by omega⟩
  by_cases e0 : K = 0
  · subst e0; exact do_back hr hv hd hn o n V
  by_cases e1 : K = 1
  · subst e1; exact do_front hr hv hd hn o n V
  by_cases e2 : K = 2
  · subst e2
    cases xs with
    | nil => exact do_popF_none hr hv hd o n V
    | cons x0 t0 => exact do_popF_some hr hv hd (by simp at hn; omega) o n V
  by_cases e3 : K = 3
  · subst e3
    rcases List.eq_nil_or_concat xs with rfl | ⟨t0, x0, rfl⟩
    · exact do_popB_none hr hv hd o n V
    · simp only [List.concat_eq_append] at hr hv hn ⊢
      have h := do_popB_some hr (by simpa using hv) hd (by simp at hn; omega) o n V
      simpa using h
  by_cases e5 : K = 5
  · subst e5
    rcases hrange with h | ⟨k, rfl, h⟩
    · exact do_set_no hr hv hd hn o n V h
    · exact do_set_yes hr hv hd hn o V k h
  by_cases e6 : K = 6
  · subst e6
    rcases hrange with h | ⟨k, rfl, h⟩
    · exact do_take_no hr hv hd hn o n V h
    · exact do_take_yes hr hv hd hn o V k h
  by_cases e7 : K = 7
  · subst e7
    by_cases h0 : 0 < xs.length
    · exact do_turn_some hr hv hd hn h0 o n V
    · obtain rfl : xs = [] := List.eq_nil_of_length_eq_zero (by omega)
      exact do_turn_none hr hv hd o n V
  · exact do_look hr hv hd hn K o n V (by simpa using e0) (by simpa using e1) (by simpa using e2) (by simpa using e3) (by simpa using e5) (by simpa using e6) (by simpa using e7)
end Go.Proofs.Ytoodgjmgkjhpoaa
