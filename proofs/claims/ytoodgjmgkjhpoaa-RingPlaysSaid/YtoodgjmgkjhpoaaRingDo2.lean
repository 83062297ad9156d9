/- The statement's do: one step on the ring and on the list. -/
import Derived.Test.YtoodgjmgkjhpoaaRingEnds
namespace Go.Proofs.Ytoodgjmgkjhpoaa
open Go Go.RowKit
attribute [local go_sem] calmQ_normal wide_fn wide_depth Oper.semAt_some

/-- what a step leaves: the ring r and the list u hold the same numbers -/
def Did (w : World) (r : Nat) (ds S : List Nat) (n : Nat) (e : Ending) (w' : World) : Prop :=
  ∃ u S' ds' xs', e = .returned (.tuple #[u, .bool true]) ∧ Rgi w' r ds' xs' ∧ OwnS w' 3 1 u xs'.length (xs'.flatMap encI) S' ∧ Fr (r :: ds) w w' ∧ Gr w ds ds' ∧ Gr w S S' ∧ (∀ x, x ∈ S' → x ∉ r :: ds') ∧ xs'.length ≤ n + 1

set_option maxRecDepth 100000 in
set_option maxHeartbeats 2000000 in
theorem do_back {w : World} {r : Nat} {ds : List Nat} {xs : List Int} {v : Value} {S : List Nat} (hr : Rgi w r ds xs) (hv : OwnS w 3 1 v xs.length (xs.flatMap encI) S) (hd : ∀ x, x ∈ S → x ∉ r :: ds) (hn : xs.length ≤ 65536) (o n V : Int) :
    Calls Try.prog 47 #[.pointer (some ⟨r, 0, none⟩), v, .agg #[.int .i64 0, .int .i64 o, .int .i64 n, .int .i64 V]] w (Did w r ds S xs.length) := by
  obtain ⟨m, hm⟩ : ∃ m, xs.length = m := ⟨_, rfl⟩
  have HR := Lib.hid hr
  have HV := Lib.hid hv
  have HD := Lib.hid hd
  have HM := Lib.hid hm
  rw [hm] at hv hn ⊢
  obtain ⟨ao, cap, rfl⟩ := hv.val
  have HV2 := Lib.hid hv
  have hb1 : w.heap.size ∉ r :: ds := fun h => by have := hr.lt _ h; omega
  have hrl := hr.lt r (by simp)
  have HB1 := Lib.hid hb1
  have hR1 := Lib.hid (fun q => hr.fr (((Fr.refl [] w).alloc (.cells #[.int .i64 0, .int .i64 o, .int .i64 n, .int .i64 V] 64)).drewN q) (by simp))
  have hBx := Lib.hid (Blk.new w 64 [.int .i64 0, .int .i64 o, .int .i64 n, .int .i64 V])
  clear hr hv hd hm hb1
  go_enter Try.func47, Try.ntmps47
  go_wp2_with fail
  refine (pushB_i (hR1.out 0) (by have := HM.out; omega) V).mono ?_
  rintro e w1 ⟨rfl, ds1, k1, f1, g1⟩
  have c3 : w1.cell? ⟨w.heap.size, 3, none⟩ = some (.int .i64 V) := by
    have := (hBx.out.fr f1 HB1.out).cell 3
    simpa using this
  have hlt1 : w.heap.size < w1.heap.size := by
    have h1 := f1.size
    have h2 : ((w.alloc (.cells #[.int .i64 0, .int .i64 o, .int .i64 n, .int .i64 V] 64)).drewN 0).heap.size = w.heap.size + 1 := by show (w.alloc _).heap.size = _; simp
    exact Nat.lt_of_lt_of_le (by rw [h2]; omega) h1
  have F0 : Hid (Fr (r :: ds) w w1) := (((Fr.refl (r :: ds) w).alloc _).trans' f1)
  have hv1 := Lib.hid (HV2.out.fr F0.out HD.out)
  have K1 := Lib.hid k1
  have G1 := Lib.hid g1
  clear k1 f1 g1
  go_wp2_with fail
  refine (with_ok hv1.out (by omega) m (Nat.le_refl _) V).mono ?_
  rintro e w2 ⟨u, S', rfl, o2, g2, f2⟩
  have O2 := Lib.hid o2
  have G2 := Lib.hid g2
  have F2 := Lib.hid f2
  clear o2 g2 f2
  go_wp2
  refine bodyPost_ret (v := .tuple #[u, .bool true]) (by simp [results, Try.results47, go_sem]) rfl ?_
  have hl2 := K1.out.lt
  refine ⟨u, S', ds1, xs ++ [V], rfl, K1.out.fr F2.out (by simp), ?_, F0.out.trans (Gr.nil _ _) (F2.out.mono (by simp)), ?_, ?_, ?_, by have := HM.out; simp; omega⟩
  · have o2 := O2.out
    rw [← HM.out, List.take_length, List.drop_length] at o2
    simpa using o2
  · exact fun x hx => by rcases G1.out x hx with h | h; exact .inl h; simp at h; exact .inr (by omega)
  · exact fun x hx => by rcases G2.out x hx with h | h; cases h; exact .inr (by omega)
  · intro x hx hm
    rcases G2.out x hx with h | h
    · cases h
    · have := hl2 x hm
      omega
set_option maxRecDepth 100000 in
set_option maxHeartbeats 2000000 in
theorem do_front {w : World} {r : Nat} {ds : List Nat} {xs : List Int} {v : Value} {S : List Nat} (hr : Rgi w r ds xs) (hv : OwnS w 3 1 v xs.length (xs.flatMap encI) S) (hd : ∀ x, x ∈ S → x ∉ r :: ds) (hn : xs.length ≤ 65536) (o n V : Int) :
    Calls Try.prog 47 #[.pointer (some ⟨r, 0, none⟩), v, .agg #[.int .i64 1, .int .i64 o, .int .i64 n, .int .i64 V]] w (Did w r ds S xs.length) := by
  obtain ⟨m, hm⟩ : ∃ m, xs.length = m := ⟨_, rfl⟩
  have HR := Lib.hid hr
  have HV := Lib.hid hv
  have HD := Lib.hid hd
  have HM := Lib.hid hm
  rw [hm] at hv hn ⊢
  obtain ⟨ao, cap, rfl⟩ := hv.val
  have HV2 := Lib.hid hv
  have hb1 : w.heap.size ∉ r :: ds := fun h => by have := hr.lt _ h; omega
  have hrl := hr.lt r (by simp)
  have HB1 := Lib.hid hb1
  have hR1 := Lib.hid (fun q => hr.fr (((Fr.refl [] w).alloc (.cells #[.int .i64 1, .int .i64 o, .int .i64 n, .int .i64 V] 64)).drewN q) (by simp))
  have hBx := Lib.hid (Blk.new w 64 [.int .i64 1, .int .i64 o, .int .i64 n, .int .i64 V])
  clear hr hv hd hm hb1
  go_enter Try.func47, Try.ntmps47
  go_wp2_with fail
  refine (pushF_i (hR1.out 0) (by have := HM.out; omega) V).mono ?_
  rintro e w1 ⟨rfl, ds1, k1, f1, g1⟩
  have c3 : w1.cell? ⟨w.heap.size, 3, none⟩ = some (.int .i64 V) := by
    have := (hBx.out.fr f1 HB1.out).cell 3
    simpa using this
  have hlt1 : w.heap.size < w1.heap.size := by
    have h1 := f1.size
    have h2 : ((w.alloc (.cells #[.int .i64 1, .int .i64 o, .int .i64 n, .int .i64 V] 64)).drewN 0).heap.size = w.heap.size + 1 := by show (w.alloc _).heap.size = _; simp
    exact Nat.lt_of_lt_of_le (by rw [h2]; omega) h1
  have F0 : Hid (Fr (r :: ds) w w1) := (((Fr.refl (r :: ds) w).alloc _).trans' f1)
  have hv1 := Lib.hid (HV2.out.fr F0.out HD.out)
  have K1 := Lib.hid k1
  have G1 := Lib.hid g1
  clear k1 f1 g1
  go_wp2_with fail
  refine (with_ok hv1.out (by omega) 0 (Nat.zero_le _) V).mono ?_
  rintro e w2 ⟨u, S', rfl, o2, g2, f2⟩
  have O2 := Lib.hid o2
  have G2 := Lib.hid g2
  have F2 := Lib.hid f2
  clear o2 g2 f2
  go_wp2
  refine bodyPost_ret (v := .tuple #[u, .bool true]) (by simp [results, Try.results47, go_sem]) rfl ?_
  have hl2 := K1.out.lt
  refine ⟨u, S', ds1, V :: xs, rfl, K1.out.fr F2.out (by simp), ?_, F0.out.trans (Gr.nil _ _) (F2.out.mono (by simp)), ?_, ?_, ?_, by have := HM.out; simp; omega⟩
  · have o2 := O2.out
    rw [← HM.out] at o2
    simpa using o2
  · exact fun x hx => by rcases G1.out x hx with h | h; exact .inl h; simp at h; exact .inr (by omega)
  · exact fun x hx => by rcases G2.out x hx with h | h; cases h; exact .inr (by omega)
  · intro x hx hm
    rcases G2.out x hx with h | h
    · cases h
    · have := hl2 x hm
      omega

set_option maxRecDepth 100000 in
set_option maxHeartbeats 2000000 in
theorem do_popF_none {w : World} {r : Nat} {ds : List Nat} {S : List Nat} (hr : Rgi w r ds []) {v : Value} (hv : OwnS w 3 1 v 0 (([] : List Int).flatMap encI) S) (hd : ∀ x, x ∈ S → x ∉ r :: ds) (o n V : Int) :
    Calls Try.prog 47 #[.pointer (some ⟨r, 0, none⟩), v, .agg #[.int .i64 2, .int .i64 o, .int .i64 n, .int .i64 V]] w (Did w r ds S 0) := by
  obtain ⟨ao, cap, rfl⟩ := hv.val
  have HR := Lib.hid (hr.fr ((Fr.refl [] w).alloc (.cells #[.int .i64 2, .int .i64 o, .int .i64 n, .int .i64 V] 64)) (by simp))
  have HV := Lib.hid (hv.alloc (.cells #[.int .i64 2, .int .i64 o, .int .i64 n, .int .i64 V] 64))
  have HD := Lib.hid hd
  clear hr hv hd
  go_enter Try.func47, Try.ntmps47
  go_wp2_with fail
  refine (popF_no_i (HR.out.sim ⟨rfl, rfl, rfl, rfl⟩)).mono ?_
  rintro e w1 ⟨rfl, hw1⟩
  subst hw1
  go_wp2_with fail
  refine (gone_out 0 (by simp)).mono ?_
  rintro e w2 ⟨rfl, hw2⟩
  subst hw2
  go_wp2_with fail
  refine (took_out 0 (by simp)).mono ?_
  rintro e w3 ⟨rfl, hw3⟩
  subst hw3
  go_wp2
  refine bodyPost_ret (v := .tuple #[.slice ao 0 cap, .bool true]) (by simp [results, Try.results47, go_sem]) rfl ?_
  exact ⟨_, S, ds, [], rfl, HR.out.sim ⟨rfl, rfl, rfl, rfl⟩, HV.out.sim ⟨rfl, rfl, rfl, rfl⟩, ((Fr.refl (r :: ds) w).alloc _).sim ⟨rfl, rfl, rfl, rfl⟩, Gr.refl _ _, Gr.refl _ _, HD.out, by simp⟩

set_option maxRecDepth 100000 in
set_option maxHeartbeats 2000000 in
theorem do_popF_some {w : World} {r : Nat} {ds : List Nat} {x0 : Int} {t0 : List Int} {v : Value} {S : List Nat} (hr : Rgi w r ds (x0 :: t0)) (hv : OwnS w 3 1 v (t0.length + 1) ((x0 :: t0).flatMap encI) S) (hd : ∀ x, x ∈ S → x ∉ r :: ds) (hn : t0.length ≤ 65536) (o n V : Int) :
    Calls Try.prog 47 #[.pointer (some ⟨r, 0, none⟩), v, .agg #[.int .i64 2, .int .i64 o, .int .i64 n, .int .i64 V]] w (Did w r ds S (t0.length + 1)) := by
  obtain ⟨ao, cap, rfl⟩ := hv.val
  have HR := Lib.hid (hr.fr ((Fr.refl [] w).alloc (.cells #[.int .i64 2, .int .i64 o, .int .i64 n, .int .i64 V] 64)) (by simp))
  have HV := Lib.hid hv
  have HD := Lib.hid hd
  obtain ⟨m, hm⟩ : ∃ m, t0.length = m := ⟨_, rfl⟩
  have HM := Lib.hid hm
  rw [hm] at hn hv ⊢
  have HV2 := Lib.hid hv
  clear hr hv hd hm
  go_enter Try.func47, Try.ntmps47
  go_wp2_with fail
  refine (popF_i (HR.out.sim ⟨rfl, rfl, rfl, rfl⟩)).mono ?_
  rintro e w1 ⟨rfl, k1, f1⟩
  have F1 : Hid (Fr (r :: ds) w w1) := (((Fr.refl (r :: ds) w).alloc _).sim ⟨rfl, rfl, rfl, rfl⟩).trans' f1
  have K1 := Lib.hid k1
  have hv1 := Lib.hid (HV2.out.fr F1.out HD.out)
  clear k1 f1
  go_wp2_with fail
  refine (gone_in hv1.out (by omega) 0 (by omega)).mono ?_
  rintro e w2 ⟨u, S', rfl, o2, g2, f2⟩
  have O2 := Lib.hid o2
  have G2 := Lib.hid g2
  have F2 := Lib.hid f2
  clear o2 g2 f2
  go_wp2_with fail
  refine (took_in (k := 0) (hv1.out.fr F2.out (by simp)) rfl (by omega)).mono ?_
  rintro e w3 ⟨rfl, hw3⟩
  subst hw3
  go_wp2
  refine bodyPost_ret (v := .tuple #[u, .bool true]) (by simp [results, Try.results47, go_sem]) rfl ?_
  have hl2 := K1.out.lt
  have hz1 := F1.out.size
  refine ⟨u, S', ds, t0, rfl, K1.out.fr F2.out (by simp), ?_, F1.out.trans (Gr.nil _ _) (F2.out.mono (by simp)), Gr.refl _ _, ?_, ?_, by have := HM.out; omega⟩
  · have o2 := O2.out
    rw [HM.out]
    simpa using o2
  · exact fun x hx => by rcases G2.out x hx with h | h; cases h; exact .inr (by omega)
  · intro x hx hm
    rcases G2.out x hx with h | h
    · cases h
    · have := hl2 x hm
      omega
set_option maxRecDepth 100000 in
set_option maxHeartbeats 2000000 in
theorem do_popB_none {w : World} {r : Nat} {ds : List Nat} {S : List Nat} (hr : Rgi w r ds []) {v : Value} (hv : OwnS w 3 1 v 0 (([] : List Int).flatMap encI) S) (hd : ∀ x, x ∈ S → x ∉ r :: ds) (o n V : Int) :
    Calls Try.prog 47 #[.pointer (some ⟨r, 0, none⟩), v, .agg #[.int .i64 3, .int .i64 o, .int .i64 n, .int .i64 V]] w (Did w r ds S 0) := by
  obtain ⟨ao, cap, rfl⟩ := hv.val
  have HR := Lib.hid (hr.fr ((Fr.refl [] w).alloc (.cells #[.int .i64 3, .int .i64 o, .int .i64 n, .int .i64 V] 64)) (by simp))
  have HV := Lib.hid (hv.alloc (.cells #[.int .i64 3, .int .i64 o, .int .i64 n, .int .i64 V] 64))
  have HD := Lib.hid hd
  clear hr hv hd
  go_enter Try.func47, Try.ntmps47
  go_wp2_with fail
  refine (popB_no_i (HR.out.sim ⟨rfl, rfl, rfl, rfl⟩)).mono ?_
  rintro e w1 ⟨rfl, hw1⟩
  subst hw1
  go_wp2_with fail
  refine (gone_out (-1) (by simp)).mono ?_
  rintro e w2 ⟨rfl, hw2⟩
  subst hw2
  go_wp2_with fail
  refine (took_out (-1) (by simp)).mono ?_
  rintro e w3 ⟨rfl, hw3⟩
  subst hw3
  go_wp2
  refine bodyPost_ret (v := .tuple #[.slice ao 0 cap, .bool true]) (by simp [results, Try.results47, go_sem]) rfl ?_
  exact ⟨_, S, ds, [], rfl, HR.out.sim ⟨rfl, rfl, rfl, rfl⟩, HV.out.sim ⟨rfl, rfl, rfl, rfl⟩, ((Fr.refl (r :: ds) w).alloc _).sim ⟨rfl, rfl, rfl, rfl⟩, Gr.refl _ _, Gr.refl _ _, HD.out, by simp⟩

set_option maxRecDepth 100000 in
set_option maxHeartbeats 2000000 in
theorem do_popB_some {w : World} {r : Nat} {ds : List Nat} {x0 : Int} {t0 : List Int} {v : Value} {S : List Nat} (hr : Rgi w r ds (t0 ++ [x0])) (hv : OwnS w 3 1 v (t0.length + 1) ((t0 ++ [x0]).flatMap encI) S) (hd : ∀ x, x ∈ S → x ∉ r :: ds) (hn : t0.length ≤ 65536) (o n V : Int) :
    Calls Try.prog 47 #[.pointer (some ⟨r, 0, none⟩), v, .agg #[.int .i64 3, .int .i64 o, .int .i64 n, .int .i64 V]] w (Did w r ds S (t0.length + 1)) := by
  obtain ⟨ao, cap, rfl⟩ := hv.val
  have HR := Lib.hid (hr.fr ((Fr.refl [] w).alloc (.cells #[.int .i64 3, .int .i64 o, .int .i64 n, .int .i64 V] 64)) (by simp))
  have HV := Lib.hid hv
  have HD := Lib.hid hd
  obtain ⟨m, hm⟩ : ∃ m, t0.length = m := ⟨_, rfl⟩
  have HM := Lib.hid hm
  rw [hm] at hn hv ⊢
  have HV2 := Lib.hid hv
  clear hr hv hd hm
  go_enter Try.func47, Try.ntmps47
  go_wp2_with fail
  refine (popB_i (HR.out.sim ⟨rfl, rfl, rfl, rfl⟩)).mono ?_
  rintro e w1 ⟨rfl, k1, f1⟩
  have F1 : Hid (Fr (r :: ds) w w1) := (((Fr.refl (r :: ds) w).alloc _).sim ⟨rfl, rfl, rfl, rfl⟩).trans' f1
  have K1 := Lib.hid k1
  have hv1 := Lib.hid (HV2.out.fr F1.out HD.out)
  clear k1 f1
  go_wp2_with fail
  refine (gone_in hv1.out (by omega) m (by omega)).mono ?_
  rintro e w2 ⟨u, S', rfl, o2, g2, f2⟩
  have O2 := Lib.hid o2
  have G2 := Lib.hid g2
  have F2 := Lib.hid f2
  clear o2 g2 f2
  go_wp2_with fail
  refine (took_in (k := m) (hv1.out.fr F2.out (by simp)) (by have := HM.out; subst this; simp) (by omega)).mono ?_
  rintro e w3 ⟨rfl, hw3⟩
  subst hw3
  go_wp2
  refine bodyPost_ret (v := .tuple #[u, .bool true]) (by simp [results, Try.results47, go_sem]) rfl ?_
  have hl2 := K1.out.lt
  have hz1 := F1.out.size
  refine ⟨u, S', ds, t0, rfl, K1.out.fr F2.out (by simp), ?_, F1.out.trans (Gr.nil _ _) (F2.out.mono (by simp)), Gr.refl _ _, ?_, ?_, by have := HM.out; omega⟩
  · have o2 := O2.out
    have hm := HM.out
    subst hm
    rw [show (t0 ++ [x0]).eraseIdx t0.length = t0 from by rw [List.eraseIdx_eq_take_drop_succ]; simp] at o2
    simpa using o2
  · exact fun x hx => by rcases G2.out x hx with h | h; cases h; exact .inr (by omega)
  · intro x hx hm
    rcases G2.out x hx with h | h
    · cases h
    · have := hl2 x hm
      omega

theorem turned_zero {w : World} (ao : Option Addr) (cap : Nat) (i : Int) : Calls Try.prog 77 #[.slice ao 0 cap, .int .i64 i] w fun e w' => e = .returned (.slice ao 0 cap) ∧ w' = w := by
  go_enter Try.func77, Try.ntmps77
  go_wp2
  go_ret
  exact ⟨rfl, rfl⟩

set_option maxRecDepth 100000 in
set_option maxHeartbeats 2000000 in
theorem do_turn_some {w : World} {r : Nat} {ds : List Nat} {xs : List Int} {v : Value} {S : List Nat} (hr : Rgi w r ds xs) (hv : OwnS w 3 1 v xs.length (xs.flatMap encI) S) (hd : ∀ x, x ∈ S → x ∉ r :: ds) (hn : xs.length ≤ 65536) (h0 : 0 < xs.length) (o n V : Int) :
    Calls Try.prog 47 #[.pointer (some ⟨r, 0, none⟩), v, .agg #[.int .i64 7, .int .i64 o, .int .i64 n, .int .i64 V]] w (Did w r ds S xs.length) := by
  obtain ⟨m, hm⟩ : ∃ m, xs.length = m := ⟨_, rfl⟩
  have HM := Lib.hid hm
  have HD := Lib.hid hd
  have hb1 : w.heap.size ∉ r :: ds := fun h => by have := hr.lt _ h; omega
  have HB1 := Lib.hid hb1
  have HR := Lib.hid (hr.fr ((Fr.refl [] w).alloc (.cells #[.int .i64 7, .int .i64 o, .int .i64 n, .int .i64 V] 64)) (by simp))
  have hBx := Lib.hid (Blk.new w 64 [.int .i64 7, .int .i64 o, .int .i64 n, .int .i64 V])
  rw [hm] at hn hv h0 ⊢
  obtain ⟨ao, cap, rfl⟩ := hv.val
  have HV2 := Lib.hid hv
  clear hr hv hd hb1 hm
  go_enter Try.func47, Try.ntmps47
  go_wp2_with fail
  refine (turnZ (HR.out.sim ⟨rfl, rfl, rfl, rfl⟩) (by have := HM.out; omega) n).mono ?_
  rintro e w1 ⟨rfl, ds1, k1, f1, g1⟩
  have c2 : w1.cell? ⟨w.heap.size, 2, none⟩ = some (.int .i64 n) := by
    have := ((hBx.out.sim ⟨rfl, rfl, rfl, rfl⟩).fr f1 HB1.out).cell 2
    simpa using this
  have hlt1 : w.heap.size < w1.heap.size := by
    have h1 := f1.size
    have h2 := World.block_lt_of_cell? _ _ c2
    exact h2
  have F0 : Hid (Fr (r :: ds) w w1) := (((Fr.refl (r :: ds) w).alloc _).sim ⟨rfl, rfl, rfl, rfl⟩).trans' f1
  have hv1 := Lib.hid (HV2.out.fr F0.out HD.out)
  have K1 := Lib.hid k1
  have G1 : Hid (Gr w ds ds1) := fun x hx => by
    rcases g1 x hx with h | h
    · exact .inl h
    · exact .inr (Nat.le_of_lt (Nat.lt_of_lt_of_le (Nat.lt_succ_self _) (by simpa [World.drewN] using h)))
  clear k1 f1 g1
  go_wp2_with fail
  refine (turned_ok hv1.out (by omega) h0 n).mono ?_
  rintro e w2 ⟨u, S', rfl, o2, g2, f2⟩
  have O2 := Lib.hid o2
  have G2 := Lib.hid g2
  have F2 := Lib.hid f2
  clear o2 g2 f2
  go_wp2
  refine bodyPost_ret (v := .tuple #[u, .bool true]) (by simp [results, Try.results47, go_sem]) rfl ?_
  have hl2 := K1.out.lt
  refine ⟨u, S', ds1, rotZ xs n, rfl, K1.out.fr F2.out (by simp), ?_, F0.out.trans (Gr.nil _ _) (F2.out.mono (by simp)), G1.out, ?_, ?_, by have := HM.out; rw [rotZ_len]; omega⟩
  · have o2 := O2.out
    rw [rotZ_len, HM.out]
    exact o2
  · exact fun x hx => by rcases G2.out x hx with h | h; cases h; exact .inr (by omega)
  · intro x hx hm
    rcases G2.out x hx with h | h
    · cases h
    · have := hl2 x hm
      omega

set_option maxRecDepth 100000 in
set_option maxHeartbeats 2000000 in
theorem do_turn_none {w : World} {r : Nat} {ds : List Nat} {S : List Nat} (hr : Rgi w r ds []) {v : Value} (hv : OwnS w 3 1 v 0 (([] : List Int).flatMap encI) S) (hd : ∀ x, x ∈ S → x ∉ r :: ds) (o n V : Int) :
    Calls Try.prog 47 #[.pointer (some ⟨r, 0, none⟩), v, .agg #[.int .i64 7, .int .i64 o, .int .i64 n, .int .i64 V]] w (Did w r ds S 0) := by
  obtain ⟨ao, cap, rfl⟩ := hv.val
  have HR := Lib.hid (hr.fr ((Fr.refl [] w).alloc (.cells #[.int .i64 7, .int .i64 o, .int .i64 n, .int .i64 V] 64)) (by simp))
  have HV := Lib.hid (hv.alloc (.cells #[.int .i64 7, .int .i64 o, .int .i64 n, .int .i64 V] 64))
  have HD := Lib.hid hd
  clear hr hv hd
  go_enter Try.func47, Try.ntmps47
  go_wp2_with fail
  refine (turn_no_i (HR.out.sim ⟨rfl, rfl, rfl, rfl⟩) n).mono ?_
  rintro e w1 ⟨rfl, hw1⟩
  subst hw1
  go_wp2_with fail
  refine (turned_zero ao cap n).mono ?_
  rintro e w2 ⟨rfl, hw2⟩
  subst hw2
  go_wp2
  refine bodyPost_ret (v := .tuple #[.slice ao 0 cap, .bool true]) (by simp [results, Try.results47, go_sem]) rfl ?_
  exact ⟨_, S, ds, [], rfl, HR.out.sim ⟨rfl, rfl, rfl, rfl⟩, HV.out.sim ⟨rfl, rfl, rfl, rfl⟩, ((Fr.refl (r :: ds) w).alloc _).sim ⟨rfl, rfl, rfl, rfl⟩, Gr.refl _ _, Gr.refl _ _, HD.out, by simp⟩

theorem ends_ok {w : World} {r : Nat} {ds : List Nat} {xs : List Int} {v : Value} {S : List Nat} (hr : Rgi w r ds xs) (hv : OwnS w 3 1 v xs.length (xs.flatMap encI) S) (hn : xs.length ≤ 65536) (i : Int) :
    Calls Try.prog 48 #[.pointer (some ⟨r, 0, none⟩), v, .int .i64 i] w fun e w' => e = .returned (.bool true) ∧ Fr [] w w' := by
  by_cases h0 : xs.length = 0
  · obtain rfl := List.eq_nil_of_length_eq_zero h0
    obtain ⟨ao, cap, rfl⟩ := hv.val
    exact ends_none hr ao cap i
  · obtain ⟨m, hm⟩ : ∃ m, xs.length = m + 1 := ⟨xs.length - 1, by omega⟩
    rw [hm] at hv hn
    exact ends_some hr hv (by omega) i

set_option maxRecDepth 100000 in
set_option maxHeartbeats 2000000 in
theorem do_look {w : World} {r : Nat} {ds : List Nat} {xs : List Int} {v : Value} {S : List Nat} (hr : Rgi w r ds xs) (hv : OwnS w 3 1 v xs.length (xs.flatMap encI) S) (hd : ∀ x, x ∈ S → x ∉ r :: ds) (hn : xs.length ≤ 65536) (K o n V : Int)
    (e0 : (K == 0) = false) (e1 : (K == 1) = false) (e2 : (K == 2) = false) (e3 : (K == 3) = false) (e5 : (K == 5) = false) (e6 : (K == 6) = false) (e7 : (K == 7) = false) :
    Calls Try.prog 47 #[.pointer (some ⟨r, 0, none⟩), v, .agg #[.int .i64 K, .int .i64 o, .int .i64 n, .int .i64 V]] w (Did w r ds S xs.length) := by
  have HR := Lib.hid hr
  have HV := Lib.hid hv
  have HD := Lib.hid hd
  have hcall := Lib.hid (fun (X : World) (f : Fr [] w X) => ends_ok (hr.fr f (by simp)) (hv.fr f (by simp)) hn n)
  obtain ⟨m, hm⟩ : ∃ m, xs.length = m := ⟨_, rfl⟩
  have HM := Lib.hid hm
  obtain ⟨ao, cap, rfl⟩ := hv.val
  rw [hm] at hcall hn ⊢
  clear hr hv hd hm
  go_enter Try.func47, Try.ntmps47
  go_wp2_with fail
  refine (hcall.out _ (((Fr.refl [] w).alloc (.cells #[.int .i64 K, .int .i64 o, .int .i64 n, .int .i64 V] 64)).sim ⟨rfl, rfl, rfl, rfl⟩)).mono ?_
  rintro e w1 ⟨rfl, f1⟩
  have F1 : Hid (Fr [] w w1) := (((Fr.refl [] w).alloc (.cells #[.int .i64 K, .int .i64 o, .int .i64 n, .int .i64 V] 64)).sim ⟨rfl, rfl, rfl, rfl⟩).trans' f1
  clear f1 hcall
  go_wp2
  refine bodyPost_ret (v := .tuple #[.slice ao m cap, .bool true]) (by simp [results, Try.results47, go_sem]) rfl ?_
  have hm := HM.out
  subst hm
  exact ⟨_, S, ds, xs, rfl, HR.out.fr F1.out (by simp), HV.out.fr F1.out (by simp), F1.out.mono (by simp), Gr.refl _ _, Gr.refl _ _, HD.out, by omega⟩
end Go.Proofs.Ytoodgjmgkjhpoaa
