/- Rings of things of several cells (api.Packet): what reads them and what takes things out. -/
import Derived.Test.YteojodcdehkejaaRingW2P6
import Derived.Test.YteojodcdehkejaaRingSep
namespace Go.Proofs.Yteojodcdehkejaa
open Go Go.RowKit
attribute [local go_sem] calmQ_normal wide_fn wide_depth Oper.semAt_some

/-- a thing as a value -/
abbrev aggp6 (x : P6) : Value := .agg #[.int .i64 x.f0, .int .i64 x.f1, .int .i64 x.f2, .int .i64 x.f3, .int .i64 x.f4, .int .i64 x.f5]
def zerop6 : P6 := ⟨0, 0, 0, 0, 0, 0⟩
theorem len_p6 {w : World} {r : Nat} {ds : List Nat} {xs : List P6} (h : Rgp6 w r ds xs) :
    Calls Try.prog 37 #[.pointer (some ⟨r, 0, none⟩)] w fun e w' => e = .returned (.int .i64 xs.length) ∧ w' = w := by
  obtain ⟨L, head, sv, hb, hL, h⟩ := h
  have h2 := hb.cell 2
  simp at h2
  go_enter Try.func37, Try.ntmps37
  go_wp2
  go_ret
  exact ⟨rfl, rfl⟩

set_option maxRecDepth 100000 in
set_option maxHeartbeats 1000000 in
theorem at_yes_p6 {w : World} {r : Nat} {ds : List Nat} {xs : List P6} (h : Rgp6 w r ds xs) {i : Nat} {x : P6} (hx : xs[i]? = some x) :
    Calls Try.prog 76 #[.pointer (some ⟨r, 0, none⟩), .int .i64 i] w fun e w' => e = .returned (.tuple #[aggp6 x, .bool true]) ∧ Fr [] w w' := by
  have hi := some_lt hx
  obtain ⟨d, L, head, rfl, cs, hb, hL, hd, hbd, hc⟩ := h.conc (by omega)
  have h0 := hb.cell 0
  have h1 := hb.cell 1
  have h2 := hb.cell 2
  simp at h0 h1 h2
  have hhd := hc.headL
  have hro := hc.room
  obtain ⟨m, hm⟩ : ∃ m, Hid (m = (head + i) % L) := ⟨_, Lib.hid rfl⟩
  have hml : m < L := by rw [hm.out]; exact Nat.mod_lt _ (by omega)
  obtain ⟨c0, c1, c2, c3, c4, c5⟩ := hc.cells_p6 hx hm hbd
  have hrw := hb.lt
  have hdw := hbd.lt
  have hk1 : decide ((i : Int) < 0) = false := by simp
  have hk2 : decide (xs.length ≤ i) = false := by simp; omega
  have hA0 : (w.alloc (.cells #[.int .i64 0, .int .i64 0, .int .i64 0, .int .i64 0, .int .i64 0, .int .i64 0] 34)).cell? ⟨r, 0, none⟩ = some (.slice (some ⟨d, 0, none⟩) L L) := (((Fr.refl [] w).alloc _).cell hrw (by simp)).trans h0
  have hA1 : (w.alloc (.cells #[.int .i64 0, .int .i64 0, .int .i64 0, .int .i64 0, .int .i64 0, .int .i64 0] 34)).cell? ⟨r, 1, none⟩ = some (.int .i64 head) := (((Fr.refl [] w).alloc _).cell hrw (by simp)).trans h1
  have hA0 := Lib.hid hA0
  have hA1 := Lib.hid hA1
  clear hb hbd hc h
  go_enter Try.func76, Try.ntmps76
  go_wp2
  refine wp_region_quiet_tail 9 (by kernel_rfl) (by kernel_rfl) ?_
  simp only [List.take_succ_cons, List.take_zero, List.drop_succ_cons, List.drop_zero]
  repeat (first | go_big_quiet_step ((go_at_call 72; exact Calls.quiet_of (place_p6 m r L head i _ _ (by omega) hL hhd (by omega) hm hA0.out hA1.out))) | quiet_step ((go_at_call 72; exact Calls.quiet_of (place_p6 m r L head i _ _ (by omega) hL hhd (by omega) hm hA0.out hA1.out))))
  refine wpQuiet_nil ?_
  rintro _ ⟨nq, rfl⟩
  refine wpList_store_S rfl _ _ _ rfl w.heap.size 0 34 (encP6 zerop6) (encP6 x) rfl rfl ((Blk.new w 34 (encP6 zerop6)).drewN nq) (by kernel_rfl) (by simp [encP6]) (fun u hu => one_p6 [x] u (by simpa using hu)) ?_
  intro w2 b2 f2 z2
  have y0 : w2.cell? ⟨w.heap.size, 0, none⟩ = some (.int .i64 x.f0) := b2.cell 0
  have y1 : w2.cell? ⟨w.heap.size, 1, none⟩ = some (.int .i64 x.f1) := b2.cell 1
  have y2 : w2.cell? ⟨w.heap.size, 2, none⟩ = some (.int .i64 x.f2) := b2.cell 2
  have y3 : w2.cell? ⟨w.heap.size, 3, none⟩ = some (.int .i64 x.f3) := b2.cell 3
  have y4 : w2.cell? ⟨w.heap.size, 4, none⟩ = some (.int .i64 x.f4) := b2.cell 4
  have y5 : w2.cell? ⟨w.heap.size, 5, none⟩ = some (.int .i64 x.f5) := b2.cell 5
  have HF : Hid (Fr [] w w2) := ((((Fr.refl [w.heap.size] w).alloc _).drewN nq).trans' f2).mono' (fun b hb => by simp at hb; right; omega)
  clear b2 f2 z2
  go_wp2
  exact bodyPost_ret (v := .tuple #[aggp6 x, .bool true]) (by simp [results, Try.results76, go_sem, y0, y1, y2, y3, y4, y5]) rfl ⟨rfl, HF.out⟩
theorem at_yesZ_p6 {w : World} {r : Nat} {ds : List Nat} {xs : List P6} (h : Rgp6 w r ds xs) {i : Int} {x : P6} (hi : 0 ≤ i) (hx : xs[i.toNat]? = some x) :
    Calls Try.prog 76 #[.pointer (some ⟨r, 0, none⟩), .int .i64 i] w fun e w' => e = .returned (.tuple #[aggp6 x, .bool true]) ∧ Fr [] w w' := by
  obtain ⟨k, rfl⟩ := Int.eq_ofNat_of_zero_le hi
  exact at_yes_p6 h (by simpa using hx)

set_option maxRecDepth 100000 in
set_option maxHeartbeats 1000000 in
theorem at_no_p6 {w : World} {r : Nat} {ds : List Nat} {xs : List P6} (h : Rgp6 w r ds xs) (i : Int) (hi : i < 0 ∨ (xs.length : Int) ≤ i) :
    Calls Try.prog 76 #[.pointer (some ⟨r, 0, none⟩), .int .i64 i] w fun e w' => e = .returned (.tuple #[aggp6 zerop6, .bool false]) ∧ Fr [] w w' := by
  obtain ⟨L, head, sv, hb, hL, hrest⟩ := h
  have h2 := hb.cell 2
  simp at h2
  have hrw := hb.lt
  clear hb hrest
  by_cases h0 : i < 0
  · have hk1 : decide (i < 0) = true := by simpa using h0
    clear hi
    go_enter Try.func76, Try.ntmps76
    go_wp2
    exact bodyPost_ret (v := .tuple #[aggp6 zerop6, .bool false]) (by simp [results, Try.results76, go_sem, zerop6]) rfl ⟨rfl, by (repeat (first | assumption | exact Fr.refl _ _ | refine Fr.alloc ?_ _ | refine Fr.drewN ?_ _ | refine Fr.drew ?_ | (refine Fr.setCell ?_ _ (by simp))))⟩
  · have hk1 : decide (i < 0) = false := by simpa using h0
    have hk2 : decide ((xs.length : Int) ≤ i) = true := by simp; omega
    have hk3 : (xs.length : Int) ≤ i := by omega
    clear hi
    go_enter Try.func76, Try.ntmps76
    go_wp2
    exact bodyPost_ret (v := .tuple #[aggp6 zerop6, .bool false]) (by simp [results, Try.results76, go_sem, zerop6]) rfl ⟨rfl, by (repeat (first | assumption | exact Fr.refl _ _ | refine Fr.alloc ?_ _ | refine Fr.drewN ?_ _ | refine Fr.drew ?_ | (refine Fr.setCell ?_ _ (by simp))))⟩

set_option maxRecDepth 100000 in
set_option maxHeartbeats 1000000 in
theorem front_p6 {w : World} {r : Nat} {ds : List Nat} {x : P6} {xs : List P6} (h : Rgp6 w r ds (x :: xs)) :
    Calls Try.prog 54 #[.pointer (some ⟨r, 0, none⟩)] w fun e w' => e = .returned (.tuple #[aggp6 x, .bool true]) ∧ Fr [] w w' := by
  have hcall := Lib.hid (fun X (f : Fr [] w X) => at_yesZ_p6 (h.fr f (by simp)) (i := 0) (x := x) (by omega) (by simp))
  clear h
  go_enter Try.func54, Try.ntmps54
  go_wp2_with fail
  refine (hcall.out _ ((Fr.refl [] w).alloc _)).mono ?_
  rintro e w1 ⟨rfl, f1⟩
  have B1 := (Blk.new w 34 (encP6 zerop6)).fr f1 (by simp)
  have F1 : Hid (Fr [] w w1) := ((Fr.refl [] w).alloc _).trans' f1
  have hl1 := B1.lt
  clear f1
  go_wp2_with (with_reducible refine wpList_store_S rfl _ (.tmp 2) (.tmp 6) rfl w.heap.size 0 34 (encP6 zerop6) (encP6 x) rfl rfl B1 (by kernel_rfl) (by simp [encP6]) (fun u hu => one_p6 [x] u (by simpa using hu)) ?_; intro w2 b2 f2 z2; have HB2 := Lib.hid b2; have HF2 := Lib.hid f2; clear b2 f2 z2)
  have y0 : w2.cell? ⟨w.heap.size, 0, none⟩ = some (.int .i64 x.f0) := HB2.out.cell 0
  have y1 : w2.cell? ⟨w.heap.size, 1, none⟩ = some (.int .i64 x.f1) := HB2.out.cell 1
  have y2 : w2.cell? ⟨w.heap.size, 2, none⟩ = some (.int .i64 x.f2) := HB2.out.cell 2
  have y3 : w2.cell? ⟨w.heap.size, 3, none⟩ = some (.int .i64 x.f3) := HB2.out.cell 3
  have y4 : w2.cell? ⟨w.heap.size, 4, none⟩ = some (.int .i64 x.f4) := HB2.out.cell 4
  have y5 : w2.cell? ⟨w.heap.size, 5, none⟩ = some (.int .i64 x.f5) := HB2.out.cell 5
  exact bodyPost_ret (v := .tuple #[aggp6 x, .bool true]) (by simp [results, Try.results54, go_sem, y0, y1, y2, y3, y4, y5]) rfl ⟨rfl, F1.out.trans (fun b hb => by simp at hb; right; omega) HF2.out⟩
set_option maxRecDepth 100000 in
set_option maxHeartbeats 1000000 in
theorem front_no_p6 {w : World} {r : Nat} {ds : List Nat} (h : Rgp6 w r ds []) :
    Calls Try.prog 54 #[.pointer (some ⟨r, 0, none⟩)] w fun e w' => e = .returned (.tuple #[aggp6 zerop6, .bool false]) ∧ Fr [] w w' := by
  have hcall := Lib.hid (fun X (f : Fr [] w X) => at_no_p6 (h.fr f (by simp)) 0 (by simp))
  clear h
  go_enter Try.func54, Try.ntmps54
  go_wp2_with fail
  refine (hcall.out _ ((Fr.refl [] w).alloc _)).mono ?_
  rintro e w1 ⟨rfl, f1⟩
  have B1 := (Blk.new w 34 (encP6 zerop6)).fr f1 (by simp)
  have F1 : Hid (Fr [] w w1) := ((Fr.refl [] w).alloc _).trans' f1
  have hl1 := B1.lt
  clear f1
  go_wp2_with (with_reducible refine wpList_store_S rfl _ (.tmp 2) (.tmp 6) rfl w.heap.size 0 34 (encP6 zerop6) (encP6 zerop6) rfl rfl B1 (by kernel_rfl) (by simp [encP6]) (fun u hu => one_p6 [zerop6] u (by simpa using hu)) ?_; intro w2 b2 f2 z2; have HB2 := Lib.hid b2; have HF2 := Lib.hid f2; clear b2 f2 z2)
  have y0 : w2.cell? ⟨w.heap.size, 0, none⟩ = some (.int .i64 zerop6.f0) := HB2.out.cell 0
  have y1 : w2.cell? ⟨w.heap.size, 1, none⟩ = some (.int .i64 zerop6.f1) := HB2.out.cell 1
  have y2 : w2.cell? ⟨w.heap.size, 2, none⟩ = some (.int .i64 zerop6.f2) := HB2.out.cell 2
  have y3 : w2.cell? ⟨w.heap.size, 3, none⟩ = some (.int .i64 zerop6.f3) := HB2.out.cell 3
  have y4 : w2.cell? ⟨w.heap.size, 4, none⟩ = some (.int .i64 zerop6.f4) := HB2.out.cell 4
  have y5 : w2.cell? ⟨w.heap.size, 5, none⟩ = some (.int .i64 zerop6.f5) := HB2.out.cell 5
  exact bodyPost_ret (v := .tuple #[aggp6 zerop6, .bool false]) (by simp [results, Try.results54, go_sem, y0, y1, y2, y3, y4, y5]) rfl ⟨rfl, F1.out.trans (fun b hb => by simp at hb; right; omega) HF2.out⟩
theorem Cyc.lens_p6 {L head : Nat} {cs : List Value} {xs : List P6} (h : Cyc L head 6 encP6 cs xs) {m : Nat} (hm : m < L) : m * 6 + (encP6 zerop6).length ≤ cs.length := by
  have := place_in (sz := 6) hm h.len
  simpa [encP6] using this
theorem ring_room_p6 {w : World} {r : Nat} {ds : List Nat} {xs : List P6} (h : Rgp6 w r ds xs) : xs.length ≤ 1073741824 := by
  obtain ⟨L, head, sv, hb, hL, hrest⟩ := h
  rcases hrest with ⟨_, _, rfl, _⟩ | ⟨d, cs, _, _, _, _, hc⟩
  · simp
  · have := hc.room; omega
set_option maxRecDepth 100000 in
set_option maxHeartbeats 1000000 in
theorem back_p6 {w : World} {r : Nat} {ds : List Nat} {x : P6} {xs : List P6} (h : Rgp6 w r ds (xs ++ [x])) :
    Calls Try.prog 78 #[.pointer (some ⟨r, 0, none⟩)] w fun e w' => e = .returned (.tuple #[aggp6 x, .bool true]) ∧ Fr [] w w' := by
  have hcall := Lib.hid (fun X (f : Fr [] w X) => at_yesZ_p6 (h.fr f (by simp)) (i := xs.length) (x := x) (by omega) (by simp))
  have hro := ring_room_p6 h
  obtain ⟨L, head, sv, hb, hL, hrest⟩ := h
  have h2 := hb.cell 2
  simp at h2
  have hrl := hb.lt
  clear hb hrest
  simp at hro
  go_enter Try.func78, Try.ntmps78
  go_wp2_with fail
  refine (hcall.out _ ((Fr.refl [] w).alloc _)).mono ?_
  rintro e w1 ⟨rfl, f1⟩
  have B1 := (Blk.new w 34 (encP6 zerop6)).fr f1 (by simp)
  have F1 : Hid (Fr [] w w1) := ((Fr.refl [] w).alloc _).trans' f1
  have hl1 := B1.lt
  clear f1
  go_wp2_with (with_reducible refine wpList_store_S rfl _ (.tmp 2) (.tmp 11) rfl w.heap.size 0 34 (encP6 zerop6) (encP6 x) rfl rfl B1 (by kernel_rfl) (by simp [encP6]) (fun u hu => one_p6 [x] u (by simpa using hu)) ?_; intro w2 b2 f2 z2; have HB2 := Lib.hid b2; have HF2 := Lib.hid f2; clear b2 f2 z2)
  have y0 : w2.cell? ⟨w.heap.size, 0, none⟩ = some (.int .i64 x.f0) := HB2.out.cell 0
  have y1 : w2.cell? ⟨w.heap.size, 1, none⟩ = some (.int .i64 x.f1) := HB2.out.cell 1
  have y2 : w2.cell? ⟨w.heap.size, 2, none⟩ = some (.int .i64 x.f2) := HB2.out.cell 2
  have y3 : w2.cell? ⟨w.heap.size, 3, none⟩ = some (.int .i64 x.f3) := HB2.out.cell 3
  have y4 : w2.cell? ⟨w.heap.size, 4, none⟩ = some (.int .i64 x.f4) := HB2.out.cell 4
  have y5 : w2.cell? ⟨w.heap.size, 5, none⟩ = some (.int .i64 x.f5) := HB2.out.cell 5
  exact bodyPost_ret (v := .tuple #[aggp6 x, .bool true]) (by simp [results, Try.results78, go_sem, y0, y1, y2, y3, y4, y5]) rfl ⟨rfl, F1.out.trans (fun b hb => by simp at hb; right; omega) HF2.out⟩
set_option maxRecDepth 100000 in
set_option maxHeartbeats 1000000 in
theorem back_no_p6 {w : World} {r : Nat} {ds : List Nat} (h : Rgp6 w r ds []) :
    Calls Try.prog 78 #[.pointer (some ⟨r, 0, none⟩)] w fun e w' => e = .returned (.tuple #[aggp6 zerop6, .bool false]) ∧ Fr [] w w' := by
  have hcall := Lib.hid (fun X (f : Fr [] w X) => at_no_p6 (h.fr f (by simp)) (-1) (by simp))
  obtain ⟨L, head, sv, hb, hL, hrest⟩ := h
  have h2 := hb.cell 2
  simp at h2
  have hrl := hb.lt
  clear hb hrest
  go_enter Try.func78, Try.ntmps78
  go_wp2_with fail
  refine (hcall.out _ ((Fr.refl [] w).alloc _)).mono ?_
  rintro e w1 ⟨rfl, f1⟩
  have B1 := (Blk.new w 34 (encP6 zerop6)).fr f1 (by simp)
  have F1 : Hid (Fr [] w w1) := ((Fr.refl [] w).alloc _).trans' f1
  have hl1 := B1.lt
  clear f1
  go_wp2_with (with_reducible refine wpList_store_S rfl _ (.tmp 2) (.tmp 11) rfl w.heap.size 0 34 (encP6 zerop6) (encP6 zerop6) rfl rfl B1 (by kernel_rfl) (by simp [encP6]) (fun u hu => one_p6 [zerop6] u (by simpa using hu)) ?_; intro w2 b2 f2 z2; have HB2 := Lib.hid b2; have HF2 := Lib.hid f2; clear b2 f2 z2)
  have y0 : w2.cell? ⟨w.heap.size, 0, none⟩ = some (.int .i64 zerop6.f0) := HB2.out.cell 0
  have y1 : w2.cell? ⟨w.heap.size, 1, none⟩ = some (.int .i64 zerop6.f1) := HB2.out.cell 1
  have y2 : w2.cell? ⟨w.heap.size, 2, none⟩ = some (.int .i64 zerop6.f2) := HB2.out.cell 2
  have y3 : w2.cell? ⟨w.heap.size, 3, none⟩ = some (.int .i64 zerop6.f3) := HB2.out.cell 3
  have y4 : w2.cell? ⟨w.heap.size, 4, none⟩ = some (.int .i64 zerop6.f4) := HB2.out.cell 4
  have y5 : w2.cell? ⟨w.heap.size, 5, none⟩ = some (.int .i64 zerop6.f5) := HB2.out.cell 5
  exact bodyPost_ret (v := .tuple #[aggp6 zerop6, .bool false]) (by simp [results, Try.results78, go_sem, y0, y1, y2, y3, y4, y5]) rfl ⟨rfl, F1.out.trans (fun b hb => by simp at hb; right; omega) HF2.out⟩

set_option maxRecDepth 100000 in
set_option maxHeartbeats 1000000 in
theorem set_yes_p6 {w : World} {r : Nat} {ds : List Nat} {xs : List P6} (h : Rgp6 w r ds xs) {i : Nat} (hi : i < xs.length) (u : P6) :
    Calls Try.prog 99 #[.pointer (some ⟨r, 0, none⟩), .int .i64 i, aggp6 u] w fun e w' => e = .returned (.bool true) ∧ Rgp6 w' r ds (xs.set i u) ∧ Fr ds w w' := by
  obtain ⟨d, L, head, rfl, cs, hb, hL, hd, hbd, hc⟩ := h.conc (by omega)
  have h0 := hb.cell 0
  have h1 := hb.cell 1
  have h2 := hb.cell 2
  simp at h0 h1 h2
  have hhd := hc.headL
  have hro := hc.room
  obtain ⟨m, hm⟩ : ∃ m, Hid (m = (head + i) % L) := ⟨_, Lib.hid rfl⟩
  have hml : m < L := by rw [hm.out]; exact Nat.mod_lt _ (by omega)
  have hmc := hc.lens_p6 hml
  have hrw := hb.lt
  have hdw := hbd.lt
  have hk1 : decide ((i : Int) < 0) = false := by simp
  have hk2 : decide (xs.length ≤ i) = false := by simp; omega
  have f1 : Fr [] w (w.alloc (.cells #[.int .i64 u.f0, .int .i64 u.f1, .int .i64 u.f2, .int .i64 u.f3, .int .i64 u.f4, .int .i64 u.f5] 34)) := (Fr.refl [] w).alloc _
  have hA0 := Lib.hid ((f1.cell (p := ⟨r, 0, none⟩) hrw (by simp)).trans h0)
  have hA1 := Lib.hid ((f1.cell (p := ⟨r, 1, none⟩) hrw (by simp)).trans h1)
  have HB := Lib.hid hb
  have HBD := Lib.hid hbd
  have HC := Lib.hid hc
  have hrd : r ∉ [d] := by simpa using Ne.symm hd
  clear hb hbd hc h f1
  go_enter Try.func99, Try.ntmps99
  go_wp2
  refine wp_region_quiet_tail 9 (by kernel_rfl) (by kernel_rfl) ?_
  simp only [List.take_succ_cons, List.take_zero, List.drop_succ_cons, List.drop_zero]
  repeat (first | go_big_quiet_step ((go_at_call 72; exact Calls.quiet_of (place_p6 m r L head i _ _ (by omega) hL hhd (by omega) hm hA0.out hA1.out))) | quiet_step ((go_at_call 72; exact Calls.quiet_of (place_p6 m r L head i _ _ (by omega) hL hhd (by omega) hm hA0.out hA1.out))))
  refine wpQuiet_nil ?_
  rintro _ ⟨nq, rfl⟩
  refine wpList_store_S rfl _ _ _ rfl d (m * 6) 34 cs (encP6 u) rfl rfl ((HBD.out.alloc _).drewN nq) (by kernel_rfl) hmc (fun v hv => one_p6 [u] v (by simpa using hv)) ?_
  intro w2 b2 f2 z2
  have hr2 := ((HB.out.alloc _).drewN nq).fr f2 hrd
  have F : Fr [d] w w2 := (((Fr.refl [d] w).alloc _).drewN nq).trans' f2
  have hfin : Hid (Rcp6 w2 r d L head (xs.set i u) ∧ Fr [d] w w2) := by
    refine ⟨⟨_, ?_, hL, hd, b2, ?_⟩, F⟩
    · simpa using hr2
    · have := HC.out.set hi (y := u) (Splice.row (ys := encP6 u) rfl (by rw [← hm.out]; exact hmc))
      rw [← hm.out] at this
      exact this
  clear hr2 b2 f2 F
  go_wp2
  go_ret
  exact ⟨rfl, hfin.out.1.at, hfin.out.2⟩
theorem set_yesZ_p6 {w : World} {r : Nat} {ds : List Nat} {xs : List P6} (h : Rgp6 w r ds xs) {i : Int} (hi : 0 ≤ i) (hl : i.toNat < xs.length) (u : P6) :
    Calls Try.prog 99 #[.pointer (some ⟨r, 0, none⟩), .int .i64 i, aggp6 u] w fun e w' => e = .returned (.bool true) ∧ Rgp6 w' r ds (xs.set i.toNat u) ∧ Fr ds w w' := by
  obtain ⟨k, rfl⟩ := Int.eq_ofNat_of_zero_le hi
  exact set_yes_p6 h (by simpa using hl) u

set_option maxRecDepth 100000 in
set_option maxHeartbeats 2000000 in
theorem popF_p6 {w : World} {r : Nat} {ds : List Nat} {x : P6} {xs : List P6} (h : Rgp6 w r ds (x :: xs)) :
    Calls Try.prog 41 #[.pointer (some ⟨r, 0, none⟩)] w fun e w' => e = .returned (.tuple #[aggp6 x, .bool true]) ∧ Rgp6 w' r ds xs ∧ Fr (r :: ds) w w' := by
  have hcall := Lib.hid (fun X (f : Fr [] w X) => at_yesZ_p6 (h.fr f (by simp)) (i := 0) (x := x) (by omega) (by simp))
  obtain ⟨d, L, head, rfl, cs, hb, hL, hd, hbd, hc⟩ := h.conc (by simp)
  have hhd := hc.headL
  have hro := hc.room
  simp at hro
  have hmc := hc.lens_p6 hhd
  obtain ⟨m, hm⟩ : ∃ m, Hid (m = (head + 1) % L) := ⟨_, Lib.hid rfl⟩
  have hm' : Hid (m = (head + (1 : Int).toNat) % L) := hm
  have HC := Lib.hid hc
  have K0 : Hid (Sep w [r, d] w [Chunk.blk r 134 [.slice (some ⟨d, 0, none⟩) L L, .int .i64 head, .int .i64 (xs.length + 1 : Int)], Chunk.blk d 34 cs]) := by
    have hb' : Blk w r 134 [.slice (some ⟨d, 0, none⟩) L L, .int .i64 head, .int .i64 (xs.length + 1 : Int)] := by simpa using hb
    exact Sep.start ((Holds.one (c := Chunk.blk _ _ _) hb').app (ds := [Chunk.blk _ _ _]) (Holds.one hbd) (fun b h1 h2 => by simp [Chunks.bs, Chunk.blk] at h1 h2; omega))
  clear hb hbd hc h
  go_enter Try.func41, Try.ntmps41
  go_wp2_with fail
  refine (hcall.out _ ((Fr.refl [] w).alloc _)).mono ?_
  rintro e w1 ⟨rfl, f1⟩
  have K1 := Lib.hid ((K0.out.alloc 34 (encP6 zerop6)).same f1)
  have K2 := Lib.hid ((K1.out.alloc 34 (encP6 x)).alloc 34 (encP6 zerop6))
  rw [World.size_alloc] at K2
  have c0 := K1.out.cellOf 0 rfl 0 rfl
  have c1 := K1.out.cellOf 0 rfl 1 rfl
  have l1 := (K1.out.blk 0 rfl).lt
  have l2 := (K1.out.blk 1 rfl).lt
  have l3 := (K1.out.blk 2 rfl).lt
  clear f1
  go_wp2
  refine wp_region_quiet_tail 10 (by kernel_rfl) (by kernel_rfl) ?_
  simp only [List.take_succ_cons, List.take_zero, List.drop_succ_cons, List.drop_zero]
  repeat (first | go_big_quiet_step (fail) | quiet_step (fail))
  refine wpQuiet_nil ?_
  rintro _ ⟨nq, rfl⟩
  refine wpList_store_S rfl _ _ _ rfl d (head * 6) 34 cs (encP6 zerop6) rfl rfl ((K2.out.drewN nq).blk 1 rfl) (by kernel_rfl) hmc (fun v hv => one_p6 [zerop6] v (by simpa using hv)) ?_
  intro w2 b2 f2 z2
  obtain ⟨vb, hvb⟩ : ∃ vb, w1.heap.size = vb := ⟨_, rfl⟩
  have K3 := Lib.hid ((K2.out.drewN nq).call1' 1 rfl (Sep.of_one (c := Chunk.blk d 34 _) f2 b2 (Gr.refl _ _)))
  rw [hvb] at K3 ⊢
  have d0 := K3.out.cellOf 0 rfl 0 rfl
  have d1 := K3.out.cellOf 0 rfl 1 rfl
  have d2 := K3.out.cellOf 0 rfl 2 rfl
  have q1 := (K3.out.blk 0 rfl).frz 1
  have q2 := (K3.out.blk 0 rfl).frz 2
  have v0 : w2.cell? ⟨vb, 0, none⟩ = some (.int .i64 x.f0) := (K3.out.blk 3 rfl).cell 0
  have v1 : w2.cell? ⟨vb, 1, none⟩ = some (.int .i64 x.f1) := (K3.out.blk 3 rfl).cell 1
  have v2 : w2.cell? ⟨vb, 2, none⟩ = some (.int .i64 x.f2) := (K3.out.blk 3 rfl).cell 2
  have v3 : w2.cell? ⟨vb, 3, none⟩ = some (.int .i64 x.f3) := (K3.out.blk 3 rfl).cell 3
  have v4 : w2.cell? ⟨vb, 4, none⟩ = some (.int .i64 x.f4) := (K3.out.blk 3 rfl).cell 4
  have v5 : w2.cell? ⟨vb, 5, none⟩ = some (.int .i64 x.f5) := (K3.out.blk 3 rfl).cell 5
  have n1 : r ≠ vb := K3.out.bne 0 3 (by decide) rfl rfl
  have n2 : vb ≠ r := Ne.symm n1
  have D0 := Lib.hid d0
  have D1 := Lib.hid d1
  clear b2 f2 z2 hvb K2 K1 c0 c1 l1 l2
  go_wp2_with fail
  refine (place_Z_p6 m r L head _ _ _ (by omega) hL hhd (by omega) (by omega) hm' (by exact D0.out) (by exact D1.out)).mono ?_
  rintro e w' ⟨rfl, nn, rfl⟩
  have K4 := Lib.hid (((K3.out.drewN nn).set 0 rfl 1 (.int .i64 m)).set 0 rfl 2 (.int .i64 xs.length))
  clear D0 D1
  have BR : Blk (((w2.drewN nn).setCell ⟨r, 1, none⟩ (.int .i64 m)).setCell ⟨r, 2, none⟩ (.int .i64 xs.length)) w.heap.size 34 (encP6 zerop6) := K4.out.blk 2 rfl
  go_wp2_with (refine wpList_store_S rfl _ (.tmp 2) (.tmp 35) rfl w.heap.size 0 34 (encP6 zerop6) (encP6 x) rfl rfl BR (by kernel_rfl) (by simp [encP6]) (fun u hu => one_p6 [x] u (by simpa using hu)) ?_; intro w5 b5 f5 z5; have K5 := Lib.hid (K4.out.call1' 2 rfl (Sep.of_one (c := Chunk.blk w.heap.size 34 _) f5 b5 (Gr.refl _ _))); clear b5 f5 z5)
  have y0 : w5.cell? ⟨w.heap.size, 0, none⟩ = some (.int .i64 x.f0) := (K5.out.blk 2 rfl).cell 0
  have y1 : w5.cell? ⟨w.heap.size, 1, none⟩ = some (.int .i64 x.f1) := (K5.out.blk 2 rfl).cell 1
  have y2 : w5.cell? ⟨w.heap.size, 2, none⟩ = some (.int .i64 x.f2) := (K5.out.blk 2 rfl).cell 2
  have y3 : w5.cell? ⟨w.heap.size, 3, none⟩ = some (.int .i64 x.f3) := (K5.out.blk 2 rfl).cell 3
  have y4 : w5.cell? ⟨w.heap.size, 4, none⟩ = some (.int .i64 x.f4) := (K5.out.blk 2 rfl).cell 4
  have y5 : w5.cell? ⟨w.heap.size, 5, none⟩ = some (.int .i64 x.f5) := (K5.out.blk 2 rfl).cell 5
  have hfin : Rcp6 w5 r d L m xs ∧ Fr (r :: [d]) w w5 := by
    refine ⟨⟨_, K5.out.blk 0 rfl, hL, hd, K5.out.blk 1 rfl, ?_⟩, K5.out.fr⟩
    have := HC.out.popF (Splice.row (cs := cs) (ys := encP6 zerop6) (sz := 6) rfl (by exact hmc))
    rw [← hm.out] at this
    exact this
  exact bodyPost_ret (v := .tuple #[aggp6 x, .bool true]) (by simp [results, Try.results41, go_sem, y0, y1, y2, y3, y4, y5]) rfl ⟨rfl, hfin.1.at, hfin.2⟩

abbrev CRingp6 (r : Nat) (ds : List Nat) (xs : List P6) : Chunk := Chunk.ring 134 34 6 encP6 r ds xs
set_option maxRecDepth 100000 in
set_option maxHeartbeats 2000000 in
theorem popB_p6 {w : World} {r : Nat} {ds : List Nat} {x : P6} {xs : List P6} (h : Rgp6 w r ds (xs ++ [x])) :
    Calls Try.prog 79 #[.pointer (some ⟨r, 0, none⟩)] w fun e w' => e = .returned (.tuple #[aggp6 x, .bool true]) ∧ Rgp6 w' r ds xs ∧ Fr (r :: ds) w w' := by
  have hcall := Lib.hid (fun X (f : Fr [] w X) => at_yesZ_p6 (h.fr f (by simp)) (i := xs.length) (x := x) (by omega) (by simp))
  have hlen : xs.length ≤ 1073741824 := by have := ring_room_p6 h; simp at this; omega
  have K0 : Hid (Sep w (r :: ds) w [CRingp6 r ds (xs ++ [x])]) := Sep.start1 (c := CRingp6 r ds (xs ++ [x])) h
  obtain ⟨L, head, sv, hb, hL, hrest⟩ := h
  have h2 := hb.cell 2
  simp at h2
  have hrl := hb.lt
  clear hb hrest
  go_enter Try.func79, Try.ntmps79
  go_wp2_with fail
  refine (hcall.out _ ((Fr.refl [] w).alloc _)).mono ?_
  rintro e w1 ⟨rfl, f1⟩
  have K1 := Lib.hid ((K0.out.alloc 34 (encP6 zerop6)).same f1)
  have K2 := Lib.hid ((K1.out.alloc 34 (encP6 x)).alloc 34 (encP6 zerop6))
  rw [World.size_alloc] at K2
  obtain ⟨L1, head1, sv1, hb1, _⟩ := K1.out.ring 0 rfl
  have c2 := hb1.cell 2
  simp at c2
  have l1 := hb1.lt
  clear f1 hb1
  go_wp2
  refine wp_region_quiet_tail 7 (by kernel_rfl) (by kernel_rfl) ?_
  simp only [List.take_succ_cons, List.take_zero, List.drop_succ_cons, List.drop_zero]
  repeat (first | go_big_quiet_step (fail) | quiet_step (fail))
  refine wpQuiet_nil ?_
  rintro _ ⟨nq, rfl⟩
  go_wp2_with fail
  refine (set_yesZ_p6 ((K2.out.drewN nq).ring 0 rfl) (i := xs.length) (by omega) (by simp) zerop6).mono ?_
  rintro e w3 ⟨rfl, hr3, f3⟩
  rw [show (xs ++ [x]).set (Int.toNat (xs.length : Int)) zerop6 = xs ++ [zerop6] from by simp] at hr3
  obtain ⟨vb, hvb⟩ : ∃ vb, w1.heap.size = vb := ⟨_, rfl⟩
  have K3 := Lib.hid ((K2.out.drewN nq).ring1 0 rfl hr3 (f3.mono (by simp +contextual)) (Gr.refl _ _))
  rw [hvb] at K3 ⊢
  obtain ⟨d, L3, head3, hds, cs, hb, hL3, hd, hbd, hc⟩ := Rgp6.conc hr3 (by simp)
  subst hds
  have d2 := hb.cell 2
  simp at d2
  have q2 := hb.frz 2
  have hro := hc.room
  simp at hro
  have K4 : Hid (Sep w [r, d] (w3.setCell ⟨r, 2, none⟩ (.int .i64 xs.length)) [CRingp6 r [d] xs, Chunk.blk w.heap.size 34 (encP6 zerop6), Chunk.blk vb 34 (encP6 x), Chunk.blk (vb + 1) 34 (encP6 zerop6)]) := by
    refine Lib.hid (K3.out.ring1 0 rfl (ds' := [d]) (ys := xs) (Rcp6.at (L := L3) (head := head3) ⟨cs, by simpa using hb.set 2 (.int .i64 xs.length), hL3, hd, hbd.other _ hd, ?_⟩) ((Fr.refl _ _).setCell _ (.inl (by simp))) (Gr.refl _ _))
    exact hc.popB (ys := cs.drop ((head3 + xs.length) % L3 * 6)) ⟨rfl, fun j _ => by rw [List.getElem?_drop], fun _ _ => rfl⟩
  have v0 : w3.cell? ⟨vb, 0, none⟩ = some (.int .i64 x.f0) := (K3.out.blk 2 rfl).cell 0
  have v1 : w3.cell? ⟨vb, 1, none⟩ = some (.int .i64 x.f1) := (K3.out.blk 2 rfl).cell 1
  have v2 : w3.cell? ⟨vb, 2, none⟩ = some (.int .i64 x.f2) := (K3.out.blk 2 rfl).cell 2
  have v3 : w3.cell? ⟨vb, 3, none⟩ = some (.int .i64 x.f3) := (K3.out.blk 2 rfl).cell 3
  have v4 : w3.cell? ⟨vb, 4, none⟩ = some (.int .i64 x.f4) := (K3.out.blk 2 rfl).cell 4
  have v5 : w3.cell? ⟨vb, 5, none⟩ = some (.int .i64 x.f5) := (K3.out.blk 2 rfl).cell 5
  have n1 : r ≠ vb := fun e => K3.out.hs.apart (i := 0) (j := 2) (by decide) rfl rfl r (by simp [Chunk.ring]) (by simp [Chunk.blk, e])
  have n2 : vb ≠ r := Ne.symm n1
  have BR : Blk (w3.setCell ⟨r, 2, none⟩ (.int .i64 xs.length)) w.heap.size 34 (encP6 zerop6) := K4.out.blk 1 rfl
  clear hb hbd hc hr3 f3 K3 K2 K1 hvb c2 l1
  go_wp2_with (refine wpList_store_S rfl _ (.tmp 2) (.tmp 33) rfl w.heap.size 0 34 (encP6 zerop6) (encP6 x) rfl rfl BR (by kernel_rfl) (by simp [encP6]) (fun u hu => one_p6 [x] u (by simpa using hu)) ?_; intro w5 b5 f5 z5; have K5 := Lib.hid (K4.out.call1' 1 rfl (Sep.of_one (c := Chunk.blk w.heap.size 34 _) f5 b5 (Gr.refl _ _))); clear b5 f5 z5)
  have y0 : w5.cell? ⟨w.heap.size, 0, none⟩ = some (.int .i64 x.f0) := (K5.out.blk 1 rfl).cell 0
  have y1 : w5.cell? ⟨w.heap.size, 1, none⟩ = some (.int .i64 x.f1) := (K5.out.blk 1 rfl).cell 1
  have y2 : w5.cell? ⟨w.heap.size, 2, none⟩ = some (.int .i64 x.f2) := (K5.out.blk 1 rfl).cell 2
  have y3 : w5.cell? ⟨w.heap.size, 3, none⟩ = some (.int .i64 x.f3) := (K5.out.blk 1 rfl).cell 3
  have y4 : w5.cell? ⟨w.heap.size, 4, none⟩ = some (.int .i64 x.f4) := (K5.out.blk 1 rfl).cell 4
  have y5 : w5.cell? ⟨w.heap.size, 5, none⟩ = some (.int .i64 x.f5) := (K5.out.blk 1 rfl).cell 5
  exact bodyPost_ret (v := .tuple #[aggp6 x, .bool true]) (by simp [results, Try.results79, go_sem, y0, y1, y2, y3, y4, y5]) rfl ⟨rfl, K5.out.ring 0 rfl, K5.out.fr⟩
end Go.Proofs.Yteojodcdehkejaa
