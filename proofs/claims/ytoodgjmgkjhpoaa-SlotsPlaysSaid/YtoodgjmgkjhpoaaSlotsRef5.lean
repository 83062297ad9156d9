/- The reference's slots: New and All. -/
import Derived.Test.YtoodgjmgkjhpoaaSlotsRef4
namespace Go.Proofs.Ytoodgjmgkjhpoaa
open Go Go.RowKit
attribute [local go_sem] calmQ_normal wide_fn wide_depth Oper.semAt_some

theorem refInfo : (Try.prog.info? 149).map (fun i => (i.zero, i.size, i.bytes)) = some (some (.agg #[.int .i64 0, .bool false, .int .i64 0]), 3, 24) := by kernel_rfl
theorem ref_new_cells (n : Nat) {zs : List Value} (hl : zs.length = n * 3) (hz : ∀ j, j < n * 3 → zs[j]? = some ((Value.agg #[.int .i64 0, .bool false, .int .i64 0]).cells[j % (Value.agg #[.int .i64 0, .bool false, .int .i64 0]).cells.size]!)) :
    zs = (List.replicate n (⟨0, false, 0⟩ : Slot Int)).flatMap encR := by
  have hl2 := length_flatMap_enc encR_len (List.replicate n (⟨0, false, 0⟩ : Slot Int))
  rw [List.length_replicate] at hl2
  refine List.ext_getElem? fun k => ?_
  by_cases hk : k < n * 3
  · obtain ⟨q, j, hj, rfl⟩ : ∃ q j, j < 3 ∧ k = q * 3 + j := ⟨k / 3, k % 3, Nat.mod_lt _ (by omega), by omega⟩
    rw [hz _ hk, flatMap_at encR_len (x := ⟨0, false, 0⟩) (by rw [List.getElem?_replicate]; simp; omega) hj]
    match j, hj with
    | 0, _ => simp [Value.cells, encR]
    | 1, _ => simp [Value.cells, encR, show (q * 3 + 1) % 3 = 1 from by omega]
    | 2, _ => simp [Value.cells, encR, show (q * 3 + 2) % 3 = 2 from by omega]
  · rw [List.getElem?_eq_none (by omega), List.getElem?_eq_none (by omega)]

set_option maxRecDepth 100000 in
set_option maxHeartbeats 1000000 in
theorem rnew_yes (w : World) (n last : Nat) (hn : 1 ≤ n) (hn2 : n ≤ 65536) (hl : 1 ≤ last) (hl2 : last ≤ 2147483647) :
    Calls Try.prog 49 #[.int .i64 n, .int .i64 last] w fun r w' => ∃ e, r = .returned (.tuple #[.agg #[.slice (some ⟨e, 0, none⟩) n n, .int .i64 last], .int .i64 0]) ∧
      RefAt w' e (List.replicate n ⟨0, false, 0⟩) ∧ Fr [] w w' ∧ w.heap.size ≤ e := by
  obtain ⟨i0, hi, hz0, hz1, hz2⟩ := info_parts refInfo
  have hk1 : decide ((n : Int) < 1) = false := by simp; omega
  have hk2 : decide ((65536 : Int) < n) = false := by simp; omega
  have hk3 : decide ((last : Int) < 1) = false := by simp; omega
  have hk4 : decide ((2147483647 : Int) < last) = false := by simp; omega
  go_enter Try.func49, Try.ntmps49
  go_wp2_with (at_make; refine wpList_make_S _ rfl _ _ 81 rfl 149 i0 (.agg #[.int .i64 0, .bool false, .int .i64 0]) 3 24 Try.underlying81 hi hz0 hz1 hz2 .i64 .i64 _ _ n rfl rfl rfl rfl (by omega) (by omega) ?_; intro w1 zs hbz hzl hf1 hs1 hzz; have HB := Lib.hid hbz; have HZ := Lib.hid hzl; have HZZ := Lib.hid hzz; have HF := Lib.hid hf1; have HS := Lib.hid hs1; have BW := (Blk.new w 83 [.slice none 0 0, .int .i64 0]).fr hf1 (by simp); have y0 := BW.cell 0; have y1 := BW.cell 1; have q0 := BW.frz 0; have q1 := BW.frz 1; simp only [List.getElem?_cons_zero, List.getElem?_cons_succ] at y0 y1; clear BW hbz hzl hf1 hs1 hzz)
  go_wp2
  have hF : Fr [] w w1 := ((Fr.refl [] w).alloc _).trans' HF.out
  have hE : (w.alloc (.cells #[.slice none 0 0, .int .i64 0] 83)).heap.size = w.heap.size + 1 := by simp
  refine bodyPost_ret (v := .tuple #[.agg #[.slice (some ⟨w.heap.size + 1, 0, none⟩) n n, .int .i64 last], .int .i64 0]) (by simp [results, Try.results49, go_sem, y0, y1]) rfl ⟨w.heap.size + 1, rfl, ⟨?_, by simpa using hn2⟩, (hF.setCell _ (.inr (by simp))).setCell _ (.inr (by simp)), by omega⟩
  have := HB.out
  rw [hE, ref_new_cells n HZ.out HZZ.out] at this
  exact (this.other _ (by simp)).other _ (by simp)
set_option maxRecDepth 100000 in
set_option maxHeartbeats 1000000 in
theorem rnew_no (w : World) (n last : Int) (h : n < 1 ∨ 65536 < n ∨ last < 1 ∨ 2147483647 < last) :
    Calls Try.prog 49 #[.int .i64 n, .int .i64 last] w fun r w' => r = .returned (.tuple #[.agg #[.slice none 0 0, .int .i64 0], .int .i64 1]) ∧ Fr [] w w' := by
  by_cases h1 : n < 1
  · clear h
    have hk1 : decide ((n : Int) < 1) = true := by simpa using h1
    go_enter Try.func49, Try.ntmps49
    go_wp2
    refine bodyPost_ret (v := .tuple #[.agg #[.slice none 0 0, .int .i64 0], .int .i64 1]) (by simp [results, Try.results49, go_sem]) rfl ⟨rfl, (Fr.refl [] w).alloc _⟩
  have hk1 : decide ((n : Int) < 1) = false := by simp; omega
  by_cases h2 : 65536 < n
  · clear h h1
    have hk2 : decide ((65536 : Int) < n) = true := by simpa using h2
    go_enter Try.func49, Try.ntmps49
    go_wp2
    refine bodyPost_ret (v := .tuple #[.agg #[.slice none 0 0, .int .i64 0], .int .i64 1]) (by simp [results, Try.results49, go_sem]) rfl ⟨rfl, (Fr.refl [] w).alloc _⟩
  have hk2 : decide ((65536 : Int) < n) = false := by simp; omega
  by_cases h3 : last < 1
  · clear h h1 h2
    have hk3 : decide ((last : Int) < 1) = true := by simpa using h3
    go_enter Try.func49, Try.ntmps49
    go_wp2
    refine bodyPost_ret (v := .tuple #[.agg #[.slice none 0 0, .int .i64 0], .int .i64 1]) (by simp [results, Try.results49, go_sem]) rfl ⟨rfl, (Fr.refl [] w).alloc _⟩
  have hk3 : decide ((last : Int) < 1) = false := by simp; omega
  have h4 : 2147483647 < last := by omega
  have hk4 : decide ((2147483647 : Int) < last) = true := by simpa using h4
  clear h h1 h2 h3
  go_enter Try.func49, Try.ntmps49
  go_wp2
  refine bodyPost_ret (v := .tuple #[.agg #[.slice none 0 0, .int .i64 0], .int .i64 1]) (by simp [results, Try.results49, go_sem]) rfl ⟨rfl, (Fr.refl [] w).alloc _⟩
end Go.Proofs.Ytoodgjmgkjhpoaa
