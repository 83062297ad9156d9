/- DRRMany: the walk. -/
import Derived.Test.YteojodcdehkejaaDrrTold
import Derived.Test.YteojodcdehkejaaArith
namespace Go.Proofs.Yteojodcdehkejaa
open Go Go.RowKit
attribute [local go_sem] calmQ_normal wide_fn wide_depth Oper.semAt_some run_store_func

theorem up_int (x : Int) (M : Nat) (hM : M < 9223372036854775807) : ∃ r : Int, wrap64 (bits .and .i64 x (M : Int) + 1) = r ∧ 1 ≤ r ∧ r ≤ M + 1 := by
  obtain ⟨r, h, h1, h2⟩ := and_up x M hM
  exact ⟨r, h, by omega, by omega⟩
theorem many_a {x y z : Int} {c : Nat} (hx : 1 ≤ x) (hy : 1 ≤ y) (hz : 1 ≤ z) (h1 : x ≤ (c + 1) * 1) (h2 : c = 0 ∨ ((c : Int) * 1 < x ∧ (c : Int) * z < y)) : x ≤ (y + z - 1) / z ∧ (c : Int) * z = (x - 1) * z := by
  have hc : (c : Int) = x - 1 := by rcases h2 with rfl | h2 <;> omega
  refine ⟨?_, by rw [hc]⟩
  rw [Int.le_ediv_iff_mul_le (by omega)]
  have e : x * z = (c : Int) * z + z := by rw [show x = (c : Int) + 1 by omega, Int.add_mul, Int.one_mul]
  rw [e]
  rcases h2 with rfl | h2
  · simp; omega
  · omega
theorem many_b {x y z : Int} {c : Nat} (hy : 1 ≤ y) (hz : 1 ≤ z) (h1 : y ≤ (c + 1) * z) (h2 : ((c : Int) + 1) * 1 < x) (h3 : c = 0 ∨ (c : Int) * z < y) : ¬ x ≤ (y + z - 1) / z ∧ (y + z - 1) / z = c + 1 := by
  have e1 : ((c : Int) + 1) * z = (c : Int) * z + z := by rw [Int.add_mul, Int.one_mul]
  have hq : (y + z - 1) / z = c + 1 := by
    refine Int.le_antisymm ?_ ?_
    · refine Int.le_of_lt_add_one ?_
      rw [Int.ediv_lt_iff_lt_mul (by omega), Int.add_mul, Int.one_mul, e1]
      omega
    · rw [Int.le_ediv_iff_mul_le (by omega), e1]
      rcases h3 with rfl | h3
      · simp; omega
      · omega
  refine ⟨?_, hq⟩
  rw [hq]; omega
theorem many_w {x z : Int} (hx : 1 ≤ x) (hx2 : x ≤ 65536) (hz : 1 ≤ z) (hz2 : z ≤ 256) : wrap64 ((x - 1) * z) = (x - 1) * z := by
  have h0 : 0 ≤ (x - 1) * z := Int.mul_nonneg (by omega) (by omega)
  have h1 : (x - 1) * z ≤ 65536 * 256 := Int.mul_le_mul (by omega) hz2 (by omega) (by omega)
  unfold wrap64
  omega
set_option maxRecDepth 100000 in
set_option maxHeartbeats 4000000 in
theorem many_walk (w : World) (n m a : Int) :
    Calls Try.prog 3 #[.int .i64 n, .int .i64 m, .int .i64 a] w fun e w' => e = .returned (.bool true) ∧ Fr [] w w' := by
  have hnew := Lib.hid (c_new w)
  have htold := Lib.hid told15
  obtain ⟨x, hx, hx1, hx2⟩ : ∃ r : Int, wrap64 (bits .and .i64 n 65535 + 1) = r ∧ 1 ≤ r ∧ r ≤ 65536 := up_int n 65535 (by omega)
  obtain ⟨y, hy, hy1, hy2⟩ : ∃ r : Int, wrap64 (bits .and .i64 m 65535 + 1) = r ∧ 1 ≤ r ∧ r ≤ 65536 := up_int m 65535 (by omega)
  obtain ⟨z, hz, hz1, hz2⟩ : ∃ r : Int, wrap64 (bits .and .i64 a 255 + 1) = r ∧ 1 ≤ r ∧ r ≤ 256 := up_int a 255 (by omega)
  go_enter Try.func3, Try.ntmps3
  go_wp2_with fail
  try rw [hx, hy, hz]
  clear hx hy hz
  refine hnew.out.mono ?_
  rintro e w0 ⟨d0, bb, rfl, hb0, k0', c0, fl0⟩
  have K0' := Lib.hid k0'
  clear k0'
  go_wp2_with fail
  refine (htold.out w0).mono ?_
  rintro e w1 ⟨rfl, ft⟩
  have k0 := K0'.out.same ft
  clear ft K0' htold
  have K0 := Lib.hid (Dr.inbox2 (Dr.inbox2 (pre := []) k0 26 [.int .i64 0, .int .i64 1]) 26 [.int .i64 1, .int .i64 1])
  simp only [World.size_alloc] at K0
  obtain ⟨H, hH⟩ : ∃ H, w1.heap.size = H := ⟨_, rfl⟩
  rw [hH] at K0
  have C0 := Lib.hid c0
  have FL0 := Lib.hid fl0
  clear k0 c0 fl0 hnew
  go_wp2_with fail
  refine (c_join0 hb0 K0.out.hs.right C0.out FL0.out 1 0 _ _ _ _ _ _ 0).mono ?_
  rintro e w2 ⟨rfl, d1, f0, k1, hb1, c1, fl1, F0⟩
  have K1 := Lib.hid (Dr.call K0.out k1)
  have C1 := Lib.hid c1
  have FL1 := Lib.hid fl1
  have FF0 := Lib.hid F0
  clear k1 c1 fl1 F0 K0 C0 FL0 hb0
  clear hH
  have x0 : w2.cell? ⟨H, 0, none⟩ = some (.int .i64 0) := (K1.out.blk 1 rfl).cell 0
  have x1 : w2.cell? ⟨H, 1, none⟩ = some (.int .i64 1) := (K1.out.blk 1 rfl).cell 1
  have x2 : w2.cell? ⟨H + 1, 0, none⟩ = some (.int .i64 1) := (K1.out.blk 0 rfl).cell 0
  have x3 : w2.cell? ⟨H + 1, 1, none⟩ = some (.int .i64 1) := (K1.out.blk 0 rfl).cell 1
  go_wp2_with fail
  refine (c_join1 hb1 K1.out.hs.right C1.out FL1.out FF0.out z 0 _ _ _ _ _ _ 0).mono ?_
  rintro e w3 ⟨rfl, d2, f1, k2, hb2, c2, fl2, F1⟩
  have K2 := Lib.hid (Dr.call K1.out k2)
  have C2 := Lib.hid c2
  have FL2 := Lib.hid fl2
  have FF1 := Lib.hid F1
  clear k2 c2 fl2 F1 K1 C1 FL1 hb1 x0 x1 x2 x3
  have x0 : w3.cell? ⟨H, 0, none⟩ = some (.int .i64 0) := (K2.out.blk 1 rfl).cell 0
  have x1 : w3.cell? ⟨H, 1, none⟩ = some (.int .i64 1) := (K2.out.blk 1 rfl).cell 1
  go_wp2_with fail
  refine (c_admit0 hb2 K2.out.hs.right C2.out FL2.out FF0.out FF1.out x hx1 hx2).mono ?_
  rintro e w4 ⟨rfl, d3, f0', k3, hb3, h3⟩
  have K3 := Lib.hid (Dr.call K2.out k3)
  have H3 := Lib.hid h3
  clear k3 h3 K2 C2 FL2 hb2 FF0 FF1 x0 x1
  have x2 : w4.cell? ⟨H + 1, 0, none⟩ = some (.int .i64 1) := (K3.out.blk 0 rfl).cell 0
  have x3 : w4.cell? ⟨H + 1, 1, none⟩ = some (.int .i64 1) := (K3.out.blk 0 rfl).cell 1
  go_wp2_with fail
  refine (c_admit1 hb3 K3.out.hs.right H3.out ⟨hx1, hx2⟩ y hy1 hy2).mono ?_
  rintro e w5 ⟨rfl, d4, f1', k4, hb4, T, hq0, hq1⟩
  have K4 := Lib.hid (Dr.call K3.out k4)
  have HT := Lib.hid T
  have hcl0 : clampQ 1 = 1 := rfl
  have hcl1 : clampQ z = z := by unfold clampQ; rw [if_neg (by omega), if_neg (by omega)]
  rw [hcl0] at hq0
  rw [hcl1] at hq1
  have HQ := Lib.hid (And.intro hq0 hq1)
  clear k4 T K3 H3 hb3 x2 x3 hq0 hq1 hcl0 hcl1
  go_wp2_with fail
  refine (c_next hb4 K4.out.hs.right HT.out 0).mono ?_
  rintro e w6 ⟨d5, g0, g1, p, c, rfl, k5, hb5, ho, hcase⟩
  rw [HQ.out.1, HQ.out.2] at hcase
  have K5 := Lib.hid (Dr.call K4.out k5)
  have HO := Lib.hid ho
  have K6 := Lib.hid (Dr.inbox2 K5.out 34 (encP6 p))
  have HC := Lib.hid hcase
  have x0 : w6.cell? ⟨H, 0, none⟩ = some (.int .i64 0) := (K5.out.blk 1 rfl).cell 0
  have x1 : w6.cell? ⟨H, 1, none⟩ = some (.int .i64 1) := (K5.out.blk 1 rfl).cell 1
  have xl : H < w6.heap.size := (K5.out.blk 1 rfl).lt
  obtain ⟨B, hB⟩ : ∃ B, w6.heap.size = B := ⟨_, rfl⟩
  rw [hB] at K6 xl
  have hw := Lib.hid (many_w hx1 hx2 hz1 hz2)
  have hd0 : f0'.df = 0 := HT.out.d0
  clear k5 ho hcase K5 K4 HT HQ hb4
  rcases HC.out with ⟨rfl, hg0, hg1, h1, h2⟩ | ⟨rfl, hg0, hg1, h1, h2, h3, _, _, _⟩
  · obtain ⟨hle, hcz⟩ := many_a hx1 hy1 hz1 h1 h2
    rw [hcz] at hg1
    clear h1 h2 hcz HC hd0
    go_wp2_with fail
    refine (c_def0 hb5 K6.out.hs.right HO.out).mono ?_
    rintro e w7 ⟨rfl, f7⟩
    have K7 := Lib.hid (K6.out.same f7)
    rw [hg0]
    clear f7 x0 x1 xl hB K6
    have x2 : w7.cell? ⟨H + 1, 0, none⟩ = some (.int .i64 1) := (K7.out.blk 1 rfl).cell 0
    have x3 : w7.cell? ⟨H + 1, 1, none⟩ = some (.int .i64 1) := (K7.out.blk 1 rfl).cell 1
    go_wp2_with fail
    refine (c_def1 hb5 K7.out.hs.right HO.out).mono ?_
    rintro e w8 ⟨rfl, f8⟩
    have fin := Lib.hid (K7.out.same f8).fr
    rw [hg1]
    have hw' := hw.out
    clear f8 x2 x3 K7
    go_wp2
    go_ret
    exact ⟨by simp, fin.out⟩
  · obtain ⟨hle, hcz⟩ := many_b hy1 hz1 h1 h2 h3
    have hg0' : g0.df = (y + z - 1) / z := by
      rw [hg0, hcz]
      show f0'.df + ((c : Int) + 1) * 1 = c + 1
      rw [hd0]; omega
    clear h1 h2 h3 hcz HC hd0 hg0
    go_wp2_with fail
    refine (c_def0 hb5 K6.out.hs.right HO.out).mono ?_
    rintro e w7 ⟨rfl, f7⟩
    have K7 := Lib.hid (K6.out.same f7)
    rw [hg0']
    clear f7 x0 x1 xl hB K6
    have x2 : w7.cell? ⟨H + 1, 0, none⟩ = some (.int .i64 1) := (K7.out.blk 1 rfl).cell 0
    have x3 : w7.cell? ⟨H + 1, 1, none⟩ = some (.int .i64 1) := (K7.out.blk 1 rfl).cell 1
    go_wp2_with fail
    refine (c_def1 hb5 K7.out.hs.right HO.out).mono ?_
    rintro e w8 ⟨rfl, f8⟩
    have fin := Lib.hid (K7.out.same f8).fr
    rw [hg1]
    clear f8 x2 x3 K7
    go_wp2
    go_ret
    exact ⟨by simp, fin.out⟩
end Go.Proofs.Yteojodcdehkejaa
