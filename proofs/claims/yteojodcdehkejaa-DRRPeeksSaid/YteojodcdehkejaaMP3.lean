/- Which of two rows has more for its quantum: worse; math/bits.Mul64 laid. -/
import Derived.Test.YteojodcdehkejaaMA7
import Derived.Shelf.Bits.Mul64
set_option linter.unusedVariables false
namespace Go.Proofs.Yteojodcdehkejaa
open Go Go.RowKit
attribute [local go_sem] calmQ_normal wide_fn wide_depth Oper.semAt_some run_store_func
def lmul_ren : Go.Shelf.Ren := ⟨fun | 264 => 102 | n => n, fun | 46 => 165 | 53 => 66 | n => n, fun n => n⟩
theorem lmul : Lays.n264 Try.prog lmul_ren := {
  mixed := by kernel_rfl
  f264 := Try.func102.trans (congrArg some (by kernel_rfl))
  t46 := Try.underlying165
  a46 := Try.isAgg165
  z46 := Try.sizeOf165
  v46 := Try.zeroValue165
  t53 := Try.underlying66
  a53 := Try.isAgg66
  z53 := Try.sizeOf66
  v53 := Try.zeroValue66 }
theorem cmul (x y : Nat) (hx : x < 18446744073709551616) (hy : y < 18446744073709551616) (w : World) :
    Calls Try.prog 102 #[.int .u64 x, .int .u64 y] w fun e w' => e = .returned (.tuple #[.int .u64 ((x * y / 18446744073709551616 : Nat) : Int), .int .u64 ((x * y % 18446744073709551616 : Nat) : Int)]) ∧ w' = w :=
  Any.bits_Mul64 (ρ := lmul_ren) lmul x y hx hy w
theorem cmul2 {x y h l : Nat} (hx : x < 18446744073709551616) (hy : y < 18446744073709551616) (hh : x * y / 18446744073709551616 = h) (hl : x * y % 18446744073709551616 = l) (w : World) :
    Calls Try.prog 102 #[.int .u64 x, .int .u64 y] w fun e w' => e = .returned (.tuple #[.int .u64 (h : Int), .int .u64 (l : Int)]) ∧ w' = w := by
  have := cmul x y hx hy w
  rw [hh, hl] at this
  exact this
/-- has a more, for its quantum, than b? -/
def wrs (A qa sa B qb sb : Int) : Bool := decide (B * qa < A * qb) || (decide (A * qb = B * qa) && decide (sb < sa))
abbrev aggr (b : Nat) (by_ left : Int) : Value := .agg #[.pointer (some ⟨b, 0, none⟩), .int .i64 by_, .int .i64 left]
theorem u64w {x : Nat} (h : x < 18446744073709551616) : IntKind.u64.wrap (x : Int) = x := by rw [IntKind.wrap_u64]; omega
set_option maxRecDepth 100000 in
set_option maxHeartbeats 4000000 in
theorem worse_ok {w : World} {a b A B qa qb : Nat} {sa sb la lb : Int} (a0 : w.cell? ⟨a, 0, none⟩ = some (.int .i64 sa)) (a3 : w.cell? ⟨a, 3, none⟩ = some (.int .i64 qa)) (hla : a < w.heap.size)
    (b0 : w.cell? ⟨b, 0, none⟩ = some (.int .i64 sb)) (b3 : w.cell? ⟨b, 3, none⟩ = some (.int .i64 qb)) (hlb : b < w.heap.size) (hA : A < 9223372036854775808) (hB : B < 9223372036854775808) (hqa : qa < 9223372036854775808) (hqb : qb < 9223372036854775808) :
    Calls Try.prog 86 #[aggr a A la, aggr b B lb] w fun e w' => e = .returned (.bool (wrs A qa sa B qb sb)) ∧ Fr [] w w' := by
  have u1 := u64w (show A < 18446744073709551616 by omega)
  have u2 := u64w (show B < 18446744073709551616 by omega)
  have u3 := u64w (show qa < 18446744073709551616 by omega)
  have u4 := u64w (show qb < 18446744073709551616 by omega)
  obtain ⟨H1, hH1⟩ : ∃ H1, A * qb / 18446744073709551616 = H1 := ⟨_, rfl⟩
  obtain ⟨L1, hL1⟩ : ∃ L1, A * qb % 18446744073709551616 = L1 := ⟨_, rfl⟩
  obtain ⟨H2, hH2⟩ : ∃ H2, B * qa / 18446744073709551616 = H2 := ⟨_, rfl⟩
  obtain ⟨L2, hL2⟩ : ∃ L2, B * qa % 18446744073709551616 = L2 := ⟨_, rfl⟩
  have c1 := Lib.hid (fun w => cmul2 (show A < 18446744073709551616 by omega) (show qb < 18446744073709551616 by omega) hH1 hL1 w)
  have c2 := Lib.hid (fun w => cmul2 (show B < 18446744073709551616 by omega) (show qa < 18446744073709551616 by omega) hH2 hL2 w)
  have hc1 : ((B : Int) * qa < A * qb) ↔ (H2 < H1 ∨ (H2 = H1 ∧ L2 < L1)) := by
    rw [← Int.natCast_mul, ← Int.natCast_mul]; omega
  have hc2 : ((A : Int) * qb = B * qa) ↔ (H1 = H2 ∧ L1 = L2) := by
    rw [← Int.natCast_mul, ← Int.natCast_mul]; omega
  have HC1 := Lib.hid hc1
  have HC2 := Lib.hid hc2
  clear hH1 hL1 hH2 hL2 hc1 hc2
  go_enter Try.func86, Try.ntmps86
  go_wp2_with fail
  refine wp_head_tail 10 (by kernel_rfl) (by kernel_rfl) ?_
  simp only [List.take_succ_cons, List.take_zero, List.drop_succ_cons, List.drop_zero]
  repeat (first | go_big_quiet_step ((go_at_call 102; exact Calls.quiet_of_same (c1.out _))) | quiet_step ((go_at_call 102; exact Calls.quiet_of_same (c1.out _))))
  refine wpQuiet_nil ?_
  rintro _ ⟨nq, rfl⟩
  go_wp2
  rw [onlyN_normal]
  obtain ⟨W1, hW1⟩ : ∃ W1, ((w.alloc (.cells #[.pointer (some ⟨a, 0, none⟩), .int .i64 A, .int .i64 la] 143)).alloc (.cells #[.pointer (some ⟨b, 0, none⟩), .int .i64 B, .int .i64 lb] 143)).drewN nq = W1 := ⟨_, rfl⟩
  have K0 := (((Sep.start (Holds.nil w)).alloc 143 [.pointer (some ⟨a, 0, none⟩), .int .i64 A, .int .i64 la]).alloc 143 [.pointer (some ⟨b, 0, none⟩), .int .i64 B, .int .i64 lb]).drewN nq
  rw [World.size_alloc] at K0
  have K1 : Sep w [] W1 [Chunk.blk w.heap.size 143 [.pointer (some ⟨a, 0, none⟩), .int .i64 A, .int .i64 la], Chunk.blk (w.heap.size + 1) 143 [.pointer (some ⟨b, 0, none⟩), .int .i64 B, .int .i64 lb]] := by rw [← hW1]; exact K0
  have F1 := Lib.hid K1.fr
  have x0 : W1.cell? ⟨w.heap.size, 0, none⟩ = some (.pointer (some ⟨a, 0, none⟩)) := (K1.blk 0 rfl).cell 0
  have x1 : W1.cell? ⟨w.heap.size + 1, 1, none⟩ = some (.int .i64 B) := (K1.blk 1 rfl).cell 1
  have x2 : W1.cell? ⟨w.heap.size + 1, 0, none⟩ = some (.pointer (some ⟨b, 0, none⟩)) := (K1.blk 1 rfl).cell 0
  have a0' : W1.cell? ⟨a, 0, none⟩ = some (.int .i64 sa) := (F1.out.cell hla (by simp)).trans a0
  have a3' : W1.cell? ⟨a, 3, none⟩ = some (.int .i64 qa) := (F1.out.cell hla (by simp)).trans a3
  have b0' : W1.cell? ⟨b, 0, none⟩ = some (.int .i64 sb) := (F1.out.cell hlb (by simp)).trans b0
  have lx : w.heap.size + 1 < W1.heap.size := (K1.blk 1 rfl).lt
  have la1 : a < W1.heap.size := by omega
  have lb1 : b < W1.heap.size := by omega
  rw [hW1]
  obtain ⟨PA, hPA⟩ : ∃ PA, w.heap.size = PA := ⟨_, rfl⟩
  obtain ⟨PB, hPB⟩ : ∃ PB, PA + 1 = PB := ⟨_, rfl⟩
  rw [hPA] at x0 x1 x2 lx ⊢
  rw [hPB] at x1 x2 lx ⊢
  have lx0 : PA < W1.heap.size := by omega
  clear hW1 hPA hPB K0 K1 a0 a3 b0 b3 hla hlb
  go_wp2_with fail
  refine wp_head_tail 10 (by kernel_rfl) (by kernel_rfl) ?_
  simp only [List.take_succ_cons, List.take_zero, List.drop_succ_cons, List.drop_zero]
  repeat (first | go_big_quiet_step ((go_at_call 102; exact Calls.quiet_of_same (c2.out _))) | quiet_step ((go_at_call 102; exact Calls.quiet_of_same (c2.out _))))
  refine wpQuiet_nil ?_
  rintro _ ⟨nq, rfl⟩
  go_wp2
  rw [onlyN_normal]
  clear c1 c2 u1 u2 u3 u4
  by_cases e1 : H1 = H2
  · subst e1
    by_cases e2 : L1 = L2
    · subst e2
      have f1 : wrs A qa sa B qb sb = decide (sb < sa) := by
        have h1 : ¬ ((B : Int) * qa < A * qb) := by rw [HC1.out]; omega
        have h2 : (A : Int) * qb = B * qa := by rw [HC2.out]; exact ⟨rfl, rfl⟩
        unfold wrs
        simp [h1, h2]
      have HF := Lib.hid f1
      clear f1
      go_wp2_with fail
      go_quiet (fail)
      go_wp2
      go_ret
      exact ⟨by rw [HF.out]; rfl, (F1.out.drewN _).drewN _⟩
    · have f1 : wrs A qa sa B qb sb = decide (L2 < L1) := by
        have h2 : ¬ ((A : Int) * qb = B * qa) := by rw [HC2.out]; omega
        unfold wrs
        have h1 := HC1.out
        simp only [h2, decide_false, Bool.false_and, Bool.or_false]
        rw [decide_eq_decide, h1]; omega
      have HF := Lib.hid f1
      clear f1
      have g1 : ¬ (L1 : Int) = (L2 : Int) := by omega
      by_cases g2 : (L2 : Int) < L1
      · have HF2 : Hid (decide (L2 < L1) = true) := Lib.hid (decide_eq_true (by omega))
        go_wp2_with fail
        go_ret
        exact ⟨by rw [HF.out, HF2.out]; rfl, F1.out.drewN _⟩
      · have HF2 : Hid (decide (L2 < L1) = false) := Lib.hid (decide_eq_false (by omega))
        go_wp2_with fail
        go_ret
        exact ⟨by rw [HF.out, HF2.out]; rfl, F1.out.drewN _⟩
  · have f1 : wrs A qa sa B qb sb = decide (H2 < H1) := by
      have h2 : ¬ ((A : Int) * qb = B * qa) := by rw [HC2.out]; omega
      unfold wrs
      have h1 := HC1.out
      simp only [h2, decide_false, Bool.false_and, Bool.or_false]
      rw [decide_eq_decide, h1]; omega
    have HF := Lib.hid f1
    clear f1
    have g1 : ¬ (H1 : Int) = (H2 : Int) := by omega
    by_cases g2 : (H2 : Int) < H1
    · have HF2 : Hid (decide (H2 < H1) = true) := Lib.hid (decide_eq_true (by omega))
      go_wp2_with fail
      go_ret
      exact ⟨by rw [HF.out, HF2.out]; rfl, F1.out.drewN _⟩
    · have HF2 : Hid (decide (H2 < H1) = false) := Lib.hid (decide_eq_false (by omega))
      go_wp2_with fail
      go_ret
      exact ⟨by rw [HF.out, HF2.out]; rfl, F1.out.drewN _⟩
end Go.Proofs.Yteojodcdehkejaa
