/- DRRFair: what the walk keeps of the pairs. -/
import Derived.Test.YteojodcdehkejaaMA11
import Derived.Deep.DeepCutAuto
import Derived.Deep.CutBlock
set_option linter.unusedVariables false
namespace Go.Proofs.Yteojodcdehkejaa
open Go Go.RowKit
attribute [local go_sem] calmQ_normal wide_fn wide_depth Oper.semAt_some run_store_func

def ints (ls : Nat → Int) : List Value := (List.range 16).map fun k => .int .i64 (ls k)
def bools (on : Nat → Bool) : List Value := (List.range 16).map fun k => .bool (on k)
theorem ints_at (ls : Nat → Int) {k : Nat} (hk : k < 16) : (ints ls)[k]? = some (.int .i64 (ls k)) := by simp [ints, hk]
theorem bools_at (on : Nat → Bool) {k : Nat} (hk : k < 16) : (bools on)[k]? = some (.bool (on k)) := by simp [bools, hk]
theorem ints_set (ls : Nat → Int) {k : Nat} (hk : k < 16) (v : Int) : (ints ls).set k (.int .i64 v) = ints (upd ls k v) := by
  have := map_set_upd (l := List.range 16) (i := k) (s := k) List.nodup_range (by simp [hk]) (g := fun k => Value.int .i64 (ls k)) (g' := fun i => Value.int .i64 (upd ls k v i)) (fun t ht => by simp only [upd_ne _ _ ht])
  simp only [upd_self] at this
  exact this
theorem bools_set (on : Nat → Bool) {k : Nat} (hk : k < 16) (v : Bool) : (bools on).set k (.bool v) = bools (upd on k v) := by
  have := map_set_upd (l := List.range 16) (i := k) (s := k) List.nodup_range (by simp [hk]) (g := fun k => Value.bool (on k)) (g' := fun i => Value.bool (upd on k v i)) (fun t ht => by simp only [upd_ne _ _ ht])
  simp only [upd_self] at this
  exact this
/-- no move ahead of j has a packet above M -/
def UpTo (w : World) (ao : Option Addr) (j : Nat) (M : Int) : Prop := ∀ t, t < j → ∀ b off z, ao = some ⟨b, off, none⟩ → w.cell? ⟨b, off + (t * 3 + 2), none⟩ = some (.int .i64 z) → wrap64 (bits .and .i64 z 1023 + 1) ≤ M
theorem UpTo.zero (w : World) (ao : Option Addr) (M : Int) : UpTo w ao 0 M := fun t ht => absurd ht (by omega)
theorem UpTo.succ {w : World} {b off j : Nat} {M z zz : Int} (h : UpTo w (some ⟨b, off, none⟩) j M) (hc : w.cell? ⟨b, off + (j * 3 + 2), none⟩ = some (.int .i64 zz)) (hz : wrap64 (bits .and .i64 zz 1023 + 1) = z) : UpTo w (some ⟨b, off, none⟩) (j + 1) (max M z) := by
  intro t ht b' off' z' ha hc'
  cases ha
  by_cases e : t = j
  · subst e
    rw [hc] at hc'
    simp at hc'
    subst hc'
    omega
  · have := h t (by omega) b off z' rfl hc'
    omega
/-- a pair behind the move that is being looked at, not yet looked at -/
def PM (x : Wd) (M : Int) (on : Nat → Bool) (ls : Nat → Int) (k : Nat) : Prop := on k = true → k / 4 ≠ k % 4 ∧ (k / 4 ∈ x.ring → k % 4 ∈ x.ring → Str x M (ls k) (k / 4) (k % 4))
/-- .. and one that has been looked at -/
def PN (x : Wd) (M : Int) (on : Nat → Bool) (ls : Nat → Int) (k : Nat) : Prop := on k = true → k / 4 ≠ k % 4 ∧ k / 4 ∈ x.ring ∧ k % 4 ∈ x.ring ∧ Str x M (ls k) (k / 4) (k % 4)
theorem PN.mid {x : Wd} {M : Int} {on : Nat → Bool} {ls : Nat → Int} {k : Nat} (h : PN x M on ls k) : PM x M on ls k := fun ho => ⟨(h ho).1, fun _ _ => (h ho).2.2.2⟩
theorem PN.move {x x' : Wd} {N : Nat} (hw : Wf x N) {kd fl sz : Int} (hR : MvR kd fl sz x x') {M : Int} {on : Nat → Bool} {ls : Nat → Int} {k : Nat} (h : PN x M on ls k) : PM x' M on ls k := fun ho => by
  obtain ⟨h1, h2, h3, h4⟩ := h ho
  exact ⟨h1, fun ha hb => h4.move hw hR hR.Q h1 h2 h3 ha hb⟩
theorem PM.off {x : Wd} {M : Int} {on : Nat → Bool} {ls : Nat → Int} {k i : Nat} (h : PM x M on ls i) : PM x M (upd on k false) ls i := fun ho => by
  by_cases e : i = k
  · subst e; rw [upd_self] at ho; cases ho
  · rw [upd_ne _ _ e] at ho; exact h ho
theorem PN.off {x : Wd} {M : Int} {on : Nat → Bool} {ls : Nat → Int} {k i : Nat} (h : i ≠ k → PN x M on ls i) : PN x M (upd on k false) ls i := fun ho => by
  by_cases e : i = k
  · subst e; rw [upd_self] at ho; cases ho
  · rw [upd_ne _ _ e] at ho; exact h e ho
theorem PM.on {x : Wd} {M v : Int} {on : Nat → Bool} {ls : Nat → Int} {k i : Nat} (h : PM x M on ls i) (hk : PN x M (upd on k true) (upd ls k v) k) : PM x M (upd on k true) (upd ls k v) i := by
  by_cases e : i = k
  · subst e; exact hk.mid
  · intro ho
    rw [upd_ne _ _ e] at ho
    rw [upd_ne _ _ e]
    exact h ho
theorem PN.on {x : Wd} {M v : Int} {on : Nat → Bool} {ls : Nat → Int} {k i : Nat} (h : i ≠ k → PN x M on ls i) (hk : PN x M (upd on k true) (upd ls k v) k) : PN x M (upd on k true) (upd ls k v) i := by
  by_cases e : i = k
  · subst e; exact hk
  · intro ho
    rw [upd_ne _ _ e] at ho
    rw [upd_ne _ _ e]
    exact h e ho
theorem upd_true {on : Nat → Bool} {k : Nat} (h : on k = true) : upd on k true = on := by rw [← h, upd_id]
/-- the numbers of the check stay small -/
structure Small (x : Wd) (a b : Nat) : Prop where
  p1 : 0 ≤ x.sent a * x.Q b ∧ x.sent a * x.Q b ≤ 1000000000
  p2 : 0 ≤ x.sent b * x.Q a ∧ x.sent b * x.Q a ≤ 1000000000
  p3 : 0 ≤ x.Q a * x.Q b ∧ x.Q a * x.Q b ≤ 1000000
theorem mul_bd {s q S T : Int} (h0 : 0 ≤ s) (h1 : s ≤ S) (q0 : 0 ≤ q) (q1 : q ≤ T) : 0 ≤ s * q ∧ s * q ≤ S * T :=
  ⟨Int.mul_nonneg h0 q0, Int.le_trans (Int.mul_le_mul_of_nonneg_right h1 q0) (Int.mul_le_mul_of_nonneg_left q1 (by omega))⟩
theorem Wf.small {x : Wd} {N : Nat} (h : Wf x N) (hN : N ≤ 200) {a b : Nat} (ha : a < 4) (hb : b < 4) : Small x a b := by
  have sa := h.se a ha
  have sb := h.se b hb
  have qa := h.q a ha
  have qb := h.q b hb
  have h1 := mul_bd (S := 204800) (T := 1000) sa.1 (by omega) (by omega : 0 ≤ x.Q b) qb.2
  have h2 := mul_bd (S := 204800) (T := 1000) sb.1 (by omega) (by omega : 0 ≤ x.Q a) qa.2
  have h3 := mul_bd (S := 1000) (T := 1000) (by omega : 0 ≤ x.Q a) qa.2 (by omega : 0 ≤ x.Q b) qb.2
  exact ⟨⟨h1.1, by omega⟩, ⟨h2.1, by omega⟩, ⟨h3.1, by omega⟩⟩
end Go.Proofs.Yteojodcdehkejaa
/- DRRFair: the walk. -/
namespace Go.Proofs.Yteojodcdehkejaa
open Go Go.RowKit
attribute [local go_sem] calmQ_normal wide_fn wide_depth Oper.semAt_some run_store_func

theorem wrapz {x : Int} (h1 : -1125899906842624 ≤ x) (h2 : x ≤ 1125899906842624) : IntKind.i64.wrap x = x := by
  rw [IntKind.wrap_i64]; omega
set_option maxRecDepth 100000 in
set_option maxHeartbeats 8000000 in
theorem fair_walk (w : World) (q0 q1 q2 q3 : Int) (ao : Option Addr) (len cap : Nat) (hlm : len ≤ maxLen) (hst : MoveRow w ao len) :
    Calls Try.prog 4 #[.agg #[.int .i64 q0, .int .i64 q1, .int .i64 q2, .int .i64 q3], .slice ao len cap] w fun e w' => e = .returned (.bool true) ∧ Fr [] w w' := by
  have HST := Lib.hid hst
  unfold maxLen at hlm
  clear hst
  go_enter Try.func4, Try.ntmps4
  go_wp2_with fail
  refine (open_ok _ q0 q1 q2 q3).mono ?_
  rintro er w1 ⟨x, rfl, hwf, hl0, hmo, k1⟩
  have HWF := Lib.hid hwf
  have HMO0 := Lib.hid hmo
  have K1 := Lib.hid (Sep.from ((Fr.refl [] w).alloc (.cells #[.int .i64 q0, .int .i64 q1, .int .i64 q2, .int .i64 q3] 40)) k1)
  clear hwf hl0 hmo k1
  go_wp2_with fail
  refine (told15 _).mono ?_
  rintro er w2 ⟨rfl, f2⟩
  obtain ⟨WB, hWB⟩ : ∃ WB, x.b = WB := ⟨_, rfl⟩
  have HB := Lib.hid hWB
  rw [hWB]
  have K2 := Lib.hid (K1.out.same f2)
  clear hWB f2 K1
  go_upto_block 0 with (fail)
  go_cut [6] (fun s6 wx => ∃ M : Int, s6 = .int .i64 M ∧ 1 ≤ M ∧ M ≤ 1024 ∧ (∃ j : Nat, (len ≤ j ∨ 200 ≤ j) ∧ Hid (UpTo w ao j M)) ∧ ∃ wy, wx = wy ∧ Hid (Sep w [] wy x.chunks))
  case first =>
    go_wp2_with fail
    go_loopg [6, 7] (len + 1) (fun k m i wr => ∃ j : Nat, k + j = len + 1 ∧ j ≤ len ∧ j ≤ 200 ∧ i = .int .i64 j ∧ ∃ M : Int, m = .int .i64 M ∧ 1 ≤ M ∧ M ≤ 1024 ∧ Hid (UpTo w ao j M) ∧ wr = w2)
    case atStart => exact ⟨0, by omega, by omega, by omega, rfl, 1, rfl, by omega, by omega, Lib.hid (UpTo.zero _ _ _), rfl⟩
    case round =>
      obtain ⟨j, hk, hj, hj2, rfl, M, rfl, hM1, hM2, HU, rfl⟩ := hrel
      by_cases hjn : j < len
      · by_cases hj3 : j < 200
        · obtain ⟨mb, off, kd, fl, sz, rfl, m1, m2, m3⟩ := HST.out j hjn
          have lm := mv_lt m3
          have m5 : wr.cell? ⟨mb, off + j * 3 + 2, none⟩ = some (.int .i64 sz) := by rw [Nat.add_assoc]; exact (K2.out.fr.cell (p := ⟨mb, _, none⟩) lm (by simp)).trans m3
          obtain ⟨z, hz0, hz1, hz2⟩ := and_up sz 1023 (by omega)
          have hz : wrap64 (bits .and .i64 sz 1023 + 1) = (z : Int) := hz0
          clear hz0
          have HU2 := Lib.hid (UpTo.succ HU.out m3 hz)
          have hjl : (j : Int) < len := by omega
          have hj4 : (j : Int) < 200 := by omega
          have HZ := Lib.hid hz
          clear m1 m2 m3
          go_wp2_with fail
          go_roundg (gk - 1)
          case measure => omega
          case rel => exact ⟨j + 1, by omega, by omega, by omega, by go_num, max M z, rfl, by omega, by omega, HU2, rfl⟩
        · obtain rfl : j = 200 := by omega
          have hjl : (200 : Int) < len := by omega
          go_wp2
          go_meet
          exact ⟨M, rfl, hM1, hM2, ⟨200, .inr (by omega), HU⟩, _, rfl, K2⟩
      · obtain rfl : j = len := by omega
        go_wp2
        go_meet
        exact ⟨M, rfl, hM1, hM2, ⟨j, .inl (by omega), HU⟩, _, rfl, K2⟩
  case rest =>
    clear K2
    obtain ⟨M, rfl, hM1, hM2, ⟨j0, hj0, HU⟩, wy, hwx, K2⟩ := hcut
    rw [hwx]
    clear hwx
    have k3 := ((K2.out.alloc 46 (ints fun _ => 0)).alloc 47 (bools fun _ => false))
    rw [List.append_assoc, World.size_alloc] at k3
    have K30 := Lib.hid (k3.perm List.perm_append_comm)
    clear k3
    obtain ⟨LB, hLB⟩ : ∃ LB, wy.heap.size = LB := ⟨_, rfl⟩
    rw [hLB] at K30
    obtain ⟨W3, hW3⟩ : ∃ W3, (wy.alloc (.cells (ints fun _ => 0).toArray 46)).alloc (.cells (bools fun _ => false).toArray 47) = W3 := ⟨_, rfl⟩
    have K3 : Hid (Sep w [] W3 ([Chunk.blk LB 46 (ints fun _ => 0), Chunk.blk (LB + 1) 47 (bools fun _ => false)] ++ x.chunks)) := by rw [← hW3]; exact K30
    have hW3' : (wy.alloc (.cells #[.int .i64 0, .int .i64 0, .int .i64 0, .int .i64 0, .int .i64 0, .int .i64 0, .int .i64 0, .int .i64 0, .int .i64 0, .int .i64 0, .int .i64 0, .int .i64 0, .int .i64 0, .int .i64 0, .int .i64 0, .int .i64 0] 46)).alloc (.cells #[.bool false, .bool false, .bool false, .bool false, .bool false, .bool false, .bool false, .bool false, .bool false, .bool false, .bool false, .bool false, .bool false, .bool false, .bool false, .bool false] 47) = W3 := hW3
    clear hW3 K30 K2
    go_wp2_with fail
    clear hLB hW3'
    obtain ⟨OB, hOB⟩ : ∃ OB, LB + 1 = OB := ⟨_, rfl⟩
    rw [hOB] at K3 ⊢
    clear hOB
    go_loopg [10] (len + 1) (fun k i wr => ∃ j : Nat, k + j = len + 1 ∧ j ≤ len ∧ j ≤ 200 ∧ i = .int .i64 j ∧ ∃ (x : Wd) (ls : Nat → Int) (on : Nat → Bool), Hid (x.b = WB) ∧ Hid (Wf x j) ∧ Hid (x.most ≤ M) ∧ Hid (∀ k, k < 16 → PN x M on ls k) ∧ Hid (∀ k, -1000000000 ≤ ls k ∧ ls k ≤ 1000000000) ∧ Hid (Sep w [] wr ([Chunk.blk LB 46 (ints ls), Chunk.blk OB 47 (bools on)] ++ x.chunks)))
    case atStart => exact ⟨0, by omega, by omega, by omega, rfl, x, _, _, HB, HWF, Lib.hid (by rw [HMO0.out]; omega), Lib.hid (fun k _ ho => by cases ho), Lib.hid (fun k => by omega), K3⟩
    case round =>
      clear HB HWF HMO0 K3 x
      obtain ⟨j, hk, hj, hj2, rfl, x, ls, on, HB, HWF, HMO, HPN, HLS, K⟩ := hrel
      by_cases hjn : j < len
      · by_cases hj3 : j < 200
        · obtain ⟨mb, off, kd, fl, sz, rfl, m1, m2, m3⟩ := HST.out j hjn
          have hmost := HU.out j (by omega) mb off sz rfl m3
          have m4 : wr.cell? ⟨mb, off + j * 3, none⟩ = some (.int .i64 kd) := (K.out.fr.cell (p := ⟨mb, _, none⟩) (mv_lt m1) (by simp)).trans m1
          have m5 : wr.cell? ⟨mb, off + j * 3 + 1, none⟩ = some (.int .i64 fl) := by rw [Nat.add_assoc]; exact (K.out.fr.cell (p := ⟨mb, _, none⟩) (mv_lt m2) (by simp)).trans m2
          have m6 : wr.cell? ⟨mb, off + j * 3 + 2, none⟩ = some (.int .i64 sz) := by rw [Nat.add_assoc]; exact (K.out.fr.cell (p := ⟨mb, _, none⟩) (mv_lt m3) (by simp)).trans m3
          have hjl : (j : Int) < len := by omega
          have hj4 : (j : Int) < 200 := by omega
          have hmv := mv HWF.out (by omega) K.out.hs.right kd fl sz
          rw [HB.out] at hmv
          have HM := Lib.hid hmv
          have HMS := Lib.hid hmost
          clear hmv m1 m2 m3 hmost
          go_wp2_with fail
          refine HM.out.mono ?_
          rintro er w3 ⟨rfl, x', hR, hwf, hb, k3⟩
          have HWF' := Lib.hid hwf
          have HB' : Hid (x'.b = WB) := Lib.hid (hb.trans HB.out)
          have HMO' : Hid (x'.most ≤ M) := Lib.hid (by have h1 := hR.most; have h2 := HMO.out; have h3 := HMS.out; omega)
          have HPM : Hid (∀ k, k < 16 → PM x' M on ls k) := Lib.hid (fun k hk => (HPN.out k hk).move HWF.out hR)
          have K4 : Hid (Sep w [] w3 ([Chunk.blk LB 46 (ints ls), Chunk.blk OB 47 (bools on)] ++ x'.chunks)) := Lib.hid ((Sep.frame (K.out.perm List.perm_append_comm) k3).perm List.perm_append_comm)
          clear hR hwf hb k3 K HWF HB HM HMO HPN HMS m4 m5 m6 x
          go_wp2_with fail
          go_loopg [11] 5 (fun k i wr => ∃ a : Nat, k + a = 5 ∧ a ≤ 4 ∧ i = .int .i64 a ∧ ∃ (ls : Nat → Int) (on : Nat → Bool), Hid (∀ k, k < 16 → PM x' M on ls k) ∧ Hid (∀ k, k < 4 * a → PN x' M on ls k) ∧ Hid (∀ k, -1000000000 ≤ ls k ∧ ls k ≤ 1000000000) ∧ Hid (Sep w [] wr ([Chunk.blk LB 46 (ints ls), Chunk.blk OB 47 (bools on)] ++ x'.chunks)))
          case atStart => exact ⟨0, by omega, by omega, rfl, ls, on, HPM, Lib.hid (fun k hk => by omega), HLS, K4⟩
          case round =>
            clear HPM HLS K4 ls on
            obtain ⟨a, hka, ha, rfl, ls, on, HPM, HPN, HLS, K5⟩ := hrel
            by_cases ha4 : a < 4
            · have hai : (a : Int) < 4 := by omega
              go_wp2_with fail
              go_loopg [12] 5 (fun k i wr => ∃ b : Nat, k + b = 5 ∧ b ≤ 4 ∧ i = .int .i64 b ∧ ∃ (ls : Nat → Int) (on : Nat → Bool), Hid (∀ k, k < 16 → PM x' M on ls k) ∧ Hid (∀ k, k < 4 * a + b → PN x' M on ls k) ∧ Hid (∀ k, -1000000000 ≤ ls k ∧ ls k ≤ 1000000000) ∧ Hid (Sep w [] wr ([Chunk.blk LB 46 (ints ls), Chunk.blk OB 47 (bools on)] ++ x'.chunks)))
              case atStart => exact ⟨0, by omega, by omega, rfl, ls, on, HPM, HPN, HLS, K5⟩
              case round =>
                clear HPM HPN HLS K5 ls on
                obtain ⟨b, hkb, hb, rfl, ls, on, HPM, HPN, HLS, K6⟩ := hrel
                by_cases hb4 : b < 4
                · have hbi : (b : Int) < 4 := by omega
                  obtain ⟨k, hk16, hkk, hkd, hkm⟩ : ∃ k : Nat, k < 16 ∧ 4 * (a : Int) + b = k ∧ k / 4 = a ∧ k % 4 = b := ⟨4 * a + b, by omega, by omega, by omega, by omega⟩
                  have HKK : Hid (k = 4 * a + b ∧ k / 4 = a ∧ k % 4 = b) := Lib.hid ⟨by omega, hkd, hkm⟩
                  have hki : (k : Int) < 16 := by omega
                  have b0 := Wd.wds (pre := [_, _]) K6.out
                  rw [HB'.out] at b0
                  have s1 : wr.cell? ⟨WB, 13 + a, none⟩ = some (.int .i64 (x'.sent a)) := by rw [b0.cell]; exact x'.cS ha4
                  have s2 : wr.cell? ⟨WB, 13 + b, none⟩ = some (.int .i64 (x'.sent b)) := by rw [b0.cell]; exact x'.cS hb4
                  have q1 : wr.cell? ⟨WB, 1 + a, none⟩ = some (.int .i64 (x'.Q a)) := by rw [b0.cell]; exact x'.cQ ha4
                  have q2 : wr.cell? ⟨WB, 1 + b, none⟩ = some (.int .i64 (x'.Q b)) := by rw [b0.cell]; exact x'.cQ hb4
                  obtain ⟨va, ca, hva, _⟩ := (Wd.rowf (pre := [_, _]) K6.out ha4).val
                  obtain ⟨vb, cb, hvb, _⟩ := (Wd.rowf (pre := [_, _]) K6.out hb4).val
                  have l1 : wr.cell? ⟨WB, 5 + a, none⟩ = some (.slice va (x'.L a).length ca) := by rw [b0.cell, x'.cV ha4, hva]
                  have l2 : wr.cell? ⟨WB, 5 + b, none⟩ = some (.slice vb (x'.L b).length cb) := by rw [b0.cell, x'.cV hb4, hvb]
                  have lb := b0.lt
                  have hsm := HWF'.out.small (by omega) ha4 hb4
                  have hp1 := hsm.p1
                  have hp2 := hsm.p2
                  obtain ⟨p1, hp1e⟩ : ∃ p1, x'.sent a * x'.Q b = p1 := ⟨_, rfl⟩
                  obtain ⟨p2, hp2e⟩ : ∃ p2, x'.sent b * x'.Q a = p2 := ⟨_, rfl⟩
                  obtain ⟨X, hX⟩ : ∃ X, p1 - p2 = X := ⟨_, rfl⟩
                  have HX : Hid (x'.dat.X a b = X) := Lib.hid (by show x'.sent a * x'.Q b - x'.sent b * x'.Q a = X; rw [hp1e, hp2e, hX])
                  rw [hp1e] at hp1
                  rw [hp2e] at hp2
                  have HXB : Hid (-1000000000 ≤ X ∧ X ≤ 1000000000) := Lib.hid (by omega)
                  have u1 : IntKind.i64.wrap p1 = p1 := wrapz (by omega) (by omega)
                  have u2 : IntKind.i64.wrap p2 = p2 := wrapz (by omega) (by omega)
                  have u3 : IntKind.i64.wrap X = X := wrapz (by omega) (by omega)
                  clear b0 hva hvb hsm hp1 hp2 hkd hkm
                  go_wp2_with fail
                  go_quiet (fail)
                  clear u1 u2 u3 hp1e hp2e hX s1 s2 q1 q2 hkk
                  have K7 := Lib.hid (K6.out.drewN nq)
                  obtain ⟨W8, hW8⟩ : ∃ W8, wr.drewN nq = W8 := ⟨_, rfl⟩
                  have l1' : W8.cell? ⟨WB, 5 + a, none⟩ = some (.slice va (x'.L a).length ca) := by rw [← hW8]; exact l1
                  have l2' : W8.cell? ⟨WB, 5 + b, none⟩ = some (.slice vb (x'.L b).length cb) := by rw [← hW8]; exact l2
                  have lb8 : WB < W8.heap.size := by rw [← hW8]; exact lb
                  rw [hW8] at K7 ⊢
                  have K8 := K7
                  have o8 : W8.cell? ⟨OB, k, none⟩ = some (.bool (on k)) := by rw [(K8.out.blk 1 rfl).cell, bools_at on hk16]
                  have zo8 := (K8.out.blk 1 rfl).frz k
                  have lo8 := (K8.out.blk 1 rfl).lt
                  have i8 : W8.cell? ⟨LB, k, none⟩ = some (.int .i64 (ls k)) := by rw [(K8.out.blk 0 rfl).cell, ints_at ls hk16]
                  have zi8 := (K8.out.blk 0 rfl).frz k
                  have li8 := (K8.out.blk 0 rfl).lt
                  have nLO : LB ≠ OB := K8.out.bne 0 1 (by decide) rfl rfl
                  have nOL := Ne.symm nLO
                  clear hW8 K6 K7 l1 l2 lb
                  by_cases hla : x'.L a = []
                  · have hz : (x'.L a).length = 0 := by rw [hla]; rfl
                    rw [hz] at l1'
                    clear hz hla
                    have hst := K8.out.set 1 (b := OB) (t := 47) (vs := bools on) rfl k (.bool false)
                    rw [bools_set on hk16 false] at hst
                    have K9 : Hid (Sep w [] (W8.setCell ⟨OB, k, none⟩ (.bool false)) ([Chunk.blk LB 46 (ints ls), Chunk.blk OB 47 (bools (upd on k false))] ++ x'.chunks)) := Lib.hid hst
                    clear hst
                    go_wp2
                    go_roundg (4 - b)
                    case measure => omega
                    case rel => exact ⟨b + 1, by omega, by omega, by go_num, ls, upd on k false, Lib.hid (fun i hi => PM.off (HPM.out i hi)), Lib.hid (fun i hi => PN.off (fun e => HPN.out i (by have := HKK.out.1; omega))), HLS, K9⟩
                  · have hz : ((x'.L a).length : Int) ≠ 0 := by have := mt List.eq_nil_of_length_eq_zero hla; omega
                    have hz1 : (((x'.L a).length : Int) == 0) = false := beq_eq_false_iff_ne.2 hz
                    have hra := (HWF'.out.mem a).2 ⟨ha4, hla⟩
                    by_cases hlb : x'.L b = []
                    · have hz2 : (x'.L b).length = 0 := by rw [hlb]; rfl
                      rw [hz2] at l2'
                      have HLA := Lib.hid hla
                      have HRA := Lib.hid hra
                      clear hz hz2 hlb hla hra
                      by_cases hab : a = b
                      · subst hab
                        have := l1'.symm.trans l2'
                        simp only [Option.some.injEq, Value.slice.injEq] at this
                        have h0 := this.2.1
                        exact absurd (List.eq_nil_of_length_eq_zero h0) HLA.out
                      · skip
                        have hst := K8.out.set 1 (b := OB) (t := 47) (vs := bools on) rfl k (.bool false)
                        rw [bools_set on hk16 false] at hst
                        have K9 : Hid (Sep w [] (W8.setCell ⟨OB, k, none⟩ (.bool false)) ([Chunk.blk LB 46 (ints ls), Chunk.blk OB 47 (bools (upd on k false))] ++ x'.chunks)) := Lib.hid hst
                        clear hst
                        go_wp2
                        go_roundg (4 - b)
                        case measure => omega
                        case rel => exact ⟨b + 1, by omega, by omega, by go_num, ls, upd on k false, Lib.hid (fun i hi => PM.off (HPM.out i hi)), Lib.hid (fun i hi => PN.off (fun e => HPN.out i (by have := HKK.out.1; omega))), HLS, K9⟩
                    · have hzb : ((x'.L b).length : Int) ≠ 0 := by have := mt List.eq_nil_of_length_eq_zero hlb; omega
                      have hz2 : (((x'.L b).length : Int) == 0) = false := beq_eq_false_iff_ne.2 hzb
                      have hrb := (HWF'.out.mem b).2 ⟨hb4, hlb⟩
                      by_cases hab : a = b
                      · have hab2 : ((a : Int) == (b : Int)) = true := by rw [hab]; simp
                        have HAB := Lib.hid hab
                        have HLA := Lib.hid (And.intro hla hlb)
                        have HRA := Lib.hid (And.intro hra hrb)
                        clear hz hzb hla hlb hra hrb hab
                        have hst := K8.out.set 1 (b := OB) (t := 47) (vs := bools on) rfl k (.bool false)
                        rw [bools_set on hk16 false] at hst
                        have K9 : Hid (Sep w [] (W8.setCell ⟨OB, k, none⟩ (.bool false)) ([Chunk.blk LB 46 (ints ls), Chunk.blk OB 47 (bools (upd on k false))] ++ x'.chunks)) := Lib.hid hst
                        clear hst
                        go_wp2
                        go_roundg (4 - b)
                        case measure => omega
                        case rel => exact ⟨b + 1, by omega, by omega, by go_num, ls, upd on k false, Lib.hid (fun i hi => PM.off (HPM.out i hi)), Lib.hid (fun i hi => PN.off (fun e => HPN.out i (by have := HKK.out.1; omega))), HLS, K9⟩
                      · have hab2 : ((a : Int) == (b : Int)) = false := by rw [beq_eq_false_iff_ne]; omega
                        have HIN : Hid (a ∈ x'.ring ∧ b ∈ x'.ring) := Lib.hid ⟨hra, hrb⟩
                        have hne : a ≠ b := hab
                        have HNE := Lib.hid hne
                        have HLA := Lib.hid (And.intro hla hlb)
                        clear hz hzb hla hlb hra hrb hab hne
                        cases ho : on k with
                        | false =>
                          rw [ho] at o8
                          have HO := Lib.hid ho
                          clear ho
                          have HSTR : Hid (Str x' M X a b) := Lib.hid (by rw [← HX.out]; exact Str.start HWF'.out HMO'.out HNE.out HIN.out.1 HIN.out.2)
                          have HBL : Hid (-1000000000 ≤ X ∧ X ≤ 1000000000) := HXB
                          have hmm : min X X = X := by omega
                          have k1 := K8.out.set 1 (b := OB) (t := 47) (vs := bools on) rfl k (.bool true)
                          rw [bools_set on hk16 true] at k1
                          have k2 := k1.set 0 (b := LB) (t := 46) (vs := ints ls) rfl k (.int .i64 X)
                          rw [ints_set ls hk16 X] at k2
                          have k3 := k2.set 0 (b := LB) (t := 46) (vs := ints (upd ls k X)) rfl k (.int .i64 X)
                          rw [ints_set _ hk16 X, upd_upd] at k3
                          obtain ⟨W9, hW9⟩ : ∃ W9, ((W8.setCell ⟨OB, k, none⟩ (.bool true)).setCell ⟨LB, k, none⟩ (.int .i64 X)).setCell ⟨LB, k, none⟩ (.int .i64 X) = W9 := ⟨_, rfl⟩
                          rw [hW9] at k3
                          have K9 : Hid (Sep w [] W9 ([Chunk.blk LB 46 (ints (upd ls k X)), Chunk.blk OB 47 (bools (upd on k true))] ++ x'.chunks)) := Lib.hid k3
                          have HNEW : Hid (PN x' M (upd on k true) (upd ls k X) k) := Lib.hid (fun _ => by rw [upd_self, HKK.out.2.1, HKK.out.2.2]; exact ⟨HNE.out, HIN.out.1, HIN.out.2, HSTR.out⟩)
                          have HLS' : Hid (∀ i, -1000000000 ≤ upd ls k X i ∧ upd ls k X i ≤ 1000000000) := Lib.hid (fun i => by
                            by_cases e : i = k
                            · subst e; rw [upd_self]; exact HBL.out
                            · rw [upd_ne _ _ e]; exact HLS.out i)
                          clear k1 k2 k3 K8
                          go_wp2_with fail
                          clear hW9 o8 zo8 lo8 i8 zi8 li8 l1' l2' lb8 hmm
                          obtain ⟨lv, hlvv⟩ : ∃ lv, Hid (lv = X) := ⟨X, Lib.hid rfl⟩
                          rw [← hlvv.out] at K9 HNEW HLS' HBL HSTR
                          -- world W9, K9 : Sep .. ints (upd ls k lv), bools (upd on k true); HNEW : PN at k; lv
                          have b9 := Wd.wds (pre := [_, _]) K9.out
                          rw [HB'.out] at b9
                          have q1 : W9.cell? ⟨WB, 1 + a, none⟩ = some (.int .i64 (x'.Q a)) := by rw [b9.cell]; exact x'.cQ ha4
                          have q2 : W9.cell? ⟨WB, 1 + b, none⟩ = some (.int .i64 (x'.Q b)) := by rw [b9.cell]; exact x'.cQ hb4
                          have lb9 := b9.lt
                          have hl9 : W9.cell? ⟨LB, k, none⟩ = some (.int .i64 lv) := by rw [(K9.out.blk 0 rfl).cell, ints_at _ hk16, upd_self]
                          have ll9 := (K9.out.blk 0 rfl).lt
                          have hbd := HSTR.out.bound HWF'.out HMO'.out HNE.out (HIN.out).1 (HIN.out).2
                          have HX2 : x'.dat.X a b = X := HX.out
                          rw [HX2] at hbd
                          have hsm := HWF'.out.small (by omega) ha4 hb4
                          have hq1 := (HWF'.out.q a ha4)
                          have hq2 := (HWF'.out.q b hb4)
                          have hmq1 := mul_bd (S := 1024) (T := 1000) (by omega : 0 ≤ M) hM2 (by omega : 0 ≤ x'.Q a) hq1.2
                          have hmq2 := mul_bd (S := 1024) (T := 1000) (by omega : 0 ≤ M) hM2 (by omega : 0 ≤ x'.Q b) hq2.2
                          have hp3 := hsm.p3
                          have hxb := HXB.out
                          have hlv := HBL.out
                          obtain ⟨v1, hv1⟩ : ∃ v1, x'.Q a * x'.Q b = v1 := ⟨_, rfl⟩
                          obtain ⟨v2, hv2⟩ : ∃ v2, M * x'.Q a = v2 := ⟨_, rfl⟩
                          obtain ⟨v3, hv3⟩ : ∃ v3, M * x'.Q b = v3 := ⟨_, rfl⟩
                          rw [hv1] at hbd hp3
                          rw [hv2] at hbd hmq1
                          rw [hv3] at hbd hmq2
                          have u1 : IntKind.i64.wrap v1 = v1 := wrapz (by omega) (by omega)
                          have u2 : IntKind.i64.wrap v2 = v2 := wrapz (by omega) (by omega)
                          have u3 : IntKind.i64.wrap v3 = v3 := wrapz (by omega) (by omega)
                          have u4 : IntKind.i64.wrap (v1 + v2) = v1 + v2 := wrapz (by omega) (by omega)
                          have u5 : IntKind.i64.wrap (v1 + v2 + v3) = v1 + v2 + v3 := wrapz (by omega) (by omega)
                          have u6 : IntKind.i64.wrap (X - lv) = X - lv := wrapz (by omega) (by omega)
                          have u7 : decide (v1 + v2 + v3 < X - lv) = false := decide_eq_false (by omega)
                          clear b9 hsm hmq1 hmq2 hp3 hbd HX2 hq1 hq2 hxb hlv
                          go_quiet (fail)
                          go_wp2
                          go_roundg (4 - b)
                          case measure => omega
                          case rel => exact ⟨b + 1, by omega, by omega, by go_num, upd ls k lv, upd on k true, Lib.hid (fun i hi => PM.on (HPM.out i hi) HNEW.out), Lib.hid (fun i hi => PN.on (fun e => HPN.out i (by have := HKK.out.1; omega)) HNEW.out), HLS', Lib.hid (K9.out.drewN _)⟩
                        | true =>
                          rw [ho] at o8
                          have HSTR : Hid (Str x' M (min (ls k) X) a b) := Lib.hid (by
                            have h := (HPM.out k hk16 ho).2
                            rw [HKK.out.2.1, HKK.out.2.2] at h
                            have h2 := (h HIN.out.1 HIN.out.2).least HWF'.out HMO'.out HNE.out HIN.out.1 HIN.out.2
                            rw [HX.out] at h2
                            exact h2)
                          have HO := Lib.hid ho
                          clear ho
                          have HBL : Hid (-1000000000 ≤ min (ls k) X ∧ min (ls k) X ≤ 1000000000) := Lib.hid (by have := HXB.out; have := HLS.out k; omega)
                          have k2 := K8.out.set 0 (b := LB) (t := 46) (vs := ints ls) rfl k (.int .i64 (min (ls k) X))
                          rw [ints_set ls hk16 _] at k2
                          obtain ⟨W9, hW9⟩ : ∃ W9, W8.setCell ⟨LB, k, none⟩ (.int .i64 (min (ls k) X)) = W9 := ⟨_, rfl⟩
                          rw [hW9] at k2
                          have K9 : Hid (Sep w [] W9 ([Chunk.blk LB 46 (ints (upd ls k (min (ls k) X))), Chunk.blk OB 47 (bools (upd on k true))] ++ x'.chunks)) := by
                            rw [upd_true HO.out]; exact Lib.hid k2
                          have HNEW : Hid (PN x' M (upd on k true) (upd ls k (min (ls k) X)) k) := Lib.hid (fun _ => by rw [upd_self, HKK.out.2.1, HKK.out.2.2]; exact ⟨HNE.out, HIN.out.1, HIN.out.2, HSTR.out⟩)
                          have HLS' : Hid (∀ i, -1000000000 ≤ upd ls k (min (ls k) X) i ∧ upd ls k (min (ls k) X) i ≤ 1000000000) := Lib.hid (fun i => by
                            by_cases e : i = k
                            · subst e; rw [upd_self]; exact HBL.out
                            · rw [upd_ne _ _ e]; exact HLS.out i)
                          clear k2 K8
                          go_wp2_with fail
                          obtain ⟨lv, hlvv⟩ : ∃ lv, min (ls k) X = lv := ⟨_, rfl⟩
                          rw [hlvv] at K9 HNEW HLS' HBL HSTR
                          clear hW9 o8 zo8 lo8 i8 zi8 li8 l1' l2' lb8
                          clear hlvv
                          -- world W9, K9 : Sep .. ints (upd ls k lv), bools (upd on k true); HNEW : PN at k; lv
                          have b9 := Wd.wds (pre := [_, _]) K9.out
                          rw [HB'.out] at b9
                          have q1 : W9.cell? ⟨WB, 1 + a, none⟩ = some (.int .i64 (x'.Q a)) := by rw [b9.cell]; exact x'.cQ ha4
                          have q2 : W9.cell? ⟨WB, 1 + b, none⟩ = some (.int .i64 (x'.Q b)) := by rw [b9.cell]; exact x'.cQ hb4
                          have lb9 := b9.lt
                          have hl9 : W9.cell? ⟨LB, k, none⟩ = some (.int .i64 lv) := by rw [(K9.out.blk 0 rfl).cell, ints_at _ hk16, upd_self]
                          have ll9 := (K9.out.blk 0 rfl).lt
                          have hbd := HSTR.out.bound HWF'.out HMO'.out HNE.out (HIN.out).1 (HIN.out).2
                          have HX2 : x'.dat.X a b = X := HX.out
                          rw [HX2] at hbd
                          have hsm := HWF'.out.small (by omega) ha4 hb4
                          have hq1 := (HWF'.out.q a ha4)
                          have hq2 := (HWF'.out.q b hb4)
                          have hmq1 := mul_bd (S := 1024) (T := 1000) (by omega : 0 ≤ M) hM2 (by omega : 0 ≤ x'.Q a) hq1.2
                          have hmq2 := mul_bd (S := 1024) (T := 1000) (by omega : 0 ≤ M) hM2 (by omega : 0 ≤ x'.Q b) hq2.2
                          have hp3 := hsm.p3
                          have hxb := HXB.out
                          have hlv := HBL.out
                          obtain ⟨v1, hv1⟩ : ∃ v1, x'.Q a * x'.Q b = v1 := ⟨_, rfl⟩
                          obtain ⟨v2, hv2⟩ : ∃ v2, M * x'.Q a = v2 := ⟨_, rfl⟩
                          obtain ⟨v3, hv3⟩ : ∃ v3, M * x'.Q b = v3 := ⟨_, rfl⟩
                          rw [hv1] at hbd hp3
                          rw [hv2] at hbd hmq1
                          rw [hv3] at hbd hmq2
                          have u1 : IntKind.i64.wrap v1 = v1 := wrapz (by omega) (by omega)
                          have u2 : IntKind.i64.wrap v2 = v2 := wrapz (by omega) (by omega)
                          have u3 : IntKind.i64.wrap v3 = v3 := wrapz (by omega) (by omega)
                          have u4 : IntKind.i64.wrap (v1 + v2) = v1 + v2 := wrapz (by omega) (by omega)
                          have u5 : IntKind.i64.wrap (v1 + v2 + v3) = v1 + v2 + v3 := wrapz (by omega) (by omega)
                          have u6 : IntKind.i64.wrap (X - lv) = X - lv := wrapz (by omega) (by omega)
                          have u7 : decide (v1 + v2 + v3 < X - lv) = false := decide_eq_false (by omega)
                          clear b9 hsm hmq1 hmq2 hp3 hbd HX2 hq1 hq2 hxb hlv
                          go_quiet (fail)
                          go_wp2
                          go_roundg (4 - b)
                          case measure => omega
                          case rel => exact ⟨b + 1, by omega, by omega, by go_num, upd ls k lv, upd on k true, Lib.hid (fun i hi => PM.on (HPM.out i hi) HNEW.out), Lib.hid (fun i hi => PN.on (fun e => HPN.out i (by have := HKK.out.1; omega)) HNEW.out), HLS', Lib.hid (K9.out.drewN _)⟩
                · obtain rfl : b = 4 := by omega
                  go_wp2
                  go_roundg (4 - a)
                  case measure => omega
                  case rel => exact ⟨a + 1, by omega, by omega, by go_num, ls, on, HPM, Lib.hid (fun k hk => HPN.out k (by omega)), HLS, K6⟩
            · obtain rfl : a = 4 := by omega
              go_wp2
              go_roundg (len - j)
              case measure => omega
              case rel => exact ⟨j + 1, by omega, by omega, by omega, by go_num, x', ls, on, HB', HWF', HMO', Lib.hid (fun k hk => HPN.out k (by omega)), HLS, K5⟩
        · obtain rfl : j = 200 := by omega
          have hjl : (200 : Int) < len := by omega
          go_wp2
          go_ret
          exact ⟨rfl, K.out.fr⟩
      · obtain rfl : j = len := by omega
        go_wp2
        go_ret
        exact ⟨rfl, K.out.fr⟩
end Go.Proofs.Yteojodcdehkejaa
