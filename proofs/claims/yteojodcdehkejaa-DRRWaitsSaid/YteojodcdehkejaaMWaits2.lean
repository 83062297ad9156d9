/- DRRFair: what the walk keeps of the pairs. -/
import Derived.Test.YteojodcdehkejaaMA11
import Derived.Deep.DeepCutAuto
import Derived.Deep.CutBlock
import Derived.Test.YteojodcdehkejaaMWaits1
set_option linter.unusedVariables false
namespace Go.Proofs.Yteojodcdehkejaa
open Go Go.RowKit
attribute [local go_sem] calmQ_normal wide_fn wide_depth Oper.semAt_some run_store_func

def ints (ls : Nat → Int) : List Value := (List.range 16).map fun k => .int .i64 (ls k)
def bools (on : Nat → Bool) : List Value := (List.range 16).map fun k => .bool (on k)
theorem ints_at (ls : Nat → Int) {k : Nat} (hk : k < 16) : (ints ls)[k]? = some (.int .i64 (ls k)) := by simp [ints, hk]
theorem bools_at (on : Nat → Bool) {k : Nat} (hk : k < 16) : (bools on)[k]? = some (.bool (on k)) := by simp [bools, hk]
theorem ints_set (ls : Nat → Int) {k : Nat} (hk : k < 16) (v : Int) : (ints ls).set k (.int .i64 v) = ints (upd ls k v) := by
  have := map_set_upd (l := List.range 16) (i := k) (s := k) List.nodup_range (by simp [hk]) (g := fun k => Value.int .i64 (ls k)) (g' := fun i => Value.int .i64 (upd ls k v i)) (fun t ht => by simp only [upd_ne _ _ ht])
  simp only [upd_self] at this
  exact this
theorem bools_set (on : Nat → Bool) {k : Nat} (hk : k < 16) (v : Bool) : (bools on).set k (.bool v) = bools (upd on k v) := by
  have := map_set_upd (l := List.range 16) (i := k) (s := k) List.nodup_range (by simp [hk]) (g := fun k => Value.bool (on k)) (g' := fun i => Value.bool (upd on k v i)) (fun t ht => by simp only [upd_ne _ _ ht])
  simp only [upd_self] at this
  exact this
/-- no move ahead of j has a packet above M -/
def UpTo (w : World) (ao : Option Addr) (j : Nat) (M : Int) : Prop := ∀ t, t < j → ∀ b off z, ao = some ⟨b, off, none⟩ → w.cell? ⟨b, off + (t * 3 + 2), none⟩ = some (.int .i64 z) → wrap64 (bits .and .i64 z 1023 + 1) ≤ M
theorem UpTo.zero (w : World) (ao : Option Addr) (M : Int) : UpTo w ao 0 M := fun t ht => absurd ht (by omega)
theorem UpTo.succ {w : World} {b off j : Nat} {M z zz : Int} (h : UpTo w (some ⟨b, off, none⟩) j M) (hc : w.cell? ⟨b, off + (j * 3 + 2), none⟩ = some (.int .i64 zz)) (hz : wrap64 (bits .and .i64 zz 1023 + 1) = z) : UpTo w (some ⟨b, off, none⟩) (j + 1) (max M z) := by
  intro t ht b' off' z' ha hc'
  cases ha
  by_cases e : t = j
  · subst e
    rw [hc] at hc'
    simp at hc'
    subst hc'
    omega
  · have := h t (by omega) b off z' rfl hc'
    omega
/-- a pair behind the move that is being looked at, not yet looked at -/
def PM (x : Wd) (M : Int) (on : Nat → Bool) (ls : Nat → Int) (k : Nat) : Prop := on k = true → k / 4 ≠ k % 4 ∧ (k / 4 ∈ x.ring → k % 4 ∈ x.ring → Str x M (ls k) (k / 4) (k % 4))
/-- .. and one that has been looked at -/
def PN (x : Wd) (M : Int) (on : Nat → Bool) (ls : Nat → Int) (k : Nat) : Prop := on k = true → k / 4 ≠ k % 4 ∧ k / 4 ∈ x.ring ∧ k % 4 ∈ x.ring ∧ Str x M (ls k) (k / 4) (k % 4)
theorem PN.mid {x : Wd} {M : Int} {on : Nat → Bool} {ls : Nat → Int} {k : Nat} (h : PN x M on ls k) : PM x M on ls k := fun ho => ⟨(h ho).1, fun _ _ => (h ho).2.2.2⟩
theorem PN.move {x x' : Wd} {N : Nat} (hw : Wf x N) {kd fl sz : Int} (hR : MvR kd fl sz x x') {M : Int} {on : Nat → Bool} {ls : Nat → Int} {k : Nat} (h : PN x M on ls k) : PM x' M on ls k := fun ho => by
  obtain ⟨h1, h2, h3, h4⟩ := h ho
  exact ⟨h1, fun ha hb => h4.move hw hR hR.Q h1 h2 h3 ha hb⟩
theorem PM.off {x : Wd} {M : Int} {on : Nat → Bool} {ls : Nat → Int} {k i : Nat} (h : PM x M on ls i) : PM x M (upd on k false) ls i := fun ho => by
  by_cases e : i = k
  · subst e; rw [upd_self] at ho; cases ho
  · rw [upd_ne _ _ e] at ho; exact h ho
theorem PN.off {x : Wd} {M : Int} {on : Nat → Bool} {ls : Nat → Int} {k i : Nat} (h : i ≠ k → PN x M on ls i) : PN x M (upd on k false) ls i := fun ho => by
  by_cases e : i = k
  · subst e; rw [upd_self] at ho; cases ho
  · rw [upd_ne _ _ e] at ho; exact h e ho
theorem PM.on {x : Wd} {M v : Int} {on : Nat → Bool} {ls : Nat → Int} {k i : Nat} (h : PM x M on ls i) (hk : PN x M (upd on k true) (upd ls k v) k) : PM x M (upd on k true) (upd ls k v) i := by
  by_cases e : i = k
  · subst e; exact hk.mid
  · intro ho
    rw [upd_ne _ _ e] at ho
    rw [upd_ne _ _ e]
    exact h ho
theorem PN.on {x : Wd} {M v : Int} {on : Nat → Bool} {ls : Nat → Int} {k i : Nat} (h : i ≠ k → PN x M on ls i) (hk : PN x M (upd on k true) (upd ls k v) k) : PN x M (upd on k true) (upd ls k v) i := by
  by_cases e : i = k
  · subst e; exact hk
  · intro ho
    rw [upd_ne _ _ e] at ho
    rw [upd_ne _ _ e]
    exact h e ho
theorem upd_true {on : Nat → Bool} {k : Nat} (h : on k = true) : upd on k true = on := by rw [← h, upd_id]
/-- the numbers of the check stay small -/
structure Small (x : Wd) (a b : Nat) : Prop where
  p1 : 0 ≤ x.sent a * x.Q b ∧ x.sent a * x.Q b ≤ 1000000000
  p2 : 0 ≤ x.sent b * x.Q a ∧ x.sent b * x.Q a ≤ 1000000000
  p3 : 0 ≤ x.Q a * x.Q b ∧ x.Q a * x.Q b ≤ 1000000
theorem mul_bd {s q S T : Int} (h0 : 0 ≤ s) (h1 : s ≤ S) (q0 : 0 ≤ q) (q1 : q ≤ T) : 0 ≤ s * q ∧ s * q ≤ S * T :=
  ⟨Int.mul_nonneg h0 q0, Int.le_trans (Int.mul_le_mul_of_nonneg_right h1 q0) (Int.mul_le_mul_of_nonneg_left q1 (by omega))⟩
theorem Wf.small {x : Wd} {N : Nat} (h : Wf x N) (hN : N ≤ 200) {a b : Nat} (ha : a < 4) (hb : b < 4) : Small x a b := by
  have sa := h.se a ha
  have sb := h.se b hb
  have qa := h.q a ha
  have qb := h.q b hb
  have h1 := mul_bd (S := 204800) (T := 1000) sa.1 (by omega) (by omega : 0 ≤ x.Q b) qb.2
  have h2 := mul_bd (S := 204800) (T := 1000) sb.1 (by omega) (by omega : 0 ≤ x.Q a) qa.2
  have h3 := mul_bd (S := 1000) (T := 1000) (by omega : 0 ≤ x.Q a) qa.2 (by omega : 0 ≤ x.Q b) qb.2
  exact ⟨⟨h1.1, by omega⟩, ⟨h2.1, by omega⟩, ⟨h3.1, by omega⟩⟩
end Go.Proofs.Yteojodcdehkejaa
/- DRRWaits: the walk. -/
namespace Go.Proofs.Yteojodcdehkejaa
open Go Go.RowKit
attribute [local go_sem] calmQ_normal wide_fn wide_depth Oper.semAt_some run_store_func

theorem sorted_nil {x : Wd} (h : ∀ s, x.L s = []) : Sorted x := fun s _ => by rw [h s]; exact List.Pairwise.nil
theorem quo_up {a q : Int} (hq : 1 ≤ q) : a ≤ (a + q - 1) / q * q ∧ (a + q - 1) / q * q ≤ a + q - 1 := by
  have h1 := Int.ediv_mul_le (a + q - 1) (show q ≠ 0 by omega)
  have h2 := Int.lt_ediv_add_one_mul_self (a + q - 1) (show 0 < q by omega)
  rw [Int.add_mul] at h2
  omega
theorem wrapy {x : Int} (h1 : -1125899906842624 ≤ x) (h2 : x ≤ 1125899906842624) : IntKind.i64.wrap x = x := by
  rw [IntKind.wrap_i64]; omega
def fours (g : Nat → Int) : List Value := [.int .i64 (g 0), .int .i64 (g 1), .int .i64 (g 2), .int .i64 (g 3)]
theorem fours_at (g : Nat → Int) {f : Nat} (hf : f < 4) : (fours g)[f]? = some (.int .i64 (g f)) := four (P := fun f => (fours g)[f]? = some (.int .i64 (g f))) rfl rfl rfl rfl hf
theorem kk_bd {c d k : Int} (hc : 1 ≤ c ∧ c ≤ 1024) (hd : 1 ≤ d ∧ d ≤ 1000) (hk : (c + d - 1) / d = k) : c ≤ k * d ∧ 0 ≤ k ∧ k ≤ 2048 := by
  have h1 := quo_up (a := c) hd.1
  rw [hk] at h1
  refine ⟨h1.1, ?_, ?_⟩
  · rw [← hk]; exact Int.ediv_nonneg (by omega) (by omega)
  · rw [← hk]
    exact Int.ediv_le_of_le_mul (by omega) (by
      have := Int.mul_le_mul_of_nonneg_left hd.1 (show (0 : Int) ≤ 2048 by omega)
      omega)
theorem MvR.dat0 {x x' : Wd} {fl sz : Int} (hR : MvR 0 fl sz x x') : x'.sent = x.sent := by
  obtain ⟨f, z, _, _, hd⟩ := hR.put_of
  show x'.dat.sent = _
  rw [hd]; rfl
set_option maxRecDepth 100000 in
set_option maxHeartbeats 8000000 in
theorem waits_walk (w : World) (q0 q1 q2 q3 : Int) (ao : Option Addr) (len cap : Nat) (hlm : len ≤ maxLen) (hst : MoveRow w ao len) (f0 z0 : Int) :
    Calls Try.prog 5 #[.agg #[.int .i64 q0, .int .i64 q1, .int .i64 q2, .int .i64 q3], .slice ao len cap, .int .i64 f0, .int .i64 z0] w fun e w' => e = .returned (.bool true) ∧ Fr [] w w' := by
  have HST := Lib.hid hst
  unfold maxLen at hlm
  obtain ⟨f, hfe0, hf3⟩ := and_range f0 3 (by omega)
  have hfe : bits .and .i64 f0 3 = (f : Int) := hfe0
  have HFE := Lib.hid hfe
  have hf4 : f < 4 := by omega
  clear hst hfe0 hfe
  go_enter Try.func5, Try.ntmps5
  go_wp2_with fail
  refine (open_ok _ q0 q1 q2 q3).mono ?_
  rintro er w1 ⟨x, rfl, hwf, hl0, hmo, k1⟩
  have HWF := Lib.hid hwf
  have HSO := Lib.hid (sorted_nil (fun s => (hl0 s).1))
  have K1 := Lib.hid (Sep.from ((Fr.refl [] w).alloc (.cells #[.int .i64 q0, .int .i64 q1, .int .i64 q2, .int .i64 q3] 40)) k1)
  clear hwf hl0 hmo k1
  go_wp2_with fail
  refine (told15 _).mono ?_
  rintro er w2 ⟨rfl, f2⟩
  obtain ⟨WB, hWB⟩ : ∃ WB, x.b = WB := ⟨_, rfl⟩
  have HB := Lib.hid hWB
  rw [hWB]
  have K2 := Lib.hid (K1.out.same f2)
  clear hWB f2 K1
  go_upto_block 0 with (fail)
  go_cut [10] (fun s10 wx => ∃ wy, wx = wy ∧ ∃ (x : Wd) (N : Nat), N ≤ 60 ∧ Hid (x.b = WB) ∧ Hid (Wf x N) ∧ Hid (Sorted x) ∧ Hid (Sep w [] wy x.chunks))
  case first =>
    go_wp2_with fail
    go_loopg [10] (len + 1) (fun k i wr => ∃ j : Nat, k + j = len + 1 ∧ j ≤ len ∧ j ≤ 60 ∧ i = .int .i64 j ∧ ∃ x : Wd, Hid (x.b = WB) ∧ Hid (Wf x j) ∧ Hid (Sorted x) ∧ Hid (Sep w [] wr x.chunks))
    case atStart => exact ⟨0, by omega, by omega, by omega, rfl, x, HB, HWF, HSO, K2⟩
    case round =>
      clear HB HWF HSO K2 x
      obtain ⟨j, hk, hj, hj2, rfl, x, HB, HWF, HSO, K⟩ := hrel
      by_cases hjn : j < len
      · by_cases hj3 : j < 60
        · obtain ⟨mb, off, kd, fl, sz, rfl, m1, m2, m3⟩ := HST.out j hjn
          have m4 : wr.cell? ⟨mb, off + j * 3, none⟩ = some (.int .i64 kd) := (K.out.fr.cell (p := ⟨mb, _, none⟩) (mv_lt m1) (by simp)).trans m1
          have m5 : wr.cell? ⟨mb, off + j * 3 + 1, none⟩ = some (.int .i64 fl) := by rw [Nat.add_assoc]; exact (K.out.fr.cell (p := ⟨mb, _, none⟩) (mv_lt m2) (by simp)).trans m2
          have m6 : wr.cell? ⟨mb, off + j * 3 + 2, none⟩ = some (.int .i64 sz) := by rw [Nat.add_assoc]; exact (K.out.fr.cell (p := ⟨mb, _, none⟩) (mv_lt m3) (by simp)).trans m3
          have hjl : (j : Int) < len := by omega
          have hj4 : (j : Int) < 60 := by omega
          have hmv := mv HWF.out (by omega) K.out.hs kd fl sz
          rw [HB.out] at hmv
          have HM := Lib.hid hmv
          clear hmv m1 m2 m3
          go_wp2_with fail
          refine HM.out.mono ?_
          rintro er w3 ⟨rfl, x', hR, hwf, hb, k3⟩
          have HWF' := Lib.hid hwf
          have HB' : Hid (x'.b = WB) := Lib.hid (hb.trans HB.out)
          have HSO' := Lib.hid (hR.sorted HWF.out HSO.out)
          have K4 := Lib.hid (K.out.next k3)
          clear hR hwf hb k3 K HWF HB HM HSO m4 m5 m6 x
          go_wp2
          go_roundg (gk - 1)
          case measure => omega
          case rel => exact ⟨j + 1, by omega, by omega, by omega, by go_num, x', HB', HWF', HSO', K4⟩
        · obtain rfl : j = 60 := by omega
          have hjl : (60 : Int) < len := by omega
          go_wp2
          go_meet
          exact ⟨_, rfl, x, 60, by omega, HB, HWF, HSO, K⟩
      · obtain rfl : j = len := by omega
        go_wp2
        go_meet
        exact ⟨_, rfl, x, j, hj2, HB, HWF, HSO, K⟩
  case rest =>
    clear HB HWF HSO K2 x
    obtain ⟨wy, hwx, x, N, hN, HB, HWF, HSO, K⟩ := hcut
    rw [hwx]
    clear hwx
    have hfe := HFE.out
    have hfi : (f : Int) < 4 := by omega
    go_upto_region 10 with (fail)
    go_cut [59] (fun s59 wx => s59 = .bool false ∧ ∃ wz, wx = wz ∧ ∃ (x : Wd) (N : Nat), N ≤ 61 ∧ Hid (x.b = WB) ∧ Hid (Wf x N) ∧ Hid (Sorted x) ∧ Hid (x.L f ≠ []) ∧ Hid (Sep w [] wz x.chunks))
    case first =>
      have b0 := Wd.wds (pre := []) K.out
      rw [HB.out] at b0
      obtain ⟨va, ca, hva, -⟩ := (Wd.rowf (pre := []) K.out hf4).val
      have l1 : wy.cell? ⟨WB, 5 + f, none⟩ = some (.slice va (x.L f).length ca) := by rw [b0.cell, x.cV hf4, hva]
      have lb := b0.lt
      clear b0 hva
      by_cases hl : x.L f = []
      · have hz : (x.L f).length = 0 := by rw [hl]; rfl
        rw [hz] at l1
        have hmv := mv HWF.out (by omega) K.out.hs 0 f z0
        rw [HB.out] at hmv
        have HM := Lib.hid hmv
        have HL := Lib.hid hl
        clear hz hl hmv
        go_wp2_with fail
        refine HM.out.mono ?_
        rintro er w3 ⟨rfl, x', hR, hwf, hb, k3⟩
        have HWF' := Lib.hid hwf
        have HB' : Hid (x'.b = WB) := Lib.hid (hb.trans HB.out)
        have HSO' := Lib.hid (hR.sorted HWF.out HSO.out)
        have K4 := Lib.hid (K.out.next k3)
        have HL' : Hid (x'.L f ≠ []) := Lib.hid (by
          obtain ⟨u, z, hu, hue, hd⟩ := hR.put_of
          have hug : u = f := by rw [and3 hf4] at hue; omega
          subst hug
          show x'.dat.L u ≠ []
          rw [hd]
          show upd x.L u (x.L u ++ [x.pkt u z]) u ≠ []
          rw [upd_self]; simp)
        clear hR hwf hb k3 K HWF HB HM HSO l1 lb
        go_wp2
        go_meet
        exact ⟨rfl, _, rfl, x', N + 1, by omega, HB', HWF', HSO', HL', K4⟩
      · have hz1 : (((x.L f).length : Int) == 0) = false := by rw [beq_eq_false_iff_ne]; have := mt List.eq_nil_of_length_eq_zero hl; omega
        have HL := Lib.hid hl
        clear hl
        go_wp2
        go_meet
        exact ⟨rfl, _, rfl, x, N, by omega, HB, HWF, HSO, HL, K⟩
    case rest =>
      clear HB HWF HSO K x
      obtain ⟨rfl, wz, hwx, x, N, hN, HB, HWF, HSO, HL, K⟩ := hcut
      rw [hwx]
      clear hwx
      obtain ⟨p, hp⟩ : ∃ p, (x.L f)[0]? = some p := by
        cases hl : x.L f with
        | nil => exact absurd hl HL.out
        | cons a l => exact ⟨a, rfl⟩
      have HP : Hid ((x.L f).head? = some p) := Lib.hid (by rw [List.head?_eq_getElem?]; exact hp)
      have b0 := Wd.wds (pre := []) K.out
      rw [HB.out] at b0
      have R0 := Wd.rowf (pre := []) K.out hf4
      obtain ⟨va, ca, hva, -⟩ := R0.val
      rw [hva] at R0
      obtain ⟨ga, oa, rfl, -, la, fa⟩ := R0.at_ hp
      have l1 : wz.cell? ⟨WB, 5 + f, none⟩ = some (.slice (some ⟨ga, oa, none⟩) (x.L f).length ca) := by rw [b0.cell, x.cV hf4, hva]
      have lb := b0.lt
      have hlen : (0 : Int) < (x.L f).length := by have := mt List.eq_nil_of_length_eq_zero HL.out; omega
      simp only [Nat.zero_mul, Nat.zero_add] at fa
      have a0 : wz.cell? ⟨ga, oa, none⟩ = some (.int .i64 p.f0) := fa 0 (by omega)
      have a1 : wz.cell? ⟨ga, oa + 1, none⟩ = some (.int .i64 p.f1) := fa 1 (by omega)
      have a2 : wz.cell? ⟨ga, oa + 2, none⟩ = some (.int .i64 p.f2) := fa 2 (by omega)
      have a3 : wz.cell? ⟨ga, oa + 3, none⟩ = some (.int .i64 p.f3) := fa 3 (by omega)
      have a4 : wz.cell? ⟨ga, oa + 4, none⟩ = some (.int .i64 p.f4) := fa 4 (by omega)
      have a5 : wz.cell? ⟨ga, oa + 5, none⟩ = some (.int .i64 p.f5) := fa 5 (by omega)
      obtain ⟨W4, hW4⟩ : ∃ W4, wz.alloc (.cells #[.int .i64 p.f0, .int .i64 p.f1, .int .i64 p.f2, .int .i64 p.f3, .int .i64 p.f4, .int .i64 p.f5] 34) = W4 := ⟨_, rfl⟩
      have K4 : Hid (Sep w [] W4 ([Chunk.blk wz.heap.size 34 (encP6 p)] ++ x.chunks)) := by
        rw [← hW4]
        exact Lib.hid ((K.out.alloc 34 (encP6 p)).perm List.perm_append_comm)
      clear fa hva b0 hp R0
      go_wp2_with fail
      clear hW4 a0 a1 a2 a3 a4 a5 l1 lb hlen la
      obtain ⟨PB, hPB⟩ : ∃ PB, wz.heap.size = PB := ⟨_, rfl⟩
      rw [hPB] at K4 ⊢
      clear hPB K
      have b0 := Wd.wds (pre := [_]) K4.out
      rw [HB.out] at b0
      have q1 : W4.cell? ⟨WB, 1 + f, none⟩ = some (.int .i64 (x.Q f)) := by rw [b0.cell]; exact x.cQ hf4
      have lb := b0.lt
      have p3 : W4.cell? ⟨PB, 3, none⟩ = some (.int .i64 p.f3) := by rw [(K4.out.blk 0 rfl).cell]; rfl
      have zp := (K4.out.blk 0 rfl).lt
      have hpk := HWF.out.pk f hf4 p (List.mem_of_mem_head? HP.out)
      have hq := HWF.out.q f hf4
      have hmo := HWF.out.mo
      obtain ⟨c, hc⟩ : ∃ c, p.f3 = c := ⟨_, rfl⟩
      obtain ⟨d, hd⟩ : ∃ d, x.Q f = d := ⟨_, rfl⟩
      rw [hc] at p3 hpk
      rw [hd] at q1 hq
      obtain ⟨n1, hn1⟩ : ∃ n1, c + d = n1 := ⟨_, rfl⟩
      obtain ⟨n2, hn2⟩ : ∃ n2, n1 - 1 = n2 := ⟨_, rfl⟩
      have hc1 : 1 ≤ c ∧ c ≤ 1024 := by omega
      clear hpk hmo
      have u1 : IntKind.i64.wrap n1 = n1 := wrapy (by omega) (by omega)
      have u2 : IntKind.i64.wrap n2 = n2 := wrapy (by omega) (by omega)
      have hd0 : d ≠ 0 := by omega
      have hd1 : (d == 0) = false := by rw [beq_eq_false_iff_ne]; omega
      clear b0
      go_quiet (fail)
      obtain ⟨kk, hkk⟩ : ∃ kk, n2 / d = kk := ⟨_, rfl⟩
      have hkb := kk_bd hc1 hq (k := kk) (by rw [← hkk, ← hn2, ← hn1])
      rw [hkk]
      have HKQ : Hid (p.f3 ≤ kk * x.Q f ∧ 0 ≤ kk ∧ kk ≤ 2048) := Lib.hid (by rw [hc, hd]; exact hkb)
      have K5 := Lib.hid (K4.out.drewN nq)
      obtain ⟨W5, hW5⟩ : ∃ W5, W4.drewN nq = W5 := ⟨_, rfl⟩
      rw [hW5] at K5 ⊢
      clear hW5 K4 lb zp p3 hc q1 hd hq hn1 hn2 hc1 u1 u2 hd0 hd1 hkk hkb
      have b0 := Wd.wds (pre := [_]) K5.out
      rw [HB.out] at b0
      have s0 : W5.cell? ⟨WB, 13, none⟩ = some (.int .i64 (x.sent 0)) := by rw [b0.cell]; rfl
      have s1 : W5.cell? ⟨WB, 14, none⟩ = some (.int .i64 (x.sent 1)) := by rw [b0.cell]; rfl
      have s2 : W5.cell? ⟨WB, 15, none⟩ = some (.int .i64 (x.sent 2)) := by rw [b0.cell]; rfl
      have s3 : W5.cell? ⟨WB, 16, none⟩ = some (.int .i64 (x.sent 3)) := by rw [b0.cell]; rfl
      have lb := b0.lt
      clear b0
      obtain ⟨fr, hfr⟩ : ∃ fr, x.sent = fr := ⟨_, rfl⟩
      rw [hfr] at s0 s1 s2 s3
      obtain ⟨W6, hW6⟩ : ∃ W6, W5.alloc (.cells #[.int .i64 (fr 0), .int .i64 (fr 1), .int .i64 (fr 2), .int .i64 (fr 3)] 40) = W6 := ⟨_, rfl⟩
      have K6 : Hid (Sep w [] W6 ([Chunk.blk W5.heap.size 40 (fours fr), Chunk.blk PB 34 (encP6 p)] ++ x.chunks)) := by
        rw [← hW6]
        exact Lib.hid ((K5.out.alloc 40 (fours fr)).perm List.perm_append_comm)
      have HFR : Hid (∀ g, g < 4 → 0 ≤ fr g ∧ fr g ≤ 62464) := Lib.hid (fun g hg => by have := HWF.out.se g hg; rw [hfr] at this; omega)
      have HP5 : Hid (p.f0 = f ∧ p.f2 = 0 ∧ p.f5 = 0) := Lib.hid (by have := HWF.out.pk f hf4 p (List.mem_of_mem_head? HP.out); exact ⟨this.1, this.2.2.1, this.2.2.2.2.2.2⟩)
      have HLP : Hid (Lp x f p fr kk) := Lib.hid ⟨fun g hg _ => by
        have := HWF.out.q g hg
        have h2 := HKQ.out.2.1
        have h3 := Int.mul_nonneg h2 (show 0 ≤ x.Q g by omega)
        rw [hfr]; omega, fun _ => .inl (fun g _ => by rw [hfr]), HSO.out⟩
      obtain ⟨Q0, hQ0⟩ : ∃ Q0, x.Q = Q0 := ⟨_, rfl⟩
      have HQ := Lib.hid hQ0
      rw [hQ0] at HKQ
      have HQB : Hid (∀ g, g < 4 → 1 ≤ Q0 g ∧ Q0 g ≤ 1000) := Lib.hid (fun g hg => by have := HWF.out.q g hg; rw [hQ0] at this; exact this)
      clear hfr hQ0
      go_wp2_with fail
      clear hW6 s0 s1 s2 s3 lb
      obtain ⟨FB, hFB⟩ : ∃ FB, W5.heap.size = FB := ⟨_, rfl⟩
      rw [hFB] at K6 ⊢
      clear hFB K5
      go_loopg [14] 3001 (fun k i wr => ∃ j : Nat, k + j = 3001 ∧ j ≤ 3000 ∧ i = .int .i64 j ∧ ∃ (x : Wd) (N : Nat), N ≤ 61 + 9 * j ∧ Hid (x.b = WB) ∧ Hid (Wf x N) ∧ Hid (x.Q = Q0) ∧ Hid (Lp x f p fr kk) ∧ Hid (Sep w [] wr ([Chunk.blk FB 40 (fours fr), Chunk.blk PB 34 (encP6 p)] ++ x.chunks)))
      case atStart => exact ⟨0, by omega, by omega, rfl, x, N, by omega, HB, HWF, HQ, HLP, K6⟩
      case round =>
        clear HB HWF HQ HLP K6 HSO HL HP hN
        obtain ⟨j, hk, hj, rfl, x, N, hN, HB, HWF, HQ, HLP, K⟩ := hrel
        by_cases hj3 : j < 3000
        · have hji : (j : Int) < 3000 := by omega
          have b0 := Wd.wds (pre := [_, _]) K.out
          rw [HB.out] at b0
          have R0 := Wd.rowf (pre := [_, _]) K.out hf4
          obtain ⟨va, ca, hva, -⟩ := R0.val
          have l1 : wr.cell? ⟨WB, 5 + f, none⟩ = some (.slice va (x.L f).length ca) := by rw [b0.cell, x.cV hf4, hva]
          have lb := b0.lt
          rw [hva] at R0
          clear hva b0
          by_cases hl : x.L f = []
          · have hz : (x.L f).length = 0 := by rw [hl]; rfl
            rw [hz] at l1
            clear hz hl R0
            go_wp2_with fail
            go_quiet (fail)
            go_wp2
            go_ret
            exact ⟨rfl, (K.out.drewN _).fr⟩
          · obtain ⟨a, ha⟩ : ∃ a, (x.L f)[0]? = some a := by
              cases hll : x.L f with
              | nil => exact absurd hll hl
              | cons a l => exact ⟨a, rfl⟩
            have HPK := Lib.hid (HWF.out.pk f hf4 a (List.mem_of_getElem? ha))
            have HA : Hid ((x.L f).head? = some a) := Lib.hid (by rw [List.head?_eq_getElem?]; exact ha)
            obtain ⟨ga, oa, rfl, -, la, fa⟩ := R0.at_ ha
            obtain ⟨n, hn⟩ : ∃ n, (x.L f).length = n := ⟨_, rfl⟩
            have hnz : 0 < n := by have := mt List.eq_nil_of_length_eq_zero hl; omega
            have hlen : (0 : Int) < n := by omega
            have hlen2 : decide ((0 : Int) < n) = true := decide_eq_true hlen
            rw [hn] at l1
            simp only [Nat.zero_mul, Nat.zero_add] at fa
            have a0 : wr.cell? ⟨ga, oa, none⟩ = some (.int .i64 a.f0) := fa 0 (by omega)
            have a1 : wr.cell? ⟨ga, oa + 1, none⟩ = some (.int .i64 a.f1) := fa 1 (by omega)
            have a2 : wr.cell? ⟨ga, oa + 2, none⟩ = some (.int .i64 a.f2) := fa 2 (by omega)
            have a3 : wr.cell? ⟨ga, oa + 3, none⟩ = some (.int .i64 a.f3) := fa 3 (by omega)
            have a4 : wr.cell? ⟨ga, oa + 4, none⟩ = some (.int .i64 a.f4) := fa 4 (by omega)
            have a5 : wr.cell? ⟨ga, oa + 5, none⟩ = some (.int .i64 a.f5) := fa 5 (by omega)
            have pb := K.out.blk 1 rfl
            have p0 : wr.cell? ⟨PB, 0, none⟩ = some (.int .i64 p.f0) := by rw [pb.cell]; rfl
            have p1 : wr.cell? ⟨PB, 1, none⟩ = some (.int .i64 p.f1) := by rw [pb.cell]; rfl
            have p2 : wr.cell? ⟨PB, 2, none⟩ = some (.int .i64 p.f2) := by rw [pb.cell]; rfl
            have p3 : wr.cell? ⟨PB, 3, none⟩ = some (.int .i64 p.f3) := by rw [pb.cell]; rfl
            have p4 : wr.cell? ⟨PB, 4, none⟩ = some (.int .i64 p.f4) := by rw [pb.cell]; rfl
            have p5 : wr.cell? ⟨PB, 5, none⟩ = some (.int .i64 p.f5) := by rw [pb.cell]; rfl
            have lp := pb.lt
            clear fa ha R0 pb hl hn
            have d0 : (a.f0 == p.f0) = true := by rw [HPK.out.1, HP5.out.1]; simp
            have d2 : (a.f2 == p.f2) = true := by rw [HPK.out.2.2.1, HP5.out.2.1]; simp
            have d5 : (a.f5 == p.f5) = true := by rw [HPK.out.2.2.2.2.2.2, HP5.out.2.2]; simp
            by_cases e1 : a.f1 = p.f1
            · have d1 : (a.f1 == p.f1) = true := by rw [e1]; simp
              by_cases e3 : a.f3 = p.f3
              · have d3 : (a.f3 == p.f3) = true := by rw [e3]; simp
                by_cases e4 : a.f4 = p.f4
                · have d4 : (a.f4 == p.f4) = true := by rw [e4]; simp
                  have HA2 : Hid ((x.L f).head? = some p) := by
                    have : a = p := by
                      cases a; cases p
                      simp only [beq_iff_eq] at d0 d1 d2 d3 d4 d5
                      subst d0 d1 d2 d3 d4 d5; rfl
                    rw [← this]; exact HA
                  clear e1 e3 e4
                  go_wp2_with fail
                  go_quiet (fail)
                  have K7 := Lib.hid (K.out.drewN nq)
                  obtain ⟨W7, hW7⟩ : ∃ W7, wr.drewN nq = W7 := ⟨_, rfl⟩
                  rw [hW7] at K7 ⊢
                  clear hW7 K HA HPK l1 lb a0 a1 a2 a3 a4 a5 p0 p1 p2 p3 p4 p5 lp la d0 d1 d2 d3 d4 d5 hlen hlen2 hnz
                  go_wp2_with fail
                  go_loopg [15] 5 (fun k i wr => ∃ g : Nat, k + g = 5 ∧ g ≤ 4 ∧ i = .int .i64 g ∧ ∃ (x : Wd) (N : Nat), N ≤ 61 + 9 * j + 2 * g ∧ Hid (x.b = WB) ∧ Hid (Wf x N) ∧ Hid (x.Q = Q0) ∧ Hid (Lp x f p fr kk) ∧ Hid ((x.L f).head? = some p) ∧ Hid (∀ t, t < g → t ≠ f → 2 ≤ (x.L t).length) ∧ Hid (Sep w [] wr ([Chunk.blk FB 40 (fours fr), Chunk.blk PB 34 (encP6 p)] ++ x.chunks)))
                  case atStart => exact ⟨0, by omega, by omega, rfl, x, N, by omega, HB, HWF, HQ, HLP, HA2, Lib.hid (fun t ht => by omega), K7⟩
                  case round =>
                    clear HB HWF HQ HLP K7 HA2 hN
                    obtain ⟨g, hkg, hg, rfl, x, N, hN, HB, HWF, HQ, HLP, HA2, H2, K⟩ := hrel
                    by_cases hg4 : g < 4
                    · have hgi : (g : Int) < 4 := by omega
                      go_wp2_with fail
                      go_loopg [] 3 (fun k wr => ∃ m : Nat, k + m = 3 ∧ m ≤ 2 ∧ ∃ (x : Wd) (N : Nat), N ≤ 61 + 9 * j + 2 * g + m ∧ Hid (x.b = WB) ∧ Hid (Wf x N) ∧ Hid (x.Q = Q0) ∧ Hid (Lp x f p fr kk) ∧ Hid ((x.L f).head? = some p) ∧ Hid (∀ t, t < g → t ≠ f → 2 ≤ (x.L t).length) ∧ Hid (g ≠ f → m ≤ (x.L g).length) ∧ Hid (Sep w [] wr ([Chunk.blk FB 40 (fours fr), Chunk.blk PB 34 (encP6 p)] ++ x.chunks)))
                      case atStart => exact ⟨0, by omega, by omega, x, N, by omega, HB, HWF, HQ, HLP, HA2, H2, Lib.hid (fun _ => by omega), K⟩
                      case round =>
                        clear HB HWF HQ HLP K HA2 hN H2
                        obtain ⟨m, hkm, hm, x, N, hN, HB, HWF, HQ, HLP, HA2, H2, HM2, K⟩ := hrel
                        by_cases hgf : g = f
                        · have HGF := Lib.hid hgf
                          have hgfi : (g : Int) = (f : Int) := by rw [hgf]
                          clear hgf
                          go_wp2_with fail
                          go_roundg (4 - g)
                          case measure => omega
                          case rel => exact ⟨g + 1, by omega, by omega, by go_num, x, N, by omega, HB, HWF, HQ, HLP, HA2, Lib.hid (fun t ht htf => H2.out t (by have := HGF.out; omega) htf), K⟩
                        · have hgfi : ¬ (g : Int) = (f : Int) := by omega
                          have HGF := Lib.hid hgf
                          clear hgf
                          have b0 := Wd.wds (pre := [_, _]) K.out
                          rw [HB.out] at b0
                          obtain ⟨va, ca, hva, -⟩ := (Wd.rowf (pre := [_, _]) K.out hg4).val
                          obtain ⟨n, hn⟩ : ∃ n, (x.L g).length = n := ⟨_, rfl⟩
                          have l1 : wr.cell? ⟨WB, 5 + g, none⟩ = some (.slice va n ca) := by rw [b0.cell, x.cV hg4, hva, hn]
                          have lb := b0.lt
                          have HN := Lib.hid hn
                          clear hva b0 hn
                          by_cases hn2 : n < 2
                          · have hn3 : decide ((n : Int) < 2) = true := decide_eq_true (by omega)
                            have hn4 : (n : Int) < 2 := by omega
                            obtain ⟨c, hc0, hc3⟩ := and_range j 3 (by omega)
                            have hc : bits .and .i64 (j : Int) 3 = (c : Int) := hc0
                            have hw : wrap64 (3 * (c : Int)) = 3 * c := by unfold wrap64; omega
                            have hw2 : ¬ (3 * (c : Int)) < 0 := by omega
                            clear hc0
                            have hmv := mv HWF.out (by omega) K.out.hs.right 0 g (z0 / 2 ^ (3 * c))
                            rw [HB.out] at hmv
                            have HMV := Lib.hid hmv
                            have hm1 : m + 1 ≤ 2 := by have := HM2.out HGF.out; rw [HN.out] at this; omega
                            clear hmv
                            go_wp2_with fail
                            refine HMV.out.mono ?_
                            rintro er w3 ⟨rfl, x', hR, hwf, hb, k3⟩
                            obtain ⟨hlp, hhd, hlen⟩ := HLP.out.put HWF.out HA2.out hf4 hg4 hR
                            have HWF' := Lib.hid hwf
                            have HB' : Hid (x'.b = WB) := Lib.hid (hb.trans HB.out)
                            have HQ' : Hid (x'.Q = Q0) := Lib.hid (hR.Q.trans HQ.out)
                            have HLP' := Lib.hid hlp
                            have HA' := Lib.hid hhd
                            have H2' : Hid (∀ t, t < g → t ≠ f → 2 ≤ (x'.L t).length) := Lib.hid (fun t ht htf => by have := hlen t (by omega); have := H2.out t ht htf; omega)
                            have HM' : Hid (g ≠ f → m + 1 ≤ (x'.L g).length) := Lib.hid (fun hgf => by have := hlen g hg4; have := HM2.out hgf; rw [if_pos rfl] at *; omega)
                            have K4 : Hid (Sep w [] w3 ([Chunk.blk FB 40 (fours fr), Chunk.blk PB 34 (encP6 p)] ++ x'.chunks)) := Lib.hid ((Sep.frame (K.out.perm List.perm_append_comm) k3).perm List.perm_append_comm)
                            clear hR hwf hb k3 K HWF HB HMV HQ HLP HA2 H2 HM2 hlp hhd hlen HN hn2 hn3 hn4 l1 lb hw hw2 hc hc3
                            go_wp2
                            go_roundg (gk - 1)
                            case measure => omega
                            case rel => exact ⟨m + 1, by omega, by omega, x', N + 1, by omega, HB', HWF', HQ', HLP', HA', H2', HM', K4⟩
                          · have hn3 : decide ((n : Int) < 2) = false := decide_eq_false (by omega)
                            have hn4 : ¬ (n : Int) < 2 := by omega
                            go_wp2_with fail
                            go_roundg (4 - g)
                            case measure => omega
                            case rel => exact ⟨g + 1, by omega, by omega, by go_num, x, N, by omega, HB, HWF, HQ, HLP, HA2, Lib.hid (fun t ht htf => by
                              by_cases e : t = g
                              · subst e; rw [HN.out]; omega
                              · exact H2.out t (by omega) htf), K⟩
                    · obtain rfl : g = 4 := by omega
                      have hmv := mv HWF.out (by omega) K.out.hs.right 1 0 0
                      rw [HB.out] at hmv
                      have HM := Lib.hid hmv
                      clear hmv
                      go_wp2_with fail
                      refine HM.out.mono ?_
                      rintro er w3 ⟨rfl, x', hR, hwf, hb, k3⟩
                      have HWF' := Lib.hid hwf
                      have HB' : Hid (x'.b = WB) := Lib.hid (hb.trans HB.out)
                      have HQ' : Hid (x'.Q = Q0) := Lib.hid (hR.Q.trans HQ.out)
                      have HLP' : Hid (Lp x' f p fr kk) := Lib.hid (HLP.out.next HWF.out hwf HA2.out hf4 (by rw [HQ.out]; exact HKQ.out.1) (fun t ht htf => H2.out t ht htf) hR)
                      have K4 : Hid (Sep w [] w3 ([Chunk.blk FB 40 (fours fr), Chunk.blk PB 34 (encP6 p)] ++ x'.chunks)) := Lib.hid ((Sep.frame (K.out.perm List.perm_append_comm) k3).perm List.perm_append_comm)
                      clear hR hwf hb k3 K HWF HB HM HQ HLP HA2 H2
                      go_wp2_with fail
                      go_loopg [16] 5 (fun k i wr => ∃ g : Nat, k + g = 5 ∧ g ≤ 4 ∧ i = .int .i64 g ∧ Hid (Sep w [] wr ([Chunk.blk FB 40 (fours fr), Chunk.blk PB 34 (encP6 p)] ++ x'.chunks)))
                      case atStart => exact ⟨0, by omega, by omega, rfl, K4⟩
                      case round =>
                        clear K4
                        obtain ⟨g, hkg, hg, rfl, K⟩ := hrel
                        by_cases hg4 : g < 4
                        · have hgi : (g : Int) < 4 := by omega
                          by_cases hgf : g = f
                          · have hgfi : (g : Int) = (f : Int) := by rw [hgf]
                            clear hgf
                            go_wp2_with fail
                            go_quiet (fail)
                            go_wp2
                            go_roundg (4 - g)
                            case measure => omega
                            case rel => exact ⟨g + 1, by omega, by omega, by go_num, Lib.hid (K.out.drewN _)⟩
                          · have hgfi : ¬ (g : Int) = (f : Int) := by omega
                            have b0 := Wd.wds (pre := [_, _]) K.out
                            rw [HB'.out] at b0
                            obtain ⟨sg, hsg⟩ : ∃ sg, x'.sent g = sg := ⟨_, rfl⟩
                            obtain ⟨qg, hqg⟩ : ∃ qg, x'.Q g = qg := ⟨_, rfl⟩
                            obtain ⟨fg, hfg⟩ : ∃ fg, fr g = fg := ⟨_, rfl⟩
                            have s1 : wr.cell? ⟨WB, 13 + g, none⟩ = some (.int .i64 sg) := by rw [b0.cell, x'.cS hg4, hsg]
                            have q1 : wr.cell? ⟨WB, 1 + g, none⟩ = some (.int .i64 qg) := by rw [b0.cell, x'.cQ hg4, hqg]
                            have lb := b0.lt
                            have fb := K.out.blk 0 rfl
                            have f1 : wr.cell? ⟨FB, g, none⟩ = some (.int .i64 fg) := by rw [fb.cell, fours_at fr hg4, hfg]
                            have lf := fb.lt
                            have hbd := HLP'.out.bd g hg4 hgf
                            have hse := HWF'.out.se g hg4
                            have hfr := HFR.out g hg4
                            have hqb := HQB.out g hg4
                            have hkk := HKQ.out.2
                            rw [hsg] at hbd hse
                            rw [hqg] at hbd
                            rw [hfg] at hbd hfr
                            rw [← HQ'.out, hqg] at hqb
                            have hk1 := mul_bd (S := 2048) (T := 1000) hkk.1 hkk.2 (by omega : 0 ≤ qg) hqb.2
                            obtain ⟨v, hv⟩ : ∃ v, kk * qg = v := ⟨_, rfl⟩
                            obtain ⟨y, hy⟩ : ∃ y, sg - fg = y := ⟨_, rfl⟩
                            rw [hv] at hbd hk1
                            rw [hy] at hbd
                            have u1 : IntKind.i64.wrap v = v := wrapy (by omega) (by omega)
                            have u2 : IntKind.i64.wrap (v + 65536) = v + 65536 := wrapy (by omega) (by omega)
                            have u3 : IntKind.i64.wrap y = y := wrapy (by omega) (by omega)
                            have u4 : decide (v + 65536 ≤ y) = false := decide_eq_false (by omega)
                            clear hbd hse hfr hqb hkk hk1 b0 fb hsg hqg hfg hgf
                            go_wp2_with fail
                            go_quiet (fail)
                            go_wp2
                            go_roundg (4 - g)
                            case measure => omega
                            case rel => exact ⟨g + 1, by omega, by omega, by go_num, Lib.hid (K.out.drewN _)⟩
                        · obtain rfl : g = 4 := by omega
                          go_wp2
                          go_roundg (3000 - j)
                          case measure => omega
                          case rel => exact ⟨j + 1, by omega, by omega, by go_num, x', N + 1, by omega, HB', HWF', HQ', HLP', K⟩
                · have d4 : (a.f4 == p.f4) = false := by rw [beq_eq_false_iff_ne]; exact e4
                  clear e1 e3 e4
                  go_wp2_with fail
                  go_quiet (fail)
                  go_wp2
                  go_ret
                  exact ⟨rfl, (K.out.drewN _).fr⟩
              · have d3 : (a.f3 == p.f3) = false := by rw [beq_eq_false_iff_ne]; exact e3
                clear e1 e3
                go_wp2_with fail
                go_quiet (fail)
                go_wp2
                go_ret
                exact ⟨rfl, (K.out.drewN _).fr⟩
            · have d1 : (a.f1 == p.f1) = false := by rw [beq_eq_false_iff_ne]; exact e1
              clear e1
              go_wp2_with fail
              go_quiet (fail)
              go_wp2
              go_ret
              exact ⟨rfl, (K.out.drewN _).fr⟩
        · obtain rfl : j = 3000 := by omega
          go_wp2_with fail
          go_quiet (fail)
          go_wp2
          go_ret
          exact ⟨rfl, (K.out.drewN _).fr⟩
end Go.Proofs.Yteojodcdehkejaa
