/- DRRWorst: the walk. -/
import Derived.Test.YteojodcdehkejaaMO2
set_option linter.unusedVariables false
namespace Go.Proofs.Yteojodcdehkejaa
open Go Go.RowKit
attribute [local go_sem] calmQ_normal wide_fn wide_depth Oper.semAt_some run_store_func
theorem wrapv {x : Int} (h1 : -1125899906842624 ≤ x) (h2 : x ≤ 1125899906842624) : IntKind.i64.wrap x = x := by
  rw [IntKind.wrap_i64]; omega
theorem plan_out {w0 w w' : World} {x : Wd} {N f : Nat} {z : Int} {o : Option (List P6)} {e : Ending} (h : Wf x N) (hw : Holds w0 x.dr.chunks) (hf : f < 4) (hz : 1 ≤ z) (hp : PlanR x.dr (some (x.B f)) (x.dr.rows (some (x.B f)) z) 1 o) (hP : planP e w w' o) :
    ∃ (M : Nat) (LV : Value) (SL : List Nat) (EV : Int) (ol : List P6), M < 4 ∧ wl (nz x f z) x.Q 4 = some M ∧ e = .returned (.tuple #[LV, .int .i64 EV]) ∧ OwnS w' 34 6 LV ol.length (ol.flatMap encP6) SL ∧ Gr w [] SL ∧
      (M = f ∧ EV = 170 ∧ ol = [] ∨ M ≠ f ∧ EV = 0 ∧ ∃ (n : Nat) (v : P6), (x.L M).length = n + 1 ∧ (x.L M)[n]? = some v ∧ ol = [v]) := by
  obtain ⟨M, h1, h2, ⟨h3, rfl⟩ | ⟨h3, n, v, h4, h5, rfl⟩⟩ := worst_plan h hw hf hz hp
  · exact ⟨M, .slice none 0 0, [], 170, [], h1, h2, hP, OwnS.nil _ _ _, Gr.nil _ _, .inl ⟨h3, rfl, rfl⟩⟩
  · obtain ⟨v', S, he, ho, hg⟩ := hP
    exact ⟨M, v', S, 0, [v], h1, h2, he, ho, hg, .inr ⟨h3, rfl, n, v, h4, h5, rfl⟩⟩
def tn (n : Nat → Int) : Option Nat → Int
  | none => 0
  | some M => n M
def bn (Q : Nat → Int) : Option Nat → Int
  | none => 1
  | some M => Q M
theorem wl_step (n Q : Nat → Int) (k : Nat) : wl n Q (k + 1) = if 0 < n k ∧ tn n (wl n Q k) * Q k ≤ n k * bn Q (wl n Q k) then some k else wl n Q k := by
  show (match wl n Q k with | none => if 0 < n k then some k else none | some M => if 0 < n k ∧ n M * Q k ≤ n k * Q M then some k else some M) = _
  cases wl n Q k with
  | none =>
    simp only [tn, bn, Int.zero_mul, Int.mul_one]
    by_cases h : 0 < n k
    · rw [if_pos h, if_pos ⟨h, by omega⟩]
    · rw [if_neg h, if_neg (fun hh => h hh.1)]
  | some M => rfl
theorem bytes_bdm {m : Int} : ∀ (l : List P6), (∀ v, v ∈ l → 1 ≤ v.f3 ∧ v.f3 ≤ m) → 0 ≤ bytesOf l ∧ bytesOf l ≤ m * l.length
  | [], _ => by simp [bytes_nil]
  | p :: l, h => by
    have h1 := bytes_bdm l (fun v hv => h v (by simp [hv]))
    have h2 := h p (by simp)
    rw [bytes_cons]
    have e : m * ((p :: l).length : Int) = m * l.length + m := by rw [List.length_cons]; push_cast; rw [Int.mul_add, Int.mul_one]
    rw [e]
    omega
theorem Wf.take_bd {x : Wd} {N : Nat} (h : Wf x N) {s : Nat} (hs : s < 4) (j : Nat) : 0 ≤ bytesOf ((x.L s).take j) ∧ bytesOf ((x.L s).take j) ≤ 1024 * N := by
  have h1 := bytes_bdm (m := 1024) ((x.L s).take j) (fun v hv => by
    have := h.pk s hs v (List.mem_of_mem_take hv)
    have := h.mo
    omega)
  have h2 := h.len s hs
  have h3 : ((x.L s).take j).length ≤ N := by rw [List.length_take]; omega
  omega
theorem nz_bd {x : Wd} {N : Nat} (h : Wf x N) {f s : Nat} (hs : s < 4) {z : Int} (hz : 1 ≤ z) (hz2 : z ≤ 1024) : 0 ≤ nz x f z s ∧ nz x f z s ≤ 1024 * (N + 1) := by
  have h1 := h.take_bd hs (x.L s).length
  rw [List.take_length] at h1
  unfold nz
  split <;> omega
theorem take_one {l : List P6} {j : Nat} {p : P6} (h : l[j]? = some p) : bytesOf (l.take (j + 1)) = bytesOf (l.take j) + p.f3 := by
  rw [List.take_add_one, h, bytes_app]; simp [bytes_one]
set_option maxRecDepth 100000 in
set_option maxHeartbeats 8000000 in
theorem worst_walk (w : World) (q0 q1 q2 q3 : Int) (ao : Option Addr) (len cap : Nat) (hlm : len ≤ maxLen) (hst : MoveRow w ao len) (f0 z0 : Int) :
    Calls Try.prog 7 #[.agg #[.int .i64 q0, .int .i64 q1, .int .i64 q2, .int .i64 q3], .slice ao len cap, .int .i64 f0, .int .i64 z0] w fun e w' => e = .returned (.bool true) ∧ Fr [] w w' := by
  have HST := Lib.hid hst
  unfold maxLen at hlm
  obtain ⟨f, hfe0, hf3⟩ := and_range f0 3 (by omega)
  have hfe : bits .and .i64 f0 3 = (f : Int) := hfe0
  obtain ⟨zn, hzn, hz1, hz2⟩ := and_up z0 1023 (by omega)
  obtain ⟨z, hz⟩ : ∃ z : Int, (zn : Int) = z := ⟨_, rfl⟩
  rw [hz] at hzn
  have HZI : Hid (IntKind.i64.wrap (bits .and .i64 z0 1023 + 1) = z) := Lib.hid (by rw [IntKind.wrap_i64]; unfold wrap64 at hzn; exact hzn)
  have hz1' : 1 ≤ z := by omega
  have hz2' : z ≤ 1024 := by omega
  have HFE := Lib.hid hfe
  have hf4 : f < 4 := by omega
  clear hst hfe0 hfe hzn hz1 hz2 hz zn
  go_enter Try.func7, Try.ntmps7
  go_wp2_with fail
  refine (open_ok _ q0 q1 q2 q3).mono ?_
  rintro er w1 ⟨x, rfl, hwf, hl0, hmo, k1⟩
  have HWF := Lib.hid hwf
  have K1 := Lib.hid (Sep.from ((Fr.refl [] w).alloc (.cells #[.int .i64 q0, .int .i64 q1, .int .i64 q2, .int .i64 q3] 40)) k1)
  clear hwf hl0 hmo k1
  go_wp2_with fail
  refine (told15 _).mono ?_
  rintro er w2 ⟨rfl, f2⟩
  obtain ⟨WB, hWB⟩ : ∃ WB, x.b = WB := ⟨_, rfl⟩
  have HB := Lib.hid hWB
  rw [hWB]
  have K2 := Lib.hid (K1.out.same f2)
  clear hWB f2 K1
  go_upto_block 0 with (fail)
  go_cut [10] (fun s10 wx => ∃ wy, wx = wy ∧ ∃ (x : Wd) (N : Nat), N ≤ 80 ∧ Hid (x.b = WB) ∧ Hid (Wf x N) ∧ Hid (Sep w [] wy x.chunks))
  case first =>
    go_wp2_with fail
    go_loopg [10] (len + 1) (fun k i wr => ∃ j : Nat, k + j = len + 1 ∧ j ≤ len ∧ j ≤ 80 ∧ i = .int .i64 j ∧ ∃ x : Wd, Hid (x.b = WB) ∧ Hid (Wf x j) ∧ Hid (Sep w [] wr x.chunks))
    case atStart => exact ⟨0, by omega, by omega, by omega, rfl, x, HB, HWF, K2⟩
    case round =>
      clear HB HWF K2 x
      obtain ⟨j, hk, hj, hj2, rfl, x, HB, HWF, K⟩ := hrel
      by_cases hjn : j < len
      · by_cases hj3 : j < 80
        · obtain ⟨mb, off, kd, fl, sz, rfl, m1, m2, m3⟩ := HST.out j hjn
          have m4 : wr.cell? ⟨mb, off + j * 3, none⟩ = some (.int .i64 kd) := (K.out.fr.cell (p := ⟨mb, _, none⟩) (mv_lt m1) (by simp)).trans m1
          have m5 : wr.cell? ⟨mb, off + j * 3 + 1, none⟩ = some (.int .i64 fl) := by rw [Nat.add_assoc]; exact (K.out.fr.cell (p := ⟨mb, _, none⟩) (mv_lt m2) (by simp)).trans m2
          have m6 : wr.cell? ⟨mb, off + j * 3 + 2, none⟩ = some (.int .i64 sz) := by rw [Nat.add_assoc]; exact (K.out.fr.cell (p := ⟨mb, _, none⟩) (mv_lt m3) (by simp)).trans m3
          have hjl : (j : Int) < len := by omega
          have hj4 : (j : Int) < 80 := by omega
          have hmv := mv HWF.out (by omega) K.out.hs kd fl sz
          rw [HB.out] at hmv
          have HM := Lib.hid hmv
          clear hmv m1 m2 m3
          go_wp2_with fail
          refine HM.out.mono ?_
          rintro er w3 ⟨rfl, x', hR, hwf, hb, k3⟩
          have HWF' := Lib.hid hwf
          have HB' : Hid (x'.b = WB) := Lib.hid (hb.trans HB.out)
          have K4 := Lib.hid (K.out.next k3)
          clear hR hwf hb k3 K HWF HB HM m4 m5 m6 x
          go_wp2
          go_roundg (gk - 1)
          case measure => omega
          case rel => exact ⟨j + 1, by omega, by omega, by omega, by go_num, x', HB', HWF', K4⟩
        · obtain rfl : j = 80 := by omega
          have hjl : (80 : Int) < len := by omega
          go_wp2
          go_meet
          exact ⟨_, rfl, x, 80, by omega, HB, HWF, K⟩
      · obtain rfl : j = len := by omega
        go_wp2
        go_meet
        exact ⟨_, rfl, x, j, hj2, HB, HWF, K⟩
  case rest =>
    clear HB HWF K2 x
    obtain ⟨wy, hwx, x, N, hN, HB, HWF, KW⟩ := hcut
    rw [hwx]
    clear hwx
    have hfe := HFE.out
    have hfi : (f : Int) < 4 := by omega
    go_wp2_with fail
    clear hfe
    go_upto_region 10 with (fail)
    go_cut [11] (fun s11 wx => ∃ P, s11 = .pointer (some ⟨P, 0, none⟩) ∧ ∃ wz, wx = wz ∧ Hid (Sep w [] wz ([Chunk.blk P 34 (encP6 (x.pkt f z))] ++ x.chunks)))
    case first =>
      have cells : ∀ X : World, Blk X x.b 52 x.cells → X.cell? ⟨WB, 17, none⟩ = some (.int .i64 x.seq) := fun X h1 => by rw [HB.out] at h1; exact h1.cell 17
      have HC := Lib.hid cells
      clear cells
      have lb := (Wd.wds (pre := []) KW.out).lt
      rw [HB.out] at lb
      have hz : IntKind.i64.wrap (bits .and .i64 z0 1023 + 1) = z := HZI.out
      have hsq : IntKind.i64.wrap (x.seq + 1) = x.seq + 1 := wrapv (by have := HWF.out.sq; omega) (by have := HWF.out.sq; omega)
      refine wp_T [13] (fun X => X.cell? ⟨WB, 17, none⟩ = some (.int .i64 x.seq)) (by kernel_rfl) (fun hC => ?_) (HC.out _ (Wd.wds (pre := []) KW.out.drew))
      refine wpAnyT_takeP' 0 (by kernel_rfl) (fun _ _ _ h => h) (by assumption) (by rfl) (fun w => by simp only [List.getD_cons_zero]; go_simp; try with_reducible rfl) ?_
      try simp only [List.getD_cons_zero, Act.put, List.setIfInBounds_toArray, List.set_cons_zero, List.set_cons_succ]
      refine wpAnyT_takeP' 1 (by kernel_rfl) (fun _ _ _ h => h) (by assumption) (by rfl) (fun w => by simp only [List.getD_cons_succ, List.getD_cons_zero]; go_simp; try with_reducible rfl) ?_
      try simp only [List.getD_cons_succ, List.getD_cons_zero, Act.put, List.setIfInBounds_toArray, List.set_cons_zero, List.set_cons_succ]
      refine wpAnyT_takeP' 3 (by kernel_rfl) (fun _ _ _ h => h) (by assumption) (by rfl) (fun w => by simp only [List.getD_cons_succ, List.getD_cons_zero]; go_simp; try with_reducible rfl) ?_
      try simp only [List.getD_cons_succ, List.getD_cons_zero, Act.put, List.setIfInBounds_toArray, List.set_cons_zero, List.set_cons_succ]
      refine wpAnyT_takeP' 4 (by kernel_rfl) (fun _ _ _ h => h) (by assumption) (by rfl) (fun w => by simp only [List.getD_cons_succ, List.getD_cons_zero]; go_simp; try with_reducible rfl) ?_
      try simp only [List.getD_cons_succ, List.getD_cons_zero, Act.put, List.setIfInBounds_toArray, List.set_cons_zero, List.set_cons_succ]
      refine wpAnyT_takeP' 5 (by kernel_rfl) (fun _ _ _ h => h) (by assumption) (by rfl) (fun w => by simp only [List.getD_cons_succ, List.getD_cons_zero]; go_simp; try with_reducible rfl) ?_
      try simp only [List.getD_cons_succ, List.getD_cons_zero, Act.put, List.setIfInBounds_toArray, List.set_cons_zero, List.set_cons_succ]
      refine wpAnyT_takeP' 6 (by kernel_rfl) (fun _ _ _ h => h) (by assumption) (by rfl) (fun w => by simp only [List.getD_cons_succ, List.getD_cons_zero]; go_simp; try with_reducible rfl) ?_
      try simp only [List.getD_cons_succ, List.getD_cons_zero, Act.put, List.setIfInBounds_toArray, List.set_cons_zero, List.set_cons_succ]
      refine wpAnyT_takeP' 7 (by kernel_rfl) (fun _ _ _ h => h) (by assumption) (by rfl) (fun w => by simp only [List.getD_cons_succ, List.getD_cons_zero]; go_simp; try with_reducible rfl) ?_
      try simp only [List.getD_cons_succ, List.getD_cons_zero, Act.put, List.setIfInBounds_toArray, List.set_cons_zero, List.set_cons_succ]
      refine wpAnyT_takeP' 8 (by kernel_rfl) (fun _ _ _ h => h) (by assumption) (by rfl) (fun w => by simp only [List.getD_cons_succ, List.getD_cons_zero]; go_simp; try with_reducible rfl) ?_
      try simp only [List.getD_cons_succ, List.getD_cons_zero, Act.put, List.setIfInBounds_toArray, List.set_cons_zero, List.set_cons_succ]
      refine wpAnyT_takeM' 9 (by kernel_rfl) (fun _ _ _ h => h) (by assumption) (by rfl) (fun w hSw => by simp only [List.getD_cons_succ, List.getD_cons_zero]; (try dsimp only at hSw); go_simp; try with_reducible rfl) ?_
      try simp only [List.getD_cons_succ, List.getD_cons_zero, Act.put, List.setIfInBounds_toArray, List.set_cons_zero, List.set_cons_succ]
      refine wpAnyT_takeP' 10 (by kernel_rfl) (fun _ _ _ h => h) (by assumption) (by rfl) (fun w => by simp only [List.getD_cons_succ, List.getD_cons_zero]; go_simp; try with_reducible rfl) ?_
      try simp only [List.getD_cons_succ, List.getD_cons_zero, Act.put, List.setIfInBounds_toArray, List.set_cons_zero, List.set_cons_succ]
      refine wpAnyT_two' 2 12 (by kernel_rfl) (by rfl) (by rfl) ?two2 ?two12
      all_goals intro K hK
      all_goals simp only [List.getD_cons_succ, List.getD_cons_zero]
      · go_simp
        have hwh := whandle (g := x.G f) (Wd.wds (pre := []) KW.out.drew) hf4 (Wd.cG _ hf4)
        rw [HB.out] at hwh
        refine hwh.mono ?_
        rintro er W1 ⟨rfl, f1⟩
        have K2 := Lib.hid (KW.out.drew.same f1)
        have hC2 := HC.out _ (Wd.wds (pre := []) K2.out)
        clear f1 KW hC lb hwh
        refine hK.out _ _ hC2 ?_
        clear hK
        have hC := hC2
        clear hC2
        try simp only [Act.put, List.setIfInBounds_toArray, List.set_cons_zero, List.set_cons_succ]
        refine wpAnyT_takeP' 11 (by kernel_rfl) (fun _ _ _ h => h) (by assumption) (by rfl) (fun w => by simp only [List.getD_cons_succ, List.getD_cons_zero]; go_simp; try with_reducible rfl) ?_
        try simp only [List.getD_cons_succ, List.getD_cons_zero, Act.put, List.setIfInBounds_toArray, List.set_cons_zero, List.set_cons_succ]
        refine wpAnyT_one' 12 (by kernel_rfl) (by rfl) (fun K hK => ?_)
        simp only [List.getD_cons_succ, List.getD_cons_zero]
        go_simp
        have K3 := Lib.hid ((K2.out.alloc 34 (encP6 zerop6)).perm List.perm_append_comm)
        have hC2 := HC.out _ (Wd.wds (pre := [_]) K3.out)
        refine hK.out _ _ hC2 ?_
        clear hK hC hC2 K2 HC
        try simp only [Act.put, List.setIfInBounds_toArray, List.set_cons_zero, List.set_cons_succ]
        refine wpAnyT_last 13 rfl (by kernel_rfl) ?_
        simp only [List.drop_succ_cons, List.drop_zero]
        obtain ⟨P, hP⟩ : ∃ P, W1.heap.size = P := ⟨_, rfl⟩
        rw [hP] at K3 ⊢
        clear hP hz hsq
        have BP := K3.out.blk 0 (b := P) (t := 34) (vs := encP6 zerop6) rfl
        refine wpList_store_S rfl _ (.tmp 11) (.tmp 60) rfl P 0 34 (encP6 zerop6) (encP6 (x.pkt f z)) ?h1 ?h2 BP (by kernel_rfl) (by simp [encP6]) (fun u hu => one_p6 [x.pkt f z] u (by simpa using hu)) ?_
        case h1 => rfl
        case h2 => (go_simp; first | done | rfl)
        intro W4 b6 f6 z6
        have K4 := Lib.hid (K3.out.call1' 0 rfl (Sep.of_one (c := Chunk.blk P 34 (encP6 (x.pkt f z))) f6 b6 (Gr.refl _ _)))
        clear b6 f6 z6 BP K3
        go_wp2
        rw [onlyN_normal]
        go_wp2
        go_meet
        exact ⟨P, rfl, _, rfl, K4⟩
      · go_simp
        have K2 := Lib.hid (((KW.out.alloc 34 (encP6 zerop6)).drew).perm List.perm_append_comm)
        have hC2 := HC.out _ (Wd.wds (pre := [_]) K2.out)
        refine hK.out _ _ hC2 ?_
        clear hK hC lb
        have hC := hC2
        clear hC2
        try simp only [Act.put, List.setIfInBounds_toArray, List.set_cons_zero, List.set_cons_succ]
        refine wpAnyT_one' 2 (by kernel_rfl) (by rfl) (fun K hK => ?_)
        simp only [List.getD_cons_succ, List.getD_cons_zero]
        go_simp
        have hwh := whandle (g := x.G f) (Wd.wds (pre := [_]) K2.out) hf4 (Wd.cG _ hf4)
        rw [HB.out] at hwh
        refine hwh.mono ?_
        rintro er W1 ⟨rfl, f1⟩
        have K3 := Lib.hid (K2.out.same f1)
        have hC2 := HC.out _ (Wd.wds (pre := [_]) K3.out)
        refine hK.out _ _ hC2 ?_
        clear hK hC f1 KW K2 HC hwh
        try simp only [Act.put, List.setIfInBounds_toArray, List.set_cons_zero, List.set_cons_succ]
        refine wpAnyT_takeP' 11 (by kernel_rfl) (fun _ _ _ h => h) (by assumption) (by rfl) (fun w => by simp only [List.getD_cons_succ, List.getD_cons_zero]; go_simp; try with_reducible rfl) ?_
        try simp only [List.getD_cons_succ, List.getD_cons_zero, Act.put, List.setIfInBounds_toArray, List.set_cons_zero, List.set_cons_succ]
        refine wpAnyT_last 13 rfl (by kernel_rfl) ?_
        simp only [List.drop_succ_cons, List.drop_zero]
        clear hC2
        obtain ⟨P, hP⟩ : ∃ P, wy.heap.size = P := ⟨_, rfl⟩
        rw [hP] at K3 ⊢
        clear hP hz hsq
        have BP := K3.out.blk 0 (b := P) (t := 34) (vs := encP6 zerop6) rfl
        refine wpList_store_S rfl _ (.tmp 11) (.tmp 60) rfl P 0 34 (encP6 zerop6) (encP6 (x.pkt f z)) ?h1 ?h2 BP (by kernel_rfl) (by simp [encP6]) (fun u hu => one_p6 [x.pkt f z] u (by simpa using hu)) ?_
        case h1 => rfl
        case h2 => (go_simp; first | done | rfl)
        intro W4 b6 f6 z6
        have K4 := Lib.hid (K3.out.call1' 0 rfl (Sep.of_one (c := Chunk.blk P 34 (encP6 (x.pkt f z))) f6 b6 (Gr.refl _ _)))
        clear b6 f6 z6 BP K3
        go_wp2
        rw [onlyN_normal]
        go_wp2
        go_meet
        exact ⟨P, rfl, _, rfl, K4⟩
    case rest =>
      clear KW
      obtain ⟨PB, rfl, wz, hwz, K⟩ := hcut
      rw [hwz]
      clear hwz
      have hok : x.dr.Ok (x.pkt f z) (x.idx f) := ⟨HWF.out.look hf4, hz1', by show z ≤ 65536; omega, by show x.seq < x.seq + 1; omega, Int.le_refl _, by show (0 : Int) ≤ 4611686018427387904; omega⟩
      have hdr : Holds wz x.dr.chunks := (show Holds wz (x.wch ++ x.dr.chunks) from K.out.hs.right).right
      have HDR := Lib.hid hdr
      have HPL : Hid (∀ X, Fr [] wz X → Calls Try.prog 21 #[.pointer (some ⟨x.db, 0, none⟩), .agg #[.int .i64 f, .int .i64 (x.G f), .int .i64 0, .int .i64 z, .int .i64 (x.seq + 1), .int .i64 0], .int .i64 1] X fun e w' => ∃ o, PlanR x.dr (some (x.B f)) (x.dr.rows (some (x.B f)) z) 1 o ∧ planP e X w' o ∧ Fr [] X w') :=
        Lib.hid (fun X fX => dplan (hdr.fr' fX (by simp)) hok (HWF.out.at_ hf4) HWF.out.flsok 1 ⟨by omega, by omega⟩ (HWF.out.rows_le _ _ (by omega)))
      have cells : ∀ X : World, Blk X x.b 52 x.cells → Blk X PB 34 (encP6 (x.pkt f z)) → X.cell? ⟨WB, 0, none⟩ = some (.pointer (some ⟨x.db, 0, none⟩)) ∧ X.cell? ⟨PB, 0, none⟩ = some (.int .i64 f) ∧ X.cell? ⟨PB, 1, none⟩ = some (.int .i64 (x.G f)) ∧ X.cell? ⟨PB, 2, none⟩ = some (.int .i64 0) ∧ X.cell? ⟨PB, 3, none⟩ = some (.int .i64 z) ∧ X.cell? ⟨PB, 4, none⟩ = some (.int .i64 (x.seq + 1)) ∧ X.cell? ⟨PB, 5, none⟩ = some (.int .i64 0) :=
        fun X h1 h2 => ⟨by rw [HB.out] at h1; exact h1.cell 0, h2.cell 0, h2.cell 1, h2.cell 2, h2.cell 3, h2.cell 4, h2.cell 5⟩
      have HC := Lib.hid cells
      have hC0 := cells wz (Wd.wds (pre := [_]) K.out) (K.out.blk 0 rfl)
      clear cells hok hdr
      have lb := (Wd.wds (pre := [_]) K.out).lt
      rw [HB.out] at lb
      have lP := (K.out.blk 0 rfl).lt
      have KW := K
      clear K
      go_wp2_with fail
      refine wp_T [9] (fun X => X.cell? ⟨WB, 0, none⟩ = some (.pointer (some ⟨x.db, 0, none⟩)) ∧ X.cell? ⟨PB, 0, none⟩ = some (.int .i64 f) ∧ X.cell? ⟨PB, 1, none⟩ = some (.int .i64 (x.G f)) ∧ X.cell? ⟨PB, 2, none⟩ = some (.int .i64 0) ∧ X.cell? ⟨PB, 3, none⟩ = some (.int .i64 z) ∧ X.cell? ⟨PB, 4, none⟩ = some (.int .i64 (x.seq + 1)) ∧ X.cell? ⟨PB, 5, none⟩ = some (.int .i64 0)) (by kernel_rfl) (fun hC => ?_) hC0
      clear hC0
      refine wpAnyT_takeP' 0 (by kernel_rfl) (fun _ _ _ h => h) (by assumption) (by rfl) (fun w => by simp only [List.getD_cons_zero]; go_simp; try with_reducible rfl) ?_
      try simp only [List.getD_cons_zero, Act.put, List.setIfInBounds_toArray, List.set_cons_zero, List.set_cons_succ]
      refine wpAnyT_takeP' 1 (by kernel_rfl) (fun _ _ _ h => h) (by assumption) (by rfl) (fun w => by simp only [List.getD_cons_succ, List.getD_cons_zero]; go_simp; try with_reducible rfl) ?_
      try simp only [List.getD_cons_succ, List.getD_cons_zero, Act.put, List.setIfInBounds_toArray, List.set_cons_zero, List.set_cons_succ]
      refine wpAnyT_takeP' 2 (by kernel_rfl) (fun _ _ _ h => h) (by assumption) (by rfl) (fun w => by simp only [List.getD_cons_succ, List.getD_cons_zero]; go_simp; try with_reducible rfl) ?_
      try simp only [List.getD_cons_succ, List.getD_cons_zero, Act.put, List.setIfInBounds_toArray, List.set_cons_zero, List.set_cons_succ]
      refine wpAnyT_takeM' 3 (by kernel_rfl) (fun _ _ _ h => h) (by assumption) (by rfl) (fun w hSw => by simp only [List.getD_cons_succ, List.getD_cons_zero]; (try dsimp only at hSw); go_simp; try with_reducible rfl) ?_
      try simp only [List.getD_cons_succ, List.getD_cons_zero, Act.put, List.setIfInBounds_toArray, List.set_cons_zero, List.set_cons_succ]
      refine wpAnyT_takeM' 4 (by kernel_rfl) (fun _ _ _ h => h) (by assumption) (by rfl) (fun w hSw => by simp only [List.getD_cons_succ, List.getD_cons_zero]; (try dsimp only at hSw); go_simp; try with_reducible rfl) ?_
      try simp only [List.getD_cons_succ, List.getD_cons_zero, Act.put, List.setIfInBounds_toArray, List.set_cons_zero, List.set_cons_succ]
      refine wpAnyT_one' 5 (by kernel_rfl) (by rfl) (fun K hK => ?_)
      simp only [List.getD_cons_succ, List.getD_cons_zero]
      go_simp
      refine (HPL.out _ (Fr.refl _ _).drew).mono ?_
      rintro er W1 ⟨o, hPR, hPP, f1⟩
      obtain ⟨M, LV, SL, EV, ol, hM4, hwl, rfl, hown, hgr, hor⟩ := plan_out HWF.out HDR.out hf4 hz1' hPR hPP
      have K2 := Lib.hid ((KW.out.drew.call0 (Sep.of_one0 (c := Chunk.own 34 6 LV ol.length (ol.flatMap encP6) SL) f1 hown hgr)).perm List.perm_append_comm)
      have hC2 := HC.out _ (Wd.wds (pre := [_, _]) K2.out) (K2.out.blk 1 rfl)
      have HWL := Lib.hid hwl
      have HOR := Lib.hid hor
      clear hPR hPP f1 hown hgr KW hwl hor
      refine hK.out _ _ hC2 ?_
      clear hK hC lb
      have hC := hC2
      clear hC2
      try simp only [Act.put, List.setIfInBounds_toArray, List.set_cons_zero, List.set_cons_succ]
      refine wpAnyT_takeP' 6 (by kernel_rfl) (fun _ _ _ h => h) (by assumption) (by rfl) (fun w => by simp only [List.getD_cons_succ, List.getD_cons_zero]; go_simp; try with_reducible rfl) ?_
      try simp only [List.getD_cons_succ, List.getD_cons_zero, Act.put, List.setIfInBounds_toArray, List.set_cons_zero, List.set_cons_succ]
      refine wpAnyT_takeP' 7 (by kernel_rfl) (fun _ _ _ h => h) (by assumption) (by rfl) (fun w => by simp only [List.getD_cons_succ, List.getD_cons_zero]; go_simp; try with_reducible rfl) ?_
      try simp only [List.getD_cons_succ, List.getD_cons_zero, Act.put, List.setIfInBounds_toArray, List.set_cons_zero, List.set_cons_succ]
      refine wpAnyT_takeP' 8 (by kernel_rfl) (fun _ _ _ h => h) (by assumption) (by rfl) (fun w => by simp only [List.getD_cons_succ, List.getD_cons_zero]; go_simp; try with_reducible rfl) ?_
      try simp only [List.getD_cons_succ, List.getD_cons_zero, Act.put, List.setIfInBounds_toArray, List.set_cons_zero, List.set_cons_succ]
      refine wpAnyT_last 9 rfl (by kernel_rfl) ?_
      simp only [List.drop_succ_cons, List.drop_zero]
      clear hC HC HPL HDR lP
      go_wp2
      rw [onlyN_normal]
      have hof := Lib.hid (fun X => of_ok X (n := 0) (by omega))
      go_wp2_with fail
      refine (hof.out _).mono ?_
      rintro er W2 ⟨tv, ST, rfl, ⟨tg, tc, rfl, ho⟩, hg, f2⟩
      have K3 := Lib.hid ((K2.out.call0 (Sep.of_one0 (c := Chunk.own 66 1 (.slice (some ⟨tg, 0, none⟩) (dig 0).length tc) (dig 0).length (dcells (dig 0)) ST) f2 ho hg)).perm List.perm_append_comm)
      have K4 := Lib.hid ((K3.out.alloc 64 [.slice (some ⟨tg, 0, none⟩) (dig 0).length tc]).perm List.perm_append_comm)
      obtain ⟨TB, hTB⟩ : ∃ TB, W2.heap.size = TB := ⟨_, rfl⟩
      rw [hTB] at K4
      clear hof ho hg f2 K2 K3
      go_wp2_with fail
      clear hTB
      go_loopg [14, 16, 17] 5 (fun k s14 s16 s17 wr => ∃ (g t b tg tc : Nat) (ST : List Nat), k + g = 5 ∧ g ≤ 4 ∧ s17 = .int .i64 g ∧ s14 = .int .i64 (pv (wl (nz x f z) x.Q g)) ∧ s16 = .int .i64 b ∧ Hid ((t : Int) = tn (nz x f z) (wl (nz x f z) x.Q g)) ∧ Hid ((b : Int) = bn x.Q (wl (nz x f z) x.Q g)) ∧ t ≤ 82944 ∧ 1 ≤ b ∧ b ≤ 1000 ∧ Hid (Sep w [] wr ([Chunk.blk TB 64 [.slice (some ⟨tg, 0, none⟩) (dig t).length tc], Chunk.own 66 1 (.slice (some ⟨tg, 0, none⟩) (dig t).length tc) (dig t).length (dcells (dig t)) ST, Chunk.own 34 6 LV ol.length (ol.flatMap encP6) SL, Chunk.blk PB 34 (encP6 (x.pkt f z))] ++ x.chunks)))
      case atStart => exact ⟨0, 0, 1, tg, tc, ST, by omega, by omega, rfl, rfl, rfl, Lib.hid rfl, Lib.hid rfl, by omega, by omega, by omega, K4⟩
      case round =>
        clear K4
        obtain ⟨g, t, b, tg, tc, ST, hk, hg, rfl, rfl, rfl, HT, HBY, ht, hb1, hb2, K⟩ := hrel
        by_cases hg4 : g < 4
        · have hgi : (g : Int) < 4 := by omega
          obtain ⟨s14, hs14⟩ : ∃ s14, pv (wl (nz x f z) x.Q g) = s14 := ⟨_, rfl⟩
          have HS14 := Lib.hid hs14
          rw [hs14]
          clear hs14
          have b0 := Wd.wds (pre := [_, _, _, _]) K.out
          rw [HB.out] at b0
          have R0 := Wd.rowf (pre := [_, _, _, _]) K.out hg4
          obtain ⟨va, ca, hva, -⟩ := R0.val
          obtain ⟨n, hn⟩ : ∃ n, (x.L g).length = n := ⟨_, rfl⟩
          have HLN := Lib.hid hn
          have l1 : wr.cell? ⟨WB, 5 + g, none⟩ = some (.slice va n ca) := by rw [b0.cell, x.cV hg4, hva, hn]
          have lb := b0.lt
          rw [hva, hn] at R0
          have HR0 := Lib.hid R0
          have hnN : n ≤ 80 := by have := HWF.out.len g hg4; omega
          clear b0 R0 hva hn
          go_wp2_with fail
          go_loopg [18, 19] (n + 1) (fun k s18 s19 wr => ∃ j : Nat, k + j = n + 1 ∧ j ≤ n ∧ s19 = .int .i64 j ∧ s18 = .int .i64 (bytesOf ((x.L g).take j)) ∧ Hid (Sep w [] wr ([Chunk.blk TB 64 [.slice (some ⟨tg, 0, none⟩) (dig t).length tc], Chunk.own 66 1 (.slice (some ⟨tg, 0, none⟩) (dig t).length tc) (dig t).length (dcells (dig t)) ST, Chunk.own 34 6 LV ol.length (ol.flatMap encP6) SL, Chunk.blk PB 34 (encP6 (x.pkt f z))] ++ x.chunks)))
          case atStart => exact ⟨0, by omega, by omega, rfl, rfl, K⟩
          case round =>
            clear K l1 lb HR0
            obtain ⟨j, hkj, hj, rfl, rfl, K⟩ := hrel
            have b0 := Wd.wds (pre := [_, _, _, _]) K.out
            rw [HB.out] at b0
            have R0 := Wd.rowf (pre := [_, _, _, _]) K.out hg4
            obtain ⟨va, ca, hva, -⟩ := R0.val
            have hn := HLN.out
            have l1 : wr.cell? ⟨WB, 5 + g, none⟩ = some (.slice va n ca) := by rw [b0.cell, x.cV hg4, hva, hn]
            have lb := b0.lt
            rw [hva, hn] at R0
            obtain ⟨sm, hsm⟩ : ∃ sm, bytesOf ((x.L g).take j) = sm := ⟨_, rfl⟩
            have hbd := HWF.out.take_bd hg4 j
            rw [hsm] at hbd
            rw [hsm]
            by_cases hjn : j < n
            · have hji : (j : Int) < n := by omega
              obtain ⟨v, hv⟩ : ∃ v, (x.L g)[j]? = some v := ⟨(x.L g)[j]'(by omega), by simp⟩
              obtain ⟨gb, off, rfl, -, lg, fa⟩ := R0.at_ hv
              have c3 : wr.cell? ⟨gb, off + (j * 6 + 3), none⟩ = some (.int .i64 v.f3) := fa 3 (by omega)
              have c3 : wr.cell? ⟨gb, off + j * 6 + 3, none⟩ = some (.int .i64 v.f3) := by rw [Nat.add_assoc]; exact c3
              have hbd2 := HWF.out.take_bd hg4 (j + 1)
              rw [take_one hv, hsm] at hbd2
              have hw : IntKind.i64.wrap (sm + v.f3) = sm + v.f3 := wrapv (by omega) (by omega)
              have HS2 : Hid (bytesOf ((x.L g).take (j + 1)) = sm + v.f3) := Lib.hid (by rw [take_one hv, hsm])
              clear fa hv b0 R0 hva hn hsm
              go_wp2_with fail
              go_roundg (n - j)
              case measure => omega
              case rel => exact ⟨j + 1, by omega, by omega, by go_num, by rw [HS2.out], K⟩
            · obtain rfl : j = n := by omega
              have hsm2 : bytesOf (x.L g) = sm := by rw [← hsm, List.take_of_length_le (by omega)]
              have HSM := Lib.hid hsm2
              have p3 : wr.cell? ⟨PB, 3, none⟩ = some (.int .i64 z) := (K.out.blk 3 rfl).cell 3
              have lP := (K.out.blk 3 rfl).lt
              have hnb := nz_bd (f := f) HWF.out hg4 hz1' hz2'
              obtain ⟨nn, hnn⟩ : ∃ nn : Nat, nz x f z g = nn := ⟨(nz x f z g).toNat, by omega⟩
              rw [hnn] at hnb
              have hnn2 : (nn : Int) = sm + (if g = f then z else 0) := by rw [← hnn, ← hsm2]; rfl
              have HNN := Lib.hid hnn
              clear b0 R0 hva hn hsm hsm2 hnn
              go_upto_region 23 with (fail)
              by_cases hgf : g = f
              · have hgfi : (g : Int) = (f : Int) := by rw [hgf]
                rw [if_pos hgf] at hnn2
                have hw : IntKind.i64.wrap (sm + z) = nn := by rw [hnn2]; exact wrapv (by omega) (by omega)
                clear hgf hnn2
                go_wp2_with fail
                clear hgfi hw
                clear l1 p3 lP
                have hnn3 : nn ≤ 82944 := by omega
                clear hnb
                obtain ⟨qn, hqn⟩ : ∃ qn : Nat, x.Q g = qn := ⟨(x.Q g).toNat, by have := HWF.out.q g hg4; omega⟩
                have hq := HWF.out.q g hg4
                rw [hqn] at hq
                have hq1 : 1 ≤ qn := by omega
                have hq2 : qn ≤ 1000 := by omega
                have b0 := Wd.wds (pre := [_, _, _, _]) K.out
                rw [HB.out] at b0
                have c1 : wr.cell? ⟨WB, 1 + g, none⟩ = some (.int .i64 qn) := by rw [b0.cell, x.cQ hg4, hqn]
                have lb := b0.lt
                have c0 : wr.cell? ⟨TB, 0, none⟩ = some (.slice (some ⟨tg, 0, none⟩) (dig t).length tc) := (K.out.blk 0 rfl).cell 0
                have lt_ := (K.out.blk 0 rfl).lt
                have hto := K.out.own 1 rfl
                have HQN := Lib.hid hqn
                have HTO := Lib.hid (fun X (fX : Fr [] wr X) => hto.fr fX (by simp))
                have HC := Lib.hid (fun X (fX : Fr [] wr X) => And.intro ((fX.cell (p := ⟨TB, 0, none⟩) lt_ (by simp)).trans c0) ((fX.cell (p := ⟨WB, 1 + g, none⟩) lb (by simp)).trans c1))
                have hnb2 : nn * b < 4294967296 := Nat.lt_of_le_of_lt (Nat.mul_le_mul hnn3 hb2) (by omega)
                have htq2 : t * qn < 4294967296 := Nat.lt_of_le_of_lt (Nat.mul_le_mul ht hq2) (by omega)
                have uu1 : IntKind.u64.wrap (nn : Int) = nn := u64w (by omega)
                have uu2 : IntKind.u64.wrap (b : Int) = b := u64w (by omega)
                have uu3 : IntKind.u64.wrap (qn : Int) = qn := u64w (by omega)
                clear b0 hq hqn hto
                have KW := K
                clear K
                refine wp_T [18] (fun X => X.cell? ⟨TB, 0, none⟩ = some (.slice (some ⟨tg, 0, none⟩) (dig t).length tc) ∧ X.cell? ⟨WB, 1 + g, none⟩ = some (.int .i64 qn)) (by kernel_rfl) (fun hC => ?_) ⟨c0, c1⟩
                clear c0 c1
                refine wpAnyT_takeP' 0 (by kernel_rfl) (fun _ _ _ h => h) (by assumption) (by rfl) (fun w => by simp only [List.getD_cons_zero]; go_simp; try with_reducible rfl) ?_
                try simp only [List.getD_cons_zero, Act.put, List.setIfInBounds_toArray, List.set_cons_zero, List.set_cons_succ]
                refine wpAnyT_takeP' 1 (by kernel_rfl) (fun _ _ _ h => h) (by assumption) (by rfl) (fun w => by simp only [List.getD_cons_succ, List.getD_cons_zero]; go_simp; try with_reducible rfl) ?_
                try simp only [List.getD_cons_succ, List.getD_cons_zero, Act.put, List.setIfInBounds_toArray, List.set_cons_zero, List.set_cons_succ]
                refine wpAnyT_takeP' 3 (by kernel_rfl) (fun _ _ _ h => h) (by assumption) (by rfl) (fun w => by simp only [List.getD_cons_succ, List.getD_cons_zero]; go_simp; try with_reducible rfl) ?_
                try simp only [List.getD_cons_succ, List.getD_cons_zero, Act.put, List.setIfInBounds_toArray, List.set_cons_zero, List.set_cons_succ]
                refine wpAnyT_takeP' 4 (by kernel_rfl) (fun _ _ _ h => h) (by assumption) (by rfl) (fun w => by simp only [List.getD_cons_succ, List.getD_cons_zero]; go_simp; try with_reducible rfl) ?_
                try simp only [List.getD_cons_succ, List.getD_cons_zero, Act.put, List.setIfInBounds_toArray, List.set_cons_zero, List.set_cons_succ]
                refine wpAnyT_takeM' 7 (by kernel_rfl) (fun _ _ _ h => h) (by assumption) (by rfl) (fun w hSw => by simp only [List.getD_cons_succ, List.getD_cons_zero]; (try dsimp only at hSw); go_simp; try with_reducible rfl) ?_
                try simp only [List.getD_cons_succ, List.getD_cons_zero, Act.put, List.setIfInBounds_toArray, List.set_cons_zero, List.set_cons_succ]
                refine wpAnyT_takeP' 8 (by kernel_rfl) (fun _ _ _ h => h) (by assumption) (by rfl) (fun w => by simp only [List.getD_cons_succ, List.getD_cons_zero]; go_simp; try with_reducible rfl) ?_
                try simp only [List.getD_cons_succ, List.getD_cons_zero, Act.put, List.setIfInBounds_toArray, List.set_cons_zero, List.set_cons_succ]
                refine wpAnyT_takeP' 9 (by kernel_rfl) (fun _ _ _ h => h) (by assumption) (by rfl) (fun w => by simp only [List.getD_cons_succ, List.getD_cons_zero]; go_simp; try with_reducible rfl) ?_
                try simp only [List.getD_cons_succ, List.getD_cons_zero, Act.put, List.setIfInBounds_toArray, List.set_cons_zero, List.set_cons_succ]
                refine wpAnyT_takeP' 10 (by kernel_rfl) (fun _ _ _ h => h) (by assumption) (by rfl) (fun w => by simp only [List.getD_cons_succ, List.getD_cons_zero]; go_simp; try with_reducible rfl) ?_
                try simp only [List.getD_cons_succ, List.getD_cons_zero, Act.put, List.setIfInBounds_toArray, List.set_cons_zero, List.set_cons_succ]
                refine wpAnyT_takeP' 11 (by kernel_rfl) (fun _ _ _ h => h) (by assumption) (by rfl) (fun w => by simp only [List.getD_cons_succ, List.getD_cons_zero]; go_simp; try with_reducible rfl) ?_
                try simp only [List.getD_cons_succ, List.getD_cons_zero, Act.put, List.setIfInBounds_toArray, List.set_cons_zero, List.set_cons_succ]
                refine wpAnyT_takeP' 12 (by kernel_rfl) (fun _ _ _ h => h) (by assumption) (by rfl) (fun w => by simp only [List.getD_cons_succ, List.getD_cons_zero]; go_simp; try with_reducible rfl) ?_
                try simp only [List.getD_cons_succ, List.getD_cons_zero, Act.put, List.setIfInBounds_toArray, List.set_cons_zero, List.set_cons_succ]
                refine wpAnyT_takeM' 13 (by kernel_rfl) (fun _ _ _ h => h) (by assumption) (by rfl) (fun w hSw => by simp only [List.getD_cons_succ, List.getD_cons_zero]; (try dsimp only at hSw); go_simp; try with_reducible rfl) ?_
                try simp only [List.getD_cons_succ, List.getD_cons_zero, Act.put, List.setIfInBounds_toArray, List.set_cons_zero, List.set_cons_succ]
                refine wpAnyT_takeP' 14 (by kernel_rfl) (fun _ _ _ h => h) (by assumption) (by rfl) (fun w => by simp only [List.getD_cons_succ, List.getD_cons_zero]; go_simp; try with_reducible rfl) ?_
                try simp only [List.getD_cons_succ, List.getD_cons_zero, Act.put, List.setIfInBounds_toArray, List.set_cons_zero, List.set_cons_succ]
                refine wpAnyT_one' 2 (by kernel_rfl) (by rfl) (fun K hK => ?_)
                simp only [List.getD_cons_succ, List.getD_cons_zero]
                go_simp
                refine (of_ok _ (n := nn) (by omega)).mono ?_
                rintro er W1 ⟨v1, S1, rfl, hv1, hgg1, f1⟩
                have F1 := Lib.hid ((Fr.refl [] wr).drew.trans' f1)
                have N1 := Lib.hid hv1
                refine hK.out _ _ (HC.out _ F1.out) ?_
                clear hK hC f1 hv1 hgg1
                have hC := HC.out _ F1.out
                try simp only [Act.put, List.setIfInBounds_toArray, List.set_cons_zero, List.set_cons_succ]
                refine wpAnyT_one' 5 (by kernel_rfl) (by rfl) (fun K hK => ?_)
                simp only [List.getD_cons_succ, List.getD_cons_zero]
                go_simp
                refine (of_ok _ (n := b) (by omega)).mono ?_
                rintro er W2 ⟨v2, S2, rfl, hv2, hgg2, f2⟩
                have F2 := Lib.hid (F1.out.trans' f2)
                have G2 := Lib.hid f2
                have N2 := Lib.hid hv2
                refine hK.out _ _ (HC.out _ F2.out) ?_
                clear hK hC f2 hv2 hgg2
                have hC := HC.out _ F2.out
                try simp only [Act.put, List.setIfInBounds_toArray, List.set_cons_zero, List.set_cons_succ]
                refine wpAnyT_one' 6 (by kernel_rfl) (by rfl) (fun K hK => ?_)
                simp only [List.getD_cons_succ, List.getD_cons_zero]
                go_simp
                refine (times_ok (N1.out.fr G2.out (by simp)) N2.out hb1 hnb2).mono ?_
                rintro er W3 ⟨v3, S3, rfl, hv3, hgg3, f3⟩
                have F3 := Lib.hid (F2.out.trans' f3)
                have N3 := Lib.hid hv3
                refine hK.out _ _ (HC.out _ F3.out) ?_
                clear hK hC f3 hv3 hgg3
                have hC := HC.out _ F3.out
                try simp only [Act.put, List.setIfInBounds_toArray, List.set_cons_zero, List.set_cons_succ]
                refine wpAnyT_one' 15 (by kernel_rfl) (by rfl) (fun K hK => ?_)
                simp only [List.getD_cons_succ, List.getD_cons_zero]
                go_simp
                refine (of_ok _ (n := qn) (by omega)).mono ?_
                rintro er W4 ⟨v4, S4, rfl, hv4, hgg4, f4⟩
                have F4 := Lib.hid (F3.out.trans' f4)
                have G4 := Lib.hid f4
                have N4 := Lib.hid hv4
                refine hK.out _ _ (HC.out _ F4.out) ?_
                clear hK hC f4 hv4 hgg4
                have hC := HC.out _ F4.out
                try simp only [Act.put, List.setIfInBounds_toArray, List.set_cons_zero, List.set_cons_succ]
                refine wpAnyT_one' 16 (by kernel_rfl) (by rfl) (fun K hK => ?_)
                simp only [List.getD_cons_succ, List.getD_cons_zero]
                go_simp
                refine (times_ok (a := t) (b := qn) ⟨_, _, rfl, HTO.out _ F4.out⟩ N4.out hq1 htq2).mono ?_
                rintro er W5 ⟨v5, S5, rfl, hv5, hgg5, f5⟩
                have F5 := Lib.hid (F4.out.trans' f5)
                have F35 := Lib.hid (G4.out.trans' f5)
                have N5 := Lib.hid hv5
                refine hK.out _ _ (HC.out _ F5.out) ?_
                clear hK hC f5 hv5 hgg5
                have hC := HC.out _ F5.out
                try simp only [Act.put, List.setIfInBounds_toArray, List.set_cons_zero, List.set_cons_succ]
                refine wpAnyT_one' 17 (by kernel_rfl) (by rfl) (fun K hK => ?_)
                simp only [List.getD_cons_succ, List.getD_cons_zero]
                go_simp
                refine (cmp_ok (N3.out.fr F35.out (by simp)) N5.out).mono ?_
                rintro er W6 ⟨rfl, f6⟩
                have F6 := Lib.hid (F5.out.trans' f6)
                refine hK.out _ _ (HC.out _ F6.out) ?_
                clear hK hC f6
                have hC := HC.out _ F6.out
                try simp only [Act.put, List.setIfInBounds_toArray, List.set_cons_zero, List.set_cons_succ]
                refine wpAnyT_last 18 rfl (by kernel_rfl) ?_
                simp only [List.drop_succ_cons, List.drop_zero]
                have K6 := Lib.hid (KW.out.same F6.out)
                clear hC HC HTO F1 F2 F3 F4 F5 F6 F35 G2 G4 N1 N2 N3 N4 N5 KW uu2 uu3 lb lt_ hnb2 htq2
                go_wp2
                rw [onlyN_normal]
                obtain ⟨cv, hcv⟩ : ∃ cv, cmpN (nn * b) (t * qn) = cv := ⟨_, rfl⟩
                rw [hcv]
                have hstep := wl_step (nz x f z) x.Q g
                rw [HNN.out, ← HT.out, HQN.out, ← HBY.out] at hstep
                have hcm : (t : Int) * qn ≤ nn * b ↔ 0 ≤ cv := by
                  rw [← hcv]
                  unfold cmpN
                  rw [← Int.natCast_mul, ← Int.natCast_mul]
                  by_cases h1 : nn * b < t * qn
                  · rw [if_pos h1]; omega
                  · rw [if_neg h1]; split <;> omega
                clear hcv
                by_cases hn0 : 0 < nn
                · have hn1 : (0 : Int) < nn := by omega
                  by_cases hc0 : 0 ≤ cv
                  · rw [if_pos ⟨hn1, hcm.2 hc0⟩] at hstep
                    have HST2 := Lib.hid hstep
                    have HOF := Lib.hid (fun X => of_ok X (n := nn) (by omega))
                    clear hstep hcm
                    go_wp2_with fail
                    refine (HOF.out _).mono ?_
                    rintro er W7 ⟨tv, ST', rfl, ⟨tg', tc', rfl, ho⟩, hgr, f7⟩
                    have K7 := Lib.hid ((K6.out.call0 (Sep.of_one0 (c := Chunk.own 66 1 (.slice (some ⟨tg', 0, none⟩) (dig nn).length tc') (dig nn).length (dcells (dig nn)) ST') f7 ho hgr)).perm List.perm_append_comm)
                    have b0 := Wd.wds (pre := [_, _, _, _, _]) K7.out
                    have hne := K7.out.bne 1 5 (by omega) (b := TB) (b' := x.b) rfl rfl
                    rw [HB.out] at b0 hne
                    have hne' := Ne.symm hne
                    have c1 : W7.cell? ⟨WB, 1 + g, none⟩ = some (.int .i64 qn) := by rw [b0.cell, x.cQ hg4, HQN.out]
                    have lb := b0.lt
                    have z0 := (K7.out.blk 1 rfl).frz 0
                    have c0 : W7.cell? ⟨TB, 0, none⟩ = some (.slice (some ⟨tg, 0, none⟩) (dig t).length tc) := (K7.out.blk 1 rfl).cell 0
                    have lt_ := (K7.out.blk 1 rfl).lt
                    have K8 := Lib.hid (((K7.out.set 1 rfl 0 (.slice (some ⟨tg', 0, none⟩) (dig nn).length tc')).perm (List.Perm.swap _ _ _)).sub (List.Sublist.cons_cons _ (List.Sublist.cons_cons _ (List.Sublist.cons _ (List.Sublist.refl _)))))
                    clear b0 K7 K6 ho hgr f7 HOF
                    go_wp2_with fail
                    go_roundg (4 - g)
                    case measure => omega
                    case rel => exact ⟨g + 1, nn, qn, tg', tc', ST', by omega, by omega, by go_num, by rw [HST2.out]; rfl, rfl, Lib.hid (by rw [HST2.out]; exact HNN.out.symm), Lib.hid (by rw [HST2.out]; exact HQN.out.symm), by omega, by omega, by omega, K8⟩
                  · rw [if_neg (fun hh => hc0 (hcm.1 hh.2))] at hstep
                    have HST2 := Lib.hid hstep
                    have hc1 : decide (0 ≤ cv) = false := decide_eq_false hc0
                    clear hstep hcm
                    go_wp2_with fail
                    go_roundg (4 - g)
                    case measure => omega
                    case rel => exact ⟨g + 1, t, b, tg, tc, ST, by omega, by omega, by go_num, by rw [HST2.out, HS14.out], rfl, Lib.hid (by rw [HST2.out]; exact HT.out), Lib.hid (by rw [HST2.out]; exact HBY.out), by omega, by omega, by omega, K6⟩
                · rw [if_neg (fun hh => hn0 (by omega))] at hstep
                  have HST2 := Lib.hid hstep
                  have hn2 : nn = 0 := by omega
                  clear hstep hcm
                  subst hn2
                  go_wp2_with fail
                  go_roundg (4 - g)
                  case measure => omega
                  case rel => exact ⟨g + 1, t, b, tg, tc, ST, by omega, by omega, by go_num, by rw [HST2.out, HS14.out], rfl, Lib.hid (by rw [HST2.out]; exact HT.out), Lib.hid (by rw [HST2.out]; exact HBY.out), by omega, by omega, by omega, K6⟩
              · have hgfi : ¬ (g : Int) = (f : Int) := by omega
                rw [if_neg hgf] at hnn2
                have hw : sm = nn := by omega
                subst hw
                clear hgf hnn2
                go_wp2_with fail
                clear hgfi
                clear l1 p3 lP
                have hnn3 : nn ≤ 82944 := by omega
                clear hnb
                obtain ⟨qn, hqn⟩ : ∃ qn : Nat, x.Q g = qn := ⟨(x.Q g).toNat, by have := HWF.out.q g hg4; omega⟩
                have hq := HWF.out.q g hg4
                rw [hqn] at hq
                have hq1 : 1 ≤ qn := by omega
                have hq2 : qn ≤ 1000 := by omega
                have b0 := Wd.wds (pre := [_, _, _, _]) K.out
                rw [HB.out] at b0
                have c1 : wr.cell? ⟨WB, 1 + g, none⟩ = some (.int .i64 qn) := by rw [b0.cell, x.cQ hg4, hqn]
                have lb := b0.lt
                have c0 : wr.cell? ⟨TB, 0, none⟩ = some (.slice (some ⟨tg, 0, none⟩) (dig t).length tc) := (K.out.blk 0 rfl).cell 0
                have lt_ := (K.out.blk 0 rfl).lt
                have hto := K.out.own 1 rfl
                have HQN := Lib.hid hqn
                have HTO := Lib.hid (fun X (fX : Fr [] wr X) => hto.fr fX (by simp))
                have HC := Lib.hid (fun X (fX : Fr [] wr X) => And.intro ((fX.cell (p := ⟨TB, 0, none⟩) lt_ (by simp)).trans c0) ((fX.cell (p := ⟨WB, 1 + g, none⟩) lb (by simp)).trans c1))
                have hnb2 : nn * b < 4294967296 := Nat.lt_of_le_of_lt (Nat.mul_le_mul hnn3 hb2) (by omega)
                have htq2 : t * qn < 4294967296 := Nat.lt_of_le_of_lt (Nat.mul_le_mul ht hq2) (by omega)
                have uu1 : IntKind.u64.wrap (nn : Int) = nn := u64w (by omega)
                have uu2 : IntKind.u64.wrap (b : Int) = b := u64w (by omega)
                have uu3 : IntKind.u64.wrap (qn : Int) = qn := u64w (by omega)
                clear b0 hq hqn hto
                have KW := K
                clear K
                refine wp_T [18] (fun X => X.cell? ⟨TB, 0, none⟩ = some (.slice (some ⟨tg, 0, none⟩) (dig t).length tc) ∧ X.cell? ⟨WB, 1 + g, none⟩ = some (.int .i64 qn)) (by kernel_rfl) (fun hC => ?_) ⟨c0, c1⟩
                clear c0 c1
                refine wpAnyT_takeP' 0 (by kernel_rfl) (fun _ _ _ h => h) (by assumption) (by rfl) (fun w => by simp only [List.getD_cons_zero]; go_simp; try with_reducible rfl) ?_
                try simp only [List.getD_cons_zero, Act.put, List.setIfInBounds_toArray, List.set_cons_zero, List.set_cons_succ]
                refine wpAnyT_takeP' 1 (by kernel_rfl) (fun _ _ _ h => h) (by assumption) (by rfl) (fun w => by simp only [List.getD_cons_succ, List.getD_cons_zero]; go_simp; try with_reducible rfl) ?_
                try simp only [List.getD_cons_succ, List.getD_cons_zero, Act.put, List.setIfInBounds_toArray, List.set_cons_zero, List.set_cons_succ]
                refine wpAnyT_takeP' 3 (by kernel_rfl) (fun _ _ _ h => h) (by assumption) (by rfl) (fun w => by simp only [List.getD_cons_succ, List.getD_cons_zero]; go_simp; try with_reducible rfl) ?_
                try simp only [List.getD_cons_succ, List.getD_cons_zero, Act.put, List.setIfInBounds_toArray, List.set_cons_zero, List.set_cons_succ]
                refine wpAnyT_takeP' 4 (by kernel_rfl) (fun _ _ _ h => h) (by assumption) (by rfl) (fun w => by simp only [List.getD_cons_succ, List.getD_cons_zero]; go_simp; try with_reducible rfl) ?_
                try simp only [List.getD_cons_succ, List.getD_cons_zero, Act.put, List.setIfInBounds_toArray, List.set_cons_zero, List.set_cons_succ]
                refine wpAnyT_takeM' 7 (by kernel_rfl) (fun _ _ _ h => h) (by assumption) (by rfl) (fun w hSw => by simp only [List.getD_cons_succ, List.getD_cons_zero]; (try dsimp only at hSw); go_simp; try with_reducible rfl) ?_
                try simp only [List.getD_cons_succ, List.getD_cons_zero, Act.put, List.setIfInBounds_toArray, List.set_cons_zero, List.set_cons_succ]
                refine wpAnyT_takeP' 8 (by kernel_rfl) (fun _ _ _ h => h) (by assumption) (by rfl) (fun w => by simp only [List.getD_cons_succ, List.getD_cons_zero]; go_simp; try with_reducible rfl) ?_
                try simp only [List.getD_cons_succ, List.getD_cons_zero, Act.put, List.setIfInBounds_toArray, List.set_cons_zero, List.set_cons_succ]
                refine wpAnyT_takeP' 9 (by kernel_rfl) (fun _ _ _ h => h) (by assumption) (by rfl) (fun w => by simp only [List.getD_cons_succ, List.getD_cons_zero]; go_simp; try with_reducible rfl) ?_
                try simp only [List.getD_cons_succ, List.getD_cons_zero, Act.put, List.setIfInBounds_toArray, List.set_cons_zero, List.set_cons_succ]
                refine wpAnyT_takeP' 10 (by kernel_rfl) (fun _ _ _ h => h) (by assumption) (by rfl) (fun w => by simp only [List.getD_cons_succ, List.getD_cons_zero]; go_simp; try with_reducible rfl) ?_
                try simp only [List.getD_cons_succ, List.getD_cons_zero, Act.put, List.setIfInBounds_toArray, List.set_cons_zero, List.set_cons_succ]
                refine wpAnyT_takeP' 11 (by kernel_rfl) (fun _ _ _ h => h) (by assumption) (by rfl) (fun w => by simp only [List.getD_cons_succ, List.getD_cons_zero]; go_simp; try with_reducible rfl) ?_
                try simp only [List.getD_cons_succ, List.getD_cons_zero, Act.put, List.setIfInBounds_toArray, List.set_cons_zero, List.set_cons_succ]
                refine wpAnyT_takeP' 12 (by kernel_rfl) (fun _ _ _ h => h) (by assumption) (by rfl) (fun w => by simp only [List.getD_cons_succ, List.getD_cons_zero]; go_simp; try with_reducible rfl) ?_
                try simp only [List.getD_cons_succ, List.getD_cons_zero, Act.put, List.setIfInBounds_toArray, List.set_cons_zero, List.set_cons_succ]
                refine wpAnyT_takeM' 13 (by kernel_rfl) (fun _ _ _ h => h) (by assumption) (by rfl) (fun w hSw => by simp only [List.getD_cons_succ, List.getD_cons_zero]; (try dsimp only at hSw); go_simp; try with_reducible rfl) ?_
                try simp only [List.getD_cons_succ, List.getD_cons_zero, Act.put, List.setIfInBounds_toArray, List.set_cons_zero, List.set_cons_succ]
                refine wpAnyT_takeP' 14 (by kernel_rfl) (fun _ _ _ h => h) (by assumption) (by rfl) (fun w => by simp only [List.getD_cons_succ, List.getD_cons_zero]; go_simp; try with_reducible rfl) ?_
                try simp only [List.getD_cons_succ, List.getD_cons_zero, Act.put, List.setIfInBounds_toArray, List.set_cons_zero, List.set_cons_succ]
                refine wpAnyT_one' 2 (by kernel_rfl) (by rfl) (fun K hK => ?_)
                simp only [List.getD_cons_succ, List.getD_cons_zero]
                go_simp
                refine (of_ok _ (n := nn) (by omega)).mono ?_
                rintro er W1 ⟨v1, S1, rfl, hv1, hgg1, f1⟩
                have F1 := Lib.hid ((Fr.refl [] wr).drew.trans' f1)
                have N1 := Lib.hid hv1
                refine hK.out _ _ (HC.out _ F1.out) ?_
                clear hK hC f1 hv1 hgg1
                have hC := HC.out _ F1.out
                try simp only [Act.put, List.setIfInBounds_toArray, List.set_cons_zero, List.set_cons_succ]
                refine wpAnyT_one' 5 (by kernel_rfl) (by rfl) (fun K hK => ?_)
                simp only [List.getD_cons_succ, List.getD_cons_zero]
                go_simp
                refine (of_ok _ (n := b) (by omega)).mono ?_
                rintro er W2 ⟨v2, S2, rfl, hv2, hgg2, f2⟩
                have F2 := Lib.hid (F1.out.trans' f2)
                have G2 := Lib.hid f2
                have N2 := Lib.hid hv2
                refine hK.out _ _ (HC.out _ F2.out) ?_
                clear hK hC f2 hv2 hgg2
                have hC := HC.out _ F2.out
                try simp only [Act.put, List.setIfInBounds_toArray, List.set_cons_zero, List.set_cons_succ]
                refine wpAnyT_one' 6 (by kernel_rfl) (by rfl) (fun K hK => ?_)
                simp only [List.getD_cons_succ, List.getD_cons_zero]
                go_simp
                refine (times_ok (N1.out.fr G2.out (by simp)) N2.out hb1 hnb2).mono ?_
                rintro er W3 ⟨v3, S3, rfl, hv3, hgg3, f3⟩
                have F3 := Lib.hid (F2.out.trans' f3)
                have N3 := Lib.hid hv3
                refine hK.out _ _ (HC.out _ F3.out) ?_
                clear hK hC f3 hv3 hgg3
                have hC := HC.out _ F3.out
                try simp only [Act.put, List.setIfInBounds_toArray, List.set_cons_zero, List.set_cons_succ]
                refine wpAnyT_one' 15 (by kernel_rfl) (by rfl) (fun K hK => ?_)
                simp only [List.getD_cons_succ, List.getD_cons_zero]
                go_simp
                refine (of_ok _ (n := qn) (by omega)).mono ?_
                rintro er W4 ⟨v4, S4, rfl, hv4, hgg4, f4⟩
                have F4 := Lib.hid (F3.out.trans' f4)
                have G4 := Lib.hid f4
                have N4 := Lib.hid hv4
                refine hK.out _ _ (HC.out _ F4.out) ?_
                clear hK hC f4 hv4 hgg4
                have hC := HC.out _ F4.out
                try simp only [Act.put, List.setIfInBounds_toArray, List.set_cons_zero, List.set_cons_succ]
                refine wpAnyT_one' 16 (by kernel_rfl) (by rfl) (fun K hK => ?_)
                simp only [List.getD_cons_succ, List.getD_cons_zero]
                go_simp
                refine (times_ok (a := t) (b := qn) ⟨_, _, rfl, HTO.out _ F4.out⟩ N4.out hq1 htq2).mono ?_
                rintro er W5 ⟨v5, S5, rfl, hv5, hgg5, f5⟩
                have F5 := Lib.hid (F4.out.trans' f5)
                have F35 := Lib.hid (G4.out.trans' f5)
                have N5 := Lib.hid hv5
                refine hK.out _ _ (HC.out _ F5.out) ?_
                clear hK hC f5 hv5 hgg5
                have hC := HC.out _ F5.out
                try simp only [Act.put, List.setIfInBounds_toArray, List.set_cons_zero, List.set_cons_succ]
                refine wpAnyT_one' 17 (by kernel_rfl) (by rfl) (fun K hK => ?_)
                simp only [List.getD_cons_succ, List.getD_cons_zero]
                go_simp
                refine (cmp_ok (N3.out.fr F35.out (by simp)) N5.out).mono ?_
                rintro er W6 ⟨rfl, f6⟩
                have F6 := Lib.hid (F5.out.trans' f6)
                refine hK.out _ _ (HC.out _ F6.out) ?_
                clear hK hC f6
                have hC := HC.out _ F6.out
                try simp only [Act.put, List.setIfInBounds_toArray, List.set_cons_zero, List.set_cons_succ]
                refine wpAnyT_last 18 rfl (by kernel_rfl) ?_
                simp only [List.drop_succ_cons, List.drop_zero]
                have K6 := Lib.hid (KW.out.same F6.out)
                clear hC HC HTO F1 F2 F3 F4 F5 F6 F35 G2 G4 N1 N2 N3 N4 N5 KW uu2 uu3 lb lt_ hnb2 htq2
                go_wp2
                rw [onlyN_normal]
                obtain ⟨cv, hcv⟩ : ∃ cv, cmpN (nn * b) (t * qn) = cv := ⟨_, rfl⟩
                rw [hcv]
                have hstep := wl_step (nz x f z) x.Q g
                rw [HNN.out, ← HT.out, HQN.out, ← HBY.out] at hstep
                have hcm : (t : Int) * qn ≤ nn * b ↔ 0 ≤ cv := by
                  rw [← hcv]
                  unfold cmpN
                  rw [← Int.natCast_mul, ← Int.natCast_mul]
                  by_cases h1 : nn * b < t * qn
                  · rw [if_pos h1]; omega
                  · rw [if_neg h1]; split <;> omega
                clear hcv
                by_cases hn0 : 0 < nn
                · have hn1 : (0 : Int) < nn := by omega
                  by_cases hc0 : 0 ≤ cv
                  · rw [if_pos ⟨hn1, hcm.2 hc0⟩] at hstep
                    have HST2 := Lib.hid hstep
                    have HOF := Lib.hid (fun X => of_ok X (n := nn) (by omega))
                    clear hstep hcm
                    go_wp2_with fail
                    refine (HOF.out _).mono ?_
                    rintro er W7 ⟨tv, ST', rfl, ⟨tg', tc', rfl, ho⟩, hgr, f7⟩
                    have K7 := Lib.hid ((K6.out.call0 (Sep.of_one0 (c := Chunk.own 66 1 (.slice (some ⟨tg', 0, none⟩) (dig nn).length tc') (dig nn).length (dcells (dig nn)) ST') f7 ho hgr)).perm List.perm_append_comm)
                    have b0 := Wd.wds (pre := [_, _, _, _, _]) K7.out
                    have hne := K7.out.bne 1 5 (by omega) (b := TB) (b' := x.b) rfl rfl
                    rw [HB.out] at b0 hne
                    have hne' := Ne.symm hne
                    have c1 : W7.cell? ⟨WB, 1 + g, none⟩ = some (.int .i64 qn) := by rw [b0.cell, x.cQ hg4, HQN.out]
                    have lb := b0.lt
                    have z0 := (K7.out.blk 1 rfl).frz 0
                    have c0 : W7.cell? ⟨TB, 0, none⟩ = some (.slice (some ⟨tg, 0, none⟩) (dig t).length tc) := (K7.out.blk 1 rfl).cell 0
                    have lt_ := (K7.out.blk 1 rfl).lt
                    have K8 := Lib.hid (((K7.out.set 1 rfl 0 (.slice (some ⟨tg', 0, none⟩) (dig nn).length tc')).perm (List.Perm.swap _ _ _)).sub (List.Sublist.cons_cons _ (List.Sublist.cons_cons _ (List.Sublist.cons _ (List.Sublist.refl _)))))
                    clear b0 K7 K6 ho hgr f7 HOF
                    go_wp2_with fail
                    go_roundg (4 - g)
                    case measure => omega
                    case rel => exact ⟨g + 1, nn, qn, tg', tc', ST', by omega, by omega, by go_num, by rw [HST2.out]; rfl, rfl, Lib.hid (by rw [HST2.out]; exact HNN.out.symm), Lib.hid (by rw [HST2.out]; exact HQN.out.symm), by omega, by omega, by omega, K8⟩
                  · rw [if_neg (fun hh => hc0 (hcm.1 hh.2))] at hstep
                    have HST2 := Lib.hid hstep
                    have hc1 : decide (0 ≤ cv) = false := decide_eq_false hc0
                    clear hstep hcm
                    go_wp2_with fail
                    go_roundg (4 - g)
                    case measure => omega
                    case rel => exact ⟨g + 1, t, b, tg, tc, ST, by omega, by omega, by go_num, by rw [HST2.out, HS14.out], rfl, Lib.hid (by rw [HST2.out]; exact HT.out), Lib.hid (by rw [HST2.out]; exact HBY.out), by omega, by omega, by omega, K6⟩
                · rw [if_neg (fun hh => hn0 (by omega))] at hstep
                  have HST2 := Lib.hid hstep
                  have hn2 : nn = 0 := by omega
                  clear hstep hcm
                  subst hn2
                  go_wp2_with fail
                  go_roundg (4 - g)
                  case measure => omega
                  case rel => exact ⟨g + 1, t, b, tg, tc, ST, by omega, by omega, by go_num, by rw [HST2.out, HS14.out], rfl, Lib.hid (by rw [HST2.out]; exact HT.out), Lib.hid (by rw [HST2.out]; exact HBY.out), by omega, by omega, by omega, K6⟩
        · obtain rfl : g = 4 := by omega
          rw [HWL.out]
          simp only [pv]
          clear HT HBY ht hb1 hb2 hk hg hg4
          rcases HOR.out with ⟨rfl, rfl, rfl⟩ | ⟨hMf, rfl, n, v, hln, hv, rfl⟩
          · obtain ⟨la, lc, hlv⟩ := (K.out.own 2 rfl).val
            simp only [List.length_nil] at hlv
            rw [hlv]
            clear hlv
            go_wp2_with fail
            go_ret
            exact ⟨rfl, K.out.fr⟩
          · have hMi : ¬ (M : Int) = f := by omega
            obtain ⟨lg, lc, hlv, -⟩ := (K.out.own 2 rfl).head (by simp)
            simp only [List.length_cons, List.length_nil, Nat.zero_add] at hlv
            have hMi2 : (M : Int) < 4 := by omega
            have hM4 := hM4
            have b0 := Wd.wds (pre := [_, _, _, _]) K.out
            rw [HB.out] at b0
            have R0 := Wd.rowf (pre := [_, _, _, _]) K.out hM4
            obtain ⟨va, ca, hva, -⟩ := R0.val
            rw [hva, hln] at R0
            have c5 : wr.cell? ⟨WB, 5 + M, none⟩ = some (.slice va (n + 1) ca) := by rw [b0.cell, x.cV hM4, hva, hln]
            have lb := b0.lt
            obtain ⟨gb, off, rfl, -, lg', fa⟩ := R0.at_ hv
            have fa' : ∀ j, j < 6 → wr.cell? ⟨gb, off + n * 6 + j, none⟩ = (encP6 v)[j]? := fun j hj => by rw [Nat.add_assoc]; exact fa j hj
            have C0 : wr.cell? ⟨WB, 5 + M, none⟩ = some (.slice (some ⟨gb, off, none⟩) (n + 1) ca) ∧ wr.cell? ⟨gb, off + n * 6, none⟩ = some (.int .i64 v.f0) ∧ wr.cell? ⟨gb, off + n * 6 + 1, none⟩ = some (.int .i64 v.f1) ∧ wr.cell? ⟨gb, off + n * 6 + 2, none⟩ = some (.int .i64 v.f2) ∧ wr.cell? ⟨gb, off + n * 6 + 3, none⟩ = some (.int .i64 v.f3) ∧ wr.cell? ⟨gb, off + n * 6 + 4, none⟩ = some (.int .i64 v.f4) ∧ wr.cell? ⟨gb, off + n * 6 + 5, none⟩ = some (.int .i64 v.f5) := ⟨c5, fa' 0 (by omega), fa' 1 (by omega), fa' 2 (by omega), fa' 3 (by omega), fa' 4 (by omega), fa' 5 (by omega)⟩
            have HC0 := Lib.hid C0
            have hnN : n ≤ 80 := by have := HWF.out.len M hM4; omega
            have hw1 : IntKind.i64.wrap (n : Int) = n := wrapv (by omega) (by omega)
            have hw2 : IntKind.i64.wrap ((n : Int) + 1 - 1) = n := wrapv (by omega) (by omega) |>.trans (by omega)
            have hlt : (n : Int) < (n : Int) + 1 := by omega
            have HLB := Lib.hid lb
            have HLG := Lib.hid lg'
            clear b0 R0 hva c5 fa fa' hln hv lb lg'
            rw [hlv]
            have HLV := Lib.hid hlv
            clear hlv
            have KW := K
            clear K
            go_wp2_with fail
            refine wp_T [17] (fun X => X.cell? ⟨WB, 5 + M, none⟩ = some (.slice (some ⟨gb, off, none⟩) (n + 1) ca) ∧ X.cell? ⟨gb, off + n * 6, none⟩ = some (.int .i64 v.f0) ∧ X.cell? ⟨gb, off + n * 6 + 1, none⟩ = some (.int .i64 v.f1) ∧ X.cell? ⟨gb, off + n * 6 + 2, none⟩ = some (.int .i64 v.f2) ∧ X.cell? ⟨gb, off + n * 6 + 3, none⟩ = some (.int .i64 v.f3) ∧ X.cell? ⟨gb, off + n * 6 + 4, none⟩ = some (.int .i64 v.f4) ∧ X.cell? ⟨gb, off + n * 6 + 5, none⟩ = some (.int .i64 v.f5)) (by kernel_rfl) (fun hC => ?_) C0
            clear C0
            refine wpAnyT_takeP' 0 (by kernel_rfl) (fun _ _ _ h => h) (by assumption) (by rfl) (fun w => by simp only [List.getD_cons_zero]; go_simp; try with_reducible rfl) ?_
            try simp only [List.getD_cons_zero, Act.put, List.setIfInBounds_toArray, List.set_cons_zero, List.set_cons_succ]
            refine wpAnyT_takeP' 1 (by kernel_rfl) (fun _ _ _ h => h) (by assumption) (by rfl) (fun w => by simp only [List.getD_cons_succ, List.getD_cons_zero]; go_simp; try with_reducible rfl) ?_
            try simp only [List.getD_cons_succ, List.getD_cons_zero, Act.put, List.setIfInBounds_toArray, List.set_cons_zero, List.set_cons_succ]
            refine wpAnyT_takeP' 2 (by kernel_rfl) (fun _ _ _ h => h) (by assumption) (by rfl) (fun w => by simp only [List.getD_cons_succ, List.getD_cons_zero]; go_simp; try with_reducible rfl) ?_
            try simp only [List.getD_cons_succ, List.getD_cons_zero, Act.put, List.setIfInBounds_toArray, List.set_cons_zero, List.set_cons_succ]
            refine wpAnyT_takeP' 3 (by kernel_rfl) (fun _ _ _ h => h) (by assumption) (by rfl) (fun w => by simp only [List.getD_cons_succ, List.getD_cons_zero]; go_simp; try with_reducible rfl) ?_
            try simp only [List.getD_cons_succ, List.getD_cons_zero, Act.put, List.setIfInBounds_toArray, List.set_cons_zero, List.set_cons_succ]
            refine wpAnyT_takeP' 4 (by kernel_rfl) (fun _ _ _ h => h) (by assumption) (by rfl) (fun w => by simp only [List.getD_cons_succ, List.getD_cons_zero]; go_simp; try with_reducible rfl) ?_
            try simp only [List.getD_cons_succ, List.getD_cons_zero, Act.put, List.setIfInBounds_toArray, List.set_cons_zero, List.set_cons_succ]
            refine wpAnyT_takeM' 5 (by kernel_rfl) (fun _ _ _ h => h) (by assumption) (by rfl) (fun w hSw => by simp only [List.getD_cons_succ, List.getD_cons_zero]; (try dsimp only at hSw); go_simp; try with_reducible rfl) ?_
            try simp only [List.getD_cons_succ, List.getD_cons_zero, Act.put, List.setIfInBounds_toArray, List.set_cons_zero, List.set_cons_succ]
            refine wpAnyT_takeP' 6 (by kernel_rfl) (fun _ _ _ h => h) (by assumption) (by rfl) (fun w => by simp only [List.getD_cons_succ, List.getD_cons_zero]; go_simp; try with_reducible rfl) ?_
            try simp only [List.getD_cons_succ, List.getD_cons_zero, Act.put, List.setIfInBounds_toArray, List.set_cons_zero, List.set_cons_succ]
            refine wpAnyT_takeP' 7 (by kernel_rfl) (fun _ _ _ h => h) (by assumption) (by rfl) (fun w => by simp only [List.getD_cons_succ, List.getD_cons_zero]; go_simp; try with_reducible rfl) ?_
            try simp only [List.getD_cons_succ, List.getD_cons_zero, Act.put, List.setIfInBounds_toArray, List.set_cons_zero, List.set_cons_succ]
            refine wpAnyT_takeP' 8 (by kernel_rfl) (fun _ _ _ h => h) (by assumption) (by rfl) (fun w => by simp only [List.getD_cons_succ, List.getD_cons_zero]; go_simp; try with_reducible rfl) ?_
            try simp only [List.getD_cons_succ, List.getD_cons_zero, Act.put, List.setIfInBounds_toArray, List.set_cons_zero, List.set_cons_succ]
            refine wpAnyT_takeP' 9 (by kernel_rfl) (fun _ _ _ h => h) (by assumption) (by rfl) (fun w => by simp only [List.getD_cons_succ, List.getD_cons_zero]; go_simp; try with_reducible rfl) ?_
            try simp only [List.getD_cons_succ, List.getD_cons_zero, Act.put, List.setIfInBounds_toArray, List.set_cons_zero, List.set_cons_succ]
            refine wpAnyT_takeP' 10 (by kernel_rfl) (fun _ _ _ h => h) (by assumption) (by rfl) (fun w => by simp only [List.getD_cons_succ, List.getD_cons_zero]; go_simp; try with_reducible rfl) ?_
            try simp only [List.getD_cons_succ, List.getD_cons_zero, Act.put, List.setIfInBounds_toArray, List.set_cons_zero, List.set_cons_succ]
            refine wpAnyT_takeM' 11 (by kernel_rfl) (fun _ _ _ h => h) (by assumption) (by rfl) (fun w hSw => by simp only [List.getD_cons_succ, List.getD_cons_zero]; (try dsimp only at hSw); go_simp; try with_reducible rfl) ?_
            try simp only [List.getD_cons_succ, List.getD_cons_zero, Act.put, List.setIfInBounds_toArray, List.set_cons_zero, List.set_cons_succ]
            refine wpAnyT_takeP' 12 (by kernel_rfl) (fun _ _ _ h => h) (by assumption) (by rfl) (fun w => by simp only [List.getD_cons_succ, List.getD_cons_zero]; go_simp; try with_reducible rfl) ?_
            try simp only [List.getD_cons_succ, List.getD_cons_zero, Act.put, List.setIfInBounds_toArray, List.set_cons_zero, List.set_cons_succ]
            refine wpAnyT_takeP' 13 (by kernel_rfl) (fun _ _ _ h => h) (by assumption) (by rfl) (fun w => by simp only [List.getD_cons_succ, List.getD_cons_zero]; go_simp; try with_reducible rfl) ?_
            try simp only [List.getD_cons_succ, List.getD_cons_zero, Act.put, List.setIfInBounds_toArray, List.set_cons_zero, List.set_cons_succ]
            refine wpAnyT_takeP' 14 (by kernel_rfl) (fun _ _ _ h => h) (by assumption) (by rfl) (fun w => by simp only [List.getD_cons_succ, List.getD_cons_zero]; go_simp; try with_reducible rfl) ?_
            try simp only [List.getD_cons_succ, List.getD_cons_zero, Act.put, List.setIfInBounds_toArray, List.set_cons_zero, List.set_cons_succ]
            refine wpAnyT_takeM' 15 (by kernel_rfl) (fun _ _ _ h => h) (by assumption) (by rfl) (fun w hSw => by simp only [List.getD_cons_succ, List.getD_cons_zero]; (try dsimp only at hSw); go_simp; try with_reducible rfl) ?_
            try simp only [List.getD_cons_succ, List.getD_cons_zero, Act.put, List.setIfInBounds_toArray, List.set_cons_zero, List.set_cons_succ]
            refine wpAnyT_one' 16 (by kernel_rfl) (by rfl) (fun K hK => ?_)
            simp only [List.getD_cons_succ, List.getD_cons_zero]
            go_simp
            have fA : Fr [] wr (wr.alloc (.cells (encP6 zerop6).toArray 34)).drew := ((Fr.refl [] wr).alloc _).drew
            have hC2 := HC0.out
            rw [← fA.cell (p := ⟨WB, 5 + M, none⟩) HLB.out (by simp), ← fA.cell (p := ⟨gb, off + n * 6, none⟩) HLG.out (by simp), ← fA.cell (p := ⟨gb, off + n * 6 + 1, none⟩) HLG.out (by simp), ← fA.cell (p := ⟨gb, off + n * 6 + 2, none⟩) HLG.out (by simp), ← fA.cell (p := ⟨gb, off + n * 6 + 3, none⟩) HLG.out (by simp), ← fA.cell (p := ⟨gb, off + n * 6 + 4, none⟩) HLG.out (by simp), ← fA.cell (p := ⟨gb, off + n * 6 + 5, none⟩) HLG.out (by simp)] at hC2
            refine hK.out _ _ hC2 ?_
            have K3 := Lib.hid ((KW.out.alloc 34 (encP6 zerop6)).drew.perm List.perm_append_comm)
            obtain ⟨LB, hLB⟩ : ∃ LB, wr.heap.size = LB := ⟨_, rfl⟩
            rw [hLB] at K3 ⊢
            clear hK hC hC2 fA HC0 HLB HLG KW hLB
            have BP := K3.out.blk 0 (b := LB) (t := 34) (vs := encP6 zerop6) rfl
            refine wpAnyT_last 17 rfl (by kernel_rfl) ?_
            simp only [List.drop_succ_cons, List.drop_zero]
            refine wpList_store_S rfl _ (.tmp 21) (.tmp 164) rfl LB 0 34 (encP6 zerop6) (encP6 v) ?h1 ?h2 BP (by kernel_rfl) (by simp [encP6]) (fun u hu => one_p6 [v] u (by simpa using hu)) ?_
            case h1 => rfl
            case h2 => (go_simp; first | done | rfl)
            intro W4 b6 f6 z6
            have K4 := Lib.hid (K3.out.call1' 0 rfl (Sep.of_one (c := Chunk.blk LB 34 (encP6 v)) f6 b6 (Gr.refl _ _)))
            clear b6 f6 z6 BP K3
            go_wp2
            rw [onlyN_normal]
            go_wp2_with fail
            have BL := K4.out.blk 0 (b := LB) (t := 34) (vs := encP6 v) rfl
            have l0 : W4.cell? ⟨LB, 0, none⟩ = some (.int .i64 v.f0) := BL.cell 0
            have l1 : W4.cell? ⟨LB, 1, none⟩ = some (.int .i64 v.f1) := BL.cell 1
            have l2 : W4.cell? ⟨LB, 2, none⟩ = some (.int .i64 v.f2) := BL.cell 2
            have l3 : W4.cell? ⟨LB, 3, none⟩ = some (.int .i64 v.f3) := BL.cell 3
            have l4 : W4.cell? ⟨LB, 4, none⟩ = some (.int .i64 v.f4) := BL.cell 4
            have l5 : W4.cell? ⟨LB, 5, none⟩ = some (.int .i64 v.f5) := BL.cell 5
            have ll := BL.lt
            have OL : OwnS W4 34 6 LV ([v] : List P6).length (([v] : List P6).flatMap encP6) SL := K4.out.own 3 rfl
            rw [HLV.out] at OL
            have m0 : W4.cell? ⟨lg, 0, none⟩ = some (.int .i64 v.f0) := OL.cellAt 0 (by simp)
            have m1 : W4.cell? ⟨lg, 1, none⟩ = some (.int .i64 v.f1) := OL.cellAt 1 (by simp)
            have m2 : W4.cell? ⟨lg, 2, none⟩ = some (.int .i64 v.f2) := OL.cellAt 2 (by simp)
            have m3 : W4.cell? ⟨lg, 3, none⟩ = some (.int .i64 v.f3) := OL.cellAt 3 (by simp)
            have m4 : W4.cell? ⟨lg, 4, none⟩ = some (.int .i64 v.f4) := OL.cellAt 4 (by simp)
            have m5 : W4.cell? ⟨lg, 5, none⟩ = some (.int .i64 v.f5) := OL.cellAt 5 (by simp)
            have e0 : (v.f0 == v.f0) = true := by simp
            have e1 : (v.f1 == v.f1) = true := by simp
            have e2 : (v.f2 == v.f2) = true := by simp
            have e3 : (v.f3 == v.f3) = true := by simp
            have e4 : (v.f4 == v.f4) = true := by simp
            have e5 : (v.f5 == v.f5) = true := by simp
            clear BL OL
            go_quiet (fail)
            go_wp2
            go_ret
            exact ⟨rfl, (K4.out.drewN _).fr⟩
end Go.Proofs.Yteojodcdehkejaa
