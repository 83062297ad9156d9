/- DRRPeeks: the walk. -/
import Derived.Test.YteojodcdehkejaaMP4
set_option linter.unusedVariables false
namespace Go.Proofs.Yteojodcdehkejaa
open Go Go.RowKit
attribute [local go_sem] calmQ_normal wide_fn wide_depth Oper.semAt_some run_store_func
theorem wrapu {x : Int} (h1 : -1125899906842624 ≤ x) (h2 : x ≤ 1125899906842624) : IntKind.i64.wrap x = x := by
  rw [IntKind.wrap_i64]; omega
theorem Holds.drs {w : World} {pre : List Chunk} {x : Wd} (h : Holds w (pre ++ x.chunks)) : Holds w x.dr.chunks := (show Holds w (x.wch ++ x.dr.chunks) from h.right).right
theorem Sep.left' {w0 w : World} {S0 : List Nat} {cs ds : List Chunk} (h : Sep w0 S0 w (cs ++ ds)) : Sep w0 S0 w cs := h.sub (List.sublist_append_left _ _)
theorem permW {α : Type} (q : α) (l c : List α) : ((l ++ c) ++ [q]).Perm (c ++ ([q] ++ l)) := by
  classical
  rw [List.perm_iff_count]
  intro y
  simp only [List.count_append, List.count_cons, List.count_nil]
  omega
theorem permW2 {α : Type} (q : α) (l c : List α) : (c ++ ([q] ++ l)).Perm ([q] ++ (l ++ c)) := by
  classical
  rw [List.perm_iff_count]
  intro y
  simp only [List.count_append, List.count_cons, List.count_nil]
  omega
def ints4 (g : Nat → Int) : List Value := [.int .i64 (g 0), .int .i64 (g 1), .int .i64 (g 2), .int .i64 (g 3)]
theorem ints4_at (g : Nat → Int) {f : Nat} (hf : f < 4) : (ints4 g)[f]? = some (.int .i64 (g f)) := four (P := fun f => (ints4 g)[f]? = some (.int .i64 (g f))) rfl rfl rfl rfl hf
theorem ints4_set (g : Nat → Int) {f : Nat} (hf : f < 4) (v : Int) : (ints4 g).set f (.int .i64 v) = ints4 (upd g f v) := four (P := fun f => (ints4 g).set f (.int .i64 v) = ints4 (upd g f v)) rfl rfl rfl rfl hf
set_option maxRecDepth 100000 in
set_option maxHeartbeats 8000000 in
theorem peeks_walk (w : World) (q0 q1 q2 q3 : Int) (ao : Option Addr) (len cap : Nat) (hlm : len ≤ maxLen) (hst : MoveRow w ao len) :
    Calls Try.prog 8 #[.agg #[.int .i64 q0, .int .i64 q1, .int .i64 q2, .int .i64 q3], .slice ao len cap] w fun e w' => e = .returned (.bool true) ∧ Fr [] w w' := by
  have HST := Lib.hid hst
  unfold maxLen at hlm
  clear hst
  go_enter Try.func8, Try.ntmps8
  go_wp2_with fail
  refine (open_ok _ q0 q1 q2 q3).mono ?_
  rintro er w1 ⟨x, rfl, hwf, hl0, hmo, k1⟩
  have HWF := Lib.hid hwf
  have K1 := Lib.hid (Sep.from ((Fr.refl [] w).alloc (.cells #[.int .i64 q0, .int .i64 q1, .int .i64 q2, .int .i64 q3] 40)) k1)
  clear hwf hl0 hmo k1
  go_wp2_with fail
  refine (told15 _).mono ?_
  rintro er w2 ⟨rfl, f2⟩
  obtain ⟨WB, hWB⟩ : ∃ WB, x.b = WB := ⟨_, rfl⟩
  have HB := Lib.hid hWB
  rw [hWB]
  have K2 := Lib.hid (K1.out.same f2)
  clear hWB f2 K1
  go_upto_block 0 with (fail)
  go_cut [6] (fun s6 wx => ∃ wy, wx = wy ∧ ∃ (x : Wd) (N : Nat), N ≤ 100 ∧ Hid (x.b = WB) ∧ Hid (Wf x N) ∧ Hid (Sep w [] wy x.chunks))
  case first =>
    go_wp2_with fail
    go_loopg [6] (len + 1) (fun k i wr => ∃ j : Nat, k + j = len + 1 ∧ j ≤ len ∧ j ≤ 100 ∧ i = .int .i64 j ∧ ∃ x : Wd, Hid (x.b = WB) ∧ Hid (Wf x j) ∧ Hid (Sep w [] wr x.chunks))
    case atStart => exact ⟨0, by omega, by omega, by omega, rfl, x, HB, HWF, K2⟩
    case round =>
      clear HB HWF K2 x
      obtain ⟨j, hk, hj, hj2, rfl, x, HB, HWF, K⟩ := hrel
      by_cases hjn : j < len
      · by_cases hj3 : j < 100
        · have hjl : (j : Int) < len := by omega
          have hj4 : (j : Int) < 100 := by omega
          have b0 := Wd.wds (pre := []) K.out
          rw [HB.out] at b0
          have c0 : wr.cell? ⟨WB, 0, none⟩ = some (.pointer (some ⟨x.db, 0, none⟩)) := b0.cell 0
          have lb := b0.lt
          have HRG := Lib.hid (x_ring HWF.out (show Holds wr (x.wch ++ x.dr.chunks) from K.out.hs).right)
          clear b0
          go_wp2_with fail
          refine HRG.out.mono ?_
          rintro er W1 ⟨RV, S1, rfl, ho, hg, f1⟩
          obtain ⟨RA, RC, hRV⟩ := ho.val
          have K1 : Hid (Sep w [] W1 ([Chunk.own 26 2 RV x.ring.length (hds x.G x.ring) S1] ++ x.chunks)) := Lib.hid ((K.out.call0 (Sep.of_one0 (c := Chunk.own 26 2 RV x.ring.length (hds x.G x.ring) S1) f1 ho hg)).perm List.perm_append_comm)
          clear ho hg f1 K HRG c0 lb hRV
          obtain ⟨th, tg, tb, htn⟩ := x_turn HWF.out
          have HTN := Lib.hid htn
          clear htn
          have b0 := Wd.wds (pre := [_]) K1.out
          rw [HB.out] at b0
          have c0 : W1.cell? ⟨WB, 0, none⟩ = some (.pointer (some ⟨x.db, 0, none⟩)) := b0.cell 0
          have lb := b0.lt
          clear b0
          have HT1 := Lib.hid (HTN.out W1 (show Holds W1 (x.wch ++ x.dr.chunks) from K1.out.hs.right).right)
          go_wp2_with fail
          refine HT1.out.mono ?_
          rintro er W2 ⟨rfl, f2⟩
          have K2 := Lib.hid ((K1.out.same f2).alloc 26 [.int .i64 th, .int .i64 tg])
          obtain ⟨XB, hXB⟩ : ∃ XB, W2.heap.size = XB := ⟨_, rfl⟩
          rw [hXB] at K2
          clear f2 K1 c0 lb HT1
          have K3 := Lib.hid ((((K2.out.perm List.perm_append_comm).alloc 40 (ints4 fun _ => 0))).perm List.perm_append_comm)
          have hsz : (W2.alloc (.cells [Value.int .i64 th, Value.int .i64 tg].toArray 26)).heap.size = XB + 1 := by simp [hXB]
          rw [hsz] at K3
          clear hsz K2
          go_wp2_with fail
          clear hXB
          go_loopg [11] 5 (fun k s11 wr => ∃ g : Nat, k + g = 5 ∧ g ≤ 4 ∧ s11 = .int .i64 g ∧ ∃ dv : Nat → Int, Hid (∀ t, t < g → dv t = x.df t) ∧ Hid (Sep w [] wr ([Chunk.blk (XB + 1) 40 (ints4 dv), Chunk.blk XB 26 [.int .i64 th, .int .i64 tg], Chunk.own 26 2 RV x.ring.length (hds x.G x.ring) S1] ++ x.chunks)))
          case atStart => exact ⟨0, by omega, by omega, rfl, fun _ => 0, Lib.hid (fun t ht => by omega), K3⟩
          case round =>
            clear K3
            obtain ⟨g, hkg, hg, rfl, dv, HDV, K⟩ := hrel
            have b0 := Wd.wds (pre := [_, _, _]) K.out
            rw [HB.out] at b0
            have c0 : wr.cell? ⟨WB, 0, none⟩ = some (.pointer (some ⟨x.db, 0, none⟩)) := b0.cell 0
            have lb := b0.lt
            clear b0
            have KW := K
            clear K
            by_cases hg4 : g < 4
            · as_aux_lemma =>
              have hgi : (g : Int) < 4 := by omega
              have HC := Lib.hid (fun X (fX : Fr [] wr X) => (fX.cell (p := ⟨WB, 0, none⟩) lb (by simp)).trans c0)
              go_wp2_with fail
              refine wp_T [13] (fun X => X.cell? ⟨WB, 0, none⟩ = some (.pointer (some ⟨x.db, 0, none⟩))) (by kernel_rfl) (fun hC => ?_) c0
              clear c0
              refine wpAnyT_takeP' 0 (by kernel_rfl) (fun _ _ _ h => h) (by assumption) (by rfl) (fun w => by simp only [List.getD_cons_zero]; go_simp; try with_reducible rfl) ?_
              try simp only [List.getD_cons_zero, Act.put, List.setIfInBounds_toArray, List.set_cons_zero, List.set_cons_succ]
              refine wpAnyT_takeP' 1 (by kernel_rfl) (fun _ _ _ h => h) (by assumption) (by rfl) (fun w => by simp only [List.getD_cons_succ, List.getD_cons_zero]; go_simp; try with_reducible rfl) ?_
              try simp only [List.getD_cons_succ, List.getD_cons_zero, Act.put, List.setIfInBounds_toArray, List.set_cons_zero, List.set_cons_succ]
              refine wpAnyT_takeP' 2 (by kernel_rfl) (fun _ _ _ h => h) (by assumption) (by rfl) (fun w => by simp only [List.getD_cons_succ, List.getD_cons_zero]; go_simp; try with_reducible rfl) ?_
              try simp only [List.getD_cons_succ, List.getD_cons_zero, Act.put, List.setIfInBounds_toArray, List.set_cons_zero, List.set_cons_succ]
              refine wpAnyT_takeP' 3 (by kernel_rfl) (fun _ _ _ h => h) (by assumption) (by rfl) (fun w => by simp only [List.getD_cons_succ, List.getD_cons_zero]; go_simp; try with_reducible rfl) ?_
              try simp only [List.getD_cons_succ, List.getD_cons_zero, Act.put, List.setIfInBounds_toArray, List.set_cons_zero, List.set_cons_succ]
              refine wpAnyT_takeM' 4 (by kernel_rfl) (fun _ _ _ h => h) (by assumption) (by rfl) (fun w hSw => by simp only [List.getD_cons_succ, List.getD_cons_zero]; (try dsimp only at hSw); go_simp; try with_reducible rfl) ?_
              try simp only [List.getD_cons_succ, List.getD_cons_zero, Act.put, List.setIfInBounds_toArray, List.set_cons_zero, List.set_cons_succ]
              refine wpAnyT_takeP' 5 (by kernel_rfl) (fun _ _ _ h => h) (by assumption) (by rfl) (fun w => by simp only [List.getD_cons_succ, List.getD_cons_zero]; go_simp; try with_reducible rfl) ?_
              try simp only [List.getD_cons_succ, List.getD_cons_zero, Act.put, List.setIfInBounds_toArray, List.set_cons_zero, List.set_cons_succ]
              refine wpAnyT_takeP' 6 (by kernel_rfl) (fun _ _ _ h => h) (by assumption) (by rfl) (fun w => by simp only [List.getD_cons_succ, List.getD_cons_zero]; go_simp; try with_reducible rfl) ?_
              try simp only [List.getD_cons_succ, List.getD_cons_zero, Act.put, List.setIfInBounds_toArray, List.set_cons_zero, List.set_cons_succ]
              refine wpAnyT_one' 7 (by kernel_rfl) (by rfl) (fun K hK => ?_)
              simp only [List.getD_cons_succ, List.getD_cons_zero]
              go_simp
              have hwh := whandle (g := x.G g) (Wd.wds (pre := [_, _, _]) KW.out.drew) hg4 (Wd.cG _ hg4)
              rw [HB.out] at hwh
              refine hwh.mono ?_
              rintro er W3 ⟨rfl, f3⟩
              have F3 := Lib.hid ((Fr.refl [] wr).drew.trans' f3)
              refine hK.out _ _ (HC.out _ F3.out) ?_
              clear hK hC hwh
              have hC := HC.out _ F3.out
              try simp only [Act.put, List.setIfInBounds_toArray, List.set_cons_zero, List.set_cons_succ]
              refine wpAnyT_one' 8 (by kernel_rfl) (by rfl) (fun K hK => ?_)
              simp only [List.getD_cons_succ, List.getD_cons_zero]
              go_simp
              refine (x_deficit HWF.out (show Holds W3 (x.wch ++ x.dr.chunks) from (KW.out.drew.same f3).hs.right).right hg4).mono ?_
              rintro er W4 ⟨rfl, f4⟩
              have K4 := Lib.hid ((KW.out.drew.same f3).same f4)
              have F4 := Lib.hid (F3.out.trans' f4)
              refine hK.out _ _ (HC.out _ F4.out) ?_
              clear hK hC f3 f4 F3 KW
              have hC := HC.out _ F4.out
              try simp only [Act.put, List.setIfInBounds_toArray, List.set_cons_zero, List.set_cons_succ]
              refine wpAnyT_takeP' 9 (by kernel_rfl) (fun _ _ _ h => h) (by assumption) (by rfl) (fun w => by simp only [List.getD_cons_succ, List.getD_cons_zero]; go_simp; try with_reducible rfl) ?_
              try simp only [List.getD_cons_succ, List.getD_cons_zero, Act.put, List.setIfInBounds_toArray, List.set_cons_zero, List.set_cons_succ]
              refine wpAnyT_takeP' 10 (by kernel_rfl) (fun _ _ _ h => h) (by assumption) (by rfl) (fun w => by simp only [List.getD_cons_succ, List.getD_cons_zero]; go_simp; try with_reducible rfl) ?_
              try simp only [List.getD_cons_succ, List.getD_cons_zero, Act.put, List.setIfInBounds_toArray, List.set_cons_zero, List.set_cons_succ]
              refine wpAnyT_takeP' 11 (by kernel_rfl) (fun _ _ _ h => h) (by assumption) (by rfl) (fun w => by simp only [List.getD_cons_succ, List.getD_cons_zero]; go_simp; try with_reducible rfl) ?_
              try simp only [List.getD_cons_succ, List.getD_cons_zero, Act.put, List.setIfInBounds_toArray, List.set_cons_zero, List.set_cons_succ]
              refine wpAnyT_takeP' 12 (by kernel_rfl) (fun _ _ _ h => h) (by assumption) (by rfl) (fun w => by simp only [List.getD_cons_succ, List.getD_cons_zero]; go_simp; try with_reducible rfl) ?_
              try simp only [List.getD_cons_succ, List.getD_cons_zero, Act.put, List.setIfInBounds_toArray, List.set_cons_zero, List.set_cons_succ]
              refine wpAnyT_last 13 rfl (by kernel_rfl) ?_
              simp only [List.drop_succ_cons, List.drop_zero]
              have z0 := (K4.out.blk 0 rfl).frz g
              have y0 : W4.cell? ⟨XB + 1, g, none⟩ = some (.int .i64 (dv g)) := by rw [(K4.out.blk 0 rfl).cell]; exact ints4_at dv hg4
              have ly := (K4.out.blk 0 rfl).lt
              have ks := K4.out.set 0 rfl g (.int .i64 (x.df g))
              rw [ints4_set dv hg4] at ks
              have K5 := Lib.hid ks
              clear ks K4 HC F4 lb hC
              go_wp2
              rw [onlyN_normal]
              go_wp2
              go_roundg (4 - g)
              case measure => omega
              case rel => exact ⟨g + 1, by omega, by omega, by go_num, _, Lib.hid (fun t ht => by
                by_cases e : t = g
                · subst e; exact upd_self _ _ _
                · rw [upd_ne _ _ e]; exact HDV.out t (by omega)), K5⟩
            · as_aux_lemma =>
              obtain rfl : g = 4 := by omega
              have HPX := Lib.hid (x_peek HWF.out (show Holds wr (x.wch ++ x.dr.chunks) from KW.out.hs.right).right 0)
              go_wp2_with fail
              refine HPX.out.mono ?_
              rintro er W5 ⟨ks, hor⟩
              obtain ⟨PV, IS, rfl, hpk⟩ : ∃ PV IS, er = .returned (.tuple #[aggp6 PV, .bool IS]) ∧ (x.ring = [] ∧ PV = zerop6 ∧ IS = false ∨ ∃ s qs, s ∈ x.ring ∧ NT (x.ring.map (slOf x.Q x.L x.df)) x.turn s ∧ x.L s = PV :: qs ∧ IS = true) := by
                rcases hor with ⟨h1, h2⟩ | ⟨s, p, qs, h1, h2, h3, h4⟩
                · exact ⟨zerop6, false, h2, .inl ⟨h1, rfl, rfl⟩⟩
                · exact ⟨p, true, h4, .inr ⟨s, qs, h1, h2, h3, rfl⟩⟩
              have HPK := Lib.hid hpk
              have K5 := Lib.hid (Sep.call_pre KW.out ks)
              have K6 := Lib.hid ((K5.out.alloc 34 (encP6 PV)).perm List.perm_append_comm)
              obtain ⟨PB, hPB⟩ : ∃ PB, W5.heap.size = PB := ⟨_, rfl⟩
              rw [hPB] at K6
              clear ks hor hpk KW HPX c0 lb
              have b0 := Wd.wds (pre := [_, _, _]) K5.out
              rw [HB.out] at b0
              have c0 : W5.cell? ⟨WB, 0, none⟩ = some (.pointer (some ⟨x.db, 0, none⟩)) := b0.cell 0
              have lb := b0.lt
              have lb2 : WB < PB := by rw [← hPB]; exact lb
              clear b0
              go_wp2_with fail
              refine (HTN.out _ (Holds.drs (pre := [_, _, _, _]) K6.out.hs)).mono ?_
              rintro er W7 ⟨rfl, f7⟩
              have K7 := Lib.hid (K6.out.same f7)
              have K8 := Lib.hid ((K7.out.alloc 26 [.int .i64 th, .int .i64 tg]).perm List.perm_append_comm)
              obtain ⟨YB, hYB⟩ : ∃ YB, W7.heap.size = YB := ⟨_, rfl⟩
              rw [hYB] at K8
              have b0 := Wd.wds (pre := [_, _, _, _]) K7.out
              rw [HB.out] at b0
              have c0' : W7.cell? ⟨WB, 0, none⟩ = some (.pointer (some ⟨x.db, 0, none⟩)) := b0.cell 0
              have lb' : WB < YB := by rw [← hYB]; exact b0.lt
              clear b0 f7 K6 K5 c0 lb lb2 hPB
              go_wp2_with fail
              refine (x_ring HWF.out (Holds.drs (pre := [_, _, _, _, _]) K8.out.hs)).mono ?_
              rintro er W8 ⟨RV2, S2, rfl, ho2, hg2, f8⟩
              have K9 := Lib.hid ((K8.out.call0 (Sep.of_one0 (c := Chunk.own 26 2 RV2 x.ring.length (hds x.G x.ring) S2) f8 ho2 hg2)).perm List.perm_append_comm)
              have hh := handles_ok (K9.out.own 5 rfl : OwnS W8 26 2 RV x.ring.length (hds x.G x.ring) S1) (K9.out.own 0 rfl : OwnS W8 26 2 RV2 x.ring.length (hds x.G x.ring) S2) (by have := HWF.out.rlen; omega)
              have HH := Lib.hid hh
              clear ho2 hg2 f8 K7 K8 hh c0' lb' hYB
              go_wp2_with fail
              refine HH.out.mono ?_
              rintro er W9 ⟨rfl, q, hW9⟩
              have K10 : Hid (Sep w [] W9 ([Chunk.blk YB 26 [.int .i64 th, .int .i64 tg], Chunk.blk PB 34 (encP6 PV), Chunk.blk (XB + 1) 40 (ints4 dv), Chunk.blk XB 26 [.int .i64 th, .int .i64 tg], Chunk.own 26 2 RV x.ring.length (hds x.G x.ring) S1] ++ x.chunks)) := by
                rw [hW9]; exact Lib.hid ((K9.out.drewN q).sub (List.sublist_append_right [_] _))
              clear hW9 K9 HH
              have y0 : W9.cell? ⟨YB, 0, none⟩ = some (.int .i64 th) := (K10.out.blk 0 rfl).cell 0
              have y1 : W9.cell? ⟨YB, 1, none⟩ = some (.int .i64 tg) := (K10.out.blk 0 rfl).cell 1
              have yl := (K10.out.blk 0 rfl).lt
              have z0 : W9.cell? ⟨XB, 0, none⟩ = some (.int .i64 th) := (K10.out.blk 3 rfl).cell 0
              have z1 : W9.cell? ⟨XB, 1, none⟩ = some (.int .i64 tg) := (K10.out.blk 3 rfl).cell 1
              have zl := (K10.out.blk 3 rfl).lt
              have e0 : (th == th) = true := by simp
              have e1 : (tg == tg) = true := by simp
              have HDF : Hid (∀ t, t < 4 → dv t = x.df t) := HDV
              clear HDV
              obtain ⟨tb', htb⟩ : ∃ tb', tb = tb' := ⟨_, rfl⟩
              go_wp2_with fail
              clear y0 y1 yl z0 z1 zl e0 e1
              go_loopg [16] 5 (fun k s16 wr => ∃ g : Nat, k + g = 5 ∧ g ≤ 4 ∧ s16 = .int .i64 g ∧ Hid (Sep w [] wr ([Chunk.blk YB 26 [.int .i64 th, .int .i64 tg], Chunk.blk PB 34 (encP6 PV), Chunk.blk (XB + 1) 40 (ints4 dv), Chunk.blk XB 26 [.int .i64 th, .int .i64 tg], Chunk.own 26 2 RV x.ring.length (hds x.G x.ring) S1] ++ x.chunks)))
              case atStart => exact ⟨0, by omega, by omega, rfl, K10⟩
              case round =>
                clear K10
                obtain ⟨g, hkg2, hg2, rfl, KW⟩ := hrel
                by_cases hg4 : g < 4
                · as_aux_lemma =>
                  have hgi : (g : Int) < 4 := by omega
                  have b0 := Wd.wds (pre := [_, _, _, _, _]) KW.out
                  rw [HB.out] at b0
                  have c0 : wr.cell? ⟨WB, 0, none⟩ = some (.pointer (some ⟨x.db, 0, none⟩)) := b0.cell 0
                  have lb := b0.lt
                  clear b0
                  have HC := Lib.hid (fun X (fX : Fr [] wr X) => (fX.cell (p := ⟨WB, 0, none⟩) lb (by simp)).trans c0)
                  go_wp2_with fail
                  refine wp_T [11] (fun X => X.cell? ⟨WB, 0, none⟩ = some (.pointer (some ⟨x.db, 0, none⟩))) (by kernel_rfl) (fun hC => ?_) c0
                  clear c0
                  refine wpAnyT_takeP' 0 (by kernel_rfl) (fun _ _ _ h => h) (by assumption) (by rfl) (fun w => by simp only [List.getD_cons_zero]; go_simp; try with_reducible rfl) ?_
                  try simp only [List.getD_cons_zero, Act.put, List.setIfInBounds_toArray, List.set_cons_zero, List.set_cons_succ]
                  refine wpAnyT_takeP' 1 (by kernel_rfl) (fun _ _ _ h => h) (by assumption) (by rfl) (fun w => by simp only [List.getD_cons_succ, List.getD_cons_zero]; go_simp; try with_reducible rfl) ?_
                  try simp only [List.getD_cons_succ, List.getD_cons_zero, Act.put, List.setIfInBounds_toArray, List.set_cons_zero, List.set_cons_succ]
                  refine wpAnyT_takeP' 2 (by kernel_rfl) (fun _ _ _ h => h) (by assumption) (by rfl) (fun w => by simp only [List.getD_cons_succ, List.getD_cons_zero]; go_simp; try with_reducible rfl) ?_
                  try simp only [List.getD_cons_succ, List.getD_cons_zero, Act.put, List.setIfInBounds_toArray, List.set_cons_zero, List.set_cons_succ]
                  refine wpAnyT_takeM' 3 (by kernel_rfl) (fun _ _ _ h => h) (by assumption) (by rfl) (fun w hSw => by simp only [List.getD_cons_succ, List.getD_cons_zero]; (try dsimp only at hSw); go_simp; try with_reducible rfl) ?_
                  try simp only [List.getD_cons_succ, List.getD_cons_zero, Act.put, List.setIfInBounds_toArray, List.set_cons_zero, List.set_cons_succ]
                  refine wpAnyT_takeP' 4 (by kernel_rfl) (fun _ _ _ h => h) (by assumption) (by rfl) (fun w => by simp only [List.getD_cons_succ, List.getD_cons_zero]; go_simp; try with_reducible rfl) ?_
                  try simp only [List.getD_cons_succ, List.getD_cons_zero, Act.put, List.setIfInBounds_toArray, List.set_cons_zero, List.set_cons_succ]
                  refine wpAnyT_takeP' 5 (by kernel_rfl) (fun _ _ _ h => h) (by assumption) (by rfl) (fun w => by simp only [List.getD_cons_succ, List.getD_cons_zero]; go_simp; try with_reducible rfl) ?_
                  try simp only [List.getD_cons_succ, List.getD_cons_zero, Act.put, List.setIfInBounds_toArray, List.set_cons_zero, List.set_cons_succ]
                  refine wpAnyT_one' 6 (by kernel_rfl) (by rfl) (fun K hK => ?_)
                  simp only [List.getD_cons_succ, List.getD_cons_zero]
                  go_simp
                  have hwh := whandle (g := x.G g) (Wd.wds (pre := [_, _, _, _, _]) KW.out.drew) hg4 (Wd.cG _ hg4)
                  rw [HB.out] at hwh
                  refine hwh.mono ?_
                  rintro er W3 ⟨rfl, f3⟩
                  have F3 := Lib.hid ((Fr.refl [] wr).drew.trans' f3)
                  refine hK.out _ _ (HC.out _ F3.out) ?_
                  clear hK hC hwh
                  have hC := HC.out _ F3.out
                  try simp only [Act.put, List.setIfInBounds_toArray, List.set_cons_zero, List.set_cons_succ]
                  refine wpAnyT_one' 7 (by kernel_rfl) (by rfl) (fun K hK => ?_)
                  simp only [List.getD_cons_succ, List.getD_cons_zero]
                  go_simp
                  refine (x_deficit HWF.out (Holds.drs (pre := [_, _, _, _, _]) (KW.out.drew.same f3).hs) hg4).mono ?_
                  rintro er W4 ⟨rfl, f4⟩
                  have K4 := Lib.hid ((KW.out.drew.same f3).same f4)
                  have F4 := Lib.hid (F3.out.trans' f4)
                  refine hK.out _ _ (HC.out _ F4.out) ?_
                  clear hK hC f3 f4 F3 KW
                  have hC := HC.out _ F4.out
                  try simp only [Act.put, List.setIfInBounds_toArray, List.set_cons_zero, List.set_cons_succ]
                  refine wpAnyT_takeP' 8 (by kernel_rfl) (fun _ _ _ h => h) (by assumption) (by rfl) (fun w => by simp only [List.getD_cons_succ, List.getD_cons_zero]; go_simp; try with_reducible rfl) ?_
                  try simp only [List.getD_cons_succ, List.getD_cons_zero, Act.put, List.setIfInBounds_toArray, List.set_cons_zero, List.set_cons_succ]
                  refine wpAnyT_takeP' 9 (by kernel_rfl) (fun _ _ _ h => h) (by assumption) (by rfl) (fun w => by simp only [List.getD_cons_succ, List.getD_cons_zero]; go_simp; try with_reducible rfl) ?_
                  try simp only [List.getD_cons_succ, List.getD_cons_zero, Act.put, List.setIfInBounds_toArray, List.set_cons_zero, List.set_cons_succ]
                  refine wpAnyT_takeP' 10 (by kernel_rfl) (fun _ _ _ h => h) (by assumption) (by rfl) (fun w => by simp only [List.getD_cons_succ, List.getD_cons_zero]; go_simp; try with_reducible rfl) ?_
                  try simp only [List.getD_cons_succ, List.getD_cons_zero, Act.put, List.setIfInBounds_toArray, List.set_cons_zero, List.set_cons_succ]
                  refine wpAnyT_last 11 rfl (by kernel_rfl) ?_
                  simp only [List.drop_succ_cons, List.drop_zero]
                  obtain ⟨dg, hdg⟩ : ∃ dg, x.df g = dg := ⟨_, rfl⟩
                  have y0 : W4.cell? ⟨XB + 1, g, none⟩ = some (.int .i64 dg) := by rw [(K4.out.blk 2 rfl).cell, ints4_at dv hg4, HDF.out g hg4, hdg]
                  have ly := (K4.out.blk 2 rfl).lt
                  have e0 : (dg == dg) = true := by simp
                  rw [hdg]
                  clear HC F4 lb hC hdg
                  go_wp2
                  rw [onlyN_normal]
                  go_wp2
                  go_roundg (4 - g)
                  case measure => omega
                  case rel => exact ⟨g + 1, by omega, by omega, by go_num, K4⟩
                · as_aux_lemma =>
                  obtain rfl : g = 4 := by omega
                  obtain ⟨mb, off, kd, fl, sz, rfl, m1, m2, m3⟩ := HST.out j hjn
                  have m4 : wr.cell? ⟨mb, off + j * 3, none⟩ = some (.int .i64 kd) := (KW.out.fr.cell (p := ⟨mb, _, none⟩) (mv_lt m1) (by simp)).trans m1
                  have m5 : wr.cell? ⟨mb, off + j * 3 + 1, none⟩ = some (.int .i64 fl) := by rw [Nat.add_assoc]; exact (KW.out.fr.cell (p := ⟨mb, _, none⟩) (mv_lt m2) (by simp)).trans m2
                  have m6 : wr.cell? ⟨mb, off + j * 3 + 2, none⟩ = some (.int .i64 sz) := by rw [Nat.add_assoc]; exact (KW.out.fr.cell (p := ⟨mb, _, none⟩) (mv_lt m3) (by simp)).trans m3
                  have HMC : Hid (∀ X, Fr [] w X → X.cell? ⟨mb, off + j * 3, none⟩ = some (.int .i64 kd) ∧ X.cell? ⟨mb, off + j * 3 + 1, none⟩ = some (.int .i64 fl) ∧ X.cell? ⟨mb, off + j * 3 + 2, none⟩ = some (.int .i64 sz)) := Lib.hid (fun X fX => ⟨(fX.cell (p := ⟨mb, _, none⟩) (mv_lt m1) (by simp)).trans m1, by rw [Nat.add_assoc]; exact (fX.cell (p := ⟨mb, _, none⟩) (mv_lt m2) (by simp)).trans m2, by rw [Nat.add_assoc]; exact (fX.cell (p := ⟨mb, _, none⟩) (mv_lt m3) (by simp)).trans m3⟩)
                  clear m1 m2 m3
                  by_cases hkd : kd = 1
                  · as_aux_lemma =>
                    subst hkd
                    clear m5 m6
                    have b0 := Wd.wds (pre := [_, _, _, _, _]) KW.out
                    rw [HB.out] at b0
                    obtain ⟨a0, r0, hv0, -⟩ := (Wd.rowf (pre := [_, _, _, _, _]) KW.out (show 0 < 4 by omega)).val
                    obtain ⟨n0, hn0⟩ : ∃ n0, (x.L 0).length = n0 := ⟨_, rfl⟩
                    have hb0 : n0 ≤ 100 := by have := HWF.out.len 0 (by omega); omega
                    have c5 : wr.cell? ⟨WB, 5, none⟩ = some (.slice a0 n0 r0) := by rw [← hn0, ← hv0]; exact b0.cell 5
                    obtain ⟨a1, r1, hv1, -⟩ := (Wd.rowf (pre := [_, _, _, _, _]) KW.out (show 1 < 4 by omega)).val
                    obtain ⟨n1, hn1⟩ : ∃ n1, (x.L 1).length = n1 := ⟨_, rfl⟩
                    have hb1 : n1 ≤ 100 := by have := HWF.out.len 1 (by omega); omega
                    have c6 : wr.cell? ⟨WB, 6, none⟩ = some (.slice a1 n1 r1) := by rw [← hn1, ← hv1]; exact b0.cell 6
                    obtain ⟨a2, r2, hv2, -⟩ := (Wd.rowf (pre := [_, _, _, _, _]) KW.out (show 2 < 4 by omega)).val
                    obtain ⟨n2, hn2⟩ : ∃ n2, (x.L 2).length = n2 := ⟨_, rfl⟩
                    have hb2 : n2 ≤ 100 := by have := HWF.out.len 2 (by omega); omega
                    have c7 : wr.cell? ⟨WB, 7, none⟩ = some (.slice a2 n2 r2) := by rw [← hn2, ← hv2]; exact b0.cell 7
                    obtain ⟨a3, r3, hv3, -⟩ := (Wd.rowf (pre := [_, _, _, _, _]) KW.out (show 3 < 4 by omega)).val
                    obtain ⟨n3, hn3⟩ : ∃ n3, (x.L 3).length = n3 := ⟨_, rfl⟩
                    have hb3 : n3 ≤ 100 := by have := HWF.out.len 3 (by omega); omega
                    have c8 : wr.cell? ⟨WB, 8, none⟩ = some (.slice a3 n3 r3) := by rw [← hn3, ← hv3]; exact b0.cell 8
                    have lb := b0.lt
                    have HCN : Hid (x.cnt = n0 + n1 + n2 + n3) := Lib.hid (by unfold Wd.cnt; rw [hn0, hn1, hn2, hn3])
                    have HVN : Hid (∀ s, s < 4 → x.V s = ([.slice a0 n0 r0, .slice a1 n1 r1, .slice a2 n2 r2, .slice a3 n3 r3] : List Value).getD s undef ∧ (x.L s).length = [n0, n1, n2, n3].getD s 0) := Lib.hid (fun s hs => four (P := fun s => x.V s = ([.slice a0 n0 r0, .slice a1 n1 r1, .slice a2 n2 r2, .slice a3 n3 r3] : List Value).getD s undef ∧ (x.L s).length = [n0, n1, n2, n3].getD s 0) ⟨by rw [hv0, hn0]; rfl, hn0⟩ ⟨by rw [hv1, hn1]; rfl, hn1⟩ ⟨by rw [hv2, hn2]; rfl, hn2⟩ ⟨by rw [hv3, hn3]; rfl, hn3⟩ hs)
                    have K11 := Lib.hid ((KW.out.alloc 50 [.slice a0 n0 r0, .slice a1 n1 r1, .slice a2 n2 r2, .slice a3 n3 r3]).perm List.perm_append_comm)
                    obtain ⟨QB, hQB⟩ : ∃ QB, wr.heap.size = QB := ⟨_, rfl⟩
                    rw [hQB] at K11
                    clear b0 hv0 hv1 hv2 hv3 hn0 hn1 hn2 hn3
                    go_wp2_with fail
                    obtain ⟨W1, hW1⟩ : ∃ W1, wr.alloc (.cells #[.slice a0 n0 r0, .slice a1 n1 r1, .slice a2 n2 r2, .slice a3 n3 r3] 50) = W1 := ⟨_, rfl⟩
                    have K12 : Hid (Sep w [] W1 ([Chunk.blk QB 50 [.slice a0 n0 r0, .slice a1 n1 r1, .slice a2 n2 r2, .slice a3 n3 r3]] ++ ([Chunk.blk YB 26 [.int .i64 th, .int .i64 tg], Chunk.blk PB 34 (encP6 PV), Chunk.blk (XB + 1) 40 (ints4 dv), Chunk.blk XB 26 [.int .i64 th, .int .i64 tg], Chunk.own 26 2 RV x.ring.length (hds x.G x.ring) S1] ++ x.chunks))) := by rw [← hW1]; exact K11
                    rw [hW1]
                    clear hW1 K11 KW lb m4 c5 c6 c7 c8 hQB
                    have qc : ∀ X, Blk X QB 50 [.slice a0 n0 r0, .slice a1 n1 r1, .slice a2 n2 r2, .slice a3 n3 r3] → (X.cell? ⟨QB, 0, none⟩ = some (.slice a0 n0 r0) ∧ X.cell? ⟨QB, 1, none⟩ = some (.slice a1 n1 r1) ∧ X.cell? ⟨QB, 2, none⟩ = some (.slice a2 n2 r2) ∧ X.cell? ⟨QB, 3, none⟩ = some (.slice a3 n3 r3)) := fun X h => ⟨h.cell 0, h.cell 1, h.cell 2, h.cell 3⟩
                    have HQC := Lib.hid qc
                    have C0 : (fun X : World => (X.cell? ⟨mb, off + j * 3, none⟩ = some (.int .i64 1) ∧ X.cell? ⟨mb, off + j * 3 + 1, none⟩ = some (.int .i64 fl) ∧ X.cell? ⟨mb, off + j * 3 + 2, none⟩ = some (.int .i64 sz)) ∧ X.cell? ⟨QB, 0, none⟩ = some (.slice a0 n0 r0) ∧ X.cell? ⟨QB, 1, none⟩ = some (.slice a1 n1 r1) ∧ X.cell? ⟨QB, 2, none⟩ = some (.slice a2 n2 r2) ∧ X.cell? ⟨QB, 3, none⟩ = some (.slice a3 n3 r3)) W1.drew := ⟨HMC.out _ K12.out.drew.fr, qc _ (K12.out.drew.blk 0 rfl)⟩
                    clear qc
                    have u1 : IntKind.i64.wrap ((n0 : Int) + n1) = n0 + n1 := wrapu (by omega) (by omega)
                    have u2 : IntKind.i64.wrap ((n0 : Int) + n1 + n2) = n0 + n1 + n2 := wrapu (by omega) (by omega)
                    have u3 : IntKind.i64.wrap ((n0 : Int) + n1 + n2 + n3) = n0 + n1 + n2 + n3 := wrapu (by omega) (by omega)
                    refine wp_T [31] (fun X => (X.cell? ⟨mb, off + j * 3, none⟩ = some (.int .i64 1) ∧ X.cell? ⟨mb, off + j * 3 + 1, none⟩ = some (.int .i64 fl) ∧ X.cell? ⟨mb, off + j * 3 + 2, none⟩ = some (.int .i64 sz)) ∧ X.cell? ⟨QB, 0, none⟩ = some (.slice a0 n0 r0) ∧ X.cell? ⟨QB, 1, none⟩ = some (.slice a1 n1 r1) ∧ X.cell? ⟨QB, 2, none⟩ = some (.slice a2 n2 r2) ∧ X.cell? ⟨QB, 3, none⟩ = some (.slice a3 n3 r3)) (by kernel_rfl) (fun hC => ?_) C0
                    clear C0
                    refine wpAnyT_takeP' 0 (by kernel_rfl) (fun _ _ _ h => h) (by assumption) (by rfl) (fun w => by simp only [List.getD_cons_zero]; go_simp; try with_reducible rfl) ?_
                    try simp only [List.getD_cons_zero, Act.put, List.setIfInBounds_toArray, List.set_cons_zero, List.set_cons_succ]
                    refine wpAnyT_takeP' 1 (by kernel_rfl) (fun _ _ _ h => h) (by assumption) (by rfl) (fun w => by simp only [List.getD_cons_succ, List.getD_cons_zero]; go_simp; try with_reducible rfl) ?_
                    try simp only [List.getD_cons_succ, List.getD_cons_zero, Act.put, List.setIfInBounds_toArray, List.set_cons_zero, List.set_cons_succ]
                    refine wpAnyT_takeP' 2 (by kernel_rfl) (fun _ _ _ h => h) (by assumption) (by rfl) (fun w => by simp only [List.getD_cons_succ, List.getD_cons_zero]; go_simp; try with_reducible rfl) ?_
                    try simp only [List.getD_cons_succ, List.getD_cons_zero, Act.put, List.setIfInBounds_toArray, List.set_cons_zero, List.set_cons_succ]
                    refine wpAnyT_takeP' 3 (by kernel_rfl) (fun _ _ _ h => h) (by assumption) (by rfl) (fun w => by simp only [List.getD_cons_succ, List.getD_cons_zero]; go_simp; try with_reducible rfl) ?_
                    try simp only [List.getD_cons_succ, List.getD_cons_zero, Act.put, List.setIfInBounds_toArray, List.set_cons_zero, List.set_cons_succ]
                    refine wpAnyT_takeM' 4 (by kernel_rfl) (fun _ _ _ h => h) (by assumption) (by rfl) (fun w hSw => by simp only [List.getD_cons_succ, List.getD_cons_zero]; (try dsimp only at hSw); go_simp; try with_reducible rfl) ?_
                    try simp only [List.getD_cons_succ, List.getD_cons_zero, Act.put, List.setIfInBounds_toArray, List.set_cons_zero, List.set_cons_succ]
                    refine wpAnyT_one' 5 (by kernel_rfl) (by rfl) (fun K hK => ?_)
                    simp only [List.getD_cons_succ, List.getD_cons_zero]
                    go_simp
                    have hmv := mv1_peek HWF.out (by omega) (show Holds W1.drew x.chunks from K12.out.drew.hs.right.right) fl sz HPK.out
                    rw [HB.out] at hmv
                    refine hmv.mono ?_
                    rintro er W3 ⟨rfl, x', hwf, hb, k3, hpd⟩
                    have HWF' := Lib.hid hwf
                    have HB' : Hid (x'.b = WB) := Lib.hid hb
                    have HPD := Lib.hid hpd
                    have K13 : Hid (Sep w [] W3 ([Chunk.blk QB 50 [.slice a0 n0 r0, .slice a1 n1 r1, .slice a2 n2 r2, .slice a3 n3 r3]] ++ ([Chunk.blk YB 26 [.int .i64 th, .int .i64 tg], Chunk.blk PB 34 (encP6 PV), Chunk.blk (XB + 1) 40 (ints4 dv), Chunk.blk XB 26 [.int .i64 th, .int .i64 tg], Chunk.own 26 2 RV x.ring.length (hds x.G x.ring) S1] ++ x'.chunks))) := Lib.hid ((Sep.frame ((K12.out.drew).perm List.perm_append_comm |>.perm (permW _ _ _)) k3).perm (permW2 _ _ _))
                    have C1 : (fun X : World => (X.cell? ⟨mb, off + j * 3, none⟩ = some (.int .i64 1) ∧ X.cell? ⟨mb, off + j * 3 + 1, none⟩ = some (.int .i64 fl) ∧ X.cell? ⟨mb, off + j * 3 + 2, none⟩ = some (.int .i64 sz)) ∧ X.cell? ⟨QB, 0, none⟩ = some (.slice a0 n0 r0) ∧ X.cell? ⟨QB, 1, none⟩ = some (.slice a1 n1 r1) ∧ X.cell? ⟨QB, 2, none⟩ = some (.slice a2 n2 r2) ∧ X.cell? ⟨QB, 3, none⟩ = some (.slice a3 n3 r3)) W3 := ⟨HMC.out _ K13.out.fr, HQC.out _ (K13.out.blk 0 rfl)⟩
                    refine hK.out _ _ C1 ?_
                    clear hK hC hwf hb hpd k3 hmv K12
                    have hC := C1
                    clear C1
                    try simp only [Act.put, List.setIfInBounds_toArray, List.set_cons_zero, List.set_cons_succ]
                    refine wpAnyT_takeP' 6 (by kernel_rfl) (fun _ _ _ h => h) (by assumption) (by rfl) (fun w => by simp only [List.getD_cons_succ, List.getD_cons_zero]; go_simp; try with_reducible rfl) ?_
                    try simp only [List.getD_cons_succ, List.getD_cons_zero, Act.put, List.setIfInBounds_toArray, List.set_cons_zero, List.set_cons_succ]
                    refine wpAnyT_takeP' 7 (by kernel_rfl) (fun _ _ _ h => h) (by assumption) (by rfl) (fun w => by simp only [List.getD_cons_succ, List.getD_cons_zero]; go_simp; try with_reducible rfl) ?_
                    try simp only [List.getD_cons_succ, List.getD_cons_zero, Act.put, List.setIfInBounds_toArray, List.set_cons_zero, List.set_cons_succ]
                    refine wpAnyT_takeP' 8 (by kernel_rfl) (fun _ _ _ h => h) (by assumption) (by rfl) (fun w => by simp only [List.getD_cons_succ, List.getD_cons_zero]; go_simp; try with_reducible rfl) ?_
                    try simp only [List.getD_cons_succ, List.getD_cons_zero, Act.put, List.setIfInBounds_toArray, List.set_cons_zero, List.set_cons_succ]
                    refine wpAnyT_takeP' 9 (by kernel_rfl) (fun _ _ _ h => h) (by assumption) (by rfl) (fun w => by simp only [List.getD_cons_succ, List.getD_cons_zero]; go_simp; try with_reducible rfl) ?_
                    try simp only [List.getD_cons_succ, List.getD_cons_zero, Act.put, List.setIfInBounds_toArray, List.set_cons_zero, List.set_cons_succ]
                    refine wpAnyT_takeP' 10 (by kernel_rfl) (fun _ _ _ h => h) (by assumption) (by rfl) (fun w => by simp only [List.getD_cons_succ, List.getD_cons_zero]; go_simp; try with_reducible rfl) ?_
                    try simp only [List.getD_cons_succ, List.getD_cons_zero, Act.put, List.setIfInBounds_toArray, List.set_cons_zero, List.set_cons_succ]
                    refine wpAnyT_takeP' 11 (by kernel_rfl) (fun _ _ _ h => h) (by assumption) (by rfl) (fun w => by simp only [List.getD_cons_succ, List.getD_cons_zero]; go_simp; try with_reducible rfl) ?_
                    try simp only [List.getD_cons_succ, List.getD_cons_zero, Act.put, List.setIfInBounds_toArray, List.set_cons_zero, List.set_cons_succ]
                    refine wpAnyT_takeP' 14 (by kernel_rfl) (fun _ _ _ h => h) (by assumption) (by rfl) (fun w => by simp only [List.getD_cons_succ, List.getD_cons_zero]; go_simp; try with_reducible rfl) ?_
                    try simp only [List.getD_cons_succ, List.getD_cons_zero, Act.put, List.setIfInBounds_toArray, List.set_cons_zero, List.set_cons_succ]
                    refine wpAnyT_takeM' 15 (by kernel_rfl) (fun _ _ _ h => h) (by assumption) (by rfl) (fun w hSw => by simp only [List.getD_cons_succ, List.getD_cons_zero]; (try dsimp only at hSw); go_simp; try with_reducible rfl) ?_
                    try simp only [List.getD_cons_succ, List.getD_cons_zero, Act.put, List.setIfInBounds_toArray, List.set_cons_zero, List.set_cons_succ]
                    refine wpAnyT_takeP' 16 (by kernel_rfl) (fun _ _ _ h => h) (by assumption) (by rfl) (fun w => by simp only [List.getD_cons_succ, List.getD_cons_zero]; go_simp; try with_reducible rfl) ?_
                    try simp only [List.getD_cons_succ, List.getD_cons_zero, Act.put, List.setIfInBounds_toArray, List.set_cons_zero, List.set_cons_succ]
                    refine wpAnyT_takeP' 17 (by kernel_rfl) (fun _ _ _ h => h) (by assumption) (by rfl) (fun w => by simp only [List.getD_cons_succ, List.getD_cons_zero]; go_simp; try with_reducible rfl) ?_
                    try simp only [List.getD_cons_succ, List.getD_cons_zero, Act.put, List.setIfInBounds_toArray, List.set_cons_zero, List.set_cons_succ]
                    refine wpAnyT_takeM' 18 (by kernel_rfl) (fun _ _ _ h => h) (by assumption) (by rfl) (fun w hSw => by simp only [List.getD_cons_succ, List.getD_cons_zero]; (try dsimp only at hSw); go_simp; try with_reducible rfl) ?_
                    try simp only [List.getD_cons_succ, List.getD_cons_zero, Act.put, List.setIfInBounds_toArray, List.set_cons_zero, List.set_cons_succ]
                    refine wpAnyT_takeP' 19 (by kernel_rfl) (fun _ _ _ h => h) (by assumption) (by rfl) (fun w => by simp only [List.getD_cons_succ, List.getD_cons_zero]; go_simp; try with_reducible rfl) ?_
                    try simp only [List.getD_cons_succ, List.getD_cons_zero, Act.put, List.setIfInBounds_toArray, List.set_cons_zero, List.set_cons_succ]
                    refine wpAnyT_takeP' 20 (by kernel_rfl) (fun _ _ _ h => h) (by assumption) (by rfl) (fun w => by simp only [List.getD_cons_succ, List.getD_cons_zero]; go_simp; try with_reducible rfl) ?_
                    try simp only [List.getD_cons_succ, List.getD_cons_zero, Act.put, List.setIfInBounds_toArray, List.set_cons_zero, List.set_cons_succ]
                    refine wpAnyT_takeP' 21 (by kernel_rfl) (fun _ _ _ h => h) (by assumption) (by rfl) (fun w => by simp only [List.getD_cons_succ, List.getD_cons_zero]; go_simp; try with_reducible rfl) ?_
                    try simp only [List.getD_cons_succ, List.getD_cons_zero, Act.put, List.setIfInBounds_toArray, List.set_cons_zero, List.set_cons_succ]
                    refine wpAnyT_takeM' 22 (by kernel_rfl) (fun _ _ _ h => h) (by assumption) (by rfl) (fun w hSw => by simp only [List.getD_cons_succ, List.getD_cons_zero]; (try dsimp only at hSw); go_simp; try with_reducible rfl) ?_
                    try simp only [List.getD_cons_succ, List.getD_cons_zero, Act.put, List.setIfInBounds_toArray, List.set_cons_zero, List.set_cons_succ]
                    refine wpAnyT_takeP' 23 (by kernel_rfl) (fun _ _ _ h => h) (by assumption) (by rfl) (fun w => by simp only [List.getD_cons_succ, List.getD_cons_zero]; go_simp; try with_reducible rfl) ?_
                    try simp only [List.getD_cons_succ, List.getD_cons_zero, Act.put, List.setIfInBounds_toArray, List.set_cons_zero, List.set_cons_succ]
                    refine wpAnyT_takeP' 24 (by kernel_rfl) (fun _ _ _ h => h) (by assumption) (by rfl) (fun w => by simp only [List.getD_cons_succ, List.getD_cons_zero]; go_simp; try with_reducible rfl) ?_
                    try simp only [List.getD_cons_succ, List.getD_cons_zero, Act.put, List.setIfInBounds_toArray, List.set_cons_zero, List.set_cons_succ]
                    refine wpAnyT_takeP' 25 (by kernel_rfl) (fun _ _ _ h => h) (by assumption) (by rfl) (fun w => by simp only [List.getD_cons_succ, List.getD_cons_zero]; go_simp; try with_reducible rfl) ?_
                    try simp only [List.getD_cons_succ, List.getD_cons_zero, Act.put, List.setIfInBounds_toArray, List.set_cons_zero, List.set_cons_succ]
                    refine wpAnyT_takeM' 26 (by kernel_rfl) (fun _ _ _ h => h) (by assumption) (by rfl) (fun w hSw => by simp only [List.getD_cons_succ, List.getD_cons_zero]; (try dsimp only at hSw); go_simp; try with_reducible rfl) ?_
                    try simp only [List.getD_cons_succ, List.getD_cons_zero, Act.put, List.setIfInBounds_toArray, List.set_cons_zero, List.set_cons_succ]
                    refine wpAnyT_takeP' 27 (by kernel_rfl) (fun _ _ _ h => h) (by assumption) (by rfl) (fun w => by simp only [List.getD_cons_succ, List.getD_cons_zero]; go_simp; try with_reducible rfl) ?_
                    try simp only [List.getD_cons_succ, List.getD_cons_zero, Act.put, List.setIfInBounds_toArray, List.set_cons_zero, List.set_cons_succ]
                    refine wpAnyT_takeP' 28 (by kernel_rfl) (fun _ _ _ h => h) (by assumption) (by rfl) (fun w => by simp only [List.getD_cons_succ, List.getD_cons_zero]; go_simp; try with_reducible rfl) ?_
                    try simp only [List.getD_cons_succ, List.getD_cons_zero, Act.put, List.setIfInBounds_toArray, List.set_cons_zero, List.set_cons_succ]
                    have b0 := Wd.wds (pre := [_, _, _, _, _, _]) K13.out
                    rw [HB'.out] at b0
                    have d0 : W3.cell? ⟨WB, 0, none⟩ = some (.pointer (some ⟨x'.db, 0, none⟩)) := b0.cell 0
                    have lb := b0.lt
                    clear b0
                    have HC3 := Lib.hid hC
                    refine wpAnyT_one' 12 (by kernel_rfl) (by rfl) (fun K hK => ?_)
                    simp only [List.getD_cons_succ, List.getD_cons_zero]
                    go_simp
                    refine hK.out _ _ HC3.out ?_
                    clear hK
                    try simp only [Act.put, List.setIfInBounds_toArray, List.set_cons_zero, List.set_cons_succ]
                    refine wpAnyT_one' 13 (by kernel_rfl) (by rfl) (fun K hK => ?_)
                    simp only [List.getD_cons_succ, List.getD_cons_zero]
                    go_simp
                    refine (x_len (Holds.drs (pre := [_, _, _, _, _, _]) K13.out.hs)).mono ?_
                    rintro er W4 ⟨rfl, rfl⟩
                    refine hK.out _ _ HC3.out ?_
                    clear hK d0 lb
                    try simp only [Act.put, List.setIfInBounds_toArray, List.set_cons_zero, List.set_cons_succ]
                    obtain ⟨cn, hcn⟩ : ∃ cn, x'.cnt = cn := ⟨_, rfl⟩
                    rw [hcn]
                    have HCX := Lib.hid hcn
                    clear hcn u1 u2 u3
                    have pb : Blk W4 PB 34 (encP6 PV) := K13.out.blk 2 rfl
                    have lpb := pb.lt
                    rcases HPD.out with ⟨rfl, rfl, hc⟩ | ⟨rfl, s, qs, hs4, hps, hq, hql, hc, hrow⟩
                    · as_aux_lemma =>
                      have hcc : (cn : Int) = n0 + n1 + n2 + n3 := by have := HCN.out; have := HCX.out; omega
                      have hdec : decide ((cn : Int) < (n0 : Int) + n1 + n2 + n3) = false := decide_eq_false (by omega)
                      have hnl : ¬ ((cn : Int) < (n0 : Int) + n1 + n2 + n3) := by omega
                      have p0 : W4.cell? ⟨PB, 0, none⟩ = some (.int .i64 0) := pb.cell 0
                      have hand : bits .and .i64 0 3 = 0 := by decide
                      clear hc HCX hb0 hb1 hb2 hb3 hcc
                      refine wpAnyT_takeP' 29 (by kernel_rfl) (fun _ _ _ h => h) (by assumption) (by rfl) (fun w => by simp only [List.getD_cons_succ, List.getD_cons_zero]; go_simp; try with_reducible rfl) ?_
                      try simp only [List.getD_cons_succ, List.getD_cons_zero, Act.put, List.setIfInBounds_toArray, List.set_cons_zero, List.set_cons_succ]
                      refine wpAnyT_takeP' 30 (by kernel_rfl) (fun _ _ _ h => h) (by assumption) (by rfl) (fun w => by simp only [List.getD_cons_succ, List.getD_cons_zero]; go_simp; try with_reducible rfl) ?_
                      try simp only [List.getD_cons_succ, List.getD_cons_zero, Act.put, List.setIfInBounds_toArray, List.set_cons_zero, List.set_cons_succ]
                      refine wpAnyT_last 31 rfl (by kernel_rfl) ?_
                      simp only [List.drop_succ_cons, List.drop_zero]
                      clear hC hdec hnl pb
                      go_wp2
                      rw [onlyN_normal]
                      go_wp2
                      go_quiet (fail)
                      go_wp2
                      go_roundg (len - j)
                      case measure => omega
                      case rel => exact ⟨j + 1, by omega, by omega, by omega, by go_num, x', HB', HWF', Lib.hid ((K13.out.drewN _).sub (List.sublist_append_right [_, _, _, _, _, _] _))⟩
                    · as_aux_lemma =>
                      have hcc : (cn : Int) + 1 = n0 + n1 + n2 + n3 := by have := HCN.out; have := HCX.out; omega
                      have hdec : decide ((cn : Int) < (n0 : Int) + n1 + n2 + n3) = true := decide_eq_true (by omega)
                      have hnl : ((cn : Int) < (n0 : Int) + n1 + n2 + n3) := by omega
                      have p0 : W4.cell? ⟨PB, 0, none⟩ = some (.int .i64 s) := by rw [← hps]; exact pb.cell 0
                      have p1 : W4.cell? ⟨PB, 1, none⟩ = some (.int .i64 PV.f1) := pb.cell 1
                      have p2 : W4.cell? ⟨PB, 2, none⟩ = some (.int .i64 PV.f2) := pb.cell 2
                      have p3 : W4.cell? ⟨PB, 3, none⟩ = some (.int .i64 PV.f3) := pb.cell 3
                      have p4 : W4.cell? ⟨PB, 4, none⟩ = some (.int .i64 PV.f4) := pb.cell 4
                      have p5 : W4.cell? ⟨PB, 5, none⟩ = some (.int .i64 PV.f5) := pb.cell 5
                      have hand : bits .and .i64 (s : Int) 3 = s := and3 hs4
                      have hsi : (s : Int) < 4 := by omega
                      obtain ⟨sa, sc, hsv, -⟩ := hrow.val
                      rw [hsv, hq] at hrow
                      obtain ⟨m, hm⟩ : ∃ m, qs.length = m := ⟨_, rfl⟩
                      have hsv2 : x.V s = .slice sa (m + 1) sc := by rw [hsv, hq, List.length_cons, hm]
                      obtain ⟨g2, off2, rfl, -, lg2, fa⟩ := hrow.at_ (i := 0) rfl
                      have g0 : W4.cell? ⟨g2, off2, none⟩ = some (.int .i64 s) := by rw [← hps]; simpa [encP6] using fa 0 (by omega)
                      have g1 : W4.cell? ⟨g2, off2 + 1, none⟩ = some (.int .i64 PV.f1) := by simpa [encP6] using fa 1 (by omega)
                      have g2' : W4.cell? ⟨g2, off2 + 2, none⟩ = some (.int .i64 PV.f2) := by simpa [encP6] using fa 2 (by omega)
                      have g3 : W4.cell? ⟨g2, off2 + 3, none⟩ = some (.int .i64 PV.f3) := by simpa [encP6] using fa 3 (by omega)
                      have g4 : W4.cell? ⟨g2, off2 + 4, none⟩ = some (.int .i64 PV.f4) := by simpa [encP6] using fa 4 (by omega)
                      have g5 : W4.cell? ⟨g2, off2 + 5, none⟩ = some (.int .i64 PV.f5) := by simpa [encP6] using fa 5 (by omega)
                      have hqb := K13.out.blk 0 (b := QB) (t := 50) (vs := [.slice a0 n0 r0, .slice a1 n1 r1, .slice a2 n2 r2, .slice a3 n3 r3]) rfl
                      have qcs : W4.cell? ⟨QB, s, none⟩ = some (.slice (some ⟨g2, off2, none⟩) (m + 1) sc) := by
                        rw [hqb.cell, ← hsv2, (HVN.out s hs4).1]
                        exact four (P := fun s => ([.slice a0 n0 r0, .slice a1 n1 r1, .slice a2 n2 r2, .slice a3 n3 r3] : List Value)[s]? = some (([.slice a0 n0 r0, .slice a1 n1 r1, .slice a2 n2 r2, .slice a3 n3 r3] : List Value).getD s undef)) rfl rfl rfl rfl hs4
                      have lq := hqb.lt
                      have b0 := Wd.wds (pre := [_, _, _, _, _, _]) K13.out
                      rw [HB'.out] at b0
                      obtain ⟨va', ca', hva', -⟩ := (Wd.rowf (pre := [_, _, _, _, _, _]) K13.out hs4).val
                      have d5 : W4.cell? ⟨WB, 5 + s, none⟩ = some (.slice va' m ca') := by rw [b0.cell, x'.cV hs4, hva', hql, hm]
                      have lb := b0.lt
                      have hz : ((m : Int) + 1 == 0) = false := by rw [beq_eq_false_iff_ne]; omega
                      have hmb : m ≤ 100 := by have := HWF.out.len s hs4; rw [hq, List.length_cons, hm] at this; omega
                      have v1 : IntKind.i64.wrap (m : Int) = m := wrapu (by omega) (by omega)
                      have v2 : IntKind.i64.wrap ((m : Int) + 1 - 1) = m := (wrapu (by omega) (by omega)).trans (by omega)
                      have e0 : ((s : Int) == s) = true := by simp
                      have e1 : (PV.f1 == PV.f1) = true := by simp
                      have e2 : (PV.f2 == PV.f2) = true := by simp
                      have e3 : (PV.f3 == PV.f3) = true := by simp
                      have e4 : (PV.f4 == PV.f4) = true := by simp
                      have e5 : (PV.f5 == PV.f5) = true := by simp
                      have e6 : ((m : Int) == m) = true := by simp
                      clear hc HCX hb0 hb1 hb2 hb3 hcc hqb b0 hva' hsv hsv2 hrow fa hq hql hps
                      refine wpAnyT_takeP' 29 (by kernel_rfl) (fun _ _ _ h => h) (by assumption) (by rfl) (fun w => by simp only [List.getD_cons_succ, List.getD_cons_zero]; go_simp; try with_reducible rfl) ?_
                      try simp only [List.getD_cons_succ, List.getD_cons_zero, Act.put, List.setIfInBounds_toArray, List.set_cons_zero, List.set_cons_succ]
                      refine wpAnyT_takeP' 30 (by kernel_rfl) (fun _ _ _ h => h) (by assumption) (by rfl) (fun w => by simp only [List.getD_cons_succ, List.getD_cons_zero]; go_simp; try with_reducible rfl) ?_
                      try simp only [List.getD_cons_succ, List.getD_cons_zero, Act.put, List.setIfInBounds_toArray, List.set_cons_zero, List.set_cons_succ]
                      refine wpAnyT_last 31 rfl (by kernel_rfl) ?_
                      simp only [List.drop_succ_cons, List.drop_zero]
                      clear hC hdec hnl pb
                      go_wp2
                      rw [onlyN_normal]
                      go_wp2
                      go_quiet (fail)
                      go_wp2
                      go_roundg (len - j)
                      case measure => omega
                      case rel => exact ⟨j + 1, by omega, by omega, by omega, by go_num, x', HB', HWF', Lib.hid ((K13.out.drewN _).sub (List.sublist_append_right [_, _, _, _, _, _] _))⟩
                  · as_aux_lemma =>
                    have hk1 : (kd == 1) = false := by rw [beq_eq_false_iff_ne]; exact hkd
                    have hmv := mv HWF.out (by omega) (show Holds wr x.chunks from KW.out.hs.right) kd fl sz
                    rw [HB.out] at hmv
                    have HM := Lib.hid hmv
                    clear hmv hkd
                    go_wp2_with fail
                    refine HM.out.mono ?_
                    rintro er w3 ⟨rfl, x', hR, hwf, hb, k3⟩
                    have HWF' := Lib.hid hwf
                    have HB' : Hid (x'.b = WB) := Lib.hid (hb.trans HB.out)
                    have K4 := Lib.hid ((Sep.frame (KW.out.perm List.perm_append_comm) k3).left')
                    clear hR hwf hb k3 KW HM m4 m5 m6
                    go_wp2
                    go_roundg (len - j)
                    case measure => omega
                    case rel => exact ⟨j + 1, by omega, by omega, by omega, by go_num, x', HB', HWF', K4⟩
        · obtain rfl : j = 100 := by omega
          have hjl : (100 : Int) < len := by omega
          go_wp2
          go_meet
          exact ⟨_, rfl, x, 100, by omega, HB, HWF, K⟩
      · obtain rfl : j = len := by omega
        go_wp2
        go_meet
        exact ⟨_, rfl, x, j, hj2, HB, HWF, K⟩
  case rest =>
    as_aux_lemma =>
    clear HB HWF K2 x
    obtain ⟨wy, hwx, x, N, hN, HB, HWF, K⟩ := hcut
    rw [hwx]
    clear hwx
    have b0 := Wd.wds (pre := []) K.out
    rw [HB.out] at b0
    have c0 : wy.cell? ⟨WB, 0, none⟩ = some (.pointer (some ⟨x.db, 0, none⟩)) := b0.cell 0
    obtain ⟨a0, r0, hv0, -⟩ := (Wd.rowf (pre := []) K.out (show 0 < 4 by omega)).val
    obtain ⟨n0, hn0⟩ : ∃ n0, (x.L 0).length = n0 := ⟨_, rfl⟩
    have c5 : wy.cell? ⟨WB, 5, none⟩ = some (.slice a0 n0 r0) := by rw [← hn0, ← hv0]; exact b0.cell 5
    obtain ⟨a1, r1, hv1, -⟩ := (Wd.rowf (pre := []) K.out (show 1 < 4 by omega)).val
    obtain ⟨n1, hn1⟩ : ∃ n1, (x.L 1).length = n1 := ⟨_, rfl⟩
    have c6 : wy.cell? ⟨WB, 6, none⟩ = some (.slice a1 n1 r1) := by rw [← hn1, ← hv1]; exact b0.cell 6
    obtain ⟨a2, r2, hv2, -⟩ := (Wd.rowf (pre := []) K.out (show 2 < 4 by omega)).val
    obtain ⟨n2, hn2⟩ : ∃ n2, (x.L 2).length = n2 := ⟨_, rfl⟩
    have c7 : wy.cell? ⟨WB, 7, none⟩ = some (.slice a2 n2 r2) := by rw [← hn2, ← hv2]; exact b0.cell 7
    obtain ⟨a3, r3, hv3, -⟩ := (Wd.rowf (pre := []) K.out (show 3 < 4 by omega)).val
    obtain ⟨n3, hn3⟩ : ∃ n3, (x.L 3).length = n3 := ⟨_, rfl⟩
    have c8 : wy.cell? ⟨WB, 8, none⟩ = some (.slice a3 n3 r3) := by rw [← hn3, ← hv3]; exact b0.cell 8
    have lb := b0.lt
    have HST0 : Hid ([Value.int .i64 (n0 : Int), .int .i64 (n1 : Int), .int .i64 (n2 : Int), .int .i64 (n3 : Int)] = ints4 (fun t => (lef x (x.dr.rows none 0) t : Int))) := Lib.hid (by
      show [Value.int .i64 (n0 : Int), .int .i64 (n1 : Int), .int .i64 (n2 : Int), .int .i64 (n3 : Int)] = [.int .i64 ((lef x (x.dr.rows none 0) 0 : Nat) : Int), .int .i64 ((lef x (x.dr.rows none 0) 1 : Nat) : Int), .int .i64 ((lef x (x.dr.rows none 0) 2 : Nat) : Int), .int .i64 ((lef x (x.dr.rows none 0) 3 : Nat) : Int)]
      rw [nth_start HWF.out (show 0 < 4 by omega), nth_start HWF.out (show 1 < 4 by omega), nth_start HWF.out (show 2 < 4 by omega), nth_start HWF.out (show 3 < 4 by omega), hn0, hn1, hn2, hn3])
    have HLN := Lib.hid (x_len (Holds.drs (pre := []) K.out.hs))
    have HC := Lib.hid (fun X (fX : Fr [] wy X) => And.intro ((fX.cell (p := ⟨WB, 5, none⟩) lb (by simp)).trans c5) (And.intro ((fX.cell (p := ⟨WB, 6, none⟩) lb (by simp)).trans c6) (And.intro ((fX.cell (p := ⟨WB, 7, none⟩) lb (by simp)).trans c7) ((fX.cell (p := ⟨WB, 8, none⟩) lb (by simp)).trans c8))))
    clear b0 hv0 hv1 hv2 hv3 hn0 hn1 hn2 hn3 c5 c6 c7 c8
    have KW := K
    clear K
    go_wp2_with fail
    refine HLN.out.mono ?_
    rintro er W1 ⟨rfl, rfl⟩
    obtain ⟨cn, hcn⟩ : ∃ cn, x.cnt = cn := ⟨_, rfl⟩
    rw [hcn]
    have HCN := Lib.hid hcn
    have hcb : cn ≤ 400 := by
      rw [← hcn]
      unfold Wd.cnt
      have := HWF.out.len 0 (by omega)
      have := HWF.out.len 1 (by omega)
      have := HWF.out.len 2 (by omega)
      have := HWF.out.len 3 (by omega)
      omega
    clear HLN c0 hcn lb
    go_wp2_with fail
    refine wp_T [26] (fun X => X.cell? ⟨WB, 5, none⟩ = some (.slice a0 n0 r0) ∧ X.cell? ⟨WB, 6, none⟩ = some (.slice a1 n1 r1) ∧ X.cell? ⟨WB, 7, none⟩ = some (.slice a2 n2 r2) ∧ X.cell? ⟨WB, 8, none⟩ = some (.slice a3 n3 r3)) (by kernel_rfl) (fun hC => ?_) (HC.out _ (Fr.refl _ _).drew)
    refine wpAnyT_takeP' 0 (by kernel_rfl) (fun _ _ _ h => h) (by assumption) (by rfl) (fun w => by simp only [List.getD_cons_zero]; go_simp; try with_reducible rfl) ?_
    try simp only [List.getD_cons_zero, Act.put, List.setIfInBounds_toArray, List.set_cons_zero, List.set_cons_succ]
    refine wpAnyT_takeP' 1 (by kernel_rfl) (fun _ _ _ h => h) (by assumption) (by rfl) (fun w => by simp only [List.getD_cons_succ, List.getD_cons_zero]; go_simp; try with_reducible rfl) ?_
    try simp only [List.getD_cons_succ, List.getD_cons_zero, Act.put, List.setIfInBounds_toArray, List.set_cons_zero, List.set_cons_succ]
    refine wpAnyT_takeP' 2 (by kernel_rfl) (fun _ _ _ h => h) (by assumption) (by rfl) (fun w => by simp only [List.getD_cons_succ, List.getD_cons_zero]; go_simp; try with_reducible rfl) ?_
    try simp only [List.getD_cons_succ, List.getD_cons_zero, Act.put, List.setIfInBounds_toArray, List.set_cons_zero, List.set_cons_succ]
    refine wpAnyT_takeP' 3 (by kernel_rfl) (fun _ _ _ h => h) (by assumption) (by rfl) (fun w => by simp only [List.getD_cons_succ, List.getD_cons_zero]; go_simp; try with_reducible rfl) ?_
    try simp only [List.getD_cons_succ, List.getD_cons_zero, Act.put, List.setIfInBounds_toArray, List.set_cons_zero, List.set_cons_succ]
    refine wpAnyT_takeM' 4 (by kernel_rfl) (fun _ _ _ h => h) (by assumption) (by rfl) (fun w hSw => by simp only [List.getD_cons_succ, List.getD_cons_zero]; (try dsimp only at hSw); go_simp; try with_reducible rfl) ?_
    try simp only [List.getD_cons_succ, List.getD_cons_zero, Act.put, List.setIfInBounds_toArray, List.set_cons_zero, List.set_cons_succ]
    refine wpAnyT_takeP' 5 (by kernel_rfl) (fun _ _ _ h => h) (by assumption) (by rfl) (fun w => by simp only [List.getD_cons_succ, List.getD_cons_zero]; go_simp; try with_reducible rfl) ?_
    try simp only [List.getD_cons_succ, List.getD_cons_zero, Act.put, List.setIfInBounds_toArray, List.set_cons_zero, List.set_cons_succ]
    refine wpAnyT_takeP' 6 (by kernel_rfl) (fun _ _ _ h => h) (by assumption) (by rfl) (fun w => by simp only [List.getD_cons_succ, List.getD_cons_zero]; go_simp; try with_reducible rfl) ?_
    try simp only [List.getD_cons_succ, List.getD_cons_zero, Act.put, List.setIfInBounds_toArray, List.set_cons_zero, List.set_cons_succ]
    refine wpAnyT_takeP' 7 (by kernel_rfl) (fun _ _ _ h => h) (by assumption) (by rfl) (fun w => by simp only [List.getD_cons_succ, List.getD_cons_zero]; go_simp; try with_reducible rfl) ?_
    try simp only [List.getD_cons_succ, List.getD_cons_zero, Act.put, List.setIfInBounds_toArray, List.set_cons_zero, List.set_cons_succ]
    refine wpAnyT_takeP' 8 (by kernel_rfl) (fun _ _ _ h => h) (by assumption) (by rfl) (fun w => by simp only [List.getD_cons_succ, List.getD_cons_zero]; go_simp; try with_reducible rfl) ?_
    try simp only [List.getD_cons_succ, List.getD_cons_zero, Act.put, List.setIfInBounds_toArray, List.set_cons_zero, List.set_cons_succ]
    refine wpAnyT_takeP' 9 (by kernel_rfl) (fun _ _ _ h => h) (by assumption) (by rfl) (fun w => by simp only [List.getD_cons_succ, List.getD_cons_zero]; go_simp; try with_reducible rfl) ?_
    try simp only [List.getD_cons_succ, List.getD_cons_zero, Act.put, List.setIfInBounds_toArray, List.set_cons_zero, List.set_cons_succ]
    refine wpAnyT_takeM' 10 (by kernel_rfl) (fun _ _ _ h => h) (by assumption) (by rfl) (fun w hSw => by simp only [List.getD_cons_succ, List.getD_cons_zero]; (try dsimp only at hSw); go_simp; try with_reducible rfl) ?_
    try simp only [List.getD_cons_succ, List.getD_cons_zero, Act.put, List.setIfInBounds_toArray, List.set_cons_zero, List.set_cons_succ]
    refine wpAnyT_takeP' 11 (by kernel_rfl) (fun _ _ _ h => h) (by assumption) (by rfl) (fun w => by simp only [List.getD_cons_succ, List.getD_cons_zero]; go_simp; try with_reducible rfl) ?_
    try simp only [List.getD_cons_succ, List.getD_cons_zero, Act.put, List.setIfInBounds_toArray, List.set_cons_zero, List.set_cons_succ]
    refine wpAnyT_takeP' 12 (by kernel_rfl) (fun _ _ _ h => h) (by assumption) (by rfl) (fun w => by simp only [List.getD_cons_succ, List.getD_cons_zero]; go_simp; try with_reducible rfl) ?_
    try simp only [List.getD_cons_succ, List.getD_cons_zero, Act.put, List.setIfInBounds_toArray, List.set_cons_zero, List.set_cons_succ]
    refine wpAnyT_takeP' 13 (by kernel_rfl) (fun _ _ _ h => h) (by assumption) (by rfl) (fun w => by simp only [List.getD_cons_succ, List.getD_cons_zero]; go_simp; try with_reducible rfl) ?_
    try simp only [List.getD_cons_succ, List.getD_cons_zero, Act.put, List.setIfInBounds_toArray, List.set_cons_zero, List.set_cons_succ]
    refine wpAnyT_takeP' 14 (by kernel_rfl) (fun _ _ _ h => h) (by assumption) (by rfl) (fun w => by simp only [List.getD_cons_succ, List.getD_cons_zero]; go_simp; try with_reducible rfl) ?_
    try simp only [List.getD_cons_succ, List.getD_cons_zero, Act.put, List.setIfInBounds_toArray, List.set_cons_zero, List.set_cons_succ]
    refine wpAnyT_takeP' 15 (by kernel_rfl) (fun _ _ _ h => h) (by assumption) (by rfl) (fun w => by simp only [List.getD_cons_succ, List.getD_cons_zero]; go_simp; try with_reducible rfl) ?_
    try simp only [List.getD_cons_succ, List.getD_cons_zero, Act.put, List.setIfInBounds_toArray, List.set_cons_zero, List.set_cons_succ]
    refine wpAnyT_takeM' 16 (by kernel_rfl) (fun _ _ _ h => h) (by assumption) (by rfl) (fun w hSw => by simp only [List.getD_cons_succ, List.getD_cons_zero]; (try dsimp only at hSw); go_simp; try with_reducible rfl) ?_
    try simp only [List.getD_cons_succ, List.getD_cons_zero, Act.put, List.setIfInBounds_toArray, List.set_cons_zero, List.set_cons_succ]
    refine wpAnyT_takeP' 17 (by kernel_rfl) (fun _ _ _ h => h) (by assumption) (by rfl) (fun w => by simp only [List.getD_cons_succ, List.getD_cons_zero]; go_simp; try with_reducible rfl) ?_
    try simp only [List.getD_cons_succ, List.getD_cons_zero, Act.put, List.setIfInBounds_toArray, List.set_cons_zero, List.set_cons_succ]
    refine wpAnyT_takeP' 18 (by kernel_rfl) (fun _ _ _ h => h) (by assumption) (by rfl) (fun w => by simp only [List.getD_cons_succ, List.getD_cons_zero]; go_simp; try with_reducible rfl) ?_
    try simp only [List.getD_cons_succ, List.getD_cons_zero, Act.put, List.setIfInBounds_toArray, List.set_cons_zero, List.set_cons_succ]
    refine wpAnyT_takeP' 19 (by kernel_rfl) (fun _ _ _ h => h) (by assumption) (by rfl) (fun w => by simp only [List.getD_cons_succ, List.getD_cons_zero]; go_simp; try with_reducible rfl) ?_
    try simp only [List.getD_cons_succ, List.getD_cons_zero, Act.put, List.setIfInBounds_toArray, List.set_cons_zero, List.set_cons_succ]
    refine wpAnyT_takeP' 20 (by kernel_rfl) (fun _ _ _ h => h) (by assumption) (by rfl) (fun w => by simp only [List.getD_cons_succ, List.getD_cons_zero]; go_simp; try with_reducible rfl) ?_
    try simp only [List.getD_cons_succ, List.getD_cons_zero, Act.put, List.setIfInBounds_toArray, List.set_cons_zero, List.set_cons_succ]
    refine wpAnyT_takeP' 21 (by kernel_rfl) (fun _ _ _ h => h) (by assumption) (by rfl) (fun w => by simp only [List.getD_cons_succ, List.getD_cons_zero]; go_simp; try with_reducible rfl) ?_
    try simp only [List.getD_cons_succ, List.getD_cons_zero, Act.put, List.setIfInBounds_toArray, List.set_cons_zero, List.set_cons_succ]
    refine wpAnyT_takeM' 22 (by kernel_rfl) (fun _ _ _ h => h) (by assumption) (by rfl) (fun w hSw => by simp only [List.getD_cons_succ, List.getD_cons_zero]; (try dsimp only at hSw); go_simp; try with_reducible rfl) ?_
    try simp only [List.getD_cons_succ, List.getD_cons_zero, Act.put, List.setIfInBounds_toArray, List.set_cons_zero, List.set_cons_succ]
    refine wpAnyT_takeP' 23 (by kernel_rfl) (fun _ _ _ h => h) (by assumption) (by rfl) (fun w => by simp only [List.getD_cons_succ, List.getD_cons_zero]; go_simp; try with_reducible rfl) ?_
    try simp only [List.getD_cons_succ, List.getD_cons_zero, Act.put, List.setIfInBounds_toArray, List.set_cons_zero, List.set_cons_succ]
    refine wpAnyT_takeP' 24 (by kernel_rfl) (fun _ _ _ h => h) (by assumption) (by rfl) (fun w => by simp only [List.getD_cons_succ, List.getD_cons_zero]; go_simp; try with_reducible rfl) ?_
    try simp only [List.getD_cons_succ, List.getD_cons_zero, Act.put, List.setIfInBounds_toArray, List.set_cons_zero, List.set_cons_succ]
    refine wpAnyT_one' 25 (by kernel_rfl) (by rfl) (fun K hK => ?_)
    simp only [List.getD_cons_succ, List.getD_cons_zero]
    go_simp
    refine hK.out _ _ (HC.out _ ((Fr.refl [] W1).alloc (.cells (ints4 fun _ => 0).toArray 40)).drew) ?_
    have K3 := Lib.hid ((KW.out.alloc 40 (ints4 fun _ => 0)).drew.perm List.perm_append_comm)
    obtain ⟨AB, hAB⟩ : ∃ AB, W1.heap.size = AB := ⟨_, rfl⟩
    rw [hAB] at K3 ⊢
    clear hK hC HC KW hAB
    have BP := K3.out.blk 0 (b := AB) (t := 40) (vs := ints4 fun _ => 0) rfl
    refine wpAnyT_last 26 rfl (by kernel_rfl) ?_
    simp only [List.drop_succ_cons, List.drop_zero]
    refine wpList_store_S rfl _ (.tmp 22) (.tmp 247) rfl AB 0 40 (ints4 fun _ => 0) [.int .i64 n0, .int .i64 n1, .int .i64 n2, .int .i64 n3] ?h1 ?h2 BP (by kernel_rfl) (by simp [ints4]) (fun u hu => by simp at hu; rcases hu with rfl | rfl | rfl | rfl <;> rfl) ?_
    case h1 => rfl
    case h2 => (go_simp; first | done | rfl)
    intro W4 b6 f6 z6
    have K4 : Hid (Sep w [] W4 ([Chunk.blk AB 40 (ints4 (fun t => (lef x (x.dr.rows none 0) t : Int)))] ++ x.chunks)) := Lib.hid (by
      rw [← HST0.out]
      exact K3.out.call1' 0 rfl (Sep.of_one (c := Chunk.blk AB 40 [.int .i64 n0, .int .i64 n1, .int .i64 n2, .int .i64 n3]) f6 b6 (Gr.refl _ _)))
    clear b6 f6 z6 BP K3 HST0
    go_wp2
    rw [onlyN_normal]
    go_wp2
    go_loopg [23] (cn + 1) (fun k s23 wr => ∃ (i : Nat) (R : List Rw), k + i = cn + 1 ∧ i ≤ cn ∧ s23 = .int .i64 i ∧ Hid (Fnds x.dr none i (x.dr.rows none 0) R) ∧ Hid (Sep w [] wr ([Chunk.blk AB 40 (ints4 (fun t => (lef x R t : Int)))] ++ x.chunks)))
    case atStart => exact ⟨0, _, by omega, by omega, rfl, Lib.hid (Fnds.zero _), K4⟩
    case round =>
      clear K4
      obtain ⟨i, R, hk, hi, rfl, HFN, K⟩ := hrel
      have b0 := Wd.wds (pre := [_]) K.out
      rw [HB.out] at b0
      have c0 : wr.cell? ⟨WB, 0, none⟩ = some (.pointer (some ⟨x.db, 0, none⟩)) := b0.cell 0
      have lb := b0.lt
      clear b0
      by_cases hin : i < cn
      · as_aux_lemma =>
        have hii : (i : Int) < cn := by omega
        have HW := Lib.hid (x_worst HWF.out (by omega) (Holds.drs (pre := [_]) K.out.hs) i (by rw [HCN.out]; exact hin))
        go_wp2_with fail
        refine HW.out.mono ?_
        rintro er W5 ⟨R1, p, R', hF, hFd, rfl, f5⟩
        obtain rfl := Fnds.det HFN.out hF
        obtain ⟨s, l, hs4, hl, hp0, hLs, hrest⟩ := nth_step HWF.out hFd
        have HFN' := Lib.hid (HFN.out.step hFd)
        have HRS := Lib.hid hrest
        have HLS := Lib.hid hLs
        have K5 := Lib.hid (K.out.same f5)
        clear hF hFd f5 HW K hrest hLs c0 lb
        have hp3 : Hid (aggp6 p = .agg #[.int .i64 s, .int .i64 p.f1, .int .i64 p.f2, .int .i64 p.f3, .int .i64 p.f4, .int .i64 p.f5]) := Lib.hid (by unfold aggp6; rw [hp0])
        rw [hp3.out]
        have ab := K5.out.blk 0 (b := AB) (t := 40) (vs := ints4 (fun t => (lef x R t : Int))) rfl
        have y0 : W5.cell? ⟨AB, s, none⟩ = some (.int .i64 ((l : Int) + 1)) := by
          rw [ab.cell, ints4_at _ hs4, hl]; push_cast; rfl
        have yz := ab.frz s
        have yl := ab.lt
        have hsi : (s : Int) < 4 := by omega
        have hand : bits .and .i64 (s : Int) 3 = s := and3 hs4
        have hlb : l ≤ 100 := by
          have h1 := some_lt HLS.out
          have h2 := HWF.out.len s hs4
          omega
        have v1 : IntKind.i64.wrap (l : Int) = l := wrapu (by omega) (by omega)
        have v2 : IntKind.i64.wrap ((l : Int) + 1 - 1) = l := (wrapu (by omega) (by omega)).trans (by omega)
        have v3 : wrap64 (l : Int) = l := by unfold wrap64; omega
        have HP0 := Lib.hid hp0
        have HL1 := Lib.hid hl
        clear ab hl hp0
        go_wp2_with fail
        obtain ⟨PX, hPX⟩ : ∃ PX, W5.heap.size = PX := ⟨_, rfl⟩
        have K6 := K5.out.set 0 rfl s (.int .i64 l)
        rw [ints4_set _ hs4] at K6
        have K7 := K6.alloc 34 (encP6 p)
        rw [World.size_setCell, hPX] at K7
        obtain ⟨W6, hW6⟩ : ∃ W6, (W5.setCell ⟨AB, s, none⟩ (.int .i64 l)).alloc (.cells (encP6 p).toArray 34) = W6 := ⟨_, rfl⟩
        rw [hW6] at K7
        have hW6' : (W5.setCell ⟨AB, s, none⟩ (.int .i64 l)).alloc (.cells #[.int .i64 s, .int .i64 p.f1, .int .i64 p.f2, .int .i64 p.f3, .int .i64 p.f4, .int .i64 p.f5] 34) = W6 := by rw [← hW6, ← HP0.out]; rfl
        rw [hW6', hPX]
        have K8 : Hid (Sep w [] W6 ([Chunk.blk PX 34 (encP6 p), Chunk.blk AB 40 (ints4 (fun t => (lef x R' t : Int)))] ++ x.chunks)) := by
          have e : ints4 (upd (fun t => (lef x R t : Int)) s (l : Int)) = ints4 (fun t => (lef x R' t : Int)) := by
            have hh : ∀ t, t < 4 → upd (fun t => (lef x R t : Int)) s (l : Int) t = (lef x R' t : Int) := fun t ht => by
              rw [HRS.out t ht]
              by_cases e : t = s
              · subst e; rw [upd_self, if_pos rfl]
              · rw [upd_ne _ _ e, if_neg e]
            unfold ints4
            rw [hh 0 (by omega), hh 1 (by omega), hh 2 (by omega), hh 3 (by omega)]
          rw [← e]
          exact Lib.hid (K7.perm List.perm_append_comm)
        clear hW6 hW6' hPX K5 K6 K7 y0 yz yl hand v1 v2 v3
        have ab := K8.out.blk 1 (b := AB) (t := 40) (vs := ints4 (fun t => (lef x R' t : Int))) rfl
        have hl' : lef x R' s = l := by rw [HRS.out s hs4, if_pos rfl]
        have y0 : W6.cell? ⟨AB, s, none⟩ = some (.int .i64 (l : Int)) := by rw [ab.cell, ints4_at _ hs4, hl']
        have yl := ab.lt
        have pb := K8.out.blk 0 (b := PX) (t := 34) (vs := encP6 p) rfl
        have p0 : W6.cell? ⟨PX, 0, none⟩ = some (.int .i64 (s : Int)) := by rw [← HP0.out]; exact pb.cell 0
        have p1 : W6.cell? ⟨PX, 1, none⟩ = some (.int .i64 p.f1) := pb.cell 1
        have p2 : W6.cell? ⟨PX, 2, none⟩ = some (.int .i64 p.f2) := pb.cell 2
        have p3 : W6.cell? ⟨PX, 3, none⟩ = some (.int .i64 p.f3) := pb.cell 3
        have p4 : W6.cell? ⟨PX, 4, none⟩ = some (.int .i64 p.f4) := pb.cell 4
        have p5 : W6.cell? ⟨PX, 5, none⟩ = some (.int .i64 p.f5) := pb.cell 5
        have pl := pb.lt
        have b0 := Wd.wds (pre := [_, _]) K8.out
        rw [HB.out] at b0
        have R0 := Wd.rowf (pre := [_, _]) K8.out hs4
        obtain ⟨va, ca, hva, -⟩ := R0.val
        obtain ⟨n, hn⟩ : ∃ n, (x.L s).length = n := ⟨_, rfl⟩
        rw [hva] at R0
        obtain ⟨ga, oa, rfl, -, lga, fa⟩ := R0.at_ HLS.out
        have c5 : W6.cell? ⟨WB, 5 + s, none⟩ = some (.slice (some ⟨ga, oa, none⟩) n ca) := by rw [b0.cell, x.cV hs4, hva, hn]
        have lb := b0.lt
        have hln : (l : Int) < n := by have := some_lt HLS.out; omega
        have hl0 : decide ((l : Int) < 0) = false := decide_eq_false (by omega)
        have fa' : ∀ k, k < 6 → W6.cell? ⟨ga, oa + l * 6 + k, none⟩ = (encP6 p)[k]? := fun k hk => by rw [Nat.add_assoc]; exact fa k hk
        have g0 : W6.cell? ⟨ga, oa + l * 6, none⟩ = some (.int .i64 (s : Int)) := by rw [← HP0.out]; exact fa' 0 (by omega)
        have g1 : W6.cell? ⟨ga, oa + l * 6 + 1, none⟩ = some (.int .i64 p.f1) := fa' 1 (by omega)
        have g2 : W6.cell? ⟨ga, oa + l * 6 + 2, none⟩ = some (.int .i64 p.f2) := fa' 2 (by omega)
        have g3 : W6.cell? ⟨ga, oa + l * 6 + 3, none⟩ = some (.int .i64 p.f3) := fa' 3 (by omega)
        have g4 : W6.cell? ⟨ga, oa + l * 6 + 4, none⟩ = some (.int .i64 p.f4) := fa' 4 (by omega)
        have g5 : W6.cell? ⟨ga, oa + l * 6 + 5, none⟩ = some (.int .i64 p.f5) := fa' 5 (by omega)
        have e0 : ((s : Int) == s) = true := by simp
        have e1 : (p.f1 == p.f1) = true := by simp
        have e2 : (p.f2 == p.f2) = true := by simp
        have e3 : (p.f3 == p.f3) = true := by simp
        have e4 : (p.f4 == p.f4) = true := by simp
        have e5 : (p.f5 == p.f5) = true := by simp
        clear ab pb b0 R0 hva hn fa fa' hl' HP0 HL1 HLS HRS
        go_quiet (fail)
        go_wp2
        go_roundg (cn - i)
        case measure => omega
        case rel => exact ⟨i + 1, R', by omega, by omega, by go_num, HFN', Lib.hid ((K8.out.drewN _).sub (List.sublist_append_right [_] _))⟩
      · as_aux_lemma =>
        obtain rfl : i = cn := by omega
        have HW1 := Lib.hid (fun X (fX : Fr [] wr X) => x_worst_no (x := x) ((Holds.drs (pre := [_]) K.out.hs).fr' fX (by simp)) (i : Int) (.inr (by rw [HCN.out]; exact Int.le_refl _)))
        have HW2 := Lib.hid (fun X (fX : Fr [] wr X) => x_worst_no (x := x) ((Holds.drs (pre := [_]) K.out.hs).fr' fX (by simp)) (-1) (.inl (by omega)))
        have HWL := Lib.hid (fun X (fX : Fr [] wr X) => x_len (x := x) ((Holds.drs (pre := [_]) K.out.hs).fr' fX (by simp)))
        have HC0 := Lib.hid (fun X (fX : Fr [] wr X) => (fX.cell (p := ⟨WB, 0, none⟩) lb (by simp)).trans c0)
        go_wp2_with fail
        refine (HW1.out _ (Fr.refl _ _)).mono ?_
        rintro er W5 ⟨rfl, f5⟩
        have F5 := Lib.hid (f5.alloc (.cells (encP6 zerop6).toArray 34))
        have d0 := HC0.out _ f5
        have d1 : WB < W5.heap.size := Nat.lt_of_lt_of_le lb f5.size
        clear c0 f5 HW1
        go_wp2_with fail
        refine (HW2.out _ F5.out).mono ?_
        rintro er W6 ⟨rfl, f6⟩
        have F6 := Lib.hid ((F5.out.trans' f6).alloc (.cells (encP6 zerop6).toArray 34))
        have d2 := HC0.out _ (F5.out.trans' f6)
        have d3 : WB < W6.heap.size := Nat.lt_of_lt_of_le lb (F5.out.trans' f6).size
        clear d0 d1 f6 HW2 F5
        go_wp2_with fail
        refine (HWL.out _ F6.out).mono ?_
        rintro er W7 ⟨rfl, rfl⟩
        have hcn2 : x.cnt = i := HCN.out
        rw [hcn2]
        clear hcn2 d2 d3 HWL HC0 lb
        go_wp2
        go_ret
        exact ⟨rfl, K.out.fr.trans' F6.out⟩
end Go.Proofs.Yteojodcdehkejaa
