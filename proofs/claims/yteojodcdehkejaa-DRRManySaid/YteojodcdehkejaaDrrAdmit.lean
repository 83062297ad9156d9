/- A discipline by turns: Admit. -/
import Derived.Test.YteojodcdehkejaaDrrSteps
namespace Go.Proofs.Yteojodcdehkejaa
open Go Go.RowKit
attribute [local go_sem] calmQ_normal wide_fn wide_depth Oper.semAt_some run_store_func

set_option maxRecDepth 100000 in
set_option maxHeartbeats 4000000 in
theorem dadmit {w : World} {d : Dr} (h : Holds w d.chunks) {p : P6} {k : Nat} {f : Fl} (ho : d.Ok p k) (hf : d.fl[k]? = some f) (hql : f.q.length ≤ 1048576) (hrl : d.ring.length ≤ 1048576) (hby1 : 0 ≤ f.by_) (hby2 : f.by_ ≤ 1125899906842624) (hn1 : 0 ≤ d.n) (hn2 : d.n ≤ 1125899906842624) :
    Calls Try.prog 13 #[.pointer (some ⟨d.b, 0, none⟩), aggp6 p] w fun e w' => e = .returned (.int .i64 0) ∧ ∃ rds ds, Sep w (Chunks.bs d.chunks) w' (d.admitted k f p rds ds).chunks := by
  have hql : f.q.length ≤ 268435456 := by omega
  have hrl : d.ring.length ≤ 268435456 := by omega
  have hcheck := Lib.hid (fun X (fX : Fr [] w X) => dcheck (h.fr' fX (by simp)) ho)
  have hfind := Lib.hid (fun X (fX : Fr [] w X) => dfind (h.fr' fX (by simp)) p.f0 p.f1)
  have hp : d.ptr (d.look p.f0 p.f1) = .pointer (some ⟨f.b, 0, none⟩) := by simp [Dr.ptr, ho.look, hf]
  have K0 := Lib.hid (Dr.inbox (Sep.start h) 34 (encP6 p))
  obtain ⟨pb, hpb⟩ : ∃ pb, w.heap.size = pb := ⟨_, rfl⟩
  have HO := Lib.hid ho
  have HFF := Lib.hid hf
  have hlt := Lib.hid h.lt
  clear h ho hf
  go_enter Try.func13, Try.ntmps13
  go_wp2_with fail
  refine (hcheck.out _ ((Fr.refl [] w).alloc _)).mono ?_
  rintro er w1 ⟨rfl, f1⟩
  have F1 := Lib.hid (((Fr.refl [] w).alloc _).trans' f1)
  have K1 := Lib.hid (K0.out.same f1)
  rw [hpb] at K1
  have x0 : w1.cell? ⟨pb, 0, none⟩ = some (.int .i64 p.f0) := (K1.out.blk 0 rfl).cell 0
  have x1 : w1.cell? ⟨pb, 1, none⟩ = some (.int .i64 p.f1) := (K1.out.blk 0 rfl).cell 1
  clear f1 hcheck hpb K0
  go_wp2_with fail
  refine (hfind.out _ F1.out).mono ?_
  rw [hp]
  rintro er w2 ⟨rfl, f2⟩
  have K2 := Lib.hid (K1.out.same f2)
  have s5 : w2.cell? ⟨f.b, 5, none⟩ = some (.pointer (some ⟨f.r, 0, none⟩)) := (Dr.strs K2.out HFF.out).cell 5
  have hque := Dr.ques K2.out HFF.out
  have b1 : w2.cell? ⟨d.b, 1, none⟩ = some (.pointer (some ⟨d.rb, 0, none⟩)) := (Dr.hds K2.out).cell 1
  have s4 : w2.cell? ⟨f.b, 4, none⟩ = some (.int .i64 f.df) := (Dr.strs K2.out HFF.out).cell 4
  have q4 : w2.frozen? ⟨f.b, 4, none⟩ = false := (Dr.strs K2.out HFF.out).frz 4
  have nfd : f.b ≠ d.b := fun e => (Dr.here K2.out).apart (i := 0) (j := 3 + k) (by omega) rfl (Dr.str_at HFF.out) d.b (List.mem_singleton.2 rfl) (List.mem_singleton.2 e.symm)
  have ndf := Ne.symm nfd
  clear f2 hfind hp x0 x1 K1 F1
  by_cases hq : f.q = []
  · have hln : f.q.length = 0 := by rw [hq]; rfl
    go_wp2_with (go_at_call 37; refine (len_p6 hque).mono ?_; rintro er w' ⟨rfl, rfl⟩)
    have K3 := Lib.hid (Dr.set1 K2.out HFF.out { f with df := 0 } 4 (.int .i64 0) rfl rfl rfl)
    have HF3 := Lib.hid (Dr.setF_at HFF.out { f with df := 0 })
    refine (pushB_q (Dr.rings K3.out) (by simpa [Dr.setF] using hrl) (some f.b)).mono ?_
    rintro er Z1 ⟨rfl, rds', hr1, f1, g1⟩
    have K4 := Lib.hid (Dr.ring1 K3.out (ring := d.ring ++ [f.b]) (by simpa [Dr.setF] using hr1) f1 g1)
    clear K3 hr1 f1 g1 s5 hque b1 s4 q4 nfd ndf hln K2
    obtain ⟨DX, hDX⟩ : ∃ DX : Dr, ({ d.setF k { f with df := 0 } with ring := d.ring ++ [f.b], rds := rds' } : Dr) = DX := ⟨_, rfl⟩
    have HFX : Hid (DX.fl[k]? = some { f with df := 0 }) := by rw [← hDX]; exact HF3.out
    have K4' : Hid (Sep w (Chunks.bs d.chunks) Z1 ([Chunk.blk pb 34 (encP6 p)] ++ DX.chunks)) := by rw [← hDX]; exact K4.out
    subst hDX
    -- from the push of the packet on: K : Sep .. ([box] ++ ({ d.setF k { f with df := 0 } with ring := d.ring ++ [f.b], rds := rds' } : Dr).chunks), ({ d.setF k { f with df := 0 } with ring := d.ring ++ [f.b], rds := rds' } : Dr).fl[k]? = some FF
    have hque := Dr.ques K4'.out HFX.out
    have s5 : Z1.cell? ⟨f.b, 5, none⟩ = some (.pointer (some ⟨f.r, 0, none⟩)) := (Dr.strs K4'.out HFX.out).cell 5
    have lf : f.b < Z1.heap.size := (Dr.strs K4'.out HFX.out).lt
    have x0 : Z1.cell? ⟨pb, 0, none⟩ = some (.int .i64 p.f0) := (K4'.out.blk 0 rfl).cell 0
    have x1 : Z1.cell? ⟨pb, 1, none⟩ = some (.int .i64 p.f1) := (K4'.out.blk 0 rfl).cell 1
    have x2 : Z1.cell? ⟨pb, 2, none⟩ = some (.int .i64 p.f2) := (K4'.out.blk 0 rfl).cell 2
    have x3 : Z1.cell? ⟨pb, 3, none⟩ = some (.int .i64 p.f3) := (K4'.out.blk 0 rfl).cell 3
    have x4 : Z1.cell? ⟨pb, 4, none⟩ = some (.int .i64 p.f4) := (K4'.out.blk 0 rfl).cell 4
    have x5 : Z1.cell? ⟨pb, 5, none⟩ = some (.int .i64 p.f5) := (K4'.out.blk 0 rfl).cell 5
    have lp : pb < Z1.heap.size := (K4'.out.blk 0 rfl).lt
    have hpush := Lib.hid (fun n => pushB_p6 (hque.drewN n) hql p)
    clear hque
    go_wp2
    refine wp_region_quiet_tail 5 (by kernel_rfl) (by kernel_rfl) ?_
    simp only [List.take_succ_cons, List.take_zero, List.drop_succ_cons, List.drop_zero]
    repeat (first | go_big_quiet_step (fail) | quiet_step (fail))
    refine wpQuiet_nil ?_
    rintro _ ⟨nq, rfl⟩
    go_wp2_with fail
    refine (hpush.out nq).mono ?_
    rintro er Z2 ⟨rfl, ds', hq2, f2, g2⟩
    have K3 := Lib.hid (Dr.que1 (K4'.out.drewN nq) HFX.out hq2 f2 g2)
    have HF3 := Lib.hid (Dr.setF_at HFX.out { ({ f with df := 0 } : Fl) with q := ({ f with df := 0 } : Fl).q ++ [p], ds := ds' })
    have t6 : Z2.cell? ⟨f.b, 6, none⟩ = some (.int .i64 f.by_) := (Dr.strs K3.out HF3.out).cell 6
    have q6 : Z2.frozen? ⟨f.b, 6, none⟩ = false := (Dr.strs K3.out HF3.out).frz 6
    have y3 : Z2.cell? ⟨pb, 3, none⟩ = some (.int .i64 p.f3) := (K3.out.blk 0 rfl).cell 3
    have y4 : Z2.cell? ⟨pb, 4, none⟩ = some (.int .i64 p.f4) := (K3.out.blk 0 rfl).cell 4
    have y5 : Z2.cell? ⟨pb, 5, none⟩ = some (.int .i64 p.f5) := (K3.out.blk 0 rfl).cell 5
    have z3 : Z2.cell? ⟨d.b, 3, none⟩ = some (.int .i64 d.seq) := (Dr.hds K3.out).cell 3
    have z4 : Z2.cell? ⟨d.b, 4, none⟩ = some (.int .i64 d.came) := (Dr.hds K3.out).cell 4
    have z5 : Z2.cell? ⟨d.b, 5, none⟩ = some (.int .i64 d.n) := (Dr.hds K3.out).cell 5
    have r3 : Z2.frozen? ⟨d.b, 3, none⟩ = false := (Dr.hds K3.out).frz 3
    have r4 : Z2.frozen? ⟨d.b, 4, none⟩ = false := (Dr.hds K3.out).frz 4
    have r5 : Z2.frozen? ⟨d.b, 5, none⟩ = false := (Dr.hds K3.out).frz 5
    have nfd : f.b ≠ d.b := fun e => (Dr.here K3.out).apart (i := 0) (j := 3 + k) (by omega) rfl (Dr.str_at HF3.out) d.b (List.mem_singleton.2 rfl) (List.mem_singleton.2 e.symm)
    have ndf := Ne.symm nfd
    have npf : pb ≠ f.b := fun e => K3.out.hs.apart (i := 0) (j := [Chunk.blk pb 34 (encP6 p)].length + (3 + k)) (by simp; omega) rfl (pre_get (Dr.str_at HF3.out)) pb (List.mem_singleton.2 rfl) (List.mem_singleton.2 e)
    have nfp := Ne.symm npf
    have npd : pb ≠ d.b := fun e => K3.out.hs.apart (i := 0) (j := 1) (by simp) rfl rfl pb (List.mem_singleton.2 rfl) (List.mem_singleton.2 e)
    have ndp := Ne.symm npd
    have hw1 := Lib.hid (add_w2 hby1 hby2 (show 0 ≤ p.f3 from by have := HO.out.s1; omega) (show p.f3 ≤ 1125899906842624 from by have := HO.out.s2; omega))
    have hw2 := Lib.hid (add_w2 hn1 hn2 (show (0 : Int) ≤ 1 from by omega) (show (1 : Int) ≤ 1125899906842624 from by omega))
    clear hq2 f2 g2 s5 lf lp
    go_wp2
    refine wp_region_quiet_tail 9 (by kernel_rfl) (by kernel_rfl) ?_
    simp only [List.take_succ_cons, List.take_zero, List.drop_succ_cons, List.drop_zero]
    repeat (first | go_big_quiet_step (fail) | quiet_step (fail))
    refine wpQuiet_nil ?_
    rintro _ ⟨nq, rfl⟩
    go_wp2
    rw [hw1.out]
    go_wp2
    try rw [hw2.out]
    have K5 := Lib.hid (Dr.hd1 (Dr.set1 (K3.out.drewN nq) HF3.out { ({ f with df := 0 } : Fl) with q := ({ f with df := 0 } : Fl).q ++ [p], ds := ds', by_ := f.by_ + p.f3 } 6 (.int .i64 (f.by_ + p.f3)) rfl rfl rfl) { (({ d.setF k { f with df := 0 } with ring := d.ring ++ [f.b], rds := rds' } : Dr).setF k { ({ f with df := 0 } : Fl) with q := ({ f with df := 0 } : Fl).q ++ [p], ds := ds', by_ := f.by_ + p.f3 }) with n := d.n + 1 } 5 (.int .i64 (d.n + 1)) (by simp only [Dr.setF_setF]; rfl))
    obtain ⟨W9, hW9⟩ : ∃ W9, ((Z2.drewN nq).setCell ⟨f.b, 6, none⟩ (.int .i64 (f.by_ + p.f3))).setCell ⟨d.b, 5, none⟩ (.int .i64 (d.n + 1)) = W9 := ⟨_, rfl⟩
    rw [hW9]
    have K6 : Hid (Sep w (Chunks.bs d.chunks) W9 ([Chunk.blk pb 34 (encP6 p)] ++ ({ (({ d.setF k { f with df := 0 } with ring := d.ring ++ [f.b], rds := rds' } : Dr).setF k { ({ f with df := 0 } : Fl) with q := ({ f with df := 0 } : Fl).q ++ [p], ds := ds', by_ := f.by_ + p.f3 }) with n := d.n + 1 } : Dr).chunks)) := by rw [← hW9]; exact K5.out
    clear K5 K3 hW9 y3 y4 y5 z3 z4 z5 r3 r4 r5 t6 q6
    have y4 : W9.cell? ⟨pb, 4, none⟩ = some (.int .i64 p.f4) := (K6.out.blk 0 rfl).cell 4
    have y5 : W9.cell? ⟨pb, 5, none⟩ = some (.int .i64 p.f5) := (K6.out.blk 0 rfl).cell 5
    have z3 : W9.cell? ⟨d.b, 3, none⟩ = some (.int .i64 d.seq) := (Dr.hds K6.out).cell 3
    have z4 : W9.cell? ⟨d.b, 4, none⟩ = some (.int .i64 d.came) := (Dr.hds K6.out).cell 4
    have r3 : W9.frozen? ⟨d.b, 3, none⟩ = false := (Dr.hds K6.out).frz 3
    have r4 : W9.frozen? ⟨d.b, 4, none⟩ = false := (Dr.hds K6.out).frz 4
    have K7 := Lib.hid (Dr.hd1 K6.out.drew { (({ d.setF k { f with df := 0 } with ring := d.ring ++ [f.b], rds := rds' } : Dr).setF k { ({ f with df := 0 } : Fl) with q := ({ f with df := 0 } : Fl).q ++ [p], ds := ds', by_ := f.by_ + p.f3 }) with n := d.n + 1, seq := p.f4 } 3 (.int .i64 p.f4) rfl)
    have K8 := Lib.hid (Dr.hd1 K7.out { (({ d.setF k { f with df := 0 } with ring := d.ring ++ [f.b], rds := rds' } : Dr).setF k { ({ f with df := 0 } : Fl) with q := ({ f with df := 0 } : Fl).q ++ [p], ds := ds', by_ := f.by_ + p.f3 }) with n := d.n + 1, seq := p.f4, came := p.f5 } 4 (.int .i64 p.f5) rfl)
    refine wp_T [] (fun w' => w'.cell? ⟨pb, 4, none⟩ = some (.int .i64 p.f4) ∧ w'.cell? ⟨pb, 5, none⟩ = some (.int .i64 p.f5)) (by kernel_rfl) (fun hC => ?_) ⟨y4, y5⟩
    refine wpAnyT_takeC' 0 (by kernel_rfl) (fun _ _ _ h => h) (by assumption) (by rfl) (fun w hSw => by simp only [List.getD_cons_succ, List.getD_cons_zero]; (try dsimp only at hSw); go_simp; try with_reducible rfl) ?_
    try simp only [List.getD_cons_succ, List.getD_cons_zero, Act.put, List.setIfInBounds_toArray, List.set_cons_zero, List.set_cons_succ]
    refine wpAnyT_takeC' 1 (by kernel_rfl) (fun _ _ _ h => h) (by assumption) (by rfl) (fun w hSw => by simp only [List.getD_cons_succ, List.getD_cons_zero]; (try dsimp only at hSw); go_simp; try with_reducible rfl) ?_
    try simp only [List.getD_cons_succ, List.getD_cons_zero, Act.put, List.setIfInBounds_toArray, List.set_cons_zero, List.set_cons_succ]
    refine wpAnyT_takeC' 2 (by kernel_rfl) (fun _ _ _ h => h) (by assumption) (by rfl) (fun w hSw => by simp only [List.getD_cons_succ, List.getD_cons_zero]; (try dsimp only at hSw); go_simp; try with_reducible rfl) ?_
    try simp only [List.getD_cons_succ, List.getD_cons_zero, Act.put, List.setIfInBounds_toArray, List.set_cons_zero, List.set_cons_succ]
    refine wpAnyT_takeC' 3 (by kernel_rfl) (fun _ _ _ h => h) (by assumption) (by rfl) (fun w hSw => by simp only [List.getD_cons_succ, List.getD_cons_zero]; (try dsimp only at hSw); go_simp; try with_reducible rfl) ?_
    try simp only [List.getD_cons_succ, List.getD_cons_zero, Act.put, List.setIfInBounds_toArray, List.set_cons_zero, List.set_cons_succ]
    refine wpAnyT_takeC' 4 (by kernel_rfl) (fun _ _ _ h => h) (by assumption) (by rfl) (fun w hSw => by simp only [List.getD_cons_succ, List.getD_cons_zero]; (try dsimp only at hSw); go_simp; try with_reducible rfl) ?_
    try simp only [List.getD_cons_succ, List.getD_cons_zero, Act.put, List.setIfInBounds_toArray, List.set_cons_zero, List.set_cons_succ]
    refine wpAnyT_takeC' 5 (by kernel_rfl) (fun _ _ _ h => h) (by assumption) (by rfl) (fun w hSw => by simp only [List.getD_cons_succ, List.getD_cons_zero]; (try dsimp only at hSw); go_simp; try with_reducible rfl) ?_
    try simp only [List.getD_cons_succ, List.getD_cons_zero, Act.put, List.setIfInBounds_toArray, List.set_cons_zero, List.set_cons_succ]
    refine wpAnyT_takeC' 6 (by kernel_rfl) (fun _ _ _ h => h) (by assumption) (by rfl) (fun w hSw => by simp only [List.getD_cons_succ, List.getD_cons_zero]; (try dsimp only at hSw); go_simp; try with_reducible rfl) ?_
    try simp only [List.getD_cons_succ, List.getD_cons_zero, Act.put, List.setIfInBounds_toArray, List.set_cons_zero, List.set_cons_succ]
    refine wpAnyT_takeC' 7 (by kernel_rfl) (fun _ _ _ h => h) (by assumption) (by rfl) (fun w hSw => by simp only [List.getD_cons_succ, List.getD_cons_zero]; (try dsimp only at hSw); go_simp; try with_reducible rfl) ?_
    try simp only [List.getD_cons_succ, List.getD_cons_zero, Act.put, List.setIfInBounds_toArray, List.set_cons_zero, List.set_cons_succ]
    refine wpAnyT_one' 8 (by kernel_rfl) (by rfl) (fun K hK => ?_)
    simp only [List.getD_cons_succ, List.getD_cons_zero]
    go_simp
    have hC7 : ((W9.setCell ⟨d.b, 3, none⟩ (.int .i64 p.f4)).drew).cell? ⟨pb, 4, none⟩ = some (.int .i64 p.f4) ∧ ((W9.setCell ⟨d.b, 3, none⟩ (.int .i64 p.f4)).drew).cell? ⟨pb, 5, none⟩ = some (.int .i64 p.f5) := ⟨(K7.out.blk 0 rfl).cell 4, (K7.out.blk 0 rfl).cell 5⟩
    refine hK.out _ _ hC7 ?_
    clear hK hC
    try simp only [Act.put, List.setIfInBounds_toArray, List.set_cons_zero, List.set_cons_succ]
    have hC := hC7
    refine wpAnyT_takeC' 9 (by kernel_rfl) (fun _ _ _ h => h) (by assumption) (by rfl) (fun w hSw => by simp only [List.getD_cons_succ, List.getD_cons_zero]; (try dsimp only at hSw); go_simp; try with_reducible rfl) ?_
    try simp only [List.getD_cons_succ, List.getD_cons_zero, Act.put, List.setIfInBounds_toArray, List.set_cons_zero, List.set_cons_succ]
    refine wpAnyT_takeC' 10 (by kernel_rfl) (fun _ _ _ h => h) (by assumption) (by rfl) (fun w hSw => by simp only [List.getD_cons_succ, List.getD_cons_zero]; (try dsimp only at hSw); go_simp; try with_reducible rfl) ?_
    try simp only [List.getD_cons_succ, List.getD_cons_zero, Act.put, List.setIfInBounds_toArray, List.set_cons_zero, List.set_cons_succ]
    refine wpAnyT_one' 11 (by kernel_rfl) (by rfl) (fun K hK => ?_)
    simp only [List.getD_cons_succ, List.getD_cons_zero]
    go_simp
    refine hK.out _ _ ⟨(K8.out.blk 0 rfl).cell 4, (K8.out.blk 0 rfl).cell 5⟩ ?_
    clear hK hC
    refine wpAnyT_done (by kernel_rfl) ?_ _
    rw [onlyN_normal]
    go_wp2
    go_ret
    refine ⟨rfl, ({ d.setF k { f with df := 0 } with ring := d.ring ++ [f.b], rds := rds' } : Dr).rds, ds', ?_⟩
    have hfin := Dr.outbox K8.out
    have e : ({ (({ d.setF k { f with df := 0 } with ring := d.ring ++ [f.b], rds := rds' } : Dr).setF k { ({ f with df := 0 } : Fl) with q := ({ f with df := 0 } : Fl).q ++ [p], ds := ds', by_ := f.by_ + p.f3 }) with n := d.n + 1, seq := p.f4, came := p.f5 } : Dr) = d.admitted k f p ({ d.setF k { f with df := 0 } with ring := d.ring ++ [f.b], rds := rds' } : Dr).rds ds' := by
      simp [Dr.admitted, Fl.got, Dr.setF, hq]
    rw [e] at hfin
    exact hfin
  · have hln : ((f.q.length : Int) == 0) = false := by
      rw [beq_eq_false_iff_ne]
      cases hq2 : f.q with
      | nil => exact absurd hq2 hq
      | cons a b => simp; omega
    go_wp2_with (go_at_call 37; refine (len_p6 hque).mono ?_; rintro er w' ⟨rfl, rfl⟩)
    clear hln s5 hque b1 s4 q4 nfd ndf
    -- from the push of the packet on: K : Sep .. ([box] ++ d.chunks), d.fl[k]? = some FF
    have hque := Dr.ques K2.out HFF.out
    have s5 : w'.cell? ⟨f.b, 5, none⟩ = some (.pointer (some ⟨f.r, 0, none⟩)) := (Dr.strs K2.out HFF.out).cell 5
    have lf : f.b < w'.heap.size := (Dr.strs K2.out HFF.out).lt
    have x0 : w'.cell? ⟨pb, 0, none⟩ = some (.int .i64 p.f0) := (K2.out.blk 0 rfl).cell 0
    have x1 : w'.cell? ⟨pb, 1, none⟩ = some (.int .i64 p.f1) := (K2.out.blk 0 rfl).cell 1
    have x2 : w'.cell? ⟨pb, 2, none⟩ = some (.int .i64 p.f2) := (K2.out.blk 0 rfl).cell 2
    have x3 : w'.cell? ⟨pb, 3, none⟩ = some (.int .i64 p.f3) := (K2.out.blk 0 rfl).cell 3
    have x4 : w'.cell? ⟨pb, 4, none⟩ = some (.int .i64 p.f4) := (K2.out.blk 0 rfl).cell 4
    have x5 : w'.cell? ⟨pb, 5, none⟩ = some (.int .i64 p.f5) := (K2.out.blk 0 rfl).cell 5
    have lp : pb < w'.heap.size := (K2.out.blk 0 rfl).lt
    have hpush := Lib.hid (fun n => pushB_p6 (hque.drewN n) hql p)
    clear hque
    go_wp2
    refine wp_region_quiet_tail 5 (by kernel_rfl) (by kernel_rfl) ?_
    simp only [List.take_succ_cons, List.take_zero, List.drop_succ_cons, List.drop_zero]
    repeat (first | go_big_quiet_step (fail) | quiet_step (fail))
    refine wpQuiet_nil ?_
    rintro _ ⟨nq, rfl⟩
    go_wp2_with fail
    refine (hpush.out nq).mono ?_
    rintro er Z2 ⟨rfl, ds', hq2, f2, g2⟩
    have K3 := Lib.hid (Dr.que1 (K2.out.drewN nq) HFF.out hq2 f2 g2)
    have HF3 := Lib.hid (Dr.setF_at HFF.out { f with q := f.q ++ [p], ds := ds' })
    have t6 : Z2.cell? ⟨f.b, 6, none⟩ = some (.int .i64 f.by_) := (Dr.strs K3.out HF3.out).cell 6
    have q6 : Z2.frozen? ⟨f.b, 6, none⟩ = false := (Dr.strs K3.out HF3.out).frz 6
    have y3 : Z2.cell? ⟨pb, 3, none⟩ = some (.int .i64 p.f3) := (K3.out.blk 0 rfl).cell 3
    have y4 : Z2.cell? ⟨pb, 4, none⟩ = some (.int .i64 p.f4) := (K3.out.blk 0 rfl).cell 4
    have y5 : Z2.cell? ⟨pb, 5, none⟩ = some (.int .i64 p.f5) := (K3.out.blk 0 rfl).cell 5
    have z3 : Z2.cell? ⟨d.b, 3, none⟩ = some (.int .i64 d.seq) := (Dr.hds K3.out).cell 3
    have z4 : Z2.cell? ⟨d.b, 4, none⟩ = some (.int .i64 d.came) := (Dr.hds K3.out).cell 4
    have z5 : Z2.cell? ⟨d.b, 5, none⟩ = some (.int .i64 d.n) := (Dr.hds K3.out).cell 5
    have r3 : Z2.frozen? ⟨d.b, 3, none⟩ = false := (Dr.hds K3.out).frz 3
    have r4 : Z2.frozen? ⟨d.b, 4, none⟩ = false := (Dr.hds K3.out).frz 4
    have r5 : Z2.frozen? ⟨d.b, 5, none⟩ = false := (Dr.hds K3.out).frz 5
    have nfd : f.b ≠ d.b := fun e => (Dr.here K3.out).apart (i := 0) (j := 3 + k) (by omega) rfl (Dr.str_at HF3.out) d.b (List.mem_singleton.2 rfl) (List.mem_singleton.2 e.symm)
    have ndf := Ne.symm nfd
    have npf : pb ≠ f.b := fun e => K3.out.hs.apart (i := 0) (j := [Chunk.blk pb 34 (encP6 p)].length + (3 + k)) (by simp; omega) rfl (pre_get (Dr.str_at HF3.out)) pb (List.mem_singleton.2 rfl) (List.mem_singleton.2 e)
    have nfp := Ne.symm npf
    have npd : pb ≠ d.b := fun e => K3.out.hs.apart (i := 0) (j := 1) (by simp) rfl rfl pb (List.mem_singleton.2 rfl) (List.mem_singleton.2 e)
    have ndp := Ne.symm npd
    have hw1 := Lib.hid (add_w2 hby1 hby2 (show 0 ≤ p.f3 from by have := HO.out.s1; omega) (show p.f3 ≤ 1125899906842624 from by have := HO.out.s2; omega))
    have hw2 := Lib.hid (add_w2 hn1 hn2 (show (0 : Int) ≤ 1 from by omega) (show (1 : Int) ≤ 1125899906842624 from by omega))
    clear hq2 f2 g2 s5 lf lp
    go_wp2
    refine wp_region_quiet_tail 9 (by kernel_rfl) (by kernel_rfl) ?_
    simp only [List.take_succ_cons, List.take_zero, List.drop_succ_cons, List.drop_zero]
    repeat (first | go_big_quiet_step (fail) | quiet_step (fail))
    refine wpQuiet_nil ?_
    rintro _ ⟨nq, rfl⟩
    go_wp2
    rw [hw1.out]
    go_wp2
    try rw [hw2.out]
    have K5 := Lib.hid (Dr.hd1 (Dr.set1 (K3.out.drewN nq) HF3.out { f with q := f.q ++ [p], ds := ds', by_ := f.by_ + p.f3 } 6 (.int .i64 (f.by_ + p.f3)) rfl rfl rfl) { (d.setF k { f with q := f.q ++ [p], ds := ds', by_ := f.by_ + p.f3 }) with n := d.n + 1 } 5 (.int .i64 (d.n + 1)) (by simp only [Dr.setF_setF]; rfl))
    obtain ⟨W9, hW9⟩ : ∃ W9, ((Z2.drewN nq).setCell ⟨f.b, 6, none⟩ (.int .i64 (f.by_ + p.f3))).setCell ⟨d.b, 5, none⟩ (.int .i64 (d.n + 1)) = W9 := ⟨_, rfl⟩
    rw [hW9]
    have K6 : Hid (Sep w (Chunks.bs d.chunks) W9 ([Chunk.blk pb 34 (encP6 p)] ++ ({ (d.setF k { f with q := f.q ++ [p], ds := ds', by_ := f.by_ + p.f3 }) with n := d.n + 1 } : Dr).chunks)) := by rw [← hW9]; exact K5.out
    clear K5 K3 hW9 y3 y4 y5 z3 z4 z5 r3 r4 r5 t6 q6
    have y4 : W9.cell? ⟨pb, 4, none⟩ = some (.int .i64 p.f4) := (K6.out.blk 0 rfl).cell 4
    have y5 : W9.cell? ⟨pb, 5, none⟩ = some (.int .i64 p.f5) := (K6.out.blk 0 rfl).cell 5
    have z3 : W9.cell? ⟨d.b, 3, none⟩ = some (.int .i64 d.seq) := (Dr.hds K6.out).cell 3
    have z4 : W9.cell? ⟨d.b, 4, none⟩ = some (.int .i64 d.came) := (Dr.hds K6.out).cell 4
    have r3 : W9.frozen? ⟨d.b, 3, none⟩ = false := (Dr.hds K6.out).frz 3
    have r4 : W9.frozen? ⟨d.b, 4, none⟩ = false := (Dr.hds K6.out).frz 4
    have K7 := Lib.hid (Dr.hd1 K6.out.drew { (d.setF k { f with q := f.q ++ [p], ds := ds', by_ := f.by_ + p.f3 }) with n := d.n + 1, seq := p.f4 } 3 (.int .i64 p.f4) rfl)
    have K8 := Lib.hid (Dr.hd1 K7.out { (d.setF k { f with q := f.q ++ [p], ds := ds', by_ := f.by_ + p.f3 }) with n := d.n + 1, seq := p.f4, came := p.f5 } 4 (.int .i64 p.f5) rfl)
    refine wp_T [] (fun w' => w'.cell? ⟨pb, 4, none⟩ = some (.int .i64 p.f4) ∧ w'.cell? ⟨pb, 5, none⟩ = some (.int .i64 p.f5)) (by kernel_rfl) (fun hC => ?_) ⟨y4, y5⟩
    refine wpAnyT_takeC' 0 (by kernel_rfl) (fun _ _ _ h => h) (by assumption) (by rfl) (fun w hSw => by simp only [List.getD_cons_succ, List.getD_cons_zero]; (try dsimp only at hSw); go_simp; try with_reducible rfl) ?_
    try simp only [List.getD_cons_succ, List.getD_cons_zero, Act.put, List.setIfInBounds_toArray, List.set_cons_zero, List.set_cons_succ]
    refine wpAnyT_takeC' 1 (by kernel_rfl) (fun _ _ _ h => h) (by assumption) (by rfl) (fun w hSw => by simp only [List.getD_cons_succ, List.getD_cons_zero]; (try dsimp only at hSw); go_simp; try with_reducible rfl) ?_
    try simp only [List.getD_cons_succ, List.getD_cons_zero, Act.put, List.setIfInBounds_toArray, List.set_cons_zero, List.set_cons_succ]
    refine wpAnyT_takeC' 2 (by kernel_rfl) (fun _ _ _ h => h) (by assumption) (by rfl) (fun w hSw => by simp only [List.getD_cons_succ, List.getD_cons_zero]; (try dsimp only at hSw); go_simp; try with_reducible rfl) ?_
    try simp only [List.getD_cons_succ, List.getD_cons_zero, Act.put, List.setIfInBounds_toArray, List.set_cons_zero, List.set_cons_succ]
    refine wpAnyT_takeC' 3 (by kernel_rfl) (fun _ _ _ h => h) (by assumption) (by rfl) (fun w hSw => by simp only [List.getD_cons_succ, List.getD_cons_zero]; (try dsimp only at hSw); go_simp; try with_reducible rfl) ?_
    try simp only [List.getD_cons_succ, List.getD_cons_zero, Act.put, List.setIfInBounds_toArray, List.set_cons_zero, List.set_cons_succ]
    refine wpAnyT_takeC' 4 (by kernel_rfl) (fun _ _ _ h => h) (by assumption) (by rfl) (fun w hSw => by simp only [List.getD_cons_succ, List.getD_cons_zero]; (try dsimp only at hSw); go_simp; try with_reducible rfl) ?_
    try simp only [List.getD_cons_succ, List.getD_cons_zero, Act.put, List.setIfInBounds_toArray, List.set_cons_zero, List.set_cons_succ]
    refine wpAnyT_takeC' 5 (by kernel_rfl) (fun _ _ _ h => h) (by assumption) (by rfl) (fun w hSw => by simp only [List.getD_cons_succ, List.getD_cons_zero]; (try dsimp only at hSw); go_simp; try with_reducible rfl) ?_
    try simp only [List.getD_cons_succ, List.getD_cons_zero, Act.put, List.setIfInBounds_toArray, List.set_cons_zero, List.set_cons_succ]
    refine wpAnyT_takeC' 6 (by kernel_rfl) (fun _ _ _ h => h) (by assumption) (by rfl) (fun w hSw => by simp only [List.getD_cons_succ, List.getD_cons_zero]; (try dsimp only at hSw); go_simp; try with_reducible rfl) ?_
    try simp only [List.getD_cons_succ, List.getD_cons_zero, Act.put, List.setIfInBounds_toArray, List.set_cons_zero, List.set_cons_succ]
    refine wpAnyT_takeC' 7 (by kernel_rfl) (fun _ _ _ h => h) (by assumption) (by rfl) (fun w hSw => by simp only [List.getD_cons_succ, List.getD_cons_zero]; (try dsimp only at hSw); go_simp; try with_reducible rfl) ?_
    try simp only [List.getD_cons_succ, List.getD_cons_zero, Act.put, List.setIfInBounds_toArray, List.set_cons_zero, List.set_cons_succ]
    refine wpAnyT_one' 8 (by kernel_rfl) (by rfl) (fun K hK => ?_)
    simp only [List.getD_cons_succ, List.getD_cons_zero]
    go_simp
    have hC7 : ((W9.setCell ⟨d.b, 3, none⟩ (.int .i64 p.f4)).drew).cell? ⟨pb, 4, none⟩ = some (.int .i64 p.f4) ∧ ((W9.setCell ⟨d.b, 3, none⟩ (.int .i64 p.f4)).drew).cell? ⟨pb, 5, none⟩ = some (.int .i64 p.f5) := ⟨(K7.out.blk 0 rfl).cell 4, (K7.out.blk 0 rfl).cell 5⟩
    refine hK.out _ _ hC7 ?_
    clear hK hC
    try simp only [Act.put, List.setIfInBounds_toArray, List.set_cons_zero, List.set_cons_succ]
    have hC := hC7
    refine wpAnyT_takeC' 9 (by kernel_rfl) (fun _ _ _ h => h) (by assumption) (by rfl) (fun w hSw => by simp only [List.getD_cons_succ, List.getD_cons_zero]; (try dsimp only at hSw); go_simp; try with_reducible rfl) ?_
    try simp only [List.getD_cons_succ, List.getD_cons_zero, Act.put, List.setIfInBounds_toArray, List.set_cons_zero, List.set_cons_succ]
    refine wpAnyT_takeC' 10 (by kernel_rfl) (fun _ _ _ h => h) (by assumption) (by rfl) (fun w hSw => by simp only [List.getD_cons_succ, List.getD_cons_zero]; (try dsimp only at hSw); go_simp; try with_reducible rfl) ?_
    try simp only [List.getD_cons_succ, List.getD_cons_zero, Act.put, List.setIfInBounds_toArray, List.set_cons_zero, List.set_cons_succ]
    refine wpAnyT_one' 11 (by kernel_rfl) (by rfl) (fun K hK => ?_)
    simp only [List.getD_cons_succ, List.getD_cons_zero]
    go_simp
    refine hK.out _ _ ⟨(K8.out.blk 0 rfl).cell 4, (K8.out.blk 0 rfl).cell 5⟩ ?_
    clear hK hC
    refine wpAnyT_done (by kernel_rfl) ?_ _
    rw [onlyN_normal]
    go_wp2
    go_ret
    refine ⟨rfl, d.rds, ds', ?_⟩
    have hfin := Dr.outbox K8.out
    have e : ({ (d.setF k { f with q := f.q ++ [p], ds := ds', by_ := f.by_ + p.f3 }) with n := d.n + 1, seq := p.f4, came := p.f5 } : Dr) = d.admitted k f p d.rds ds' := by
      simp [Dr.admitted, Fl.got, Dr.setF, hq]
    rw [e] at hfin
    exact hfin
end Go.Proofs.Yteojodcdehkejaa
