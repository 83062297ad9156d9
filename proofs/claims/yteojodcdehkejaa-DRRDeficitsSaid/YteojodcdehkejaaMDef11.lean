/- A []Move that came in, opened. -/
import Derived.Test.YteojodcdehkejaaChecked
import Derived.Test.YteojodcdehkejaaMDef1
import Derived.OpenShut
import Derived.ChangeOld
import Derived.WideShapes
import Derived.Test.YteojodcdehkejaaMDef10
namespace Go.Proofs.Yteojodcdehkejaa
open Go Go.RowKit

/-- a slice of moves, wherever it lies -/
def MoveRow (w : World) (ao : Option Addr) (len : Nat) : Prop :=
  ∀ i, i < len → ∃ b off, ∃ k o n : Int, ao = some ⟨b, off, none⟩ ∧ w.cell? ⟨b, off + i * 3, none⟩ = some (.int .i64 k) ∧ w.cell? ⟨b, off + (i * 3 + 1), none⟩ = some (.int .i64 o) ∧
    w.cell? ⟨b, off + (i * 3 + 2), none⟩ = some (.int .i64 n)
theorem mcell_lit {w : World} {a : Addr} {v : Value} (h : w.cell? (a.add 0) = some v) : ∃ b off, a = ⟨b, off, none⟩ := by
  obtain ⟨b, off, sp⟩ := a
  cases sp with
  | none => exact ⟨b, off, rfl⟩
  | some s =>
    simp only [Addr.add, if_true, World.cell?] at h
    cases hb : w.heap[b]? with
    | none => simp [hb] at h
    | some o => cases o <;> simp [hb] at h
section
variable {H : Type} {enc : TypeId × Value → H} {w : World} {base fuel : Nat} {spare : Nat → Bool} {held : Bool}
set_option maxRecDepth 100000 in
theorem open_move {cs : List Value} {y : DataW H × List MemPlace} (h : DataW.trod enc Try.prog w base spare held fuel 45 cs = some y) :
    ∃ k o n : Int, cs = [.int .i64 k, .int .i64 o, .int .i64 n] := by
  obtain ⟨xs, m, _, _, hl, hxl, hf⟩ := DataW.trod_struct Try.underlying45 h
  have hc4 : Try.prog.cellsOf 45 = 3 := by kernel_rfl
  have hc1 : Try.prog.cellsOf 3 = 1 := by kernel_rfl
  rw [hc4] at hl
  match cs, hl with
  | [c0, c1, c2], _ =>
    simp at hxl
    have f0 : DataW.trod enc Try.prog w base spare held m 3 (List.take (Try.prog.cellsOf 3) [c0, c1, c2]) = xs[0]? := hf 0 _ rfl
    rw [hc1] at f0
    replace f0 : DataW.trod enc Try.prog w base spare held m 3 [c0] = xs[0]? := f0
    have f1 : DataW.trod enc Try.prog w base spare held m 3 (List.take (Try.prog.cellsOf 3) [c1, c2]) = xs[1]? := hf 1 _ rfl
    rw [hc1] at f1
    replace f1 : DataW.trod enc Try.prog w base spare held m 3 [c1] = xs[1]? := f1
    have f2 : DataW.trod enc Try.prog w base spare held m 3 (List.take (Try.prog.cellsOf 3) [c2]) = xs[2]? := hf 2 _ rfl
    rw [hc1] at f2
    replace f2 : DataW.trod enc Try.prog w base spare held m 3 [c2] = xs[2]? := f2
    rw [List.getElem?_eq_getElem (by omega)] at f0 f1 f2
    obtain ⟨k, e0, _⟩ := DataW.trod_int Try.underlying3 f0
    obtain ⟨o, e1, _⟩ := DataW.trod_int Try.underlying3 f1
    obtain ⟨n, e2, _⟩ := DataW.trod_int Try.underlying3 f2
    simp at e0 e1 e2
    subst e0 e1 e2
    exact ⟨k, o, n, rfl⟩
set_option maxRecDepth 100000 in
theorem open_moves {cs : List Value} {y : DataW H × List MemPlace} (h : DataW.trod enc Try.prog w base spare held fuel 41 cs = some y) :
    ∃ a len cap, cs = [.slice a len cap] ∧ len ≤ maxLen ∧ MoveRow w a len := by
  have hc4 : Try.prog.cellsOf 45 = 3 := by kernel_rfl
  rcases DataW.trod_slice Try.underlying41 h with ⟨h0, _⟩ | ⟨a, len, cap, elems, rest, n, _, rfl, _, hb, hl, hm, hlen, hel, _, _⟩
  · exact ⟨_, _, _, h0, by unfold maxLen; omega, fun i hi => by omega⟩
  · have each : ∀ i, i < len → ∃ k o n : Int, w.cell? (a.add (i * 3)) = some (.int .i64 k) ∧ w.cell? (a.add (i * 3 + 1)) = some (.int .i64 o) ∧ w.cell? (a.add (i * 3 + 2)) = some (.int .i64 n) := fun i hi => by
      have he := hel i hi
      rw [hc4, List.getElem?_eq_getElem (by omega)] at he
      simp only [Option.bind_eq_some_iff] at he
      obtain ⟨cs, h1, h2⟩ := he
      obtain ⟨_, _, h3⟩ := World.cells?_some h1
      obtain ⟨k, o, n, rfl⟩ := open_move h2
      have g0 := h3 0 (by omega)
      have g1 := h3 1 (by omega)
      have g2 := h3 2 (by omega)
      rw [Addr.add_add] at g0 g1 g2
      exact ⟨k, o, n, g0, g1, g2⟩
    refine ⟨_, _, _, rfl, by omega, fun i hi => ?_⟩
    obtain ⟨k0, _, _, h0, _⟩ := each 0 (by omega)
    obtain ⟨b, off, rfl⟩ := mcell_lit (by simpa using h0)
    obtain ⟨k, o, n, h1, h2, h3⟩ := each i hi
    simp only [Addr.add_lit] at h1 h2 h3
    exact ⟨b, off, k, o, n, rfl, h1, h2, h3⟩
end
theorem okWide_arr {P : Program} {w : World} {r : Reach} {base : Nat} {t : TypeId} {v : Value} {n : Nat} {e : TypeId} (ht : P.underlying t = some (.array n e)) (h : Value.okWide P w r base t v) : ∃ cs, v = .agg cs ∧ cs.size = P.cellsOf t := by
  unfold Value.okWide at h
  simp only [ht] at h
  obtain ⟨cs, hv, hs, _⟩ := h
  exact ⟨cs, hv, hs⟩
set_option maxRecDepth 100000 in
theorem open_arr4 {H : Type} {enc : TypeId × Value → H} {w : World} {base fuel b0 : Nat} {spare : Nat → Bool} {held : Bool} {r : Reach} {v : Value} {y : DataW H × List MemPlace} (hv : Value.okWide Try.prog w r b0 40 v)
    (h : DataW.trod enc Try.prog w base spare held fuel 40 v.cells.toList = some y) : ∃ x0 x1 x2 x3 : Int, v = .agg #[.int .i64 x0, .int .i64 x1, .int .i64 x2, .int .i64 x3] := by
  obtain ⟨cs, rfl, hs⟩ := okWide_arr Try.underlying40 hv
  have hc4 : Try.prog.cellsOf 40 = 4 := by kernel_rfl
  have hc1 : Try.prog.cellsOf 3 = 1 := by kernel_rfl
  rw [hc4] at hs
  obtain ⟨xs, m, _, _, hl, hxl, hf⟩ := DataW.trod_array Try.underlying40 h
  obtain ⟨l⟩ := cs
  simp only [Value.cells] at hf hl
  simp at hs
  match l, hs with
  | [c0, c1, c2, c3], _ =>
    have f0 := hf 0 (by omega)
    have f1 := hf 1 (by omega)
    have f2 := hf 2 (by omega)
    have f3 := hf 3 (by omega)
    rw [hc1] at f0 f1 f2 f3
    rw [List.getElem?_eq_getElem (by omega)] at f0 f1 f2 f3
    replace f0 : DataW.trod enc Try.prog w base spare held m 3 [c0] = some _ := f0
    replace f1 : DataW.trod enc Try.prog w base spare held m 3 [c1] = some _ := f1
    replace f2 : DataW.trod enc Try.prog w base spare held m 3 [c2] = some _ := f2
    replace f3 : DataW.trod enc Try.prog w base spare held m 3 [c3] = some _ := f3
    obtain ⟨k, e0, _⟩ := DataW.trod_int Try.underlying3 f0
    obtain ⟨o, e1, _⟩ := DataW.trod_int Try.underlying3 f1
    obtain ⟨n, e2, _⟩ := DataW.trod_int Try.underlying3 f2
    obtain ⟨u, e3, _⟩ := DataW.trod_int Try.underlying3 f3
    simp at e0 e1 e2 e3
    subst e0 e1 e2 e3
    exact ⟨k, o, n, u, rfl⟩
end Go.Proofs.Yteojodcdehkejaa
/- DRRDeficits: the walk. -/
namespace Go.Proofs.Yteojodcdehkejaa
open Go Go.RowKit
attribute [local go_sem] calmQ_normal wide_fn wide_depth Oper.semAt_some run_store_func

theorem mv_lt {w : World} {b o : Nat} {v : Value} (h : w.cell? ⟨b, o, none⟩ = some v) : b < w.heap.size := by
  unfold World.cell? at h
  cases hb : w.heap[b]? with
  | none => simp [hb] at h
  | some x => exact (Array.getElem?_eq_some_iff.1 hb).1
/-- the moves that came in, in a later world -/
theorem MoveRow.fr {w w' : World} {ao : Option Addr} {len : Nat} (h : MoveRow w ao len) (f : Fr [] w w') : MoveRow w' ao len := by
  intro i hi
  obtain ⟨b, off, k, o, n, ha, h1, h2, h3⟩ := h i hi
  have lt : b < w.heap.size := mv_lt h1
  exact ⟨b, off, k, o, n, ha, (f.cell (p := ⟨b, _, none⟩) lt (by simp)).trans h1, (f.cell (p := ⟨b, _, none⟩) lt (by simp)).trans h2, (f.cell (p := ⟨b, _, none⟩) lt (by simp)).trans h3⟩
theorem Sep.from {w w0 w1 : World} {cs : List Chunk} (f : Fr [] w w0) (k : Sep w0 [] w1 cs) : Sep w [] w1 cs := ⟨f.trans' k.fr, k.hs, fun b hb => (k.gr b hb).imp id (Nat.le_trans f.size)⟩
/-- how many of the ring have a slot below f -/
def nF (r : List Nat) (f : Nat) : Nat := (r.filter fun s => decide (s < f)).length
theorem nF_zero (r : List Nat) : nF r 0 = 0 := by simp [nF]
theorem nF_le (r : List Nat) (f : Nat) : nF r f ≤ r.length := List.length_filter_le _ _
theorem nF_succ (r : List Nat) (f : Nat) : nF r (f + 1) = nF r f + r.count f := by
  unfold nF
  induction r with
  | nil => rfl
  | cons a r ih =>
    rw [List.filter_cons, List.filter_cons, List.count_cons]
    by_cases h1 : a < f
    · have h2 : a < f + 1 := by omega
      have h3 : ¬ a = f := by omega
      simp [h1, h2, h3, ih]; omega
    · by_cases h2 : a = f
      · subst h2; simp [ih]; omega
      · have h3 : ¬ a < f + 1 := by omega
        simp [h1, h2, h3, ih]
theorem nF_all {r : List Nat} {f : Nat} (h : ∀ s, s ∈ r → s < f) : nF r f = r.length := by
  unfold nF
  rw [List.filter_eq_self.2 (fun s hs => by simpa using h s hs)]
theorem hds_len (G : Nat → Int) (l : List Nat) : (hds G l).length = l.length * 2 := by
  unfold hds
  induction l with
  | nil => rfl
  | cons a l ih => rw [List.flatMap_cons, List.length_append, ih]; simp; omega
theorem hds_at {G : Nat → Int} {l : List Nat} {m s : Nat} (h : l[m]? = some s) (j : Nat) (hj : j < 2) : (hds G l)[m * 2 + j]? = [Value.int .i64 (s : Int), .int .i64 (G s)][j]? := by
  unfold hds
  induction l generalizing m with
  | nil => simp at h
  | cons a l ih =>
    rw [List.flatMap_cons]
    cases m with
    | zero =>
      simp at h; subst h
      rw [List.getElem?_append_left (by simp; omega)]; simp
    | succ m =>
      simp only [List.getElem?_cons_succ] at h
      rw [List.getElem?_append_right (by simp; omega), ← ih h]
      congr 1
      simp; omega
theorem hds_at0 {G : Nat → Int} {l : List Nat} {m s : Nat} (h : l[m]? = some s) : (hds G l)[m * 2]? = some (.int .i64 s) := hds_at h 0 (by omega)
theorem hds_at1 {G : Nat → Int} {l : List Nat} {m s : Nat} (h : l[m]? = some s) : (hds G l)[m * 2 + 1]? = some (.int .i64 (G s)) := hds_at h 1 (by omega)
theorem take_count {l : List Nat} {m s f : Nat} (h : l[m]? = some s) : (l.take (m + 1)).count f = (l.take m).count f + if s = f then 1 else 0 := by
  rw [List.take_add_one, h, List.count_append]
  simp [List.count_singleton]
theorem wrapm {x : Int} (h1 : 0 ≤ x) (h2 : x ≤ 1125899906842624) : IntKind.i64.wrap x = x := by
  rw [IntKind.wrap_i64]; omega
set_option maxRecDepth 100000 in
set_option maxHeartbeats 4000000 in
theorem def_walk (w : World) (q0 q1 q2 q3 : Int) (ao : Option Addr) (len cap : Nat) (hlm : len ≤ maxLen) (hst : MoveRow w ao len) :
    Calls Try.prog 6 #[.agg #[.int .i64 q0, .int .i64 q1, .int .i64 q2, .int .i64 q3], .slice ao len cap] w fun e w' => e = .returned (.bool true) ∧ Fr [] w w' := by
  have HST := Lib.hid hst
  unfold maxLen at hlm
  clear hst
  go_enter Try.func6, Try.ntmps6
  go_wp2_with fail
  refine (open_ok _ q0 q1 q2 q3).mono ?_
  rintro er w1 ⟨x, rfl, hwf, hl0, hmo, k1⟩
  have HWF := Lib.hid hwf
  have K1 := Lib.hid (Sep.from ((Fr.refl [] w).alloc (.cells #[.int .i64 q0, .int .i64 q1, .int .i64 q2, .int .i64 q3] 40)) k1)
  clear hwf hl0 hmo k1
  go_wp2_with fail
  refine (told15 _).mono ?_
  rintro er w2 ⟨rfl, f2⟩
  obtain ⟨WB, hWB⟩ : ∃ WB, x.b = WB := ⟨_, rfl⟩
  have HB := Lib.hid hWB
  rw [hWB]
  have K2 := Lib.hid (K1.out.same f2)
  clear hWB f2 K1
  go_wp2_with fail
  go_loopg [6] (len + 1) (fun k i wr => ∃ j : Nat, k + j = len + 1 ∧ j ≤ len ∧ j ≤ 150 ∧ i = .int .i64 j ∧ ∃ x : Wd, Hid (x.b = WB) ∧ Hid (Wf x j) ∧ Hid (Sep w [] wr x.chunks))
  case atStart => exact ⟨0, by omega, by omega, by omega, rfl, x, HB, HWF, K2⟩
  case round =>
    clear HB HWF K2 x
    obtain ⟨j, hk, hj, hj2, rfl, x, HB, HWF, K⟩ := hrel
    by_cases hjn : j < len
    · by_cases hj3 : j < 150
      · obtain ⟨mb, off, kd, fl, sz, rfl, m1, m2, m3⟩ := (HST.out.fr K.out.fr) j hjn
        have hjl : (j : Int) < len := by omega
        have hj4 : (j : Int) < 150 := by omega
        have m4 : wr.cell? ⟨mb, off + j * 3 + 1, none⟩ = some (.int .i64 fl) := by rw [Nat.add_assoc]; exact m2
        have m5 : wr.cell? ⟨mb, off + j * 3 + 2, none⟩ = some (.int .i64 sz) := by rw [Nat.add_assoc]; exact m3
        have hmv := mv HWF.out (by omega) K.out.hs kd fl sz
        rw [HB.out] at hmv
        have HM := Lib.hid hmv
        clear hmv m2 m3
        go_wp2_with fail
        refine HM.out.mono ?_
        rintro er w3 ⟨rfl, x', hR, hwf, hb, k3⟩
        have HWF' := Lib.hid hwf
        have HB' : Hid (x'.b = WB) := Lib.hid (hb.trans HB.out)
        have K3 := Lib.hid (K.out.next k3)
        clear hR hwf hb k3 K HWF HB HM m1 m4 m5 x
        have c0 : w3.cell? ⟨WB, 0, none⟩ = some (.pointer (some ⟨x'.db, 0, none⟩)) := by rw [← HB'.out]; exact (Wd.wds (pre := []) K3.out).cell 0
        have lb : WB < w3.heap.size := by rw [← HB'.out]; exact (Wd.wds (pre := []) K3.out).lt
        go_wp2_with fail
        refine (x_ring HWF'.out K3.out.hs.right).mono ?_
        rintro er w4 ⟨v, S, rfl, o4, g4, f4⟩
        obtain ⟨ra, rc, rfl⟩ := o4.val
        have K4 := Lib.hid ((K3.out.call0 (Sep.of_one0 (c := Chunk.own 26 2 (.slice ra x'.ring.length rc) _ _ S) f4 o4 g4)).perm List.perm_append_comm)
        clear o4 g4 f4 K3 c0 lb
        have c0 : w4.cell? ⟨WB, 0, none⟩ = some (.pointer (some ⟨x'.db, 0, none⟩)) := by rw [← HB'.out]; exact (Wd.wds K4.out).cell 0
        have lb : WB < w4.heap.size := by rw [← HB'.out]; exact (Wd.wds K4.out).lt
        by_cases ht : x'.turn = true
        · have hne := HWF'.out.turn ht
          obtain ⟨s0, rest, hring⟩ : ∃ s0 rest, x'.ring = s0 :: rest := by
            cases hr : x'.ring with
            | nil => exact absurd hr hne
            | cons a l => exact ⟨a, l, rfl⟩
          have HRI := Lib.hid hring
          have HT := Lib.hid ht
          have hlen := Lib.hid (show x'.ring.length = rest.length + 1 by rw [hring]; rfl)
          clear ht hne hring
          go_wp2_with fail
          refine (x_turn_yes HWF'.out K4.out.hs.right.right HT.out HRI.out).mono ?_
          rintro er w5 ⟨rfl, f5⟩
          have K5 := Lib.hid (K4.out.same f5)
          clear f5 K4 c0 lb
          have K50 := Lib.hid ((K5.out.alloc 26 [.int .i64 s0, .int .i64 (x'.G s0)]).perm List.perm_append_comm)
          have O5 := Lib.hid (show OwnS w5 26 2 (.slice ra x'.ring.length rc) x'.ring.length (hds x'.G x'.ring) S from K5.out.get (i := 0) rfl)
          obtain ⟨rg, rc', hrv, _⟩ := O5.out.head (by rw [hlen.out]; omega)
          cases hrv
          have hs0 : x'.ring[0]? = some s0 := by rw [HRI.out]; rfl
          have d0 : w5.cell? ⟨rg, 0, none⟩ = some (.int .i64 s0) := (O5.out.cellAt 0 (by rw [hlen.out]; omega)).trans (hds_at0 hs0)
          have d1 : w5.cell? ⟨rg, 1, none⟩ = some (.int .i64 (x'.G s0)) := (O5.out.cellAt 1 (by rw [hlen.out]; omega)).trans (hds_at1 hs0)
          have hlz : ((x'.ring.length : Int) == 0) = false := by rw [beq_eq_false_iff_ne, hlen.out]; omega
          have hlp : 0 < x'.ring.length := by rw [hlen.out]; omega
          have lrg := mv_lt d0
          clear hs0
          go_wp2_with fail
          go_quiet (fail)
          obtain ⟨XB, hXB⟩ : ∃ XB, w5.heap.size = XB := ⟨_, rfl⟩
          obtain ⟨W6, hW6⟩ : ∃ W6, (w5.alloc (.cells #[.int .i64 s0, .int .i64 (x'.G s0)] 26)).drewN nq = W6 := ⟨_, rfl⟩
          have K6 : Hid (Sep w [] W6 ([Chunk.blk XB 26 [.int .i64 s0, .int .i64 (x'.G s0)], Chunk.own 26 2 (.slice (some ⟨rg, 0, none⟩) x'.ring.length rc) x'.ring.length (hds x'.G x'.ring) S] ++ (x'.wch ++ x'.dr.chunks))) := by
            rw [← hW6, ← hXB]; exact Lib.hid (K50.out.drewN nq)
          rw [hXB, hW6]
          clear hXB hW6 K50 K5 d0 d1 hlz O5 lrg
          have HX : Hid (∀ f : Nat, f ∈ x'.ring → (x'.hold f ∧ true = true ∧ (s0 : Int) = f ∧ x'.G s0 = x'.G f) ∨ (¬ x'.hold f ∧ (true = true → (s0 : Int) ≠ f))) := Lib.hid (fun f hf => by
            by_cases e : s0 = f
            · subst e
              exact .inl ⟨⟨HT.out, by rw [HRI.out]; rfl⟩, rfl, rfl, rfl⟩
            · refine .inr ⟨fun hh => ?_, fun _ => by omega⟩
              have := hh.2
              rw [HRI.out] at this
              exact e (Option.some.inj this))
          -- W6, K6, HX, XB, TV, s0, (x'.G s0)
          have hri : x'.ring.length ≤ 4 := HWF'.out.rlen
          go_wp2_with fail
          go_loopg [10, 11] 5 (fun k n i wr2 => ∃ f : Nat, k + f = 5 ∧ f ≤ 4 ∧ i = .int .i64 f ∧ n = .int .i64 (nF x'.ring f) ∧ Hid (Sep w [] wr2 ([Chunk.blk XB 26 [.int .i64 s0, .int .i64 (x'.G s0)], Chunk.own 26 2 (.slice (some ⟨rg, 0, none⟩) x'.ring.length rc) x'.ring.length (hds x'.G x'.ring) S] ++ (x'.wch ++ x'.dr.chunks))))
          case atStart => exact ⟨0, by omega, by omega, rfl, by rw [nF_zero]; rfl, K6⟩
          case round =>
            clear K6
            obtain ⟨f, hkf, hf, rfl, rfl, K7⟩ := hrel
            by_cases hf4 : f < 4
            · have hfi : (f : Int) < 4 := by omega
              have lb := (Wd.wds K7.out).lt
              rw [HB'.out] at lb
              have hwh := whandle (Wd.wds K7.out) hf4 (x'.cG hf4)
              rw [HB'.out] at hwh
              have HW := Lib.hid hwh
              clear hwh
              go_wp2_with fail
              refine HW.out.mono ?_
              rintro er w7 ⟨rfl, f7⟩
              have K8 := Lib.hid (((K7.out.same f7).alloc 26 [.int .i64 f, .int .i64 (x'.G f)]).perm List.perm_append_comm)
              clear f7 K7 HW lb
              obtain ⟨HBk, hHB⟩ : ∃ HBk, w7.heap.size = HBk := ⟨_, rfl⟩
              obtain ⟨W8, hW8⟩ : ∃ W8, w7.alloc (.cells #[.int .i64 f, .int .i64 (x'.G f)] 26) = W8 := ⟨_, rfl⟩
              have K9 : Hid (Sep w [] W8 ([Chunk.blk HBk 26 [.int .i64 f, .int .i64 (x'.G f)], Chunk.blk XB 26 [.int .i64 s0, .int .i64 (x'.G s0)], Chunk.own 26 2 (.slice (some ⟨rg, 0, none⟩) x'.ring.length rc) x'.ring.length (hds x'.G x'.ring) S] ++ (x'.wch ++ x'.dr.chunks))) := by
                rw [← hHB, ← hW8]; exact K8
              go_wp2_with fail
              clear hHB hW8 K8
              have b0 := Wd.wds K9.out
              rw [HB'.out] at b0
              have c0 : W8.cell? ⟨WB, 0, none⟩ = some (.pointer (some ⟨x'.db, 0, none⟩)) := b0.cell 0
              have lb := b0.lt
              have h0 : W8.cell? ⟨HBk, 0, none⟩ = some (.int .i64 f) := (K9.out.blk 0 rfl).cell 0
              have h1 : W8.cell? ⟨HBk, 1, none⟩ = some (.int .i64 (x'.G f)) := (K9.out.blk 0 rfl).cell 1
              have lh := (K9.out.blk 0 rfl).lt
              clear b0
              refine wp_head_tail 5 (by kernel_rfl) (by kernel_rfl) ?_
              simp only [List.take_succ_cons, List.take_zero, List.drop_succ_cons, List.drop_zero]
              repeat (first | go_big_quiet_step (fail) | quiet_step (fail))
              refine wpQuiet_nil ?_
              rintro _ ⟨nq, rfl⟩
              go_wp2_with fail
              refine (x_deficit HWF'.out (K9.out.drewN nq).hs.right.right hf4).mono ?_
              rintro er w9 ⟨rfl, f9⟩
              have K10 := Lib.hid ((K9.out.drewN nq).same f9)
              clear f9 K9 c0 lb h0 h1 lh
              have b0 := Wd.wds K10.out
              rw [HB'.out] at b0
              have c1 : w9.cell? ⟨WB, 1 + f, none⟩ = some (.int .i64 (x'.Q f)) := by rw [b0.cell]; exact x'.cQ hf4
              have hrow := Wd.rowf K10.out hf4
              obtain ⟨va, vc, hv, _⟩ := hrow.val
              have c5 : w9.cell? ⟨WB, 5 + f, none⟩ = some (.slice va (x'.L f).length vc) := by rw [b0.cell, x'.cV hf4, hv]
              have c19 : w9.cell? ⟨WB, 19, none⟩ = some (.int .i64 x'.most) := b0.cell 19
              have lb := b0.lt
              rw [hv] at hrow
              have HR := Lib.hid hrow
              have O := Lib.hid (show OwnS w9 26 2 (.slice (some ⟨rg, 0, none⟩) x'.ring.length rc) x'.ring.length (hds x'.G x'.ring) S from K10.out.get (i := 2) rfl)
              have h0 : w9.cell? ⟨HBk, 0, none⟩ = some (.int .i64 f) := (K10.out.blk 0 rfl).cell 0
              have h1 : w9.cell? ⟨HBk, 1, none⟩ = some (.int .i64 (x'.G f)) := (K10.out.blk 0 rfl).cell 1
              have lh := (K10.out.blk 0 rfl).lt
              have e0 : w9.cell? ⟨XB, 0, none⟩ = some (.int .i64 s0) := (K10.out.blk 1 rfl).cell 0
              have e1 : w9.cell? ⟨XB, 1, none⟩ = some (.int .i64 (x'.G s0)) := (K10.out.blk 1 rfl).cell 1
              have le := (K10.out.blk 1 rfl).lt
              clear b0 hv hrow
              go_wp2
              rw [onlyN_normal]
              go_wp2_with fail
              go_loopg [15, 16] (x'.ring.length + 1) (fun k c i wr3 => ∃ m : Nat, k + m = x'.ring.length + 1 ∧ m ≤ x'.ring.length ∧ i = .int .i64 m ∧ c = .int .i64 ((x'.ring.take m).count f : Nat) ∧ ∃ q, wr3 = w9.drewN q)
              case atStart => exact ⟨0, by omega, by omega, rfl, by simp, 0, rfl⟩
              case round =>
                obtain ⟨m, hkm, hm, rfl, rfl, q, rfl⟩ := hrel
                by_cases hml : m < x'.ring.length
                · obtain ⟨s, hs⟩ : ∃ s, x'.ring[m]? = some s := ⟨x'.ring[m], by simp [hml]⟩
                  obtain ⟨rg, rc', hrv, _⟩ := O.out.head (by omega)
                  cases hrv
                  have d0 : w9.cell? ⟨rg, m * 2, none⟩ = some (.int .i64 s) := (O.out.cellAt (m * 2) (by omega)).trans (hds_at0 hs)
                  have d1 : w9.cell? ⟨rg, m * 2 + 1, none⟩ = some (.int .i64 (x'.G s)) := (O.out.cellAt (m * 2 + 1) (by omega)).trans (hds_at1 hs)
                  have hcl : (x'.ring.take m).count f ≤ m := Nat.le_trans List.count_le_length (by simp; omega)
                  by_cases hsf : s = f
                  · have hct : Hid ((x'.ring.take (m + 1)).count f = (x'.ring.take m).count f + 1) := Lib.hid (by rw [take_count hs, if_pos hsf])
                    subst hsf
                    clear hs
                    go_wp2_with fail
                    go_quiet (fail)
                    go_wp2
                    go_roundg (x'.ring.length - m)
                    case measure => omega
                    case rel => exact ⟨m + 1, by omega, by omega, by go_num, by rw [hct.out]; go_num, _, rfl⟩
                  · have hsf2 : ((s : Int) == (f : Int)) = false := by rw [beq_eq_false_iff_ne]; omega
                    have hct : Hid ((x'.ring.take (m + 1)).count f = (x'.ring.take m).count f) := Lib.hid (by rw [take_count hs, if_neg hsf, Nat.add_zero])
                    clear hs hsf
                    go_wp2_with fail
                    go_quiet (fail)
                    go_wp2
                    go_roundg (x'.ring.length - m)
                    case measure => omega
                    case rel => exact ⟨m + 1, by omega, by omega, by go_num, by rw [hct.out], _, rfl⟩
                · obtain rfl : m = x'.ring.length := by omega
                  rw [List.take_length]
                  have hd0 := HWF'.out.d0 f hf4
                  have hq := HWF'.out.q f hf4
                  have hmo := HWF'.out.mo
                  have hq1 := hq.1
                  have hq2 := hq.2
                  have hm1 := hmo.1
                  have hm2 := hmo.2
                  have w1' := wrapm (x := x'.Q f + x'.most) (by omega) (by omega)
                  have w2' := wrapm (x := x'.Q f + x'.most + 1) (by omega) (by omega)
                  have hnf := Lib.hid (nF_succ x'.ring f)
                  have hnl : nF x'.ring f ≤ 4 := Nat.le_trans (nF_le _ _) hri
                  by_cases hin : f ∈ x'.ring
                  · have hc1 : x'.ring.count f = 1 := HWF'.out.nd.count.trans (if_pos hin)
                    have HC1 := Lib.hid hc1
                    rw [hc1, show (((1 : Nat) : Int)) = 1 from rfl]
                    have hne := ((HWF'.out.mem f).1 hin).2
                    obtain ⟨p, ps, hp⟩ : ∃ p ps, x'.L f = p :: ps := by
                      cases hl : x'.L f with
                      | nil => exact absurd hl hne
                      | cons p ps => exact ⟨p, ps, rfl⟩
                    have hlen : (x'.L f).length = ps.length + 1 := by rw [hp]; rfl
                    rw [hlen] at c5
                    have HRp := HR.out
                    rw [hp, List.length_cons] at HRp
                    obtain ⟨lg, lo, rfl, _, hlt, hcl⟩ := HRp.at_ (i := 0) (p := p) rfl
                    have l2 : w9.cell? ⟨lg, lo + 3, none⟩ = some (.int .i64 p.f3) := by have := hcl 3 (by omega); simpa [encP6] using this
                    have hszp : szOf (x'.L f) = p.f3 := by rw [hp]; rfl
                    have hdl : decide (x'.df f < 0) = false := decide_eq_false (by omega)
                    have HSZ := Lib.hid hszp
                    clear hp hlen HRp hcl hszp hne hc1
                    rcases HX.out f hin with ⟨hho, htv, hxs, hxg⟩ | ⟨hho, hxs⟩
                    · have hdh := HWF'.out.dh f hho
                      have hge : decide (x'.Q f + x'.most + 1 ≤ x'.df f) = false := decide_eq_false (by omega)
                      rw [hxs] at e0
                      rw [hxg] at e1
                      have hho' := Lib.hid hho
                      clear hho hxs hxg
                      skip
                      all_goals
                        go_wp2_with fail
                        go_quiet (fail)
                        go_wp2
                        go_roundg (4 - f)
                        case measure => omega
                        case rel => exact ⟨f + 1, by omega, by omega, by go_num, by rw [hnf.out, HC1.out]; go_num, Lib.hid ((K10.out.same (by repeat (first | exact Fr.refl _ _ | refine Fr.drewN ?_ _ | refine Fr.drew ?_))).sub (List.sublist_cons_self _ _))⟩
                    · have hds := HWF'.out.ds f hin hho
                      rw [HSZ.out] at hds
                      have hpm := (HWF'.out.hd hin).2
                      rw [HSZ.out] at hpm
                      have hge : decide (x'.Q f + x'.most + 1 ≤ x'.df f) = false := decide_eq_false (by omega)
                      have hge2 : decide (p.f3 ≤ x'.df f) = false := decide_eq_false (by omega)
                      have hxs' := Lib.hid hxs
                      have hho' := Lib.hid hho
                      clear hxs hho
                      have hxf : ((s0 : Int) == (f : Int)) = false := beq_eq_false_iff_ne.2 (hxs'.out (by simp))
                      all_goals
                        go_wp2_with fail
                        go_quiet (fail)
                        go_wp2
                        go_roundg (4 - f)
                        case measure => omega
                        case rel => exact ⟨f + 1, by omega, by omega, by go_num, by rw [hnf.out, HC1.out]; go_num, Lib.hid ((K10.out.same (by repeat (first | exact Fr.refl _ _ | refine Fr.drewN ?_ _ | refine Fr.drew ?_))).sub (List.sublist_cons_self _ _))⟩
                  · have hc1 : x'.ring.count f = 0 := HWF'.out.nd.count.trans (if_neg hin)
                    have HC1 := Lib.hid hc1
                    rw [hc1, show (((0 : Nat) : Int)) = 0 from rfl]
                    have hl0 : x'.L f = [] := by
                      by_cases e : x'.L f = []
                      · exact e
                      · exact absurd ((HWF'.out.mem f).2 ⟨hf4, e⟩) hin
                    have hd00 : x'.df f = 0 := HWF'.out.dn f hf4 hl0
                    have hlen : (x'.L f).length = 0 := by rw [hl0]; rfl
                    rw [hlen] at c5
                    have hge : decide (x'.Q f + x'.most + 1 ≤ 0) = false := decide_eq_false (by omega)
                    have hin' := Lib.hid hin
                    clear hc1 hl0 hlen hin
                    all_goals
                      go_wp2_with fail
                      go_quiet (fail)
                      go_wp2
                      go_roundg (4 - f)
                      case measure => omega
                      case rel => exact ⟨f + 1, by omega, by omega, by go_num, by rw [hnf.out, HC1.out]; go_num, Lib.hid ((K10.out.same (by repeat (first | exact Fr.refl _ _ | refine Fr.drewN ?_ _ | refine Fr.drew ?_))).sub (List.sublist_cons_self _ _))⟩
            · obtain rfl : f = 4 := by omega
              rw [show nF x'.ring 4 = x'.ring.length from nF_all (fun s hs => HWF'.out.lt hs)]
              go_wp2
              go_roundg (len - j)
              case measure => omega
              case rel => exact ⟨j + 1, by omega, by omega, by omega, by go_num, x', HB', HWF', Lib.hid (K7.out.sub (List.sublist_append_right _ _))⟩
        · have ht' : x'.turn = false := by simpa using ht
          have HT := Lib.hid ht'
          clear ht ht'
          go_wp2_with fail
          refine (x_turn_no K4.out.hs.right.right HT.out).mono ?_
          rintro er w5 ⟨rfl, f5⟩
          have K5 := Lib.hid (K4.out.same f5)
          clear f5 K4 c0 lb
          have K50 := Lib.hid ((K5.out.alloc 26 [.int .i64 0, .int .i64 0]).perm List.perm_append_comm)
          go_wp2_with fail
          go_quiet (fail)
          obtain ⟨XB, hXB⟩ : ∃ XB, w5.heap.size = XB := ⟨_, rfl⟩
          obtain ⟨W6, hW6⟩ : ∃ W6, (w5.alloc (.cells #[.int .i64 0, .int .i64 0] 26)).drewN nq = W6 := ⟨_, rfl⟩
          have K6 : Hid (Sep w [] W6 ([Chunk.blk XB 26 [.int .i64 0, .int .i64 0], Chunk.own 26 2 (.slice ra x'.ring.length rc) x'.ring.length (hds x'.G x'.ring) S] ++ (x'.wch ++ x'.dr.chunks))) := by
            rw [← hW6, ← hXB]; exact Lib.hid (K50.out.drewN nq)
          rw [hXB, hW6]
          clear hXB hW6 K50 K5
          have HX : Hid (∀ f : Nat, f ∈ x'.ring → (x'.hold f ∧ false = true ∧ (0 : Int) = f ∧ (0 : Int) = x'.G f) ∨ (¬ x'.hold f ∧ (false = true → (0 : Int) ≠ f))) := Lib.hid (fun f hf => .inr ⟨(fun hh => by have := hh.1; rw [HT.out] at this; cases this), (fun h => by cases h)⟩)
          -- W6, K6, HX, XB, TV, 0, 0
          have hri : x'.ring.length ≤ 4 := HWF'.out.rlen
          go_wp2_with fail
          go_loopg [10, 11] 5 (fun k n i wr2 => ∃ f : Nat, k + f = 5 ∧ f ≤ 4 ∧ i = .int .i64 f ∧ n = .int .i64 (nF x'.ring f) ∧ Hid (Sep w [] wr2 ([Chunk.blk XB 26 [.int .i64 0, .int .i64 0], Chunk.own 26 2 (.slice ra x'.ring.length rc) x'.ring.length (hds x'.G x'.ring) S] ++ (x'.wch ++ x'.dr.chunks))))
          case atStart => exact ⟨0, by omega, by omega, rfl, by rw [nF_zero]; rfl, K6⟩
          case round =>
            clear K6
            obtain ⟨f, hkf, hf, rfl, rfl, K7⟩ := hrel
            by_cases hf4 : f < 4
            · have hfi : (f : Int) < 4 := by omega
              have lb := (Wd.wds K7.out).lt
              rw [HB'.out] at lb
              have hwh := whandle (Wd.wds K7.out) hf4 (x'.cG hf4)
              rw [HB'.out] at hwh
              have HW := Lib.hid hwh
              clear hwh
              go_wp2_with fail
              refine HW.out.mono ?_
              rintro er w7 ⟨rfl, f7⟩
              have K8 := Lib.hid (((K7.out.same f7).alloc 26 [.int .i64 f, .int .i64 (x'.G f)]).perm List.perm_append_comm)
              clear f7 K7 HW lb
              obtain ⟨HBk, hHB⟩ : ∃ HBk, w7.heap.size = HBk := ⟨_, rfl⟩
              obtain ⟨W8, hW8⟩ : ∃ W8, w7.alloc (.cells #[.int .i64 f, .int .i64 (x'.G f)] 26) = W8 := ⟨_, rfl⟩
              have K9 : Hid (Sep w [] W8 ([Chunk.blk HBk 26 [.int .i64 f, .int .i64 (x'.G f)], Chunk.blk XB 26 [.int .i64 0, .int .i64 0], Chunk.own 26 2 (.slice ra x'.ring.length rc) x'.ring.length (hds x'.G x'.ring) S] ++ (x'.wch ++ x'.dr.chunks))) := by
                rw [← hHB, ← hW8]; exact K8
              go_wp2_with fail
              clear hHB hW8 K8
              have b0 := Wd.wds K9.out
              rw [HB'.out] at b0
              have c0 : W8.cell? ⟨WB, 0, none⟩ = some (.pointer (some ⟨x'.db, 0, none⟩)) := b0.cell 0
              have lb := b0.lt
              have h0 : W8.cell? ⟨HBk, 0, none⟩ = some (.int .i64 f) := (K9.out.blk 0 rfl).cell 0
              have h1 : W8.cell? ⟨HBk, 1, none⟩ = some (.int .i64 (x'.G f)) := (K9.out.blk 0 rfl).cell 1
              have lh := (K9.out.blk 0 rfl).lt
              clear b0
              refine wp_head_tail 5 (by kernel_rfl) (by kernel_rfl) ?_
              simp only [List.take_succ_cons, List.take_zero, List.drop_succ_cons, List.drop_zero]
              repeat (first | go_big_quiet_step (fail) | quiet_step (fail))
              refine wpQuiet_nil ?_
              rintro _ ⟨nq, rfl⟩
              go_wp2_with fail
              refine (x_deficit HWF'.out (K9.out.drewN nq).hs.right.right hf4).mono ?_
              rintro er w9 ⟨rfl, f9⟩
              have K10 := Lib.hid ((K9.out.drewN nq).same f9)
              clear f9 K9 c0 lb h0 h1 lh
              have b0 := Wd.wds K10.out
              rw [HB'.out] at b0
              have c1 : w9.cell? ⟨WB, 1 + f, none⟩ = some (.int .i64 (x'.Q f)) := by rw [b0.cell]; exact x'.cQ hf4
              have hrow := Wd.rowf K10.out hf4
              obtain ⟨va, vc, hv, _⟩ := hrow.val
              have c5 : w9.cell? ⟨WB, 5 + f, none⟩ = some (.slice va (x'.L f).length vc) := by rw [b0.cell, x'.cV hf4, hv]
              have c19 : w9.cell? ⟨WB, 19, none⟩ = some (.int .i64 x'.most) := b0.cell 19
              have lb := b0.lt
              rw [hv] at hrow
              have HR := Lib.hid hrow
              have O := Lib.hid (show OwnS w9 26 2 (.slice ra x'.ring.length rc) x'.ring.length (hds x'.G x'.ring) S from K10.out.get (i := 2) rfl)
              have h0 : w9.cell? ⟨HBk, 0, none⟩ = some (.int .i64 f) := (K10.out.blk 0 rfl).cell 0
              have h1 : w9.cell? ⟨HBk, 1, none⟩ = some (.int .i64 (x'.G f)) := (K10.out.blk 0 rfl).cell 1
              have lh := (K10.out.blk 0 rfl).lt
              have e0 : w9.cell? ⟨XB, 0, none⟩ = some (.int .i64 0) := (K10.out.blk 1 rfl).cell 0
              have e1 : w9.cell? ⟨XB, 1, none⟩ = some (.int .i64 0) := (K10.out.blk 1 rfl).cell 1
              have le := (K10.out.blk 1 rfl).lt
              clear b0 hv hrow
              go_wp2
              rw [onlyN_normal]
              go_wp2_with fail
              go_loopg [15, 16] (x'.ring.length + 1) (fun k c i wr3 => ∃ m : Nat, k + m = x'.ring.length + 1 ∧ m ≤ x'.ring.length ∧ i = .int .i64 m ∧ c = .int .i64 ((x'.ring.take m).count f : Nat) ∧ ∃ q, wr3 = w9.drewN q)
              case atStart => exact ⟨0, by omega, by omega, rfl, by simp, 0, rfl⟩
              case round =>
                obtain ⟨m, hkm, hm, rfl, rfl, q, rfl⟩ := hrel
                by_cases hml : m < x'.ring.length
                · obtain ⟨s, hs⟩ : ∃ s, x'.ring[m]? = some s := ⟨x'.ring[m], by simp [hml]⟩
                  obtain ⟨rg, rc', hrv, _⟩ := O.out.head (by omega)
                  cases hrv
                  have d0 : w9.cell? ⟨rg, m * 2, none⟩ = some (.int .i64 s) := (O.out.cellAt (m * 2) (by omega)).trans (hds_at0 hs)
                  have d1 : w9.cell? ⟨rg, m * 2 + 1, none⟩ = some (.int .i64 (x'.G s)) := (O.out.cellAt (m * 2 + 1) (by omega)).trans (hds_at1 hs)
                  have hcl : (x'.ring.take m).count f ≤ m := Nat.le_trans List.count_le_length (by simp; omega)
                  by_cases hsf : s = f
                  · have hct : Hid ((x'.ring.take (m + 1)).count f = (x'.ring.take m).count f + 1) := Lib.hid (by rw [take_count hs, if_pos hsf])
                    subst hsf
                    clear hs
                    go_wp2_with fail
                    go_quiet (fail)
                    go_wp2
                    go_roundg (x'.ring.length - m)
                    case measure => omega
                    case rel => exact ⟨m + 1, by omega, by omega, by go_num, by rw [hct.out]; go_num, _, rfl⟩
                  · have hsf2 : ((s : Int) == (f : Int)) = false := by rw [beq_eq_false_iff_ne]; omega
                    have hct : Hid ((x'.ring.take (m + 1)).count f = (x'.ring.take m).count f) := Lib.hid (by rw [take_count hs, if_neg hsf, Nat.add_zero])
                    clear hs hsf
                    go_wp2_with fail
                    go_quiet (fail)
                    go_wp2
                    go_roundg (x'.ring.length - m)
                    case measure => omega
                    case rel => exact ⟨m + 1, by omega, by omega, by go_num, by rw [hct.out], _, rfl⟩
                · obtain rfl : m = x'.ring.length := by omega
                  rw [List.take_length]
                  have hd0 := HWF'.out.d0 f hf4
                  have hq := HWF'.out.q f hf4
                  have hmo := HWF'.out.mo
                  have hq1 := hq.1
                  have hq2 := hq.2
                  have hm1 := hmo.1
                  have hm2 := hmo.2
                  have w1' := wrapm (x := x'.Q f + x'.most) (by omega) (by omega)
                  have w2' := wrapm (x := x'.Q f + x'.most + 1) (by omega) (by omega)
                  have hnf := Lib.hid (nF_succ x'.ring f)
                  have hnl : nF x'.ring f ≤ 4 := Nat.le_trans (nF_le _ _) hri
                  by_cases hin : f ∈ x'.ring
                  · have hc1 : x'.ring.count f = 1 := HWF'.out.nd.count.trans (if_pos hin)
                    have HC1 := Lib.hid hc1
                    rw [hc1, show (((1 : Nat) : Int)) = 1 from rfl]
                    have hne := ((HWF'.out.mem f).1 hin).2
                    obtain ⟨p, ps, hp⟩ : ∃ p ps, x'.L f = p :: ps := by
                      cases hl : x'.L f with
                      | nil => exact absurd hl hne
                      | cons p ps => exact ⟨p, ps, rfl⟩
                    have hlen : (x'.L f).length = ps.length + 1 := by rw [hp]; rfl
                    rw [hlen] at c5
                    have HRp := HR.out
                    rw [hp, List.length_cons] at HRp
                    obtain ⟨lg, lo, rfl, _, hlt, hcl⟩ := HRp.at_ (i := 0) (p := p) rfl
                    have l2 : w9.cell? ⟨lg, lo + 3, none⟩ = some (.int .i64 p.f3) := by have := hcl 3 (by omega); simpa [encP6] using this
                    have hszp : szOf (x'.L f) = p.f3 := by rw [hp]; rfl
                    have hdl : decide (x'.df f < 0) = false := decide_eq_false (by omega)
                    have HSZ := Lib.hid hszp
                    clear hp hlen HRp hcl hszp hne hc1
                    rcases HX.out f hin with ⟨hho, htv, hxs, hxg⟩ | ⟨hho, hxs⟩
                    · have hdh := HWF'.out.dh f hho
                      have hge : decide (x'.Q f + x'.most + 1 ≤ x'.df f) = false := decide_eq_false (by omega)
                      rw [hxs] at e0
                      rw [hxg] at e1
                      have hho' := Lib.hid hho
                      clear hho hxs hxg
                      cases htv
                      all_goals
                        go_wp2_with fail
                        go_quiet (fail)
                        go_wp2
                        go_roundg (4 - f)
                        case measure => omega
                        case rel => exact ⟨f + 1, by omega, by omega, by go_num, by rw [hnf.out, HC1.out]; go_num, Lib.hid ((K10.out.same (by repeat (first | exact Fr.refl _ _ | refine Fr.drewN ?_ _ | refine Fr.drew ?_))).sub (List.sublist_cons_self _ _))⟩
                    · have hds := HWF'.out.ds f hin hho
                      rw [HSZ.out] at hds
                      have hpm := (HWF'.out.hd hin).2
                      rw [HSZ.out] at hpm
                      have hge : decide (x'.Q f + x'.most + 1 ≤ x'.df f) = false := decide_eq_false (by omega)
                      have hge2 : decide (p.f3 ≤ x'.df f) = false := decide_eq_false (by omega)
                      have hxs' := Lib.hid hxs
                      have hho' := Lib.hid hho
                      clear hxs hho
                      skip
                      all_goals
                        go_wp2_with fail
                        go_quiet (fail)
                        go_wp2
                        go_roundg (4 - f)
                        case measure => omega
                        case rel => exact ⟨f + 1, by omega, by omega, by go_num, by rw [hnf.out, HC1.out]; go_num, Lib.hid ((K10.out.same (by repeat (first | exact Fr.refl _ _ | refine Fr.drewN ?_ _ | refine Fr.drew ?_))).sub (List.sublist_cons_self _ _))⟩
                  · have hc1 : x'.ring.count f = 0 := HWF'.out.nd.count.trans (if_neg hin)
                    have HC1 := Lib.hid hc1
                    rw [hc1, show (((0 : Nat) : Int)) = 0 from rfl]
                    have hl0 : x'.L f = [] := by
                      by_cases e : x'.L f = []
                      · exact e
                      · exact absurd ((HWF'.out.mem f).2 ⟨hf4, e⟩) hin
                    have hd00 : x'.df f = 0 := HWF'.out.dn f hf4 hl0
                    have hlen : (x'.L f).length = 0 := by rw [hl0]; rfl
                    rw [hlen] at c5
                    have hge : decide (x'.Q f + x'.most + 1 ≤ 0) = false := decide_eq_false (by omega)
                    have hin' := Lib.hid hin
                    clear hc1 hl0 hlen hin
                    all_goals
                      go_wp2_with fail
                      go_quiet (fail)
                      go_wp2
                      go_roundg (4 - f)
                      case measure => omega
                      case rel => exact ⟨f + 1, by omega, by omega, by go_num, by rw [hnf.out, HC1.out]; go_num, Lib.hid ((K10.out.same (by repeat (first | exact Fr.refl _ _ | refine Fr.drewN ?_ _ | refine Fr.drew ?_))).sub (List.sublist_cons_self _ _))⟩
            · obtain rfl : f = 4 := by omega
              rw [show nF x'.ring 4 = x'.ring.length from nF_all (fun s hs => HWF'.out.lt hs)]
              go_wp2
              go_roundg (len - j)
              case measure => omega
              case rel => exact ⟨j + 1, by omega, by omega, by omega, by go_num, x', HB', HWF', Lib.hid (K7.out.sub (List.sublist_append_right _ _))⟩
      · obtain rfl : j = 150 := by omega
        have hjl : (150 : Int) < len := by omega
        go_wp2
        go_ret
        exact ⟨rfl, K.out.fr⟩
    · obtain rfl : j = len := by omega
      go_wp2
      go_ret
      exact ⟨rfl, K.out.fr⟩
end Go.Proofs.Yteojodcdehkejaa
