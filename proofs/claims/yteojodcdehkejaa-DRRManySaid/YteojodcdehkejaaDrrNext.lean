/- A discipline by turns: Next. -/
import Derived.Test.YteojodcdehkejaaDrrOut
import Derived.Test.YteojodcdehkejaaDrrAdmit
namespace Go.Proofs.Yteojodcdehkejaa
open Go Go.RowKit
attribute [local go_sem] calmQ_normal wide_fn wide_depth Oper.semAt_some run_store_func

/-- all of a flow but its deficit -/
def Fl.core (f : Fl) : Fl := { f with df := 0 }
theorem Turns.core {a : List Fl} {ra : List Nat} {ta : Bool} {b : List Fl} {rb : List Nat} {tb : Bool} (h : Turns a ra ta b rb tb) : b.map Fl.core = a.map Fl.core := by
  induction h with
  | refl => rfl
  | step hf _ _ ih => rw [ih]; exact map_set_same Fl.core hf rfl
theorem Turns.len {a : List Fl} {ra : List Nat} {ta : Bool} {b : List Fl} {rb : List Nat} {tb : Bool} (h : Turns a ra ta b rb tb) : rb.length = ra.length := by
  induction h with
  | refl => rfl
  | step hf _ _ ih => rw [ih]; simp
theorem core_map {α : Type} {a b : List Fl} (h : b.map Fl.core = a.map Fl.core) (g : Fl → α) (hg : ∀ f, g f.core = g f) : b.map g = a.map g := by
  have : ∀ l : List Fl, l.map g = (l.map Fl.core).map g := fun l => by rw [List.map_map]; exact List.map_congr_left fun f _ => (hg f).symm
  rw [this b, this a, h]
theorem core_b {a b : List Fl} (h : b.map Fl.core = a.map Fl.core) (i : Nat) : (b[i]?).map (·.b) = (a[i]?).map (·.b) := by
  have := core_map h (·.b) (fun _ => rfl)
  rw [← List.getElem?_map, ← List.getElem?_map, this]
theorem blocksOf_core {a b : List Fl} (h : b.map Fl.core = a.map Fl.core) (ri : List Nat) : blocksOf b ri = blocksOf a ri := by
  unfold blocksOf
  exact List.map_congr_left fun i _ => by rw [core_b h]
/-- the state behind choose -/
def Dr.chosen (d : Dr) (fl : List Fl) (ri : List Nat) (rds : List Nat) : Dr := { d with fl := fl, ring := blocksOf fl ri, turn := true, rds := rds }
theorem perm_split {α : Type} (a b c : α) (X : List α) (P : List α) : (P ++ ([a, b, c] ++ X)).Perm (([a, c] ++ X) ++ ([b] ++ P)) := by
  classical
  rw [List.perm_iff_count]
  intro x
  simp only [List.count_append, List.count_cons, List.count_nil]
  omega
theorem Dr.choose1 {w0 w w' : World} {S0 : List Nat} {pre : List Chunk} {d : Dr} {ri ri' : List Nat} {fl : List Fl} {rds : List Nat} (K : Sep w0 S0 w (pre ++ d.chunks)) (hri : d.ring = blocksOf d.fl ri) (hc : fl.map Fl.core = d.fl.map Fl.core)
    (k : Sep w (Chunks.bs (d.cch ri)) w' (({ d with fl := fl, turn := true, rds := rds } : Dr).cch ri')) : Sep w0 S0 w' (pre ++ (d.chosen fl ri' rds).chunks) := by
  have e1 : d.chunks = [CHd d, CFs d, CRingq d.rb d.rds (blocksOf d.fl ri)] ++ (d.fl.map CStr ++ d.fl.map CQ) := by unfold Dr.chunks; rw [hri]
  have e2 : d.cch ri = [CHd d, CRingq d.rb d.rds (blocksOf d.fl ri)] ++ (d.fl.map CStr ++ d.fl.map CQ) := rfl
  rw [e1] at K
  have K2 := K.perm (perm_split _ _ _ _ _)
  rw [← e2] at K2
  have K3 := Sep.frame K2 k
  have e3 : (({ d with fl := fl, turn := true, rds := rds } : Dr).cch ri') = [CHd (d.chosen fl ri' rds), CRingq d.rb rds (blocksOf fl ri')] ++ (fl.map CStr ++ fl.map CQ) := rfl
  rw [e3] at K3
  have K4 := K3.perm (perm_split (CHd (d.chosen fl ri' rds)) (CFs d) (CRingq d.rb rds (blocksOf fl ri')) (fl.map CStr ++ fl.map CQ) pre).symm
  have e4 : CFs (d.chosen fl ri' rds) = CFs d := by
    have h1 : fl.map (fun f => ptrV (some f.b)) = d.fl.map (fun f => ptrV (some f.b)) := core_map hc _ (fun _ => rfl)
    have h2 : fl.length = d.fl.length := by have := congrArg List.length hc; simpa using this
    simp only [CFs, Dr.chosen, h1, h2]
  have e5 : (d.chosen fl ri' rds).chunks = [CHd (d.chosen fl ri' rds), CFs d, CRingq d.rb rds (blocksOf fl ri')] ++ (fl.map CStr ++ fl.map CQ) := by
    unfold Dr.chunks; rw [e4]; rfl
  rw [e5]
  exact K4
theorem Dr.cch_holds {w : World} {d : Dr} {ri : List Nat} (h : Holds w d.chunks) (hri : d.ring = blocksOf d.fl ri) : Holds w (d.cch ri) := by
  have e1 : d.chunks = [] ++ ([CHd d, CFs d, CRingq d.rb d.rds (blocksOf d.fl ri)] ++ (d.fl.map CStr ++ d.fl.map CQ)) := by unfold Dr.chunks; rw [hri]; rfl
  rw [e1] at h
  exact (h.perm (perm_split _ _ _ _ _)).left

/-- a flow that has sent its first packet -/
def Fl.sent (f : Fl) (p : P6) (qs : List P6) : Fl := { f with q := qs, df := f.df - p.f3, by_ := f.by_ - p.f3 }
/-- the state behind Next -/
def Dr.sent (d : Dr) (i : Nat) (f : Fl) (p : P6) (qs : List P6) : Dr := { d.setF i (f.sent p qs) with n := d.n - 1 }
set_option maxRecDepth 100000 in
set_option maxHeartbeats 4000000 in
theorem dnext {w : World} {d : Dr} (h : Holds w d.chunks) {ri0 : List Nat} (hri : d.ring = blocksOf d.fl ri0) (hf : FineAt d.fl ri0) (hn : ri0.Nodup) (hl : ri0.length ≤ 1048576) (hne : ri0 ≠ []) (t : Int) (hn1 : 1 ≤ d.n) (hn2 : d.n ≤ 1125899906842624)
    (hby : ∀ f, f ∈ d.fl → f.by_ ≤ 1125899906842624 ∧ ∀ p qs, f.q = p :: qs → 0 ≤ p.f3 ∧ p.f3 ≤ f.by_) :
    Calls Try.prog 14 #[.pointer (some ⟨d.b, 0, none⟩), .int .i64 t] w fun e w' =>
      ∃ fl tt i rest f g p qs rds rds2, Turns d.fl ri0 d.turn fl (i :: rest) tt ∧ (i :: rest).Nodup ∧ FineAt fl (i :: rest) ∧ fl[i]? = some f ∧ (g = if tt then 0 else f.qt) ∧ f.q = p :: qs ∧ p.f3 ≤ f.df + g ∧ e = .returned (.tuple #[aggp6 p, .bool true]) ∧
        Sep w (Chunks.bs d.chunks) w' (if qs = [] then ((d.chosen (fl.set i (f.add g)) (i :: rest) rds).sent i (f.add g) p qs).outed i ((f.add g).sent p qs) 0 rds2 else (d.chosen (fl.set i (f.add g)) (i :: rest) rds).sent i (f.add g) p qs).chunks := by
  have hch := Lib.hid (fun X (fX : Fr [] w X) => dchoose (Dr.cch_holds (h.fr' fX (by simp)) hri) hf hn hl)
  have K0 := Lib.hid (Dr.inbox (Sep.start h) 34 (encP6 zerop6))
  have HRI := Lib.hid hri
  have HBY := Lib.hid hby
  clear h hf hri hby
  go_enter Try.func14, Try.ntmps14
  go_wp2_with fail
  obtain ⟨rb, hrb⟩ : ∃ rb, w.heap.size = rb := ⟨_, rfl⟩
  refine (hch.out _ ((Fr.refl [] w).alloc _)).mono ?_
  rintro er w1 (⟨h0, _⟩ | ⟨fl, tt, i, rest, f, rds, htr, hnd, hfine, hfi, hsz, rfl, ks⟩)
  · exact absurd h0 hne
  obtain ⟨g, hg⟩ : ∃ g : Int, (if tt then 0 else f.qt) = g := ⟨_, rfl⟩
  rw [hg] at ks hsz
  have hcore : (fl.set i (f.add g)).map Fl.core = d.fl.map Fl.core := (map_set_same (y := f.add g) Fl.core hfi rfl).trans htr.core
  have K1 := Lib.hid (Dr.choose1 K0.out HRI.out hcore ks)
  obtain ⟨p, qs, hq⟩ : ∃ p qs, f.q = p :: qs := by
    obtain ⟨f', hf', hff⟩ := hfine i (by simp)
    rw [hfi] at hf'
    cases hf'
    have := hff.q
    cases hq : f.q with
    | nil => exact absurd hq this
    | cons a b => exact ⟨a, b, rfl⟩
  have hsz2 : p.f3 ≤ f.df + g := by have : f.sz = p.f3 := by simp [Fl.sz, hq]
                                    omega
  rw [hrb] at K1
  obtain ⟨d1, hd1⟩ : ∃ d1, Hid (d.chosen (fl.set i (f.add g)) (i :: rest) rds = d1) := ⟨_, Lib.hid rfl⟩
  rw [hd1.out] at K1
  have hat : Hid (d1.fl[i]? = some (f.add g)) := by rw [← hd1.out]; exact List.getElem?_set_self (some_lt hfi)
  obtain ⟨f1, hf1⟩ : ∃ f1, Hid (f.add g = f1) := ⟨_, Lib.hid rfl⟩
  rw [hf1.out] at hat
  have hf1b : f1.b = f.b := by rw [← hf1.out]; rfl
  have hq1 : f1.q = p :: qs := by rw [← hf1.out]; exact hq
  have hdf1 : Hid (f1.df = f.df + g) := by rw [← hf1.out]; exact rfl
  have hd1b : d1.b = d.b := by rw [← hd1.out]; rfl
  have hd1n : d1.n = d.n := by rw [← hd1.out]; rfl
  obtain ⟨f0, hf0, hfn⟩ := hfine i (by simp)
  rw [hfi] at hf0
  cases hf0
  obtain ⟨hby1, hp0, hby2⟩ : f.by_ ≤ 1125899906842624 ∧ 0 ≤ p.f3 ∧ p.f3 ≤ f.by_ := by
    have hm : f.core ∈ d.fl.map Fl.core := by rw [← htr.core]; exact List.mem_map.2 ⟨f, List.mem_of_getElem? hfi, rfl⟩
    obtain ⟨f', hm', e⟩ := List.mem_map.1 hm
    have e1 : f'.by_ = f.by_ := by have h := congrArg Fl.by_ e; exact h
    have e2 : f'.q = f.q := by have h := congrArg Fl.q e; exact h
    obtain ⟨h1, h2⟩ := HBY.out f' hm'
    have h3 := h2 p qs (by rw [e2]; exact hq)
    rw [e1] at h1 h3
    exact ⟨h1, h3.1, h3.2⟩
  have hq3 : p.f3 ≤ 65536 := by have : f.sz = p.f3 := by simp [Fl.sz, hq]
                                have := hfn.s2; omega
  have hdfb : f.df + g ≤ 1125899906842624 := by
    have := hfn.d3; have := hfn.q2; have := hfn.q1
    rw [← hg]; split <;> omega
  have hw1 := Lib.hid (sub_w2 hp0 hsz2 hdfb)
  have hw2 := Lib.hid (sub_w2 hp0 hby2 hby1)
  have hw3 := Lib.hid (sub_w2 (show (0 : Int) ≤ 1 by omega) hn1 hn2)
  have HTR := Lib.hid htr
  have HND := Lib.hid hnd
  have HFI := Lib.hid hfi
  have HFN := Lib.hid hfine
  have HG := Lib.hid hg
  have HQ := Lib.hid hq
  have HSZ := Lib.hid hsz2
  have hby_ : f1.by_ = f.by_ := by rw [← hf1.out]; rfl
  have hque := Dr.ques K1.out hat.out
  rw [hq1] at hque
  have s5 : w1.cell? ⟨f.b, 5, none⟩ = some (.pointer (some ⟨f1.r, 0, none⟩)) := by
    have := (Dr.strs K1.out hat.out).cell 5
    rw [hf1b] at this; exact this
  have lf : f.b < w1.heap.size := by have := (Dr.strs K1.out hat.out).lt; rw [hf1b] at this; exact this
  clear ks htr hnd hfine hfi hg hq hch HBY hcore hfn hsz
  go_wp2_with fail
  refine (popF_p6 hque).mono ?_
  rintro er w2 ⟨rfl, hr2, f2⟩
  have K2 := Lib.hid (Dr.que1 K1.out hat.out hr2 f2 (Gr.refl _ _))
  have K3 := Lib.hid (Dr.inbox2 K2.out 34 (encP6 p))
  have HA3 := Lib.hid (Dr.setF_at hat.out { f1 with q := qs, ds := f1.ds })
  have t4 : w2.cell? ⟨f.b, 4, none⟩ = some (.int .i64 (f.df + g)) := by
    have := (Dr.strs K2.out HA3.out).cell 4
    rw [← hf1b, ← hdf1.out]; exact this
  have t6 : w2.cell? ⟨f.b, 6, none⟩ = some (.int .i64 f.by_) := by
    have := (Dr.strs K2.out HA3.out).cell 6
    rw [← hf1b, ← hby_]; exact this
  have q4 : w2.frozen? ⟨f.b, 4, none⟩ = false := by rw [← hf1b]; exact (Dr.strs K2.out HA3.out).frz 4
  have q6 : w2.frozen? ⟨f.b, 6, none⟩ = false := by rw [← hf1b]; exact (Dr.strs K2.out HA3.out).frz 6
  have lf2 : f.b < w2.heap.size := by rw [← hf1b]; exact (Dr.strs K2.out HA3.out).lt
  have u5 : w2.cell? ⟨d.b, 5, none⟩ = some (.int .i64 d.n) := by
    have := (Dr.hds K2.out).cell 5
    rw [← hd1b, ← hd1n]; exact this
  have r5 : w2.frozen? ⟨d.b, 5, none⟩ = false := by rw [← hd1b]; exact (Dr.hds K2.out).frz 5
  have ld2 : d.b < w2.heap.size := by rw [← hd1b]; exact (Dr.hds K2.out).lt
  have nfd : f.b ≠ d.b := fun e => (Dr.here K2.out).apart (i := 0) (j := 3 + i) (by omega) rfl (Dr.str_at HA3.out) d1.b (List.mem_singleton.2 rfl) (List.mem_singleton.2 (by rw [hd1b, ← e, ← hf1b]))
  have ndf := Ne.symm nfd
  clear hque s5 lf hr2 f2
  go_wp2
  refine wp_region_quiet_tail 9 (by kernel_rfl) (by kernel_rfl) ?_
  simp only [List.take_succ_cons, List.take_zero, List.drop_succ_cons, List.drop_zero]
  repeat (first | go_big_quiet_step (fail) | quiet_step (fail))
  refine wpQuiet_nil ?_
  rintro _ ⟨nq, rfl⟩
  go_wp2
  try rw [hw1.out]
  obtain ⟨fA, hfA⟩ : ∃ fA : Fl, Hid (({ f1 with q := qs, ds := f1.ds } : Fl) = fA) := ⟨_, Lib.hid rfl⟩
  have hAb : fA.b = f.b := by rw [← hfA.out]; exact hf1b
  rw [hfA.out] at K3 HA3
  obtain ⟨W3, hW3⟩ : ∃ W3, ((w2.alloc (.cells #[.int .i64 p.f0, .int .i64 p.f1, .int .i64 p.f2, .int .i64 p.f3, .int .i64 p.f4, .int .i64 p.f5] 34)).drewN nq).setCell ⟨f.b, 4, none⟩ (.int .i64 (f.df + g - p.f3)) = W3 := ⟨_, rfl⟩
  obtain ⟨pb, hpb⟩ : ∃ pb, w2.heap.size = pb := ⟨_, rfl⟩
  have K4 : Hid (Sep w (Chunks.bs d.chunks) W3 ((Chunk.blk pb 34 (encP6 p) :: [Chunk.blk rb 34 (encP6 zerop6)]) ++ ((d1.setF i fA).setF i { fA with df := f.df + g - p.f3 }).chunks)) := by
    have k := Dr.set1 (K3.out.drewN nq) HA3.out { fA with df := f.df + g - p.f3 } 4 (.int .i64 (f.df + g - p.f3)) rfl rfl rfl
    rw [hpb] at k
    rw [← hW3, ← hAb]
    exact k
  rw [hW3, hpb]
  clear hW3 hpb K3 K2 K1 t4 t6 q4 q6 lf2 u5 r5 ld2
  rw [Dr.setF_setF] at K4
  have HB := Lib.hid (Dr.setF_at hat.out { fA with df := f.df + g - p.f3 })
  have t6 : W3.cell? ⟨f.b, 6, none⟩ = some (.int .i64 f.by_) := by
    have := (Dr.strs K4.out HB.out).cell 6
    rw [← hAb, ← hby_]; rw [← hfA.out] at this ⊢; exact this
  have t5 : W3.cell? ⟨f.b, 5, none⟩ = some (.pointer (some ⟨f1.r, 0, none⟩)) := by
    have := (Dr.strs K4.out HB.out).cell 5
    rw [← hAb]; rw [← hfA.out] at this ⊢; exact this
  have q6 : W3.frozen? ⟨f.b, 6, none⟩ = false := by rw [← hAb]; exact (Dr.strs K4.out HB.out).frz 6
  have lf3 : f.b < W3.heap.size := by rw [← hAb]; exact (Dr.strs K4.out HB.out).lt
  have y3 : W3.cell? ⟨pb, 3, none⟩ = some (.int .i64 p.f3) := (K4.out.blk 0 rfl).cell 3
  have u5 : W3.cell? ⟨d.b, 5, none⟩ = some (.int .i64 d.n) := by
    have := (Dr.hds K4.out).cell 5
    rw [← hd1b, ← hd1n]; exact this
  have r5 : W3.frozen? ⟨d.b, 5, none⟩ = false := by rw [← hd1b]; exact (Dr.hds K4.out).frz 5
  have ld3 : d.b < W3.heap.size := by rw [← hd1b]; exact (Dr.hds K4.out).lt
  refine wp_region_quiet_tail 9 (by kernel_rfl) (by kernel_rfl) ?_
  simp only [List.take_succ_cons, List.take_zero, List.drop_succ_cons, List.drop_zero]
  repeat (first | go_big_quiet_step (fail) | quiet_step (fail))
  refine wpQuiet_nil ?_
  rintro _ ⟨nq, rfl⟩
  go_wp2_with fail
  obtain ⟨d5, hd5⟩ : ∃ d5 : Dr, Hid (d1.sent i f1 p qs = d5) := ⟨_, Lib.hid rfl⟩
  obtain ⟨W4, hW4⟩ : ∃ W4, ((W3.drewN nq).setCell ⟨f.b, 6, none⟩ (.int .i64 (f.by_ - p.f3))).setCell ⟨d.b, 5, none⟩ (.int .i64 (d.n - 1)) = W4 := ⟨_, rfl⟩
  have K6 : Hid (Sep w (Chunks.bs d.chunks) W4 ((Chunk.blk pb 34 (encP6 p) :: [Chunk.blk rb 34 (encP6 zerop6)]) ++ d5.chunks)) := by
    have k := Dr.set1 (K4.out.drewN nq) HB.out { fA with df := f.df + g - p.f3, by_ := f.by_ - p.f3 } 6 (.int .i64 (f.by_ - p.f3)) rfl rfl rfl
    rw [Dr.setF_setF] at k
    have k2 := Dr.hd1 k { d1.setF i { fA with df := f.df + g - p.f3, by_ := f.by_ - p.f3 } with n := d.n - 1 } 5 (.int .i64 (d.n - 1)) rfl
    have e : ({ d1.setF i { fA with df := f.df + g - p.f3, by_ := f.by_ - p.f3 } with n := d.n - 1 } : Dr) = d5 := by
      rw [← hd5.out, ← hfA.out, ← hd1n, ← hby_, ← hdf1.out]; rfl
    rw [e] at k2
    rw [← hW4, ← hAb, ← hd1b]
    exact k2
  rw [hW4]
  clear hW4 K4 HB t6 t5 q6 lf3 y3 u5 r5 ld3
  have hS5 : Hid (d5.fl[i]? = some (f1.sent p qs)) := by rw [← hd5.out]; exact Lib.hid (Dr.setF_at hat.out _)
  have hque5 := Dr.ques K6.out hS5.out
  refine (len_p6 (show Rgp6 W4 f1.r f1.ds qs from hque5)).mono ?_
  rintro er w4 ⟨rfl, hw4⟩
  rw [hw4]
  clear hw4 hque5
  have hring5 : d5.ring = blocksOf (fl.set i (f.add g)) (i :: rest) := by rw [← hd5.out, ← hd1.out]; rfl
  have hi5 : d5.ring[0]? = some (f1.sent p qs).b := by
    rw [hring5]
    simp only [blocksOf, List.map_cons, List.getElem?_cons_zero, List.getElem?_set_self (some_lt HFI.out), Option.map_some, Option.getD_some]
    rw [← hf1.out]; rfl
  have hrl5 : d5.ring.length ≤ 1048576 := by
    rw [hring5]; simp only [blocksOf, List.length_map]; rw [HTR.out.len]; exact hl
  have hrw5 : ∀ b, b ∈ d5.ring → ∃ (j : Nat) (g : Fl), d5.fl[j]? = some g ∧ g.b = b := by
    intro b hb
    rw [hring5] at hb
    obtain ⟨j, hj, rfl⟩ := List.mem_map.1 hb
    obtain ⟨fj, hfj, _⟩ := HFN.out j hj
    by_cases e : i = j
    · subst e
      refine ⟨_, _, hS5.out, ?_⟩
      simp only [List.getElem?_set_self (some_lt HFI.out), Option.map_some, Option.getD_some]
      rw [← hf1.out]; rfl
    · refine ⟨j, fj, ?_, ?_⟩
      · rw [← hd5.out, ← hd1.out]
        show ((fl.set i (f.add g)).set i _)[j]? = _
        rw [List.getElem?_set_ne e, List.getElem?_set_ne e]; exact hfj
      · simp only [List.getElem?_set_ne e, hfj, Option.map_some, Option.getD_some]
  have hout := Lib.hid (dout K6.out.hs.right hS5.out (i := 0) hi5 (fun j hj => absurd hj (by omega)) hrl5 hrw5)
  have e51 : d5.b = d.b := by rw [← hd5.out]; exact hd1b
  have e52 : (f1.sent p qs).b = f.b := hf1b
  rw [e51, e52] at hout
  clear hring5 hi5 hrl5 hrw5 e51 e52
  by_cases hqs : qs = []
  · have hz : ((qs.length : Int) == 0) = true := by rw [hqs]; rfl
    have hqs' := Lib.hid hqs
    clear hqs
    go_wp2_with fail
    refine hout.out.mono ?_
    rintro er w5 ⟨rfl, rds2, k5⟩
    have K7 := Lib.hid ((Sep.frame (K6.out.perm List.perm_append_comm) k5).perm List.perm_append_comm)
    clear k5 hout
    have BP : Blk w5 pb 34 (encP6 p) := K7.out.blk 0 rfl
    have y0 : w5.cell? ⟨pb, 0, none⟩ = some (.int .i64 p.f0) := BP.cell 0
    have y1 : w5.cell? ⟨pb, 1, none⟩ = some (.int .i64 p.f1) := BP.cell 1
    have y2 : w5.cell? ⟨pb, 2, none⟩ = some (.int .i64 p.f2) := BP.cell 2
    have y3 : w5.cell? ⟨pb, 3, none⟩ = some (.int .i64 p.f3) := BP.cell 3
    have y4 : w5.cell? ⟨pb, 4, none⟩ = some (.int .i64 p.f4) := BP.cell 4
    have y5 : w5.cell? ⟨pb, 5, none⟩ = some (.int .i64 p.f5) := BP.cell 5
    have BR : Blk w5 rb 34 (encP6 zerop6) := K7.out.blk 1 rfl
    have e6 : (encP6 zerop6).length = 6 := rfl
    go_wp2_with (first | (refine wpList_load_row rfl _ (.tmp 7) rfl pb rfl 34 (encP6 p).toArray (0, 0) _ BP (Try.underlying34) rfl (by kernel_rfl) ?_) | (refine wpList_store_S rfl _ (.tmp 4) (.tmp 56) rfl rb 0 34 (encP6 zerop6) (encP6 p) rfl rfl BR (by kernel_rfl) (by simp [encP6]) (fun u hu => one_p6 [p] u (by simpa using hu)) ?_; intro w6 b6 f6 z6; have K8 := Lib.hid (K7.out.call1' 1 rfl (Sep.of_one (c := Chunk.blk rb 34 _) f6 b6 (Gr.refl _ _))); clear b6 f6 z6))
    have R := K8.out.blk 1 rfl
    have x0 : w6.cell? ⟨rb, 0, none⟩ = some (.int .i64 p.f0) := R.cell 0
    have x1 : w6.cell? ⟨rb, 1, none⟩ = some (.int .i64 p.f1) := R.cell 1
    have x2 : w6.cell? ⟨rb, 2, none⟩ = some (.int .i64 p.f2) := R.cell 2
    have x3 : w6.cell? ⟨rb, 3, none⟩ = some (.int .i64 p.f3) := R.cell 3
    have x4 : w6.cell? ⟨rb, 4, none⟩ = some (.int .i64 p.f4) := R.cell 4
    have x5 : w6.cell? ⟨rb, 5, none⟩ = some (.int .i64 p.f5) := R.cell 5
    refine bodyPost_ret (v := .tuple #[aggp6 p, .bool true]) (by simp [results, Try.results14, go_sem, x0, x1, x2, x3, x4, x5]) rfl ⟨fl, tt, i, rest, f, g, p, qs, rds, rds2, HTR.out, HND.out, HFN.out, HFI.out, HG.out.symm, HQ.out, HSZ.out, rfl, ?_⟩
    rw [if_pos hqs'.out]; rw [hd1.out, hf1.out, hd5.out]; exact Dr.outbox (pre := [Chunk.blk pb 34 (encP6 p), Chunk.blk rb 34 (List.take 0 (encP6 zerop6) ++ encP6 p ++ List.drop (0 + (encP6 p).length) (encP6 zerop6))]) K8.out
  · have hz : ((qs.length : Int) == 0) = false := by rw [beq_eq_false_iff_ne]; have := mt List.eq_nil_of_length_eq_zero hqs; omega
    have hqs' := Lib.hid hqs
    clear hqs hout
    have BP : Blk W4 pb 34 (encP6 p) := K6.out.blk 0 rfl
    have y0 : W4.cell? ⟨pb, 0, none⟩ = some (.int .i64 p.f0) := BP.cell 0
    have y1 : W4.cell? ⟨pb, 1, none⟩ = some (.int .i64 p.f1) := BP.cell 1
    have y2 : W4.cell? ⟨pb, 2, none⟩ = some (.int .i64 p.f2) := BP.cell 2
    have y3 : W4.cell? ⟨pb, 3, none⟩ = some (.int .i64 p.f3) := BP.cell 3
    have y4 : W4.cell? ⟨pb, 4, none⟩ = some (.int .i64 p.f4) := BP.cell 4
    have y5 : W4.cell? ⟨pb, 5, none⟩ = some (.int .i64 p.f5) := BP.cell 5
    have BR : Blk W4 rb 34 (encP6 zerop6) := K6.out.blk 1 rfl
    have e6 : (encP6 zerop6).length = 6 := rfl
    go_wp2_with (first | (refine wpList_load_row rfl _ (.tmp 7) rfl pb rfl 34 (encP6 p).toArray (0, 0) _ BP (Try.underlying34) rfl (by kernel_rfl) ?_) | (refine wpList_store_S rfl _ (.tmp 4) (.tmp 56) rfl rb 0 34 (encP6 zerop6) (encP6 p) rfl rfl BR (by kernel_rfl) (by simp [encP6]) (fun u hu => one_p6 [p] u (by simpa using hu)) ?_; intro w6 b6 f6 z6; have K8 := Lib.hid (K6.out.call1' 1 rfl (Sep.of_one (c := Chunk.blk rb 34 _) f6 b6 (Gr.refl _ _))); clear b6 f6 z6))
    have R := K8.out.blk 1 rfl
    have x0 : w6.cell? ⟨rb, 0, none⟩ = some (.int .i64 p.f0) := R.cell 0
    have x1 : w6.cell? ⟨rb, 1, none⟩ = some (.int .i64 p.f1) := R.cell 1
    have x2 : w6.cell? ⟨rb, 2, none⟩ = some (.int .i64 p.f2) := R.cell 2
    have x3 : w6.cell? ⟨rb, 3, none⟩ = some (.int .i64 p.f3) := R.cell 3
    have x4 : w6.cell? ⟨rb, 4, none⟩ = some (.int .i64 p.f4) := R.cell 4
    have x5 : w6.cell? ⟨rb, 5, none⟩ = some (.int .i64 p.f5) := R.cell 5
    refine bodyPost_ret (v := .tuple #[aggp6 p, .bool true]) (by simp [results, Try.results14, go_sem, x0, x1, x2, x3, x4, x5]) rfl ⟨fl, tt, i, rest, f, g, p, qs, rds, [], HTR.out, HND.out, HFN.out, HFI.out, HG.out.symm, HQ.out, HSZ.out, rfl, ?_⟩
    rw [if_neg hqs'.out]; rw [hd1.out, hf1.out, hd5.out]; exact Dr.outbox (pre := [Chunk.blk pb 34 (encP6 p), Chunk.blk rb 34 (List.take 0 (encP6 zerop6) ++ encP6 p ++ List.drop (0 + (encP6 p).length) (encP6 zerop6))]) K8.out
end Go.Proofs.Yteojodcdehkejaa
