/- The discipline's own examples: told. -/
import Derived.Test.YteojodcdehkejaaDrrTwo
import Derived.Test.YteojodcdehkejaaDrrJoin
namespace Go.Proofs.Yteojodcdehkejaa
open Go Go.RowKit
attribute [local go_sem] calmQ_normal wide_fn wide_depth Oper.semAt_some run_store_func

theorem Dr.call {w0 w w' : World} {S0 : List Nat} {pre : List Chunk} {d d' : Dr} (K : Sep w0 S0 w (pre ++ d.chunks)) (k : Sep w (Chunks.bs d.chunks) w' d'.chunks) : Sep w0 S0 w' (pre ++ d'.chunks) :=
  (Sep.frame (K.perm List.perm_append_comm) k).perm List.perm_append_comm
/-- nothing waits -/
structure Calm (d : Dr) : Prop where
  ring : d.ring = []
  turn : d.turn = false
  n : d.n = 0
  seq : d.seq = 0
  came : d.came = 0
structure Fresh (f : Fl) (s qq : Int) : Prop where
  slot : f.slot = s
  gen : f.gen = 1
  q : f.q = []
  qt : f.qt = clampQ qq
  df : f.df = 0
  by_ : f.by_ = 0
theorem clampQ_in (q : Int) : 1 ≤ clampQ q ∧ clampQ q ≤ 1073741824 := by unfold clampQ; split <;> (try split) <;> omega
theorem Fl.new_fresh (b r : Nat) (s wt q : Int) : Fresh (Fl.new b r s 1 wt q) s q := ⟨rfl, rfl, rfl, rfl, rfl, rfl⟩
theorem c_new (w : World) : Calls Try.prog 10 #[] w fun e w' => ∃ (d : Dr) (bb : Nat), e = .returned (.pointer (some ⟨bb, 0, none⟩)) ∧ d.b = bb ∧ Sep w [] w' d.chunks ∧ Calm d ∧ d.fl = [] :=
  (dnew w).mono fun e w' ⟨b, rb, he, k⟩ => ⟨Dr.new b rb, b, he, rfl, k, ⟨rfl, rfl, rfl, rfl, rfl⟩, rfl⟩
theorem c_join0 {w : World} {d : Dr} {bb : Nat} (hbb : d.b = bb) (h : Holds w d.chunks) (C : Calm d) (hf : d.fl = []) (q : Int) (wt : Int) (a2 a3 a4 a5 a6 a7 : Value) (t : Int) :
    Calls Try.prog 12 #[.pointer (some ⟨bb, 0, none⟩), .agg #[.int .i64 0, .int .i64 1], .agg #[.int .i64 wt, .int .i64 q, a2, a3, a4, a5, a6, a7], .int .i64 t] w fun e w' => e = .returned (.int .i64 0) ∧
      ∃ (d' : Dr) (f0 : Fl), Sep w (Chunks.bs d.chunks) w' d'.chunks ∧ d'.b = bb ∧ Calm d' ∧ d'.fl = [f0] ∧ Fresh f0 0 q := by
  subst hbb
  exact (djoin h 0 1 wt q a2 a3 a4 a5 a6 a7 t (fun j f hj => by rw [hf] at hj; simp at hj) (by rw [hf]; simp)).mono fun e w' ⟨he, fv, fS, b, r, k⟩ =>
    ⟨he, _, _, k, rfl, ⟨C.ring, C.turn, C.n, C.seq, C.came⟩, by rw [hf]; rfl, Fl.new_fresh b r 0 wt q⟩
theorem c_join1 {w : World} {d : Dr} {bb : Nat} (hbb : d.b = bb) (h : Holds w d.chunks) (C : Calm d) {f0 : Fl} {q0 : Int} (hf : d.fl = [f0]) (F : Fresh f0 0 q0) (q : Int) (wt : Int) (a2 a3 a4 a5 a6 a7 : Value) (t : Int) :
    Calls Try.prog 12 #[.pointer (some ⟨bb, 0, none⟩), .agg #[.int .i64 1, .int .i64 1], .agg #[.int .i64 wt, .int .i64 q, a2, a3, a4, a5, a6, a7], .int .i64 t] w fun e w' => e = .returned (.int .i64 0) ∧
      ∃ (d' : Dr) (f1 : Fl), Sep w (Chunks.bs d.chunks) w' d'.chunks ∧ d'.b = bb ∧ Calm d' ∧ d'.fl = [f0, f1] ∧ Fresh f1 1 q := by
  subst hbb
  exact (djoin h 1 1 wt q a2 a3 a4 a5 a6 a7 t (fun j f hj => by
      rw [hf] at hj
      cases j with
      | zero => simp at hj; subst hj; rw [F.slot]; omega
      | succ j => simp at hj) (by rw [hf]; simp)).mono fun e w' ⟨he, fv, fS, b, r, k⟩ =>
    ⟨he, _, _, k, rfl, ⟨C.ring, C.turn, C.n, C.seq, C.came⟩, by rw [hf]; rfl, Fl.new_fresh b r 1 wt q⟩
/-- the first packet waits -/
structure Half (d : Dr) (f0 f1 : Fl) (p0 : P6) (q0 q1 : Int) : Prop where
  fl : d.fl = [f0, f1]
  ring : d.ring = [f0.b]
  turn : d.turn = false
  n : d.n = 1
  seq : d.seq = 1
  came : d.came = 0
  a0 : f0.slot = 0 ∧ f0.gen = 1
  q : f0.q = [p0]
  qt : f0.qt = clampQ q0
  df : f0.df = 0
  by_ : f0.by_ = p0.f3
  f1 : Fresh f1 1 q1
theorem c_admit0 {w : World} {d : Dr} {bb : Nat} (hbb : d.b = bb) (h : Holds w d.chunks) (C : Calm d) {f0 f1 : Fl} {q0 q1 : Int} (hf : d.fl = [f0, f1]) (F0 : Fresh f0 0 q0) (F1 : Fresh f1 1 q1) (n : Int) (hn1 : 1 ≤ n) (hn2 : n ≤ 65536) :
    Calls Try.prog 13 #[.pointer (some ⟨bb, 0, none⟩), aggp6 ⟨0, 1, 0, n, 1, 0⟩] w fun e w' => e = .returned (.int .i64 0) ∧
      ∃ (d' : Dr) (f0' : Fl), Sep w (Chunks.bs d.chunks) w' d'.chunks ∧ d'.b = bb ∧ Half d' f0' f1 ⟨0, 1, 0, n, 1, 0⟩ q0 q1 := by
  subst hbb
  have h0 : d.fl[0]? = some f0 := by rw [hf]; rfl
  have ok : d.Ok ⟨0, 1, 0, n, 1, 0⟩ 0 := ⟨Dr.look_some h0 F0.slot F0.gen (fun j f' hj => absurd hj (by omega)), hn1, hn2, by rw [C.seq]; simp, by rw [C.came]; simp, by simp⟩
  refine (dadmit h ok h0 (by rw [F0.q]; simp) (by rw [C.ring]; simp) (by rw [F0.by_]; omega) (by rw [F0.by_]; omega) (by rw [C.n]; omega) (by rw [C.n]; omega)).mono ?_
  rintro e w' ⟨he, rds, ds, k⟩
  refine ⟨he, d.admitted 0 f0 ⟨0, 1, 0, n, 1, 0⟩ rds ds, f0.got ⟨0, 1, 0, n, 1, 0⟩ ds, k, rfl, ⟨?_, ?_, C.turn, ?_, rfl, rfl, ⟨F0.slot, F0.gen⟩, ?_, F0.qt, ?_, ?_, F1⟩⟩
  · show d.fl.set 0 _ = _
    rw [hf]; rfl
  · show (if f0.q = [] then d.ring ++ [f0.b] else d.ring) = _
    rw [if_pos F0.q, C.ring]; rfl
  · show d.n + 1 = 1
    rw [C.n]; rfl
  · show f0.q ++ [_] = _
    rw [F0.q]; rfl
  · show (if f0.q = [] then 0 else f0.df) = 0
    rw [if_pos F0.q]
  · show f0.by_ + n = n
    rw [F0.by_]; omega
theorem c_admit1 {w : World} {d : Dr} {bb : Nat} (hbb : d.b = bb) (h : Holds w d.chunks) {f0 f1 : Fl} {p0 : P6} {q0 q1 : Int} (H : Half d f0 f1 p0 q0 q1) (hz0 : 1 ≤ p0.f3 ∧ p0.f3 ≤ 65536) (n : Int) (hn1 : 1 ≤ n) (hn2 : n ≤ 65536) :
    Calls Try.prog 13 #[.pointer (some ⟨bb, 0, none⟩), aggp6 ⟨1, 1, 0, n, 2, 0⟩] w fun e w' => e = .returned (.int .i64 0) ∧
      ∃ (d' : Dr) (f1' : Fl), Sep w (Chunks.bs d.chunks) w' d'.chunks ∧ d'.b = bb ∧ Two d' f0 f1' p0 ⟨1, 1, 0, n, 2, 0⟩ ∧ f0.qt = clampQ q0 ∧ f1'.qt = clampQ q1 := by
  subst hbb
  have h1 : d.fl[1]? = some f1 := by rw [H.fl]; rfl
  have ok : d.Ok ⟨1, 1, 0, n, 2, 0⟩ 1 := ⟨Dr.look_some h1 H.f1.slot H.f1.gen (fun j f' hj hf' => by
      obtain rfl : j = 0 := by omega
      rw [H.fl] at hf'
      simp at hf'
      subst hf'
      intro hc
      have h2 : f0.slot = 1 := hc.1
      have := H.a0.1
      omega), hn1, hn2, by rw [H.seq]; simp, by rw [H.came]; simp, by simp⟩
  have q0i := clampQ_in q0
  have q1i := clampQ_in q1
  refine (dadmit h ok h1 (by rw [H.f1.q]; simp) (by rw [H.ring]; simp) (by rw [H.f1.by_]; omega) (by rw [H.f1.by_]; omega) (by rw [H.n]; omega) (by rw [H.n]; omega)).mono ?_
  rintro e w' ⟨he, rds, ds, k⟩
  refine ⟨he, d.admitted 1 f1 ⟨1, 1, 0, n, 2, 0⟩ rds ds, f1.got ⟨1, 1, 0, n, 2, 0⟩ ds, k, rfl, ⟨?_, ?_, H.turn, ?_, H.a0, ⟨H.f1.slot, H.f1.gen⟩, H.q, ?_, by rw [H.qt]; exact q0i, ?_, H.df, ?_, H.by_, ?_, hz0, ⟨hn1, hn2⟩⟩, H.qt, H.f1.qt⟩
  · show d.fl.set 1 _ = _
    rw [H.fl]; rfl
  · show (if f1.q = [] then d.ring ++ [f1.b] else d.ring) = _
    rw [if_pos H.f1.q, H.ring]; rfl
  · show d.n + 1 = 2
    rw [H.n]; rfl
  · show f1.q ++ [_] = _
    rw [H.f1.q]; rfl
  · show 1 ≤ f1.qt ∧ f1.qt ≤ 1073741824
    rw [H.f1.qt]; exact q1i
  · show (if f1.q = [] then 0 else f1.df) = 0
    rw [if_pos H.f1.q]
  · show f1.by_ + n = n
    rw [H.f1.by_]; omega

theorem c_len {w : World} {d : Dr} {bb : Nat} (hbb : d.b = bb) (h : Holds w d.chunks) : Calls Try.prog 27 #[.pointer (some ⟨bb, 0, none⟩)] w fun e w' => e = .returned (.int .i64 d.n) ∧ w' = w := by
  subst hbb; exact dlen h
theorem One.at0 {d : Dr} {g0 g1 : Fl} (H : One d g0 g1) : d.look 0 1 = some 0 ∧ d.fl[0]? = some g0 := by
  have h0 : d.fl[0]? = some g0 := by rw [H.fl]; rfl
  exact ⟨Dr.look_some h0 H.a0.1 H.a0.2 (fun j f' hj => absurd hj (by omega)), h0⟩
theorem One.at1 {d : Dr} {g0 g1 : Fl} (H : One d g0 g1) : d.look 1 1 = some 1 ∧ d.fl[1]? = some g1 := by
  have h1 : d.fl[1]? = some g1 := by rw [H.fl]; rfl
  refine ⟨Dr.look_some h1 H.a1.1 H.a1.2 (fun j f' hj hf' => ?_), h1⟩
  obtain rfl : j = 0 := by omega
  rw [H.fl] at hf'
  simp at hf'
  subst hf'
  intro hc
  have h2 : g0.slot = 1 := hc.1
  have := H.a0.1
  omega
theorem c_def0 {w : World} {d : Dr} {bb : Nat} (hbb : d.b = bb) (h : Holds w d.chunks) {g0 g1 : Fl} (H : One d g0 g1) :
    Calls Try.prog 15 #[.pointer (some ⟨bb, 0, none⟩), .agg #[.int .i64 0, .int .i64 1]] w fun e w' => e = .returned (.tuple #[.int .i64 g0.df, .int .i64 0]) ∧ Fr [] w w' := by
  subst hbb; exact ddeficit h H.at0.1 H.at0.2
theorem c_def1 {w : World} {d : Dr} {bb : Nat} (hbb : d.b = bb) (h : Holds w d.chunks) {g0 g1 : Fl} (H : One d g0 g1) :
    Calls Try.prog 15 #[.pointer (some ⟨bb, 0, none⟩), .agg #[.int .i64 1, .int .i64 1]] w fun e w' => e = .returned (.tuple #[.int .i64 g1.df, .int .i64 0]) ∧ Fr [] w w' := by
  subst hbb; exact ddeficit h H.at1.1 H.at1.2
theorem c_next {w : World} {d : Dr} {bb : Nat} (hbb : d.b = bb) {f0 f1 : Fl} {p0 p1 : P6} (h : Holds w d.chunks) (T : Two d f0 f1 p0 p1) (t : Int) :
    Calls Try.prog 14 #[.pointer (some ⟨bb, 0, none⟩), .int .i64 t] w fun e w' => ∃ d' g0 g1 p, ∃ c : Nat, e = .returned (.tuple #[aggp6 p, .bool true]) ∧ Sep w (Chunks.bs d.chunks) w' d'.chunks ∧ d'.b = bb ∧ One d' g0 g1 ∧
      ((p = p0 ∧ g0.df = 0 ∧ g1.df = c * f1.qt ∧ p0.f3 ≤ (c + 1) * f0.qt ∧ (c = 0 ∨ (c * f0.qt < p0.f3 ∧ c * f1.qt < p1.f3))) ∨
       (p = p1 ∧ g0 = f0.add ((c + 1) * f0.qt) ∧ g1.df = 0 ∧ p1.f3 ≤ (c + 1) * f1.qt ∧ (c + 1) * f0.qt < p0.f3 ∧ (c = 0 ∨ c * f1.qt < p1.f3) ∧ d'.ring = [f0.b] ∧ g1.q = [] ∧ g1.by_ = 0)) := by
  subst hbb; exact two_next h T t
theorem c_last {w : World} {d : Dr} {bb : Nat} (hbb : d.b = bb) (h : Holds w d.chunks) {g0 g1 : Fl} (H : One d g0 g1) {p0 : P6} (hr : d.ring = [g0.b]) (F : Fine g0) (hq : g0.q = [p0]) (hs : p0.f3 ≤ g0.df + g0.qt) (hb : g0.by_ = p0.f3) (hp : 1 ≤ p0.f3 ∧ p0.f3 ≤ 65536) (hq1 : g1.q = []) (hb1 : g1.by_ = 0) (t : Int) :
    Calls Try.prog 14 #[.pointer (some ⟨bb, 0, none⟩), .int .i64 t] w fun e w' => ∃ d' : Dr, e = .returned (.tuple #[aggp6 p0, .bool true]) ∧ Sep w (Chunks.bs d.chunks) w' d'.chunks ∧ d'.b = bb ∧ d'.n = 0 := by
  subst hbb
  have hz0 : g0.sz = p0.f3 := by simp [Fl.sz, hq]
  refine (dnext h (show d.ring = blocksOf d.fl [0] by rw [hr, H.fl]; rfl) (by rw [H.fl]; intro i hi; simp at hi; subst hi; exact ⟨g0, rfl, F⟩) (by simp) (by simp) (by simp) t (by rw [H.n]; omega) (by rw [H.n]; omega)
    (by
      rw [H.fl]
      intro f hf
      simp at hf
      rcases hf with rfl | rfl
      · refine ⟨by rw [hb]; omega, fun p qs hq' => ?_⟩
        rw [hq] at hq'; cases hq'
        rw [hb]; omega
      · refine ⟨by rw [hb1]; omega, fun p qs hq' => ?_⟩
        rw [hq1] at hq'; cases hq')).mono ?_
  rintro e w' ⟨fl, tt, i, rest, f, g, p, qs, rds, rds2, htr, hnd, hfine, hfi, hg, hq', hsz, rfl, k⟩
  rw [H.fl, H.turn] at htr
  obtain ⟨rfl, hr2, rfl⟩ := Turns.stop (fl := [g0, g1]) (i := 0) (rest := []) (f := g0) rfl (by rw [hz0]; simpa using hs) htr
  simp only [List.cons.injEq] at hr2
  obtain ⟨rfl, rfl⟩ := hr2
  simp only [List.getElem?_cons_zero, Option.some.injEq] at hfi
  subst hfi
  rw [hq] at hq'
  cases hq'
  rw [if_pos rfl] at k
  refine ⟨_, rfl, k, rfl, ?_⟩
  show d.n - 1 = 0
  rw [H.n]; rfl

set_option maxRecDepth 100000 in
set_option maxHeartbeats 4000000 in
theorem told15 (w : World) : Calls Try.prog 11 #[] w fun e w' => e = .returned (.bool true) ∧ Fr [] w w' := by
  have hnew := Lib.hid (c_new w)
  go_enter Try.func11, Try.ntmps11
  go_wp2_with fail
  refine hnew.out.mono ?_
  rintro e w1 ⟨d0, bb, rfl, hb0, k0, c0, fl0⟩
  have K0 := Lib.hid (Dr.inbox2 (Dr.inbox2 (pre := []) k0 26 [.int .i64 0, .int .i64 1]) 26 [.int .i64 1, .int .i64 1])
  simp only [World.size_alloc] at K0
  obtain ⟨H, hH⟩ : ∃ H, w1.heap.size = H := ⟨_, rfl⟩
  rw [hH] at K0
  have C0 := Lib.hid c0
  have FL0 := Lib.hid fl0
  clear k0 c0 fl0 hnew
  go_wp2_with fail
  refine (c_join0 hb0 K0.out.hs.right C0.out FL0.out 10 0 _ _ _ _ _ _ 0).mono ?_
  rintro e w2 ⟨rfl, d1, f0, k1, hb1, c1, fl1, F0⟩
  have K1 := Lib.hid (Dr.call K0.out k1)
  have C1 := Lib.hid c1
  have FL1 := Lib.hid fl1
  have FF0 := Lib.hid F0
  clear k1 c1 fl1 F0 K0 C0 FL0 hb0
  clear hH
  have x0 : w2.cell? ⟨H, 0, none⟩ = some (.int .i64 0) := (K1.out.blk 1 rfl).cell 0
  have x1 : w2.cell? ⟨H, 1, none⟩ = some (.int .i64 1) := (K1.out.blk 1 rfl).cell 1
  have x2 : w2.cell? ⟨H + 1, 0, none⟩ = some (.int .i64 1) := (K1.out.blk 0 rfl).cell 0
  have x3 : w2.cell? ⟨H + 1, 1, none⟩ = some (.int .i64 1) := (K1.out.blk 0 rfl).cell 1
  go_wp2_with fail
  refine (c_join1 hb1 K1.out.hs.right C1.out FL1.out FF0.out 5 0 _ _ _ _ _ _ 0).mono ?_
  rintro e w3 ⟨rfl, d2, f1, k2, hb2, c2, fl2, F1⟩
  have K2 := Lib.hid (Dr.call K1.out k2)
  have C2 := Lib.hid c2
  have FL2 := Lib.hid fl2
  have FF1 := Lib.hid F1
  clear k2 c2 fl2 F1 K1 C1 FL1 hb1 x0 x1 x2 x3
  have x0 : w3.cell? ⟨H, 0, none⟩ = some (.int .i64 0) := (K2.out.blk 1 rfl).cell 0
  have x1 : w3.cell? ⟨H, 1, none⟩ = some (.int .i64 1) := (K2.out.blk 1 rfl).cell 1
  go_wp2_with fail
  refine (c_admit0 hb2 K2.out.hs.right C2.out FL2.out FF0.out FF1.out 12 (by omega) (by omega)).mono ?_
  rintro e w4 ⟨rfl, d3, f0', k3, hb3, h3⟩
  have K3 := Lib.hid (Dr.call K2.out k3)
  have H3 := Lib.hid h3
  clear k3 h3 K2 C2 FL2 hb2 FF0 FF1 x0 x1
  have x2 : w4.cell? ⟨H + 1, 0, none⟩ = some (.int .i64 1) := (K3.out.blk 0 rfl).cell 0
  have x3 : w4.cell? ⟨H + 1, 1, none⟩ = some (.int .i64 1) := (K3.out.blk 0 rfl).cell 1
  go_wp2_with fail
  refine (c_admit1 hb3 K3.out.hs.right H3.out (by simp) 5 (by omega) (by omega)).mono ?_
  rintro e w5 ⟨rfl, d4, f1', k4, hb4, T, hq0, hq1⟩
  have K4 := Lib.hid (Dr.call K3.out k4)
  have HT := Lib.hid T
  have hq0' : Hid (f0'.qt = 10) := by rw [hq0]; exact Lib.hid rfl
  have hq1' : Hid (f1'.qt = 5) := by rw [hq1]; exact Lib.hid rfl
  clear k4 T K3 H3 hb3 x2 x3 hq0 hq1
  go_wp2_with fail
  refine (c_next hb4 K4.out.hs.right HT.out 0).mono ?_
  rintro e w6 ⟨d5, g0, g1, p, c, rfl, k5, hb5, ho, hcase⟩
  rw [hq0'.out, hq1'.out] at hcase
  rcases hcase with ⟨_, _, _, h1, h2⟩ | ⟨rfl, hg0, hg1, h1, h2, h3, hr5, hgq, hgb⟩
  · exact absurd h2 (by simp at h1 ⊢; omega)
  have hc0 : c = 0 := by simp at h2; omega
  subst hc0
  have K5 := Lib.hid (Dr.call K4.out k5)
  have HO := Lib.hid ho
  have G0 : Hid (g0 = f0'.add 10) := by rw [hg0]; exact Lib.hid (by simp)
  have R5 := Lib.hid hr5
  have G1 := Lib.hid (And.intro hgq hgb)
  clear k5 ho hg0 hr5 hgq hgb hg1 h1 h2 h3 K4 hb4
  have K6 := Lib.hid (Dr.inbox2 K5.out 34 (encP6 ⟨1, 1, 0, 5, 2, 0⟩))
  have x0 : w6.cell? ⟨H, 0, none⟩ = some (.int .i64 0) := (K5.out.blk 1 rfl).cell 0
  have x1 : w6.cell? ⟨H, 1, none⟩ = some (.int .i64 1) := (K5.out.blk 1 rfl).cell 1
  have xl : H < w6.heap.size := (K5.out.blk 1 rfl).lt
  obtain ⟨B, hB⟩ : ∃ B, w6.heap.size = B := ⟨_, rfl⟩
  rw [hB] at K6 xl
  clear K5
  go_wp2_with fail
  refine (c_def0 hb5 K6.out.hs.right HO.out).mono ?_
  rintro e w7 ⟨rfl, f7⟩
  have hdf : g0.df = 10 := by
    rw [G0.out]
    show f0'.df + 10 = 10
    rw [HT.out.d0]; rfl
  rw [hdf]
  have K7 := Lib.hid (K6.out.same f7)
  clear f7 x0 x1 xl hB K6 hdf
  go_wp2_with fail
  have gq : g0.q = [⟨0, 1, 0, 12, 1, 0⟩] := by rw [G0.out]; exact HT.out.q0
  have gdf : g0.df = 10 := by rw [G0.out]; show f0'.df + 10 = 10; rw [HT.out.d0]; rfl
  have gqt : g0.qt = 10 := by rw [G0.out]; exact hq0'.out
  have gby : g0.by_ = 12 := by rw [G0.out]; exact HT.out.b0
  have gsz : g0.sz = 12 := by simp [Fl.sz, gq]
  have gfine : Fine g0 := ⟨by rw [gq]; simp, by omega, by omega, by omega, by omega, by omega⟩
  refine (c_last hb5 K7.out.hs.right HO.out (by rw [R5.out, G0.out]; rfl) gfine gq (by rw [gdf, gqt]; simp) gby (by simp) G1.out.1 G1.out.2 0).mono ?_
  clear gq gdf gqt gby gsz gfine
  rintro e w8 ⟨d6, rfl, k8, hb6, hn6⟩
  have K8 := Lib.hid (Dr.call K7.out k8)
  have K9 := Lib.hid (Dr.inbox2 K8.out 34 (encP6 ⟨0, 1, 0, 12, 1, 0⟩))
  have x3 : w8.cell? ⟨B, 3, none⟩ = some (.int .i64 5) := (K8.out.blk 0 rfl).cell 3
  have x4 : w8.cell? ⟨B, 4, none⟩ = some (.int .i64 2) := (K8.out.blk 0 rfl).cell 4
  have xl : B < w8.heap.size := (K8.out.blk 0 rfl).lt
  have HN := Lib.hid hn6
  clear k8 hn6 K8 K7 HT hq0' hq1' HO G0 R5 G1 hb5
  go_wp2_with fail
  refine (c_len hb6 K9.out.hs.right).mono ?_
  rintro e w9 ⟨rfl, hw9⟩
  rw [hw9, HN.out]
  clear hw9 HN x3 x4 xl
  have fin := Lib.hid K9.out.fr
  clear K9
  go_wp2
  go_ret
  exact ⟨rfl, fin.out⟩
end Go.Proofs.Yteojodcdehkejaa
