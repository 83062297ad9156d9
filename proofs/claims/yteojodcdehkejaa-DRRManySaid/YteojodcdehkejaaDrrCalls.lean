/- A discipline by turns: New, check, Deficit, Admit. -/
import Derived.Test.YteojodcdehkejaaDrrChoose
namespace Go.Proofs.Yteojodcdehkejaa
open Go Go.RowKit
attribute [local go_sem] calmQ_normal wide_fn wide_depth Oper.semAt_some run_store_func

def Dr.new (b rb : Nat) : Dr := { b := b, fv := .slice none 0 0, fS := [], fl := [], rb := rb, rds := [], ring := [], turn := false, seq := 0, came := 0, n := 0 }
set_option maxRecDepth 100000 in
set_option maxHeartbeats 1000000 in
theorem dnew (w : World) :
    Calls Try.prog 10 #[] w fun e w' => ∃ b rb, e = .returned (.pointer (some ⟨b, 0, none⟩)) ∧ Sep w [] w' (Dr.new b rb).chunks := by
  have hnew := Lib.hid (new_q w)
  go_enter Try.func10, Try.ntmps10
  go_wp2_with fail
  refine hnew.out.mono ?_
  rintro e w1 ⟨rfl, hr, f1, z1⟩
  have K1 : Sep w [] w1 [CRingq w.heap.size [] []] := Sep.of_one f1 hr (fun b hb => by simp [Chunk.ring] at hb; right; omega)
  have K2 := ((K1.alloc 92 (Dr.new w1.heap.size w.heap.size).head).call0 (Sep.of_one0 (Fr.refl _ _) (OwnS.nil _ 89 1) (Gr.nil _ _) : Sep _ [] _ [Chunk.own 89 1 (.slice none 0 0) 0 [] []])).pick [1, 2, 0] (by decide)
  have K3 := Lib.hid K2
  clear K2 K1 hr f1 z1
  go_wp2
  go_ret
  exact ⟨w1.heap.size, w.heap.size, rfl, K3.out⟩

set_option maxRecDepth 100000 in
set_option maxHeartbeats 1000000 in
theorem ddeficit {w : World} {d : Dr} (h : Holds w d.chunks) {s g : Int} {k : Nat} {f : Fl} (hk : d.look s g = some k) (hf : d.fl[k]? = some f) :
    Calls Try.prog 15 #[.pointer (some ⟨d.b, 0, none⟩), .agg #[.int .i64 s, .int .i64 g]] w fun e w' => e = .returned (.tuple #[.int .i64 f.df, .int .i64 0]) ∧ Fr [] w w' := by
  have hcall := Lib.hid (fun X (fX : Fr [] w X) => dfind (h.fr' fX (by simp)) s g)
  have hst : Blk w f.b 95 f.cells := h.get (Dr.str_at hf)
  have s4 : w.cell? ⟨f.b, 4, none⟩ = some (.int .i64 f.df) := hst.cell 4
  have hl := hst.lt
  have hp : d.ptr (d.look s g) = .pointer (some ⟨f.b, 0, none⟩) := by simp [Dr.ptr, hk, hf]
  clear h hst
  go_enter Try.func15, Try.ntmps15
  go_wp2_with fail
  refine (hcall.out _ ((Fr.refl [] w).alloc _)).mono ?_
  rw [hp]
  rintro e w1 ⟨rfl, f1⟩
  have fA : Fr [] w w1 := ((Fr.refl [] w).alloc _).trans' f1
  have t4 := (fA.cell (p := ⟨f.b, 4, none⟩) hl (by simp)).trans s4
  have HF := Lib.hid fA
  clear f1 fA s4
  go_wp2
  go_ret2
  exact ⟨rfl, HF.out⟩

/-- what check lets in -/
structure Dr.Ok (d : Dr) (p : P6) (k : Nat) : Prop where
  look : d.look p.f0 p.f1 = some k
  s1 : 1 ≤ p.f3
  s2 : p.f3 ≤ 65536
  sq : d.seq < p.f4
  c1 : d.came ≤ p.f5
  c2 : p.f5 ≤ 4611686018427387904
set_option maxRecDepth 100000 in
set_option maxHeartbeats 1000000 in
theorem dcheck {w : World} {d : Dr} (h : Holds w d.chunks) {p : P6} {k : Nat} (ho : d.Ok p k) :
    Calls Try.prog 35 #[.pointer (some ⟨d.b, 0, none⟩), aggp6 p] w fun e w' => e = .returned (.int .i64 0) ∧ Fr [] w w' := by
  have hcall := Lib.hid (fun X (fX : Fr [] w X) => dfind (h.fr' fX (by simp)) p.f0 p.f1)
  obtain ⟨f, hf, _⟩ := Dr.look_at ho.look
  have hB : Blk w d.b 92 d.head := h.get (i := 0) rfl
  have hp : d.ptr (d.look p.f0 p.f1) = .pointer (some ⟨f.b, 0, none⟩) := by simp [Dr.ptr, ho.look, hf]
  have HB := Lib.hid hB
  have d1 : decide (p.f3 < 1) = false := decide_eq_false (by have := ho.s1; omega)
  have d2 : decide (65536 < p.f3) = false := decide_eq_false (by have := ho.s2; omega)
  have d3 : decide (p.f4 ≤ d.seq) = false := decide_eq_false (by have := ho.sq; omega)
  have d4 : decide (p.f5 < d.came) = false := decide_eq_false (by have := ho.c1; omega)
  have d5 : decide (4611686018427387904 < p.f5) = false := decide_eq_false (by have := ho.c2; omega)
  clear h hf hB ho
  go_enter Try.func35, Try.ntmps35
  go_wp2_with fail
  refine (hcall.out _ ((Fr.refl [] w).alloc _)).mono ?_
  rw [hp]
  rintro e w1 ⟨rfl, f1⟩
  have fA : Fr [] w w1 := ((Fr.refl [] w).alloc _).trans' f1
  have hbx : Blk w1 w.heap.size 34 (encP6 p) := (Blk.new w _ (encP6 p)).fr f1 (by simp)
  have x3 : w1.cell? ⟨w.heap.size, 3, none⟩ = some (.int .i64 p.f3) := hbx.cell 3
  have x4 : w1.cell? ⟨w.heap.size, 4, none⟩ = some (.int .i64 p.f4) := hbx.cell 4
  have x5 : w1.cell? ⟨w.heap.size, 5, none⟩ = some (.int .i64 p.f5) := hbx.cell 5
  have hb1 := HB.out.fr fA (by simp)
  have y3 : w1.cell? ⟨d.b, 3, none⟩ = some (.int .i64 d.seq) := hb1.cell 3
  have y4 : w1.cell? ⟨d.b, 4, none⟩ = some (.int .i64 d.came) := hb1.cell 4
  have HF := Lib.hid fA
  clear f1 fA hbx hb1 hp
  go_wp2
  go_quiet (fail)
  go_wp2
  go_quiet (fail)
  go_wp2
  go_ret
  exact ⟨rfl, (HF.out.drewN _).drewN _⟩
end Go.Proofs.Yteojodcdehkejaa
