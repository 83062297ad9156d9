/- A struct stored into a block, in one step. -/
import Derived.Test.YteojodcdehkejaaBase
import Derived.Laws.CopyRow
namespace Go.Proofs.Yteojodcdehkejaa
open Go Go.RowKit

section
variable {P : Program} (w : World)
theorem run_storeAt_S (ty : TypeId) (g off : Nat) (t : TypeId) (cs vs : List Value) (hg : Blk w g t cs) (hi : (P.info? ty).map (·.size) = some vs.length) (hfit : off + vs.length ≤ cs.length) (h1 : ∀ v ∈ vs, v.oneCell' = true) :
    ∃ w', (Instr.storeAt ty (.pointer (some ⟨g, off, none⟩)) (.agg vs.toArray)).run P w = .ok () w' ∧ Blk w' g t (cs.take off ++ vs ++ cs.drop (off + vs.length)) ∧ Fr [g] w w' ∧ w'.heap.size = w.heap.size := by
  have hst := run_storeCells_at (P := P) g off t vs 0 cs.toArray w hg (by simp; omega) h1
  simp only [Nat.add_zero] at hst
  refine ⟨_, ?_, setRow_heap w g cs.toArray _ t _ hg, ⟨rfl, rfl, rfl, by simp [World.setRow], fun k hk hn => setRow_other w g k _ (fun e => hn (by simp [e]))⟩, by simp [World.setRow]⟩
  cases hq : P.info? ty with
  | none => simp [hq] at hi
  | some i =>
    have hs : vs.length = i.size := by simp [hq] at hi; omega
    simp only [Instr.storeAt, Instr.sureAddr, Sem.run_bind, Sem.run_pure, Result.andThen_ok]
    simp [storeVar, sizeOf, typeInfo, hq, Value.cells, hs, hst]

theorem wpList_store_S {w : World} {ops : Array Oper} {rest : List Oper} {o : Oper} {a : Act} {Q : Exit → Act → World → Prop} (hgd : o.guard = none) (ty : TypeId) (x y : Operand) (ho : o.op = .store ty x y)
    (g off : Nat) (t : TypeId) (cs vs : List Value) (hx : a.eval x = .pointer (some ⟨g, off, none⟩)) (hy : a.eval y = .agg vs.toArray) (hg : Blk w g t cs) (hi : (P.info? ty).map (·.size) = some vs.length) (hfit : off + vs.length ≤ cs.length) (h1 : ∀ v ∈ vs, v.oneCell' = true)
    (h : ∀ w', Blk w' g t (cs.take off ++ vs ++ cs.drop (off + vs.length)) → Fr [g] w w' → w'.heap.size = w.heap.size → wpList P ops Q rest (a.put o.dst undef) w') : wpList P ops Q (o :: rest) a w := by
  refine wpList_plain hgd fun K hK => ?_
  obtain ⟨w', hr, h2, h3, h4⟩ := run_storeAt_S (P := P) w ty g off t cs vs hg hi hfit h1
  unfold Oper.wp execOp
  simp only [ho, hx, hy, Sem.run_bind, Sem.run_pure, Result.andThen_ok, hr]
  exact hK _ _ (h w' h2 h3 h4)
theorem wpListIn_store_S {F : Fence} {k : Nat} {w : World} {ops : Array Oper} {rest : List Oper} {o : Oper} {a : Act} {Q : Exit → Act → World → Prop} (hgd : o.guard = none) (ty : TypeId) (x y : Operand) (ho : o.op = .store ty x y)
    (g off : Nat) (t : TypeId) (cs vs : List Value) (hx : a.eval x = .pointer (some ⟨g, off, none⟩)) (hy : a.eval y = .agg vs.toArray) (hg : Blk w g t cs) (hi : (P.info? ty).map (·.size) = some vs.length) (hfit : off + vs.length ≤ cs.length) (h1 : ∀ v ∈ vs, v.oneCell' = true)
    (h : ∀ w', Blk w' g t (cs.take off ++ vs ++ cs.drop (off + vs.length)) → Fr [g] w w' → w'.heap.size = w.heap.size → wpListIn F k P ops Q rest (a.put o.dst undef) w') : wpListIn F k P ops Q (o :: rest) a w := by
  refine wpListIn_plain hgd fun K hK => ?_
  obtain ⟨w', hr, h2, h3, h4⟩ := run_storeAt_S (P := P) w ty g off t cs vs hg hi hfit h1
  unfold Oper.wpIn
  refine ⟨?_, ?_⟩
  · simp [Oper.about, ho]
  · rw [Oper.semAt_plain F _ _ (by rw [ho]; intro c hc'; cases hc')]
    simp [execOp, ho, hx, hy, hr, Result.andThen]
    exact hK _ _ (h w' h2 h3 h4)
end
end Go.Proofs.Yteojodcdehkejaa
