/- append of whatever slice, nil too. -/
import Derived.Test.YtoodgjmgkjhpoaaBase
namespace Go.Proofs.Ytoodgjmgkjhpoaa
open Go Go.RowKit

section
variable {P : Program} (w : World)
/-- append of nothing: the slice stays -/
theorem run_append_none_S (t ty e : TypeId) (i : TypeInfo) (size : Nat) (ht : P.underlying t = some (.slice e)) (hi : P.info? e = some i)
    (hsize : i.size = size)
    (v : Value) (n : Nat) (xs : List Value) (S : List Nat) (hown : OwnS w e size v n xs S) :
    (Builtin.append_ #[t, t] ty #[v, .slice none 0 0]).run P w = .ok v w := by
  subst hsize
  rcases hown.2 with ⟨rfl, rfl, rfl⟩ | ⟨g, cap, cur, rfl, rfl, hg, hnc, hcm, hcs, htake⟩
  · simp [Builtin.append_, run_underlying ht, sizeOf, typeInfo, hi, Builtin.lenOf, Builtin.firstCells]
  · simp [Builtin.append_, run_underlying ht, sizeOf, typeInfo, hi, Builtin.lenOf, Builtin.firstCells, hnc, storeCells]

/-- append of whatever slice onto an owned one -/
theorem wpList_append_any {ops : Array Oper} {rest : List Oper} {o : Oper} {a : Act} {Q : Exit → Act → World → Prop} (hgd : o.guard = none) (s x : Operand) (t : TypeId)
    (ho : o.op = .call { callee := .builtin .append, args := #[s, x], argTypes := #[t, t] })
    (e : TypeId) (i : TypeInfo) (z : Value) (size bytes : Nat) (ht : P.underlying t = some (.slice e)) (hi : P.info? e = some i) (hz : i.zero = some z)
    (hsize : i.size = size) (hby : i.bytes = bytes) (hzs : z.cells.size = size)
    (v : Value) (n : Nat) (xs : List Value) (S : List Nat) (hs : a.eval s = v) (hown : OwnS w e size v n xs S)
    (src : Value) (m : Nat) (news : List Value) (hx : a.eval x = src) (hl : news.length = m * size) (h1 : ∀ u ∈ news, u.oneCell' = true)
    (hsrc : (src = .slice none 0 0 ∧ m = 0) ∨ ∃ ad c, src = .slice (some ad) m c ∧ ∀ j u, news[j]? = some u → w.cell? (ad.add j) = some u)
    (h63 : n + m ≤ maxLen) (hbytes : (n + m) * bytes ≤ 140737488355328)
    (h : ∀ v' w' S', OwnS w' e size v' (n + m) (xs ++ news) S' → Gr w S S' → Fr S w w' → wpList P ops Q rest (a.put o.dst v') w') : wpList P ops Q (o :: rest) a w := by
  rcases hsrc with ⟨hs0, hm0⟩ | ⟨ad, c, hs1, hnews⟩
  · subst hm0
    obtain rfl : news = [] := List.eq_nil_of_length_eq_zero (by simpa using hl)
    refine wpList_plain hgd fun K hK => ?_
    have hr := run_append_none_S (P := P) w t o.type e i size ht hi hsize v n xs S hown
    unfold Oper.wp execOp
    simp only [ho, resolve, invoke, builtin, Sem.run_bind, Sem.run_pure, Result.andThen_ok, List.map_toArray, List.map_cons, List.map_nil, hs, hx, hs0, hr]
    exact hK _ _ (h v w S (by simpa using hown) (Gr.refl _ _) (Fr.refl _ _))
  · exact wpList_append_S w hgd s x t ho e i z size bytes ht hi hz hsize hby hzs v n xs S hs hown ad m c news (hx.trans hs1) hl hnews h1 h63 hbytes h
end
end Go.Proofs.Ytoodgjmgkjhpoaa
