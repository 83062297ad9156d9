/- The words of this seat's proofs: blocks, frames of lists of blocks, owned rows, the law of a range over a function by footprints. -/
import Derived.RangeFuncNested
import Derived.RangeFuncBox
import Derived.RangeFuncBound
import Derived.RangeFuncCalls
import Derived.RangeFuncLeaves
import Derived.Shelf.Abstract
import Derived.Shelf.RegionOpen
import Derived.WalkKit
import Derived.OwnWalkIn
import Derived.TacticsInMore
import Derived.LoopNIn
import Derived.LoopIn
import Derived.Deep.Draws
import Derived.Lib.Hide
import Derived.Deep.LoopGhost
import Derived.Deep.DeepFit
set_option linter.unusedVariables false
namespace Go.Proofs.Yteojodcdehkejaa
open Go Go.RowKit

/-- The streams are as they were, and of what was there no block but those of S has turned. -/
structure Fr (S : List Nat) (w w' : World) : Prop where
  os : w'.os = w.os
  tape : w'.tape = w.tape
  output : w'.output = w.output
  size : w.heap.size ≤ w'.heap.size
  block : ∀ b, b < w.heap.size → b ∉ S → w'.heap[b]? = w.heap[b]?

/-- The footprint S' holds blocks of S and new ones alone. -/
def Gr (w : World) (S S' : List Nat) : Prop := ∀ b, b ∈ S' → b ∈ S ∨ w.heap.size ≤ b

theorem Gr.refl (w : World) (S : List Nat) : Gr w S S := fun _ h => .inl h
theorem Gr.nil (w : World) (S : List Nat) : Gr w S [] := fun _ h => by cases h
theorem Gr.of_sub {w : World} {S S' : List Nat} (h : ∀ b, b ∈ S' → b ∈ S) : Gr w S S' := fun b hb => .inl (h b hb)
theorem Gr.trans {a b : World} {S S' S'' : List Nat} (h : Gr a S S') (hs : a.heap.size ≤ b.heap.size) (k : Gr b S' S'') : Gr a S S'' :=
  fun x hx => (k x hx).elim (h x) (fun e => .inr (Nat.le_trans hs e))
theorem Gr.append {w : World} {S S' T T' : List Nat} (h : Gr w S S') (k : Gr w T T') : Gr w (S ++ T) (S' ++ T') :=
  fun x hx => by rw [List.mem_append] at hx ⊢; rcases hx with hx | hx; · exact (h x hx).imp .inl id
                 · exact (k x hx).imp .inr id
theorem Gr.keep {w : World} {S S' : List Nat} (T : List Nat) (h : Gr w S S') : Gr w (S ++ T) (S' ++ T) := h.append (Gr.refl w T)
theorem Gr.mono {w : World} {S T S' : List Nat} (h : Gr w S S') (hs : ∀ b, b ∈ S → b ∈ T) : Gr w T S' := fun b hb => (h b hb).imp (hs b) id
theorem Gr.cons {w : World} {S S' : List Nat} (x : Nat) (h : Gr w S S') : Gr w (x :: S) (x :: S') :=
  fun b hb => by rw [List.mem_cons] at hb ⊢; rcases hb with rfl | hb; · exact .inl (.inl rfl)
                 · exact (h b hb).imp .inr id
theorem Gr.size {w w' : World} {S S' : List Nat} (h : Gr w S S') (hs : w'.heap.size ≤ w.heap.size) : Gr w' S S' := fun b hb => (h b hb).imp id (fun e => Nat.le_trans hs e)
theorem Gr.notMem {w : World} {S S' : List Nat} (h : Gr w S S') {b : Nat} (hb : b < w.heap.size) (hn : b ∉ S) : b ∉ S' :=
  fun hm => (h b hm).elim hn (fun e => absurd e (by omega))

theorem Fr.refl (S : List Nat) (w : World) : Fr S w w := ⟨rfl, rfl, rfl, Nat.le_refl _, fun _ _ _ => rfl⟩
theorem Fr.trans {S S' : List Nat} {a b c : World} (h : Fr S a b) (g : Gr a S S') (k : Fr S' b c) : Fr S a c :=
  ⟨k.os.trans h.os, k.tape.trans h.tape, k.output.trans h.output, Nat.le_trans h.size k.size,
   fun x hx hn => (k.block x (Nat.lt_of_lt_of_le hx h.size) (g.notMem hx hn)).trans (h.block x hx hn)⟩
theorem Fr.trans' {S : List Nat} {a b c : World} (h : Fr S a b) (k : Fr S b c) : Fr S a c := h.trans (Gr.refl a S) k
theorem Fr.mono {S T : List Nat} {w w' : World} (h : Fr S w w') (hs : ∀ b, b ∈ S → b ∈ T) : Fr T w w' :=
  ⟨h.os, h.tape, h.output, h.size, fun b hb hn => h.block b hb (fun hm => hn (hs b hm))⟩
/-- blocks of T that are new to w -/
theorem Fr.mono' {S T : List Nat} {w w' : World} (h : Fr S w w') (g : Gr w T S) : Fr T w w' :=
  ⟨h.os, h.tape, h.output, h.size, fun b hb hn => h.block b hb (g.notMem hb hn)⟩
theorem Fr.alloc {S : List Nat} {a w : World} (h : Fr S a w) (o : Obj) : Fr S a (w.alloc o) :=
  ⟨h.os, h.tape, h.output, by have := h.size; simp; omega, fun b hb hn => (Below.heap_alloc w o b (Nat.lt_of_lt_of_le hb h.size)).trans (h.block b hb hn)⟩
theorem Fr.setCell {S : List Nat} {a w : World} (h : Fr S a w) {p : Addr} (v : Value) (hp : p.block ∈ S ∨ a.heap.size ≤ p.block) : Fr S a (w.setCell p v) :=
  ⟨h.os, h.tape, h.output, by have := h.size; simp; omega, fun b hb hn => (Below.heap_setCell w p v b (fun e => by subst e; exact hp.elim hn (fun e => absurd e (by omega)))).trans (h.block b hb hn)⟩
theorem Fr.drew {S : List Nat} {a w : World} (h : Fr S a w) : Fr S a w.drew := ⟨h.os, h.tape, h.output, h.size, h.block⟩
theorem Fr.drewN {S : List Nat} {a w : World} (h : Fr S a w) (n : Nat) : Fr S a (w.drewN n) := ⟨h.os, h.tape, h.output, h.size, h.block⟩
theorem Fr.putObj {S : List Nat} {a w : World} (h : Fr S a w) {r : Nat} (o : Obj) (hp : r ∈ S ∨ a.heap.size ≤ r) : Fr S a (w.putObj r o) :=
  ⟨h.os, h.tape, h.output, by have := h.size; simp; omega, fun b hb hn => (World.putObj_heap_other (fun e => by subst e; exact hp.elim hn (fun e => absurd e (by omega)))).trans (h.block b hb hn)⟩
theorem Fr.grown {S : List Nat} {a w w' : World} {row : Option Nat} (h : Fr S a w) (hg : w.grownBy w' row) (hr : ∀ k, row = some k → k ∈ S ∨ a.heap.size ≤ k) : Fr S a w' :=
  ⟨hg.os.trans h.os, hg.tape.trans h.tape, hg.output.trans h.output, Nat.le_trans h.size hg.size,
   fun b hb hn => (hg.block b (Nat.lt_of_lt_of_le hb h.size) (fun e => (hr b e.symm).elim hn (fun e => absurd e (by omega)))).trans (h.block b hb hn)⟩
theorem Fr.below {w w' : World} (h : Fr [] w w') : Below w.heap.size w w' := ⟨h.os, h.tape, h.output, h.size, fun k hk => h.block k hk (by simp)⟩
theorem Fr.of_below {S : List Nat} {w w' : World} (h : Below w.heap.size w w') : Fr S w w' := ⟨h.os, h.tape, h.output, h.size, fun k hk _ => h.block k hk⟩
theorem Fr.grownBy {w w' : World} (h : Fr [] w w') : w.grownBy w' none := ⟨h.os, h.tape, h.output, h.size, fun k hk _ => h.block k hk (by simp)⟩
theorem Fr.cell {S : List Nat} {w w' : World} (h : Fr S w w') {p : Addr} (hp : p.block < w.heap.size) (hn : p.block ∉ S) : w'.cell? p = w.cell? p := World.cell?_of_block (w := w) (h.block p.block hp hn)
theorem Fr.frozen {S : List Nat} {w w' : World} (h : Fr S w w') {p : Addr} (hp : p.block < w.heap.size) (hn : p.block ∉ S) : w'.frozen? p = w.frozen? p := World.frozen?_of_block (w := w) (h.block p.block hp hn)

/-- Block b is a row of the cells cs, none of them frozen. -/
def Blk (w : World) (b : Nat) (t : TypeId) (cs : List Value) : Prop := w.heap[b]? = some (.cells cs.toArray t (0, 0))

theorem Blk.lt {w : World} {b : Nat} {t : TypeId} {cs : List Value} (h : Blk w b t cs) : b < w.heap.size := (Array.getElem?_eq_some_iff.1 h).1
theorem Blk.cell {w : World} {b : Nat} {t : TypeId} {cs : List Value} (h : Blk w b t cs) (o : Nat) : w.cell? ⟨b, o, none⟩ = cs[o]? := by
  unfold Blk at h
  simp [World.cell?, h]
theorem Blk.frz {w : World} {b : Nat} {t : TypeId} {cs : List Value} (h : Blk w b t cs) (o : Nat) : w.frozen? ⟨b, o, none⟩ = false := by
  unfold Blk at h
  simp [World.frozen?, h]
theorem Blk.fr {w w' : World} {b : Nat} {t : TypeId} {cs : List Value} (h : Blk w b t cs) {S : List Nat} (f : Fr S w w') (hn : b ∉ S) : Blk w' b t cs := (f.block b h.lt hn).trans h
theorem Blk.drewN {w : World} {b : Nat} {t : TypeId} {cs : List Value} (h : Blk w b t cs) (n : Nat) : Blk (w.drewN n) b t cs := h
theorem Blk.drew {w : World} {b : Nat} {t : TypeId} {cs : List Value} (h : Blk w b t cs) : Blk w.drew b t cs := h
theorem Blk.alloc {w : World} {b : Nat} {t : TypeId} {cs : List Value} (h : Blk w b t cs) (o : Obj) : Blk (w.alloc o) b t cs := (Below.heap_alloc w o b h.lt).trans h
theorem Blk.new (w : World) (t : TypeId) (cs : List Value) : Blk (w.alloc (.cells cs.toArray t)) w.heap.size t cs := heap_alloc_new w _
theorem Blk.new' (w : World) (t : TypeId) (cs : Array Value) : Blk (w.alloc (.cells cs t)) w.heap.size t cs.toList := heap_alloc_new w _
theorem Blk.other {w : World} {b : Nat} {t : TypeId} {cs : List Value} (h : Blk w b t cs) {p : Addr} (v : Value) (hn : b ≠ p.block) : Blk (w.setCell p v) b t cs := (Below.heap_setCell w p v b hn).trans h
theorem Blk.set {w : World} {b : Nat} {t : TypeId} {cs : List Value} (h : Blk w b t cs) (o : Nat) (v : Value) : Blk (w.setCell ⟨b, o, none⟩ v) b t (cs.set o v) := by
  have hb : b < w.heap.size := h.lt
  unfold Blk at *
  simp only [World.setCell, Array.getElem?_modify, if_true, h, Option.map_some]
  simp
theorem Blk.put {w : World} {b : Nat} {t : TypeId} {cs : List Value} (h : Blk w b t cs) {r : Nat} (o : Obj) (hn : b ≠ r) : Blk (w.putObj r o) b t cs := (World.putObj_heap_other hn).trans h
/-- the cells at two places of one world: what the blocks hold is one -/
theorem Blk.inj {w : World} {b : Nat} {t t' : TypeId} {cs cs' : List Value} (h : Blk w b t cs) (h' : Blk w b t' cs') : t = t' ∧ cs = cs' := by
  unfold Blk at h h'
  rw [h] at h'
  simp at h'
  exact ⟨h'.2, h'.1⟩

/-- a block's cells, as append's law asks for them -/
theorem Blk.news {w : World} {g : Nat} {t : TypeId} {cs : List Value} (h : Blk w g t cs) : ∀ j u, cs[j]? = some u → w.cell? ((⟨g, 0, none⟩ : Addr).add j) = some u := by
  intro j u hj
  rw [Addr.add_lit, Nat.zero_add, h.cell, hj]

/-- The slice value v of n elements (of the type e, of sz cells each) begins at the head of the block of S, and its cells are xs; or it is nil. -/
def OwnS (w : World) (e sz : Nat) (v : Value) (n : Nat) (xs : List Value) (S : List Nat) : Prop :=
  xs.length = n * sz ∧
  ((v = .slice none 0 0 ∧ n = 0 ∧ S = []) ∨
   ∃ g cap cur, v = .slice (some ⟨g, 0, none⟩) n cap ∧ S = [g] ∧ w.heap[g]? = some (.cells cur e (0, 0)) ∧ n ≤ cap ∧ cap ≤ maxLen ∧ cap * sz ≤ cur.size ∧ cur.toList.take (n * sz) = xs)

theorem OwnS.nil (w : World) (e sz : Nat) : OwnS w e sz (.slice none 0 0) 0 [] [] := ⟨by simp, .inl ⟨rfl, rfl, rfl⟩⟩
theorem OwnS.lt {w : World} {e sz : Nat} {v : Value} {n : Nat} {xs : List Value} {S : List Nat} (h : OwnS w e sz v n xs S) : ∀ b, b ∈ S → b < w.heap.size := by
  rcases h.2 with ⟨_, _, rfl⟩ | ⟨g, cap, cur, _, rfl, hg, _⟩
  · simp
  · intro b hb
    simp at hb; subst hb
    exact (Array.getElem?_eq_some_iff.1 hg).1
/-- what the block of a footprint holds tells all -/
theorem OwnS.kept {w w' : World} {e sz : Nat} {v : Value} {n : Nat} {xs : List Value} {S : List Nat} (h : OwnS w e sz v n xs S) (hk : ∀ b, b ∈ S → w'.heap[b]? = w.heap[b]?) : OwnS w' e sz v n xs S := by
  refine ⟨h.1, ?_⟩
  rcases h.2 with h | ⟨g, cap, cur, hv, rfl, hg, r⟩
  · exact .inl h
  · exact .inr ⟨g, cap, cur, hv, rfl, (hk g (by simp)).trans hg, r⟩
theorem OwnS.fr {w w' : World} {e sz : Nat} {v : Value} {n : Nat} {xs : List Value} {S : List Nat} (h : OwnS w e sz v n xs S) {T : List Nat} (f : Fr T w w') (hd : ∀ b, b ∈ S → b ∉ T) : OwnS w' e sz v n xs S :=
  h.kept fun b hb => f.block b (h.lt b hb) (hd b hb)
theorem OwnS.alloc {w : World} {e sz : Nat} {v : Value} {n : Nat} {xs : List Value} {S : List Nat} (h : OwnS w e sz v n xs S) (o : Obj) : OwnS (w.alloc o) e sz v n xs S :=
  h.fr ((Fr.refl [] w).alloc o) (by simp)
theorem OwnS.cellAt {w : World} {e sz : Nat} {g n cap : Nat} {xs : List Value} {S : List Nat} (h : OwnS w e sz (.slice (some ⟨g, 0, none⟩) n cap) n xs S) (j : Nat) (hj : j < n * sz) : w.cell? ⟨g, j, none⟩ = xs[j]? := by
  rcases h.2 with ⟨h, _⟩ | ⟨g', cap', cur, hv, _, hg, _, _, _, ht⟩
  · cases h
  · cases hv
    rw [← ht, List.getElem?_take_of_lt hj]
    simp [World.cell?, hg]
theorem OwnS.val {w : World} {e sz : Nat} {v : Value} {n : Nat} {xs : List Value} {S : List Nat} (h : OwnS w e sz v n xs S) : ∃ a cap, v = .slice a n cap := by
  rcases h.2 with ⟨rfl, rfl, rfl⟩ | ⟨g, cap, cur, hv, _⟩
  · exact ⟨_, _, rfl⟩
  · exact ⟨_, _, hv⟩
theorem OwnS.head {w : World} {e sz : Nat} {v : Value} {n : Nat} {xs : List Value} {S : List Nat} (h : OwnS w e sz v n xs S) (hn : 0 < n) : ∃ g cap, v = .slice (some ⟨g, 0, none⟩) n cap ∧ S = [g] := by
  rcases h.2 with ⟨rfl, rfl, rfl⟩ | ⟨g, cap, cur, hv, hS, _⟩
  · omega
  · exact ⟨_, _, hv, hS⟩

section
variable {P : Program} (w : World)
/-- append onto a slice that is nil or begins at its block's head: by its footprint. -/
theorem run_append_S (t ty e : TypeId) (i : TypeInfo) (z : Value) (size bytes : Nat) (ht : P.underlying t = some (.slice e)) (hi : P.info? e = some i) (hz : i.zero = some z)
    (hsize : i.size = size) (hby : i.bytes = bytes) (hzs : z.cells.size = size)
    (v : Value) (n : Nat) (xs : List Value) (S : List Nat) (hown : OwnS w e size v n xs S)
    (a : Addr) (m c : Nat) (news : List Value) (hl : news.length = m * size) (hnews : ∀ j u, news[j]? = some u → w.cell? (a.add j) = some u) (h1 : ∀ u ∈ news, u.oneCell' = true)
    (h63 : n + m ≤ maxLen) (hbytes : (n + m) * bytes ≤ 140737488355328) :
    ∃ v' w' S', (Builtin.append_ #[t, t] ty #[v, .slice (some a) m c]).run P w = .ok v' w' ∧ OwnS w' e size v' (n + m) (xs ++ news) S' ∧ Gr w S S' ∧ Fr S w w' := by
  subst hsize
  subst hby
  have hsmall : n + m ≤ 9223372036854775807 := by simp only [maxLen] at h63; omega
  have hlen : (xs ++ news).length = (n + m) * i.size := by rw [List.length_append, hown.1, hl, Nat.add_mul]
  have grown : ∀ (old : Nat), old < n + m →
      OwnS (w.drew.alloc (.cells (xs.toArray ++ news.toArray ++ Builtin.zeroCells z.cells (grownCap w (n + m) old e - (n + m))) e)) e i.size
        (.slice (some ⟨w.heap.size, 0, none⟩) (n + m) (grownCap w (n + m) old e)) (n + m) (xs ++ news) [w.heap.size] ∧
      Fr S w (w.drew.alloc (.cells (xs.toArray ++ news.toArray ++ Builtin.zeroCells z.cells (grownCap w (n + m) old e - (n + m))) e)) := by
    intro old ho
    have hge := grownCap_ge w (n + m) old e
    have hcm : grownCap w (n + m) old e ≤ maxLen := grownCap_le_maxLen w (n + m) old e h63
    refine ⟨⟨hlen, .inr ⟨w.heap.size, _, _, rfl, rfl, heap_alloc_new w.drew _, hge, hcm, ?_, ?_⟩⟩, (Fr.refl S w).drew.alloc _⟩
    · simp only [Array.size_append, List.size_toArray, size_zeroCells, hzs, hown.1, hl, ← Nat.add_mul]
      exact Nat.mul_le_mul_right _ (by omega)
    · simp only [Array.toList_append, List.append_assoc]
      rw [← List.append_assoc, ← hlen]
      exact List.take_left
  have hnew : Gr w S [w.heap.size] := fun b hb => by simp at hb; exact .inr (by omega)
  rcases hown.2 with ⟨rfl, rfl, rfl⟩ | ⟨g, cap, cur, rfl, rfl, hg, hnc, hcm, hcs, htake⟩
  · have hx : xs = [] := List.eq_nil_of_length_eq_zero (by simpa using hown.1)
    subst hx
    by_cases hm : m = 0
    · subst hm
      have hn : news = [] := List.eq_nil_of_length_eq_zero (by simpa using hl)
      subst hn
      refine ⟨.slice none 0 0, w, [], ?_, OwnS.nil w e i.size, Gr.nil _ _, Fr.refl _ _⟩
      simp [Builtin.append_, run_underlying ht, sizeOf, typeInfo, hi, Builtin.lenOf, Builtin.firstCells, loadCells, loadCellsFrom]
    · have hr := run_append_nil (P := P) w t ty e i z ht hi hz a m c news hl hnews (by omega) (by omega) (by have hb := hbytes; simp only [Nat.zero_add] at hb; omega)
      have hgr := grown 0 (by omega)
      simp only [Nat.zero_add, List.nil_append, Array.empty_append] at hgr ⊢
      exact ⟨_, _, _, hr, hgr.1, hnew, hgr.2⟩
  · by_cases hroom : n + m ≤ cap
    · have hfit : n * i.size + news.length ≤ cur.size := by rw [hl, ← Nat.add_mul]; exact Nat.le_trans (Nat.mul_le_mul_right _ hroom) hcs
      have hr := run_append_room (P := P) w t ty e i ht hi g n cap cur hg a m c news hl hnews h1 hroom hfit
      refine ⟨_, _, [g], hr, ⟨hlen, .inr ⟨g, cap, _, rfl, rfl, setRow_heap w g cur _ e _ hg, hroom, hcm, ?_, ?_⟩⟩, Gr.refl _ _, ⟨rfl, rfl, rfl, by simp, fun k hk hn => setRow_other w g k _ (fun e => hn (by simp [e]))⟩⟩
      · simp only [List.size_toArray, List.length_append, List.length_take, List.length_drop, Array.length_toList]
        omega
      · rw [htake, ← hlen]
        exact List.take_left
    · have holds : ∀ j u, xs[j]? = some u → w.cell? ((⟨g, 0, none⟩ : Addr).add j) = some u := by
        intro j u hj
        have hjl : j < n * i.size := by rw [← hown.1]; exact (List.getElem?_eq_some_iff.1 hj).1
        rw [Addr.add_lit]
        rw [show (0 + j) = j from by omega, hown.cellAt j hjl, hj]
      have hr := run_append_grow (P := P) w t ty e i z ht hi hz ⟨g, 0, none⟩ n cap xs hown.1 holds a m c news hl hnews (by omega) (by omega) (growslice_fits (by omega) hbytes)
      have hgr := grown cap (by omega)
      exact ⟨_, _, _, hr, hgr.1, hnew, hgr.2⟩
end

theorem wpList_append_S {P : Program} (w : World) {ops : Array Oper} {rest : List Oper} {o : Oper} {a : Act} {Q : Exit → Act → World → Prop} (hgd : o.guard = none) (s x : Operand) (t : TypeId)
    (ho : o.op = .call { callee := .builtin .append, args := #[s, x], argTypes := #[t, t] })
    (e : TypeId) (i : TypeInfo) (z : Value) (size bytes : Nat) (ht : P.underlying t = some (.slice e)) (hi : P.info? e = some i) (hz : i.zero = some z)
    (hsize : i.size = size) (hby : i.bytes = bytes) (hzs : z.cells.size = size)
    (v : Value) (n : Nat) (xs : List Value) (S : List Nat) (hs : a.eval s = v) (hown : OwnS w e size v n xs S)
    (ad : Addr) (m c : Nat) (news : List Value) (hx : a.eval x = .slice (some ad) m c) (hl : news.length = m * size) (hnews : ∀ j u, news[j]? = some u → w.cell? (ad.add j) = some u) (h1 : ∀ u ∈ news, u.oneCell' = true)
    (h63 : n + m ≤ maxLen) (hbytes : (n + m) * bytes ≤ 140737488355328)
    (h : ∀ v' w' S', OwnS w' e size v' (n + m) (xs ++ news) S' → Gr w S S' → Fr S w w' → wpList P ops Q rest (a.put o.dst v') w') : wpList P ops Q (o :: rest) a w := by
  refine wpList_plain hgd fun K hK => ?_
  obtain ⟨v', w', S', hr, h2, h3, h4⟩ := run_append_S (P := P) w t o.type e i z size bytes ht hi hz hsize hby hzs v n xs S hown ad m c news hl hnews h1 h63 hbytes
  unfold Oper.wp execOp
  simp only [ho, resolve, invoke, builtin, Sem.run_bind, Sem.run_pure, Result.andThen_ok, List.map_toArray, List.map_cons, List.map_nil, hs, hx, hr]
  exact hK _ _ (h v' w' S' h2 h3 h4)

theorem wpListIn_append_S {F : Fence} {k : Nat} {P : Program} (w : World) {ops : Array Oper} {rest : List Oper} {o : Oper} {a : Act} {Q : Exit → Act → World → Prop} (hgd : o.guard = none) (s x : Operand) (t : TypeId)
    (ho : o.op = .call { callee := .builtin .append, args := #[s, x], argTypes := #[t, t] })
    (e : TypeId) (i : TypeInfo) (z : Value) (size bytes : Nat) (ht : P.underlying t = some (.slice e)) (hi : P.info? e = some i) (hz : i.zero = some z)
    (hsize : i.size = size) (hby : i.bytes = bytes) (hzs : z.cells.size = size)
    (v : Value) (n : Nat) (xs : List Value) (S : List Nat) (hs : a.eval s = v) (hown : OwnS w e size v n xs S)
    (ad : Addr) (m c : Nat) (news : List Value) (hx : a.eval x = .slice (some ad) m c) (hl : news.length = m * size) (hnews : ∀ j u, news[j]? = some u → w.cell? (ad.add j) = some u) (h1 : ∀ u ∈ news, u.oneCell' = true)
    (h63 : n + m ≤ maxLen) (hbytes : (n + m) * bytes ≤ 140737488355328)
    (h : ∀ v' w' S', OwnS w' e size v' (n + m) (xs ++ news) S' → Gr w S S' → Fr S w w' → wpListIn F k P ops Q rest (a.put o.dst v') w') : wpListIn F k P ops Q (o :: rest) a w := by
  refine wpListIn_plain hgd fun K hK' => ?_
  obtain ⟨v', w', S', hrun, h2, h3, h4⟩ := run_append_S (P := P) w t o.type e i z size bytes ht hi hz hsize hby hzs v n xs S hown ad m c news hl hnews h1 h63 hbytes
  unfold Oper.wpIn
  refine ⟨?_, ?_⟩
  · simp [Oper.about, ho, resolve, Target.leads, Sem.run_pure]
  · rw [Oper.semAt_plain F _ _ (by rw [ho]; intro c hc'; cases hc')]
    simp [execOp, ho, resolve, invoke, builtin, hs, hx, hrun, Result.andThen]
    exact hK' _ _ (h v' w' S' h2 h3 h4)

/-! ### worlds that part in the count of draws alone -/
structure Sim (A B : World) : Prop where
  heap : B.heap = A.heap
  os : B.os = A.os
  tape : B.tape = A.tape
  output : B.output = A.output
theorem Fr.sim {S : List Nat} {w A B : World} (h : Fr S w A) (s : Sim A B) : Fr S w B :=
  ⟨s.os.trans h.os, s.tape.trans h.tape, s.output.trans h.output, by rw [s.heap]; exact h.size, fun b hb hn => by rw [s.heap]; exact h.block b hb hn⟩
theorem Blk.sim {A B : World} {b : Nat} {t : TypeId} {cs : List Value} (h : Blk A b t cs) (s : Sim A B) : Blk B b t cs := by unfold Blk at *; rw [s.heap]; exact h
theorem OwnS.sim {A B : World} {e sz : Nat} {v : Value} {n : Nat} {xs : List Value} {S : List Nat} (h : OwnS A e sz v n xs S) (s : Sim A B) : OwnS B e sz v n xs S := h.kept fun b _ => by rw [s.heap]

theorem Calls.named {P : Program} {f : FuncId} {args : Array Value} {w : World} {R : Ending → World → Prop} (h : ∀ W, W = w → Calls P f args W R) : Calls P f args w R := h w rfl

/-- a row that came in, by its block and place -/
theorem row_at {w : World} {x : Addr} {n : Nat} {V : Nat → Value} (h : ∀ i, i < n → w.cell? (x.add i) = some (V i)) (hn : 0 < n) :
    ∃ b off, x = ⟨b, off, none⟩ ∧ ∀ i, i < n → w.cell? ⟨b, off + i, none⟩ = some (V i) := by
  obtain ⟨b, off, sp⟩ := x
  have h0 := h 0 hn
  cases sp with
  | some s =>
    simp only [Addr.add, if_true, World.cell?] at h0
    cases hb : w.heap[b]? with
    | none => simp [hb] at h0
    | some o => cases o <;> simp [hb] at h0
  | none =>
    refine ⟨b, off, rfl, fun i hi => ?_⟩
    have := h i hi
    rwa [Addr.add_lit] at this

/-! ### make, copy -/
theorem run_make_S {P : Program} (w : World) (t e : TypeId) (i : TypeInfo) (z : Value) (sz bytes : Nat) (ht : P.underlying t = some (.slice e)) (hi : P.info? e = some i) (hz : i.zero = some z) (hsize : i.size = sz) (hby : i.bytes = bytes)
    (kl kc : IntKind) (c : Nat) (hbytes : bytes * c ≤ 281474976710656) (h63 : c ≤ 9223372036854775807) :
    ∃ w' zs, (Instr.makeSlice t (.int kl (c : Int)) (.int kc (c : Int))).run P w = .ok (.slice (some ⟨w.heap.size, 0, none⟩) c c) w' ∧ Blk w' w.heap.size e zs ∧ zs.length = c * sz ∧ Fr [] w w' ∧ w'.heap.size = w.heap.size + 1 ∧
      ∀ j, j < c * sz → zs[j]? = some (z.cells[j % z.cells.size]!) := by
  subst hsize
  subst hby
  have hb' : (i.bytes : Int) * (c : Int) ≤ 281474976710656 := by
    have h : ((i.bytes * c : Nat) : Int) ≤ 281474976710656 := by omega
    rwa [Int.natCast_mul] at h
  have hr := run_make (P := P) w t e i z ht hi hz kl kc c c (by omega) (Int.le_refl _) hb' (by omega)
  simp only [Int.toNat_natCast] at hr
  refine ⟨_, _, hr, Blk.new' _ _ _, by simp [madeCells], (Fr.refl _ _).alloc _, by simp, fun j hj => by simp [madeCells, hj]⟩

theorem wpList_make_S {P : Program} (w : World) {ops : Array Oper} {rest : List Oper} {o : Oper} {a : Act} {Q : Exit → Act → World → Prop} (hgd : o.guard = none) (l c : Operand) (t : TypeId) (ho : o.op = Op.makeSlice t l c)
    (e : TypeId) (i : TypeInfo) (z : Value) (sz bytes : Nat) (ht : P.underlying t = some (.slice e)) (hi : P.info? e = some i) (hz : i.zero = some z) (hsize : i.size = sz) (hby : i.bytes = bytes)
    (kl kc : IntKind) (L C : Int) (n : Nat) (hl : a.eval l = .int kl L) (hc : a.eval c = .int kc C) (hL : L = (n : Int)) (hC : C = (n : Int)) (hbytes : bytes * n ≤ 281474976710656) (h63 : n ≤ 9223372036854775807)
    (h : ∀ w' zs, Blk w' w.heap.size e zs → zs.length = n * sz → Fr [] w w' → w'.heap.size = w.heap.size + 1 → (∀ j, j < n * sz → zs[j]? = some (z.cells[j % z.cells.size]!)) →
      wpList P ops Q rest (a.put o.dst (.slice (some ⟨w.heap.size, 0, none⟩) n n)) w') : wpList P ops Q (o :: rest) a w := by
  refine wpList_plain hgd fun K hK => ?_
  obtain ⟨w', zs, hrun, h1, h2, h3, h4, h5⟩ := run_make_S (P := P) w t e i z sz bytes ht hi hz hsize hby kl kc n hbytes h63
  subst hL
  subst hC
  unfold Oper.wp
  simp [execOp, ho, hl, hc, hrun, Result.andThen]
  exact hK _ _ (h w' zs h1 h2 h3 h4 h5)

theorem run_copy_S {P : Program} (w : World) (dT sT ty elem : TypeId) (i : TypeInfo) (sz : Nat) (hu : P.underlying dT = some (.slice elem)) (hi : P.info? elem = some i) (hsize : i.size = sz)
    (g dLen dCap : Nat) (t : TypeId) (cur : List Value) (hg : Blk w g t cur) (v : Value) (n : Nat) (xs : List Value) (S : List Nat) (ho : OwnS w elem sz v n xs S) (hn : n ≤ dLen) (hfit : n * sz ≤ cur.length) (h1 : ∀ u ∈ xs, u.oneCell' = true) :
    ∃ w', (Builtin.copy_ #[dT, sT] ty #[.slice (some ⟨g, 0, none⟩) dLen dCap, v]).run P w = .ok (goInt n) w' ∧ Blk w' g t (xs ++ cur.drop xs.length) ∧ Fr [g] w w' := by
  subst hsize
  have hmin : Nat.min n dLen = n := Nat.min_eq_left hn
  have hxl := ho.1
  have hlast : Blk w g t cur := hg
  have hst := run_storeCells_at P g 0 t xs 0 cur.toArray w hg (by simp; omega) h1
  simp only [Nat.add_zero] at hst
  have hrow : ∀ cs : List Value, Blk (w.setRow g cs.toArray) g t cs ∧ Fr [g] w (w.setRow g cs.toArray) := fun cs =>
    ⟨setRow_heap w g cur.toArray _ t _ hg, ⟨rfl, rfl, rfl, by simp [World.setRow], fun k hk hn => setRow_other w g k _ (fun e => hn (by simp [e]))⟩⟩
  rcases ho.2 with ⟨rfl, rfl, rfl⟩ | ⟨g', cap, cc, rfl, rfl, hg', hnc, hcm, hcs, htake⟩
  · have hx : xs = [] := List.eq_nil_of_length_eq_zero (by simpa using hxl)
    subst hx
    refine ⟨w, ?_, by simpa using hg, Fr.refl _ _⟩
    simp [Builtin.copy_, run_underlying hu, Builtin.lenOf, Builtin.firstCells, sizeOf, typeInfo, hi, hmin, storeCells]
  · have hcells : ∀ j u, xs[j]? = some u → w.cell? ((⟨g', 0, none⟩ : Addr).add j) = some u := by
      intro j u hj
      have hjl : j < n * i.size := by rw [← hxl]; exact (List.getElem?_eq_some_iff.1 hj).1
      rw [Addr.add_lit, show (0 + j) = j from by omega, ho.cellAt j hjl, hj]
    have hf := run_firstCells_some (P := P) w i.size n ⟨g', 0, none⟩ n cap xs hxl hcells
    obtain ⟨b1, b2⟩ := hrow (xs ++ cur.drop xs.length)
    refine ⟨_, ?_, b1, b2⟩
    have hst' : (storeCells ⟨g, 0, none⟩ xs).run P w = .ok () (w.setRow g (xs ++ cur.drop xs.length).toArray) := by
      simpa using hst
    simp [Builtin.copy_, run_underlying hu, Builtin.lenOf, sizeOf, typeInfo, hi, hmin, hf, hst']

theorem wpList_copy_S {P : Program} (w : World) {ops : Array Oper} {rest : List Oper} {o : Oper} {a : Act} {Q : Exit → Act → World → Prop} (hgd : o.guard = none) (d s : Operand) (dT sT : TypeId)
    (hop : o.op = .call { callee := .builtin .copy, args := #[d, s], argTypes := #[dT, sT] })
    (elem : TypeId) (i : TypeInfo) (sz : Nat) (hu : P.underlying dT = some (.slice elem)) (hi : P.info? elem = some i) (hsize : i.size = sz)
    (g dLen dCap : Nat) (t : TypeId) (cur : List Value) (hd : a.eval d = .slice (some ⟨g, 0, none⟩) dLen dCap) (hg : Blk w g t cur) (v : Value) (n : Nat) (xs : List Value) (S : List Nat) (hs : a.eval s = v) (ho : OwnS w elem sz v n xs S) (hn : n ≤ dLen) (hfit : n * sz ≤ cur.length) (h1 : ∀ u ∈ xs, u.oneCell' = true)
    (h : ∀ w' cs', Blk w' g t cs' → cs'.length = cur.length → cs'.take (n * sz) = xs → Fr [g] w w' → wpList P ops Q rest (a.put o.dst (goInt n)) w') : wpList P ops Q (o :: rest) a w := by
  refine wpList_plain hgd fun K hK => ?_
  obtain ⟨w', hrun, h2, h3⟩ := run_copy_S (P := P) w dT sT o.type elem i sz hu hi hsize g dLen dCap t cur hg v n xs S ho hn hfit h1
  unfold Oper.wp
  simp [execOp, hop, resolve, invoke, builtin, hd, hs, hrun, Result.andThen]
  have hxl := ho.1
  exact hK _ _ (h w' _ h2 (by simp; omega) (by rw [← hxl]; exact List.take_left) h3)
end Go.Proofs.Yteojodcdehkejaa
/- The law of a range over a function, by footprints: at the outermost loop of a function and at a loop within a round. -/
namespace Go.Proofs.Yteojodcdehkejaa
open Go Go.RowKit

theorem wideIn {P : Program} {f : FuncId} {args : Array Value} {w : World} {R : Ending → World → Prop} (n : Nat) (h : Calls P f args w R) : CallsIn Fence.wide n P f args w R := callsIn_wide.2 h

theorem wide_fn (f : FuncId) : Fence.wide.fn f = True := rfl
theorem wide_depth : Fence.wide.depth = none := rfl
theorem wide_round : Fence.wide.round = none := rfl

/-- What I says of a world hangs on the blocks below n₀ and on those of its footprint alone. -/
def Loc {β : Type} (n₀ : Nat) (I : List Nat → β → World → Prop) : Prop :=
  ∀ S s A B T, I S s A → Fr T A B → (∀ b, b ∈ T → n₀ ≤ b ∧ b ∉ S) → I S s B

/-- The contract of an iterator value (function gf, captured lb) in the world w: it hands the elements of xs in their order to yield, and stops where that says false. -/
def SeqF {α : Type} (P : Program) (gf : Nat) (lb : Array Value) (encs : α → Array Value) (xs : List α) (w : World) : Prop :=
  ∀ (l : Nat) (I Ix : List Nat → List α → World → Prop) (S : List Nat) (W : World), Fr [] w W → (∀ b, b ∈ S → b < W.heap.size) → Loc W.heap.size I → Loc W.heap.size Ix →
    (∀ pre x post S1 W1, xs = pre ++ x :: post → W.heap.size ≤ W1.heap.size → Gr W S S1 → Fr S W W1 → I S1 pre W1 → YieldAt Fence.wide 0 P l (encs x) W1 fun e W' => ∃ S', Gr W1 S1 S' ∧ Fr S1 W1 W' ∧
      ((e = .returned (.bool true) ∧ I S' (pre ++ [x]) W') ∨ (e = .returned (.bool false) ∧ Ix S' (pre ++ [x]) W'))) →
    I S [] W →
    Calls P gf (#[.func (.yield l) #[] #[]] ++ lb) W fun e W' => (∃ v, e = .returned v) ∧ ∃ S', Gr W S S' ∧ Fr S W W' ∧
      (I S' xs W' ∨ ∃ pre x post, xs = pre ++ x :: post ∧ Ix S' (pre ++ [x]) W')

/-- How the body of a round may be left. -/
def postF {α : Type} (I : List Nat → List α → World → Prop) (Ix : Code → List Nat → List α → World → Prop) (S : List Nat) (xs : List α) (W : World) : Exit → Act → World → Prop
  | .normal, _, W' => ∃ S', Gr W S S' ∧ Fr S W W' ∧ I S' xs W'
  | .ret, _, W' => ∃ S', Gr W S S' ∧ Fr S W W' ∧ Ix .ret S' xs W'
  | .exit id, _, W' => ∃ S', Gr W S S' ∧ Fr S W W' ∧ Ix (.exit id) S' xs W'
  | .goto t, _, W' => ∃ S', Gr W S S' ∧ Fr S W W' ∧ Ix (.goto t) S' xs W'
  | .panic _, _, _ => False
  | .outgrown, _, _ => False

theorem Loc.put {β : Type} {n₀ : Nat} {I : List Nat → β → World → Prop} (h : Loc n₀ I) {S : List Nat} {s : β} {A : World} (l : Nat) (o : Obj) (hi : I S s A) (hl : n₀ ≤ l) (hn : l ∉ S) : I S s (A.putObj l o) :=
  h S s A _ [l] hi ((Fr.refl [l] A).putObj o (.inl (by simp))) (fun b hb => by simp at hb; subst hb; exact ⟨hl, hn⟩)
theorem Loc.alloc {β : Type} {n₀ : Nat} {I : List Nat → β → World → Prop} (h : Loc n₀ I) {S : List Nat} {s : β} {A : World} (o : Obj) (hi : I S s A) : I S s (A.alloc o) :=
  h S s A _ [] hi ((Fr.refl [] A).alloc o) (by simp)
theorem Loc.mono {β : Type} {n₀ n₁ : Nat} {I : List Nat → β → World → Prop} (h : Loc n₀ I) (hn : n₀ ≤ n₁) : Loc n₁ I :=
  fun S s A B T hi f ht => h S s A B T hi f (fun b hb => ⟨Nat.le_trans hn (ht b hb).1, (ht b hb).2⟩)

/-- one round's end: the record is put back -/
theorem round_fin {P : Program} {l : Nat} {rec : LoopState → Option Code → Loop} (hrec : ∀ st pe, (rec st pe).state = st ∧ { rec st pe with state := .busy } = rec .busy pe ∧ ∀ st' pe', { rec st pe with state := st', pending := pe' } = rec st' pe')
    (jump : Option Code) {W3 : World} (hl : W3.heap[l]? = some (.loop (rec .busy none))) :
    (Instr.endRound l jump).run P W3 = .ok (.bool jump.isNone) (W3.putObj l (.loop (rec (if jump.isNone then .ready else .done) jump))) ∧
      (W3.putObj l (.loop (rec (if jump.isNone then .ready else .done) jump))).heap[l]? = some (.loop (rec (if jump.isNone then .ready else .done) jump)) := by
  have := run_endRound (P := P) jump hl
  rw [(hrec .busy none).2.2] at this
  exact ⟨this, World.putObj_heap_same (Array.getElem?_eq_some_iff.1 hl).1⟩

theorem wp_rangeF {P : Program} {α : Type} {g : Operand} {ps : Array Tmp} {assign body : Code} {Q : Exit → Act → World → Prop} {a : Act} {w : World}
    {gf : Nat} {lb : Array Value} (hg : a.eval g = .func (.func gf) #[] lb) (eg : ∀ args w, (callFunc gf args).run P w = .ok (.enter gf args) w)
    {encs : α → Array Value} {xs : List α} (hseq : SeqF P gf lb encs xs w) (hps : ∀ x, (encs x).size = ps.size)
    (I : List Nat → List α → World → Prop) (Ix : Code → List Nat → List α → World → Prop) (S : List Nat) (hS : ∀ b, b ∈ S → b < w.heap.size)
    (hI : Loc w.heap.size I) (hIx : ∀ c, Loc w.heap.size (Ix c)) (h0 : I S [] w)
    (Ax : α → Act → List Nat → List α → World → Prop) (hAx : ∀ x a', Loc w.heap.size (Ax x a'))
    (hassign : ∀ l pre x post S1 W, xs = pre ++ x :: post → w.heap.size ≤ W.heap.size → Gr w S S1 → Fr S w W → w.heap.size ≤ l → l ∉ S1 → (∃ r, W.heap[l]? = some (.loop r)) → I S1 pre W →
      assign.wpIn (Fence.wide.inRound l) 0 P (Exit.then (fun a' W' => ∃ S', Gr W S1 S' ∧ Fr S1 W W' ∧ Ax x a' S' pre W') (fun _ _ _ => False))
        { tmps := (ps.zip (encs x)).foldl (fun t (p, v) => t.setIfInBounds p v) a.tmps, defers := [] } W)
    (hbody : ∀ l pre x post a' S1 W, xs = pre ++ x :: post → w.heap.size ≤ W.heap.size → Gr w S S1 → Fr S w W → w.heap.size ≤ l → l ∉ S1 → (∃ r, W.heap[l]? = some (.loop r)) → Ax x a' S1 pre W →
      body.wpIn (Fence.wide.inRound l) 0 P (postF I Ix S1 (pre ++ [x]) W) a' W)
    (hdone : ∀ D S' W, w.heap.size ≤ D → D ∉ S' → Gr w S S' → Fr S w W → I S' xs W → W.heap[D]? = some (.deferred (some [])) →
      Q .normal { a with defers := { target := .collected D, args := #[] } :: a.defers } W)
    (hstop : ∀ D c S' pre x post W, w.heap.size ≤ D → D ∉ S' → Gr w S S' → Fr S w W → xs = pre ++ x :: post → Ix c S' (pre ++ [x]) W → W.heap[D]? = some (.deferred (some [])) →
      c.wpIn Fence.wide 0 P Q { a with defers := { target := .collected D, args := #[] } :: a.defers } W) :
    (Code.rangeFunc g ps assign body).wpIn Fence.wide 0 P Q a w := by
  refine wpIn_rangeFunc ?_
  intro fn hfn
  rw [show Fence.wide.round = none from rfl]
  obtain ⟨rec, hrec⟩ : ∃ rec : LoopState → Option Code → Loop, rec = fun st pe => { state := st, pending := pe, fn, tmps := a.tmps, params := ps, assign, body, defers := w.heap.size } := ⟨_, rfl⟩
  have hrecs : ∀ st pe, (rec st pe).state = st ∧ { rec st pe with state := .busy } = rec .busy pe ∧ ∀ st' pe', { rec st pe with state := st', pending := pe' } = rec st' pe' := by
    rw [hrec]; exact fun _ _ => ⟨rfl, rfl, fun _ _ => rfl⟩
  obtain ⟨W1, hW1⟩ : ∃ W1, (w.alloc (.deferred (some []))).alloc (.loop (rec .ready none)) = W1 := ⟨_, rfl⟩
  have hL1 : W1.heap[w.heap.size + 1]? = some (.loop (rec .ready none)) := by
    rw [← hW1]; have := World.alloc_heap_new (w.alloc (.deferred (some []))) (.loop (rec .ready none)); rwa [World.size_alloc] at this
  have hK1 : W1.heap[w.heap.size]? = some (.deferred (some [])) := by
    rw [← hW1]; exact (Below.heap_alloc _ _ _ (by simp)).trans (World.alloc_heap_new w _)
  have hI1 : I S [] W1 := by rw [← hW1]; exact hI.alloc _ (hI.alloc _ h0)
  have hz1 : W1.heap.size = w.heap.size + 2 := by rw [← hW1]; simp
  have hf1 : ∀ T, Fr T w W1 := fun T => by rw [← hW1]; exact ((Fr.refl T w).alloc _).alloc _
  have hSn : ∀ b, b ∈ S → b ≠ w.heap.size ∧ b ≠ w.heap.size + 1 := fun b hb => by have := hS b hb; omega
  refine ⟨w.heap.size + 1, [{ target := .collected w.heap.size, args := #[] }], W1, { target := .fn (.func gf) lb, args := #[.func (.yield (w.heap.size + 1)) #[] #[]] }, W1, gf,
    #[.func (.yield (w.heap.size + 1)) #[] #[]] ++ lb, W1, ?_, ?_, ?_, ?_, ?_, ?_⟩
  · rw [← hW1, hrec]; exact run_enterLoop_outer _ _ _ _ _
  · simp only [resolve, hg]
    simp [go_sem]
  · intro f' _; exact trivial
  · simp [invoke, go_sem, eg]
  · intro h; simp [Fence.wide] at h
  · -- the whole: the record and the block for deferred calls beside the caller's own
    have locB : ∀ (J : List Nat → List α → World → Prop) (hJ : Loc w.heap.size J) (st : LoopState) (pe : Option Code),
        Loc W1.heap.size (fun S' pre W => ∃ S0, S' = (w.heap.size + 1) :: S0 ∧ w.heap.size ∉ S0 ∧ (w.heap.size + 1) ∉ S0 ∧ J S0 pre W ∧ W.heap[w.heap.size + 1]? = some (.loop (rec st pe)) ∧ W.heap[w.heap.size]? = some (.deferred (some [])) ∧ w.heap.size + 2 ≤ W.heap.size) := by
      intro J hJ st pe S' pre A B T hs f ht
      obtain ⟨S0, rfl, hd, hl, hi, hr, hk, hz⟩ := hs
      refine ⟨S0, rfl, hd, hl, hJ S0 pre A B T hi f (fun b hb => ?_), ?_, ?_, by have := f.size; omega⟩
      · have := ht b hb
        refine ⟨by omega, fun hm => this.2 (by simp [hm])⟩
      · exact (f.block _ (by omega) (fun hm => by have := (ht _ hm).2; simp at this)).trans hr
      · exact (f.block _ (by omega) (fun hm => by have := (ht _ hm).1; omega)).trans hk
    have locX : Loc W1.heap.size (fun S' pre W => ∃ c S0, S' = (w.heap.size + 1) :: S0 ∧ w.heap.size ∉ S0 ∧ (w.heap.size + 1) ∉ S0 ∧ Ix c S0 pre W ∧ W.heap[w.heap.size + 1]? = some (.loop (rec .done (some c))) ∧ W.heap[w.heap.size]? = some (.deferred (some [])) ∧ w.heap.size + 2 ≤ W.heap.size) := by
      intro S' pre A B T hs f ht
      obtain ⟨c, hc⟩ := hs
      exact ⟨c, locB (Ix c) (hIx c) .done (some c) S' pre A B T hc f ht⟩
    refine (callsIn_wide.2 (hseq (w.heap.size + 1)
      (fun S' pre W => ∃ S0, S' = (w.heap.size + 1) :: S0 ∧ w.heap.size ∉ S0 ∧ (w.heap.size + 1) ∉ S0 ∧ I S0 pre W ∧ W.heap[w.heap.size + 1]? = some (.loop (rec .ready none)) ∧ W.heap[w.heap.size]? = some (.deferred (some [])) ∧ w.heap.size + 2 ≤ W.heap.size)
      (fun S' pre W => ∃ c S0, S' = (w.heap.size + 1) :: S0 ∧ w.heap.size ∉ S0 ∧ (w.heap.size + 1) ∉ S0 ∧ Ix c S0 pre W ∧ W.heap[w.heap.size + 1]? = some (.loop (rec .done (some c))) ∧ W.heap[w.heap.size]? = some (.deferred (some [])) ∧ w.heap.size + 2 ≤ W.heap.size)
      ((w.heap.size + 1) :: S) W1 (hf1 []) (fun b hb => by
        rcases List.mem_cons.1 hb with rfl | hb
        · omega
        · have := hS b hb; omega)
      (locB I hI .ready none) locX ?_ ⟨S, rfl, fun h => (hSn _ h).1 rfl, fun h => (hSn _ h).2 rfl, hI1, hL1, hK1, by omega⟩)).mono ?_
    · -- one round
      rintro pre x post S1 W hx hzW hgW hfW ⟨S0, rfl, hd, hl, hi, hr, hk, hz⟩
      have hg0 : Gr w S S0 := fun b hb => by
        rcases hgW b (List.mem_cons_of_mem _ hb) with h | h
        · rcases List.mem_cons.1 h with rfl | h
          · exact absurd hb hl
          · exact .inl h
        · right; omega
      have hf0 : Fr S w W := (hf1 S).trans (fun b hb => by
        rcases List.mem_cons.1 hb with rfl | hb
        · right; omega
        · exact .inl hb) hfW
      have hy := run_yield (P := P) (args := encs x) hr (by rw [hrec]; exact hps x)
      refine ⟨_, _, _, _, hy, ?_⟩
      rw [show (rec .ready none).assign = assign from by rw [hrec], show (rec .ready none).body = body from by rw [hrec], show (rec .ready none).fn = fn from by rw [hrec], show (rec .ready none).params = ps from by rw [hrec], show (rec .ready none).tmps = a.tmps from by rw [hrec]]
      refine roundIn_of_wpIn trivial (wpIn_mono (hassign _ pre x post S0 W hx (by omega) hg0 hf0 (by omega) hl ⟨_, hr⟩ hi) ?_)
      rintro e a' Wa hp
      cases e with
      | normal =>
        obtain ⟨S2, hg2, hf2, hax⟩ := hp
        have hl2 : w.heap.size + 1 ∉ S2 := hg2.notMem (by omega) hl
        have hd2 : w.heap.size ∉ S2 := hg2.notMem (by omega) hd
        have hza := hf2.size
        have hra : Wa.heap[w.heap.size + 1]? = some (.loop (rec .ready none)) := (hf2.block _ (by omega) hl).trans hr
        have hka : Wa.heap[w.heap.size]? = some (.deferred (some [])) := (hf2.block _ (by omega) hd).trans hk
        have hbr := run_beginRound (P := P) hra (hrecs _ _).1
        rw [(hrecs _ _).2.1] at hbr
        refine ⟨_, hbr, ?_⟩
        have hgA : Gr w S S2 := hg0.trans hf0.size hg2
        have hfA : Fr S w Wa := hf0.trans hg0 hf2
        obtain ⟨Wb, hWb⟩ : ∃ Wb, Wa.putObj (w.heap.size + 1) (.loop (rec .busy none)) = Wb := ⟨_, rfl⟩
        have hzb : Wb.heap.size = Wa.heap.size := by rw [← hWb]; simp
        have hrb : Wb.heap[w.heap.size + 1]? = some (.loop (rec .busy none)) := by rw [← hWb]; exact World.putObj_heap_same (by omega)
        have hkb : Wb.heap[w.heap.size]? = some (.deferred (some [])) := by rw [← hWb]; exact (World.putObj_heap_other (by omega)).trans hka
        have hfB : Fr S w Wb := by rw [← hWb]; exact hfA.putObj _ (.inr (by omega))
        have haxb : Ax x a' S2 pre Wb := by rw [← hWb]; exact (hAx x a').put _ _ hax (by omega) hl2
        have f2 : Fr ((w.heap.size + 1) :: S0) W Wb := by rw [← hWb]; exact (hf2.mono (fun b hb => List.mem_cons_of_mem _ hb)).putObj _ (.inl (by simp))
        rw [hWb]
        refine wpIn_mono (hbody _ pre x post a' S2 Wb hx (by omega) hgA hfB (by omega) hl2 ⟨_, hrb⟩ haxb) ?_
        have fin : ∀ (J : List Nat → List α → World → Prop) (jump : Option Code) (S3 : List Nat) (W3 : World), Loc w.heap.size J → Gr Wb S2 S3 → Fr S2 Wb W3 → J S3 (pre ++ [x]) W3 →
            (Instr.endRound (w.heap.size + 1) jump).run P W3 = .ok (.bool jump.isNone) (W3.putObj (w.heap.size + 1) (.loop (rec (if jump.isNone then .ready else .done) jump))) ∧
            Gr W ((w.heap.size + 1) :: S0) ((w.heap.size + 1) :: S3) ∧ Fr ((w.heap.size + 1) :: S0) W (W3.putObj (w.heap.size + 1) (.loop (rec (if jump.isNone then .ready else .done) jump))) ∧
            w.heap.size ∉ S3 ∧ (w.heap.size + 1) ∉ S3 ∧ J S3 (pre ++ [x]) (W3.putObj (w.heap.size + 1) (.loop (rec (if jump.isNone then .ready else .done) jump))) ∧
            (W3.putObj (w.heap.size + 1) (.loop (rec (if jump.isNone then .ready else .done) jump))).heap[w.heap.size + 1]? = some (.loop (rec (if jump.isNone then .ready else .done) jump)) ∧
            (W3.putObj (w.heap.size + 1) (.loop (rec (if jump.isNone then .ready else .done) jump))).heap[w.heap.size]? = some (.deferred (some [])) ∧
            w.heap.size + 2 ≤ (W3.putObj (w.heap.size + 1) (.loop (rec (if jump.isNone then .ready else .done) jump))).heap.size := by
          intro J jump S3 W3 hJ hg3 hf3 hj3
          have hz3 := hf3.size
          have hl3 : w.heap.size + 1 ∉ S3 := hg3.notMem (by omega) hl2
          have hr3 : W3.heap[w.heap.size + 1]? = some (.loop (rec .busy none)) := (hf3.block _ (by omega) hl2).trans hrb
          obtain ⟨he, hh⟩ := round_fin (P := P) hrecs jump hr3
          refine ⟨he, ?_, ?_, hg3.notMem (by omega) hd2, hl3, hJ.put _ _ hj3 (by omega) hl3, hh, (World.putObj_heap_other (by omega)).trans ((hf3.block _ (by omega) hd2).trans hkb), by simp; omega⟩
          · refine Gr.cons _ (hg2.trans hf2.size (hg3.size (by omega)))
          · exact (f2.trans (hg2.mono (fun b hb => List.mem_cons_of_mem _ hb)) hf3).putObj _ (.inl (by simp))
        rintro e2 a3 W3 hp3
        cases e2 with
        | normal =>
          obtain ⟨S3, hg3, hf3, hi3⟩ := hp3
          obtain ⟨h1, h2, h3, h4⟩ := fin I none S3 W3 hI hg3 hf3 hi3
          exact ⟨_, _, h1, _, h2, h3, .inl ⟨rfl, S3, rfl, h4⟩⟩
        | ret =>
          obtain ⟨S3, hg3, hf3, hi3⟩ := hp3
          obtain ⟨h1, h2, h3, h4⟩ := fin (Ix .ret) (some .ret) S3 W3 (hIx _) hg3 hf3 hi3
          exact ⟨_, _, h1, _, h2, h3, .inr ⟨rfl, .ret, S3, rfl, h4⟩⟩
        | exit id =>
          obtain ⟨S3, hg3, hf3, hi3⟩ := hp3
          obtain ⟨h1, h2, h3, h4⟩ := fin (Ix (.exit id)) (some (.exit id)) S3 W3 (hIx _) hg3 hf3 hi3
          exact ⟨_, _, h1, _, h2, h3, .inr ⟨rfl, .exit id, S3, rfl, h4⟩⟩
        | goto t =>
          obtain ⟨S3, hg3, hf3, hi3⟩ := hp3
          obtain ⟨h1, h2, h3, h4⟩ := fin (Ix (.goto t)) (some (.goto t)) S3 W3 (hIx _) hg3 hf3 hi3
          exact ⟨_, _, h1, _, h2, h3, .inr ⟨rfl, .goto t, S3, rfl, h4⟩⟩
        | panic ch => exact hp3.elim
        | outgrown => exact hp3.elim
      | ret => exact hp.elim
      | exit id => exact hp.elim
      | goto t => exact hp.elim
      | panic ch => exact hp.elim
      | outgrown => exact hp.elim
    · -- behind the iterator
      have back : ∀ (J : List Nat → List α → World → Prop) (st : LoopState) (pe : Option Code) (S' : List Nat) (pre : List α) (W2 : World), Loc w.heap.size J → st ≠ .busy → Gr W1 ((w.heap.size + 1) :: S) S' → Fr ((w.heap.size + 1) :: S) W1 W2 →
          (∃ S0, S' = (w.heap.size + 1) :: S0 ∧ w.heap.size ∉ S0 ∧ (w.heap.size + 1) ∉ S0 ∧ J S0 pre W2 ∧ W2.heap[w.heap.size + 1]? = some (.loop (rec st pe)) ∧ W2.heap[w.heap.size]? = some (.deferred (some [])) ∧ w.heap.size + 2 ≤ W2.heap.size) →
          ∃ W3 S0, (Instr.endLoop (w.heap.size + 1)).run P W2 = .ok pe W3 ∧ w.heap.size ∉ S0 ∧ Gr w S S0 ∧ Fr S w W3 ∧ J S0 pre W3 ∧ W3.heap[w.heap.size]? = some (.deferred (some [])) := by
        intro J st pe S' pre W2 hJ hst hg2 hf2 ⟨S0, hS0, hd, hl, hj, hr, hk, hz⟩
        subst hS0
        have := run_endLoop (P := P) hr (by rw [(hrecs _ _).1]; exact hst)
        refine ⟨_, S0, by rw [this, show (rec st pe).pending = pe from by rw [hrec]], hd, ?_, ?_, hJ.put _ _ hj (by omega) hl, (World.putObj_heap_other (by omega)).trans hk⟩
        · intro b hb
          rcases hg2 b (List.mem_cons_of_mem _ hb) with h | h
          · rcases List.mem_cons.1 h with rfl | h
            · exact absurd hb hl
            · exact .inl h
          · right; omega
        · exact ((hf1 S).trans (fun b hb => by
            rcases List.mem_cons.1 hb with rfl | hb
            · right; omega
            · exact .inl hb) hf2).putObj _ (.inr (by omega))
      rintro e W2 ⟨⟨v, rfl⟩, S', hg2, hf2, h | ⟨pre, x, post, hx, c, h⟩⟩
      · obtain ⟨W3, S0, h1, h2, h3, h4, h5, h6⟩ := back I .ready none S' xs W2 hI (by simp) hg2 hf2 h
        exact ⟨none, W3, h1, hdone _ S0 W3 (Nat.le_refl _) h2 h3 h4 h5 h6⟩
      · obtain ⟨W3, S0, h1, h2, h3, h4, h5, h6⟩ := back (Ix c) .done (some c) S' (pre ++ [x]) W2 (hIx c) (by simp) hg2 hf2 h
        exact ⟨some c, W3, h1, hstop _ c S0 pre x post W3 (Nat.le_refl _) h2 h3 h4 hx h5 h6⟩

/-- The same at a loop within a round of the loop l₀. -/
theorem wp_rangeF_in {P : Program} {α : Type} {g : Operand} {ps : Array Tmp} {assign body : Code} {Q : Exit → Act → World → Prop} {a : Act} {w : World} {l₀ : Nat} {r₀ : Loop} (hl₀ : w.heap[l₀]? = some (.loop r₀))
    {gf : Nat} {lb : Array Value} (hg : a.eval g = .func (.func gf) #[] lb) (eg : ∀ args w, (callFunc gf args).run P w = .ok (.enter gf args) w)
    {encs : α → Array Value} {xs : List α} (hseq : SeqF P gf lb encs xs w) (hps : ∀ x, (encs x).size = ps.size)
    (I : List Nat → List α → World → Prop) (Ix : Code → List Nat → List α → World → Prop) (S : List Nat) (hS : ∀ b, b ∈ S → b < w.heap.size)
    (hI : Loc w.heap.size I) (hIx : ∀ c, Loc w.heap.size (Ix c)) (h0 : I S [] w)
    (Ax : α → Act → List Nat → List α → World → Prop) (hAx : ∀ x a', Loc w.heap.size (Ax x a'))
    (hassign : ∀ l pre x post S1 W, xs = pre ++ x :: post → w.heap.size ≤ W.heap.size → Gr w S S1 → Fr S w W → w.heap.size ≤ l → l ∉ S1 → (∃ r, W.heap[l]? = some (.loop r)) → I S1 pre W →
      assign.wpIn (Fence.wide.inRound l) 0 P (Exit.then (fun a' W' => ∃ S', Gr W S1 S' ∧ Fr S1 W W' ∧ Ax x a' S' pre W') (fun _ _ _ => False))
        { tmps := (ps.zip (encs x)).foldl (fun t (p, v) => t.setIfInBounds p v) a.tmps, defers := [] } W)
    (hbody : ∀ l pre x post a' S1 W, xs = pre ++ x :: post → w.heap.size ≤ W.heap.size → Gr w S S1 → Fr S w W → w.heap.size ≤ l → l ∉ S1 → (∃ r, W.heap[l]? = some (.loop r)) → Ax x a' S1 pre W →
      body.wpIn (Fence.wide.inRound l) 0 P (postF I Ix S1 (pre ++ [x]) W) a' W)
    (hdone : ∀ S' W, Gr w S S' → Fr S w W → I S' xs W → Q .normal a W)
    (hstop : ∀ c S' pre x post W, Gr w S S' → Fr S w W → xs = pre ++ x :: post → Ix c S' (pre ++ [x]) W → c.wpIn (Fence.wide.inRound l₀) 0 P Q a W) :
    (Code.rangeFunc g ps assign body).wpIn (Fence.wide.inRound l₀) 0 P Q a w := by
  refine wpIn_rangeFunc ?_
  intro fn hfn
  rw [show (Fence.wide.inRound l₀).round = some l₀ from rfl]
  obtain ⟨rec, hrec⟩ : ∃ rec : LoopState → Option Code → Loop, rec = fun st pe => { state := st, pending := pe, fn, tmps := a.tmps, params := ps, assign, body, defers := r₀.defers } := ⟨_, rfl⟩
  have hrecs : ∀ st pe, (rec st pe).state = st ∧ { rec st pe with state := .busy } = rec .busy pe ∧ ∀ st' pe', { rec st pe with state := st', pending := pe' } = rec st' pe' := by
    rw [hrec]; exact fun _ _ => ⟨rfl, rfl, fun _ _ => rfl⟩
  obtain ⟨W1, hW1⟩ : ∃ W1, w.alloc (.loop (rec .ready none)) = W1 := ⟨_, rfl⟩
  have hL1 : W1.heap[w.heap.size]? = some (.loop (rec .ready none)) := by rw [← hW1]; exact World.alloc_heap_new w _
  have hI1 : I S [] W1 := by rw [← hW1]; exact hI.alloc _ h0
  have hz1 : W1.heap.size = w.heap.size + 1 := by rw [← hW1]; simp
  have hf1 : ∀ T, Fr T w W1 := fun T => by rw [← hW1]; exact (Fr.refl T w).alloc _
  have hSn : ∀ b, b ∈ S → b ≠ w.heap.size := fun b hb => by have := hS b hb; omega
  refine ⟨w.heap.size, [], W1, { target := .fn (.func gf) lb, args := #[.func (.yield w.heap.size) #[] #[]] }, W1, gf,
    #[.func (.yield w.heap.size) #[] #[]] ++ lb, W1, ?_, ?_, ?_, ?_, ?_, ?_⟩
  · rw [← hW1, hrec]; exact run_enterLoop_inner hl₀ _ _ _ _ _
  · simp only [resolve, hg]
    simp [go_sem]
  · intro f' _; exact trivial
  · simp [invoke, go_sem, eg]
  · intro h; simp [Fence.wide] at h
  · have locB : ∀ (J : List Nat → List α → World → Prop) (hJ : Loc w.heap.size J) (st : LoopState) (pe : Option Code),
        Loc W1.heap.size (fun S' pre W => ∃ S0, S' = w.heap.size :: S0 ∧ w.heap.size ∉ S0 ∧ J S0 pre W ∧ W.heap[w.heap.size]? = some (.loop (rec st pe)) ∧ w.heap.size + 1 ≤ W.heap.size) := by
      intro J hJ st pe S' pre A B T hs f ht
      obtain ⟨S0, rfl, hl, hi, hr, hz⟩ := hs
      refine ⟨S0, rfl, hl, hJ S0 pre A B T hi f (fun b hb => ?_), ?_, by have := f.size; omega⟩
      · have := ht b hb
        refine ⟨by omega, fun hm => this.2 (by simp [hm])⟩
      · exact (f.block _ (by omega) (fun hm => by have := (ht _ hm).2; simp at this)).trans hr
    have locX : Loc W1.heap.size (fun S' pre W => ∃ c S0, S' = w.heap.size :: S0 ∧ w.heap.size ∉ S0 ∧ Ix c S0 pre W ∧ W.heap[w.heap.size]? = some (.loop (rec .done (some c))) ∧ w.heap.size + 1 ≤ W.heap.size) := by
      intro S' pre A B T hs f ht
      obtain ⟨c, hc⟩ := hs
      exact ⟨c, locB (Ix c) (hIx c) .done (some c) S' pre A B T hc f ht⟩
    refine (CallsIn.inRound l₀ (callsIn_wide.2 (hseq w.heap.size
      (fun S' pre W => ∃ S0, S' = w.heap.size :: S0 ∧ w.heap.size ∉ S0 ∧ I S0 pre W ∧ W.heap[w.heap.size]? = some (.loop (rec .ready none)) ∧ w.heap.size + 1 ≤ W.heap.size)
      (fun S' pre W => ∃ c S0, S' = w.heap.size :: S0 ∧ w.heap.size ∉ S0 ∧ Ix c S0 pre W ∧ W.heap[w.heap.size]? = some (.loop (rec .done (some c))) ∧ w.heap.size + 1 ≤ W.heap.size)
      (w.heap.size :: S) W1 (hf1 []) (fun b hb => by
        rcases List.mem_cons.1 hb with rfl | hb
        · omega
        · have := hS b hb; omega)
      (locB I hI .ready none) locX ?_ ⟨S, rfl, fun h => hSn _ h rfl, hI1, hL1, by omega⟩))).mono ?_
    · -- one round
      rintro pre x post S1 W hx hzW hgW hfW ⟨S0, rfl, hl, hi, hr, hz⟩
      have hg0 : Gr w S S0 := fun b hb => by
        rcases hgW b (List.mem_cons_of_mem _ hb) with h | h
        · rcases List.mem_cons.1 h with rfl | h
          · exact absurd hb hl
          · exact .inl h
        · right; omega
      have hf0 : Fr S w W := (hf1 S).trans (fun b hb => by
        rcases List.mem_cons.1 hb with rfl | hb
        · right; omega
        · exact .inl hb) hfW
      have hy := run_yield (P := P) (args := encs x) hr (by rw [hrec]; exact hps x)
      refine ⟨_, _, _, _, hy, ?_⟩
      rw [show (rec .ready none).assign = assign from by rw [hrec], show (rec .ready none).body = body from by rw [hrec], show (rec .ready none).fn = fn from by rw [hrec], show (rec .ready none).params = ps from by rw [hrec], show (rec .ready none).tmps = a.tmps from by rw [hrec]]
      refine roundIn_of_wpIn trivial (wpIn_mono (hassign _ pre x post S0 W hx (by omega) hg0 hf0 (Nat.le_refl _) hl ⟨_, hr⟩ hi) ?_)
      rintro e a' Wa hp
      cases e with
      | normal =>
        obtain ⟨S2, hg2, hf2, hax⟩ := hp
        have hl2 : w.heap.size ∉ S2 := hg2.notMem (by omega) hl
        have hza := hf2.size
        have hra : Wa.heap[w.heap.size]? = some (.loop (rec .ready none)) := (hf2.block _ (by omega) hl).trans hr
        have hbr := run_beginRound (P := P) hra (hrecs _ _).1
        rw [(hrecs _ _).2.1] at hbr
        refine ⟨_, hbr, ?_⟩
        have hgA : Gr w S S2 := hg0.trans hf0.size hg2
        have hfA : Fr S w Wa := hf0.trans hg0 hf2
        obtain ⟨Wb, hWb⟩ : ∃ Wb, Wa.putObj w.heap.size (.loop (rec .busy none)) = Wb := ⟨_, rfl⟩
        have hzb : Wb.heap.size = Wa.heap.size := by rw [← hWb]; simp
        have hrb : Wb.heap[w.heap.size]? = some (.loop (rec .busy none)) := by rw [← hWb]; exact World.putObj_heap_same (by omega)
        have hfB : Fr S w Wb := by rw [← hWb]; exact hfA.putObj _ (.inr (by omega))
        have haxb : Ax x a' S2 pre Wb := by rw [← hWb]; exact (hAx x a').put _ _ hax (Nat.le_refl _) hl2
        have f2 : Fr (w.heap.size :: S0) W Wb := by rw [← hWb]; exact (hf2.mono (fun b hb => List.mem_cons_of_mem _ hb)).putObj _ (.inl (by simp))
        rw [hWb]
        refine wpIn_mono (hbody _ pre x post a' S2 Wb hx (by omega) hgA hfB (Nat.le_refl _) hl2 ⟨_, hrb⟩ haxb) ?_
        have fin : ∀ (J : List Nat → List α → World → Prop) (jump : Option Code) (S3 : List Nat) (W3 : World), Loc w.heap.size J → Gr Wb S2 S3 → Fr S2 Wb W3 → J S3 (pre ++ [x]) W3 →
            (Instr.endRound w.heap.size jump).run P W3 = .ok (.bool jump.isNone) (W3.putObj w.heap.size (.loop (rec (if jump.isNone then .ready else .done) jump))) ∧
            Gr W (w.heap.size :: S0) (w.heap.size :: S3) ∧ Fr (w.heap.size :: S0) W (W3.putObj w.heap.size (.loop (rec (if jump.isNone then .ready else .done) jump))) ∧
            w.heap.size ∉ S3 ∧ J S3 (pre ++ [x]) (W3.putObj w.heap.size (.loop (rec (if jump.isNone then .ready else .done) jump))) ∧
            (W3.putObj w.heap.size (.loop (rec (if jump.isNone then .ready else .done) jump))).heap[w.heap.size]? = some (.loop (rec (if jump.isNone then .ready else .done) jump)) ∧
            w.heap.size + 1 ≤ (W3.putObj w.heap.size (.loop (rec (if jump.isNone then .ready else .done) jump))).heap.size := by
          intro J jump S3 W3 hJ hg3 hf3 hj3
          have hz3 := hf3.size
          have hl3 : w.heap.size ∉ S3 := hg3.notMem (by omega) hl2
          have hr3 : W3.heap[w.heap.size]? = some (.loop (rec .busy none)) := (hf3.block _ (by omega) hl2).trans hrb
          obtain ⟨he, hh⟩ := round_fin (P := P) hrecs jump hr3
          refine ⟨he, ?_, ?_, hl3, hJ.put _ _ hj3 (Nat.le_refl _) hl3, hh, by simp; omega⟩
          · refine Gr.cons _ (hg2.trans hf2.size (hg3.size (by omega)))
          · exact (f2.trans (hg2.mono (fun b hb => List.mem_cons_of_mem _ hb)) hf3).putObj _ (.inl (by simp))
        rintro e2 a3 W3 hp3
        cases e2 with
        | normal =>
          obtain ⟨S3, hg3, hf3, hi3⟩ := hp3
          obtain ⟨h1, h2, h3, h4⟩ := fin I none S3 W3 hI hg3 hf3 hi3
          exact ⟨_, _, h1, _, h2, h3, .inl ⟨rfl, S3, rfl, h4⟩⟩
        | ret =>
          obtain ⟨S3, hg3, hf3, hi3⟩ := hp3
          obtain ⟨h1, h2, h3, h4⟩ := fin (Ix .ret) (some .ret) S3 W3 (hIx _) hg3 hf3 hi3
          exact ⟨_, _, h1, _, h2, h3, .inr ⟨rfl, .ret, S3, rfl, h4⟩⟩
        | exit id =>
          obtain ⟨S3, hg3, hf3, hi3⟩ := hp3
          obtain ⟨h1, h2, h3, h4⟩ := fin (Ix (.exit id)) (some (.exit id)) S3 W3 (hIx _) hg3 hf3 hi3
          exact ⟨_, _, h1, _, h2, h3, .inr ⟨rfl, .exit id, S3, rfl, h4⟩⟩
        | goto t =>
          obtain ⟨S3, hg3, hf3, hi3⟩ := hp3
          obtain ⟨h1, h2, h3, h4⟩ := fin (Ix (.goto t)) (some (.goto t)) S3 W3 (hIx _) hg3 hf3 hi3
          exact ⟨_, _, h1, _, h2, h3, .inr ⟨rfl, .goto t, S3, rfl, h4⟩⟩
        | panic ch => exact hp3.elim
        | outgrown => exact hp3.elim
      | ret => exact hp.elim
      | exit id => exact hp.elim
      | goto t => exact hp.elim
      | panic ch => exact hp.elim
      | outgrown => exact hp.elim
    · -- behind the iterator
      have back : ∀ (J : List Nat → List α → World → Prop) (st : LoopState) (pe : Option Code) (S' : List Nat) (pre : List α) (W2 : World), Loc w.heap.size J → st ≠ .busy → Gr W1 (w.heap.size :: S) S' → Fr (w.heap.size :: S) W1 W2 →
          (∃ S0, S' = w.heap.size :: S0 ∧ w.heap.size ∉ S0 ∧ J S0 pre W2 ∧ W2.heap[w.heap.size]? = some (.loop (rec st pe)) ∧ w.heap.size + 1 ≤ W2.heap.size) →
          ∃ W3 S0, (Instr.endLoop w.heap.size).run P W2 = .ok pe W3 ∧ Gr w S S0 ∧ Fr S w W3 ∧ J S0 pre W3 := by
        intro J st pe S' pre W2 hJ hst hg2 hf2 ⟨S0, hS0, hl, hj, hr, hz⟩
        subst hS0
        have := run_endLoop (P := P) hr (by rw [(hrecs _ _).1]; exact hst)
        refine ⟨_, S0, by rw [this, show (rec st pe).pending = pe from by rw [hrec]], ?_, ?_, hJ.put _ _ hj (Nat.le_refl _) hl⟩
        · intro b hb
          rcases hg2 b (List.mem_cons_of_mem _ hb) with h | h
          · rcases List.mem_cons.1 h with rfl | h
            · exact absurd hb hl
            · exact .inl h
          · right; omega
        · exact ((hf1 S).trans (fun b hb => by
            rcases List.mem_cons.1 hb with rfl | hb
            · right; omega
            · exact .inl hb) hf2).putObj _ (.inr (by omega))
      rintro e W2 ⟨⟨v, rfl⟩, S', hg2, hf2, h | ⟨pre, x, post, hx, c, h⟩⟩
      · obtain ⟨W3, S0, h1, h3, h4, h5⟩ := back I .ready none S' xs W2 hI (by simp) hg2 hf2 h
        exact ⟨none, W3, h1, hdone S0 W3 h3 h4 h5⟩
      · obtain ⟨W3, S0, h1, h3, h4, h5⟩ := back (Ix c) .done (some c) S' (pre ++ [x]) W2 (hIx c) (by simp) hg2 hf2 h
        exact ⟨some c, W3, h1, hstop c S0 pre x post W3 h3 h4 hx h5⟩

/-- .. where the assignment to the loop's variables makes nothing: the activation behind it is known. -/
theorem wp_rangeF1 {P : Program} {α : Type} {g : Operand} {ps : Array Tmp} {assign body : Code} {Q : Exit → Act → World → Prop} {a : Act} {w : World}
    {gf : Nat} {lb : Array Value} (hg : a.eval g = .func (.func gf) #[] lb) (eg : ∀ args w, (callFunc gf args).run P w = .ok (.enter gf args) w)
    {encs : α → Array Value} {xs : List α} (hseq : SeqF P gf lb encs xs w) (hps : ∀ x, (encs x).size = ps.size)
    (I : List Nat → List α → World → Prop) (Ix : Code → List Nat → List α → World → Prop) (S : List Nat) (hS : ∀ b, b ∈ S → b < w.heap.size)
    (hI : Loc w.heap.size I) (hIx : ∀ c, Loc w.heap.size (Ix c)) (h0 : I S [] w) (asg : α → Act)
    (hassign : ∀ l x W (K : Act → World → Prop), K (asg x) W →
      assign.wpIn (Fence.wide.inRound l) 0 P (Exit.then K (fun _ _ _ => False)) { tmps := (ps.zip (encs x)).foldl (fun t (p, v) => t.setIfInBounds p v) a.tmps, defers := [] } W)
    (hbody : ∀ l pre x post S1 W, xs = pre ++ x :: post → w.heap.size ≤ W.heap.size → Gr w S S1 → Fr S w W → w.heap.size ≤ l → l ∉ S1 → (∃ r, W.heap[l]? = some (.loop r)) → I S1 pre W →
      body.wpIn (Fence.wide.inRound l) 0 P (postF I Ix S1 (pre ++ [x]) W) (asg x) W)
    (hdone : ∀ D S' W, w.heap.size ≤ D → D ∉ S' → Gr w S S' → Fr S w W → I S' xs W → W.heap[D]? = some (.deferred (some [])) →
      Q .normal { a with defers := { target := .collected D, args := #[] } :: a.defers } W)
    (hstop : ∀ D c S' pre x post W, w.heap.size ≤ D → D ∉ S' → Gr w S S' → Fr S w W → xs = pre ++ x :: post → Ix c S' (pre ++ [x]) W → W.heap[D]? = some (.deferred (some [])) →
      c.wpIn Fence.wide 0 P Q { a with defers := { target := .collected D, args := #[] } :: a.defers } W) :
    (Code.rangeFunc g ps assign body).wpIn Fence.wide 0 P Q a w :=
  wp_rangeF hg eg hseq hps I Ix S hS hI hIx h0 (fun x a' S pre W => a' = asg x ∧ I S pre W) (fun x a' S pre A B T h f ht => ⟨h.1, hI S pre A B T h.2 f ht⟩)
    (fun l pre x post S1 W _ _ _ _ _ _ _ hi => hassign l x W _ ⟨S1, Gr.refl _ _, Fr.refl _ _, rfl, hi⟩)
    (fun l pre x post a' S1 W hx hz hgr hf hl hnl hr h => by rw [h.1]; exact hbody l pre x post S1 W hx hz hgr hf hl hnl hr h.2) hdone hstop

/-- .. where the assignment to the loop's variables makes nothing: the activation behind it is known. -/
theorem wp_rangeF_in1 {P : Program} {α : Type} {g : Operand} {ps : Array Tmp} {assign body : Code} {Q : Exit → Act → World → Prop} {a : Act} {w : World} {l₀ : Nat} {r₀ : Loop} (hl₀ : w.heap[l₀]? = some (.loop r₀))
    {gf : Nat} {lb : Array Value} (hg : a.eval g = .func (.func gf) #[] lb) (eg : ∀ args w, (callFunc gf args).run P w = .ok (.enter gf args) w)
    {encs : α → Array Value} {xs : List α} (hseq : SeqF P gf lb encs xs w) (hps : ∀ x, (encs x).size = ps.size)
    (I : List Nat → List α → World → Prop) (Ix : Code → List Nat → List α → World → Prop) (S : List Nat) (hS : ∀ b, b ∈ S → b < w.heap.size)
    (hI : Loc w.heap.size I) (hIx : ∀ c, Loc w.heap.size (Ix c)) (h0 : I S [] w) (asg : α → Act)
    (hassign : ∀ l x W (K : Act → World → Prop), K (asg x) W →
      assign.wpIn (Fence.wide.inRound l) 0 P (Exit.then K (fun _ _ _ => False)) { tmps := (ps.zip (encs x)).foldl (fun t (p, v) => t.setIfInBounds p v) a.tmps, defers := [] } W)
    (hbody : ∀ l pre x post S1 W, xs = pre ++ x :: post → w.heap.size ≤ W.heap.size → Gr w S S1 → Fr S w W → w.heap.size ≤ l → l ∉ S1 → (∃ r, W.heap[l]? = some (.loop r)) → I S1 pre W →
      body.wpIn (Fence.wide.inRound l) 0 P (postF I Ix S1 (pre ++ [x]) W) (asg x) W)
    (hdone : ∀ S' W, Gr w S S' → Fr S w W → I S' xs W → Q .normal a W)
    (hstop : ∀ c S' pre x post W, Gr w S S' → Fr S w W → xs = pre ++ x :: post → Ix c S' (pre ++ [x]) W → c.wpIn (Fence.wide.inRound l₀) 0 P Q a W) :
    (Code.rangeFunc g ps assign body).wpIn (Fence.wide.inRound l₀) 0 P Q a w :=
  wp_rangeF_in hl₀ hg eg hseq hps I Ix S hS hI hIx h0 (fun x a' S pre W => a' = asg x ∧ I S pre W) (fun x a' S pre A B T h f ht => ⟨h.1, hI S pre A B T h.2 f ht⟩)
    (fun l pre x post S1 W _ _ _ _ _ _ _ hi => hassign l x W _ ⟨S1, Gr.refl _ _, Fr.refl _ _, rfl, hi⟩)
    (fun l pre x post a' S1 W hx hz hgr hf hl hnl hr h => by rw [h.1]; exact hbody l pre x post S1 W hx hz hgr hf hl hnl hr h.2) hdone hstop
end Go.Proofs.Yteojodcdehkejaa
