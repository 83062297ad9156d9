/- The words of this seat's proofs: blocks, frames of lists of blocks, owned rows, the law of a range over a function by footprints. -/
import Derived.RangeFuncNested
import Derived.RangeFuncBox
import Derived.RangeFuncBound
import Derived.RangeFuncCalls
import Derived.RangeFuncLeaves
import Derived.Shelf.Abstract
import Derived.Shelf.RegionOpen
import Derived.WalkKit
import Derived.OwnWalkIn
import Derived.TacticsInMore
import Derived.LoopNIn
import Derived.LoopIn
import Derived.Deep.Draws
import Derived.Lib.Hide
import Derived.Deep.LoopGhost
import Derived.Deep.DeepFit
namespace Go.Proofs.Yteojodcdehkejaa
open Go Go.RowKit

/-- The streams are as they were, and of what was there no block but those of S has turned. -/
structure Fr (S : List Nat) (w w' : World) : Prop where
  os : w'.os = w.os
  tape : w'.tape = w.tape
  output : w'.output = w.output
  size : w.heap.size ≤ w'.heap.size
  block : ∀ b, b < w.heap.size → b ∉ S → w'.heap[b]? = w.heap[b]?

/-- The footprint S' holds blocks of S and new ones alone. -/
def Gr (w : World) (S S' : List Nat) : Prop := ∀ b, b ∈ S' → b ∈ S ∨ w.heap.size ≤ b

theorem Gr.refl (w : World) (S : List Nat) : Gr w S S := fun _ h => .inl h
theorem Gr.nil (w : World) (S : List Nat) : Gr w S [] := fun _ h => by cases h
theorem Gr.of_sub {w : World} {S S' : List Nat} (h : ∀ b, b ∈ S' → b ∈ S) : Gr w S S' := fun b hb => .inl (h b hb)
theorem Gr.trans {a b : World} {S S' S'' : List Nat} (h : Gr a S S') (hs : a.heap.size ≤ b.heap.size) (k : Gr b S' S'') : Gr a S S'' :=
  fun x hx => (k x hx).elim (h x) (fun e => .inr (Nat.le_trans hs e))
theorem Gr.append {w : World} {S S' T T' : List Nat} (h : Gr w S S') (k : Gr w T T') : Gr w (S ++ T) (S' ++ T') :=
  fun x hx => by rw [List.mem_append] at hx ⊢; rcases hx with hx | hx; · exact (h x hx).imp .inl id
                 · exact (k x hx).imp .inr id
theorem Gr.keep {w : World} {S S' : List Nat} (T : List Nat) (h : Gr w S S') : Gr w (S ++ T) (S' ++ T) := h.append (Gr.refl w T)
theorem Gr.mono {w : World} {S T S' : List Nat} (h : Gr w S S') (hs : ∀ b, b ∈ S → b ∈ T) : Gr w T S' := fun b hb => (h b hb).imp (hs b) id
theorem Gr.cons {w : World} {S S' : List Nat} (x : Nat) (h : Gr w S S') : Gr w (x :: S) (x :: S') :=
  fun b hb => by rw [List.mem_cons] at hb ⊢; rcases hb with rfl | hb; · exact .inl (.inl rfl)
                 · exact (h b hb).imp .inr id
theorem Gr.size {w w' : World} {S S' : List Nat} (h : Gr w S S') (hs : w'.heap.size ≤ w.heap.size) : Gr w' S S' := fun b hb => (h b hb).imp id (fun e => Nat.le_trans hs e)
theorem Gr.notMem {w : World} {S S' : List Nat} (h : Gr w S S') {b : Nat} (hb : b < w.heap.size) (hn : b ∉ S) : b ∉ S' :=
  fun hm => (h b hm).elim hn (fun e => absurd e (by omega))

theorem Fr.refl (S : List Nat) (w : World) : Fr S w w := ⟨rfl, rfl, rfl, Nat.le_refl _, fun _ _ _ => rfl⟩
theorem Fr.trans {S S' : List Nat} {a b c : World} (h : Fr S a b) (g : Gr a S S') (k : Fr S' b c) : Fr S a c :=
  ⟨k.os.trans h.os, k.tape.trans h.tape, k.output.trans h.output, Nat.le_trans h.size k.size,
   fun x hx hn => (k.block x (Nat.lt_of_lt_of_le hx h.size) (g.notMem hx hn)).trans (h.block x hx hn)⟩
theorem Fr.trans' {S : List Nat} {a b c : World} (h : Fr S a b) (k : Fr S b c) : Fr S a c := h.trans (Gr.refl a S) k
theorem Fr.mono {S T : List Nat} {w w' : World} (h : Fr S w w') (hs : ∀ b, b ∈ S → b ∈ T) : Fr T w w' :=
  ⟨h.os, h.tape, h.output, h.size, fun b hb hn => h.block b hb (fun hm => hn (hs b hm))⟩
/-- blocks of T that are new to w -/
theorem Fr.mono' {S T : List Nat} {w w' : World} (h : Fr S w w') (g : Gr w T S) : Fr T w w' :=
  ⟨h.os, h.tape, h.output, h.size, fun b hb hn => h.block b hb (g.notMem hb hn)⟩
theorem Fr.alloc {S : List Nat} {a w : World} (h : Fr S a w) (o : Obj) : Fr S a (w.alloc o) :=
  ⟨h.os, h.tape, h.output, by have := h.size; simp; omega, fun b hb hn => (Below.heap_alloc w o b (Nat.lt_of_lt_of_le hb h.size)).trans (h.block b hb hn)⟩
theorem Fr.setCell {S : List Nat} {a w : World} (h : Fr S a w) {p : Addr} (v : Value) (hp : p.block ∈ S ∨ a.heap.size ≤ p.block) : Fr S a (w.setCell p v) :=
  ⟨h.os, h.tape, h.output, by have := h.size; simp; omega, fun b hb hn => (Below.heap_setCell w p v b (fun e => by subst e; exact hp.elim hn (fun e => absurd e (by omega)))).trans (h.block b hb hn)⟩
theorem Fr.drew {S : List Nat} {a w : World} (h : Fr S a w) : Fr S a w.drew := ⟨h.os, h.tape, h.output, h.size, h.block⟩
theorem Fr.drewN {S : List Nat} {a w : World} (h : Fr S a w) (n : Nat) : Fr S a (w.drewN n) := ⟨h.os, h.tape, h.output, h.size, h.block⟩
theorem Fr.putObj {S : List Nat} {a w : World} (h : Fr S a w) {r : Nat} (o : Obj) (hp : r ∈ S ∨ a.heap.size ≤ r) : Fr S a (w.putObj r o) :=
  ⟨h.os, h.tape, h.output, by have := h.size; simp; omega, fun b hb hn => (World.putObj_heap_other (fun e => by subst e; exact hp.elim hn (fun e => absurd e (by omega)))).trans (h.block b hb hn)⟩
theorem Fr.grown {S : List Nat} {a w w' : World} {row : Option Nat} (h : Fr S a w) (hg : w.grownBy w' row) (hr : ∀ k, row = some k → k ∈ S ∨ a.heap.size ≤ k) : Fr S a w' :=
  ⟨hg.os.trans h.os, hg.tape.trans h.tape, hg.output.trans h.output, Nat.le_trans h.size hg.size,
   fun b hb hn => (hg.block b (Nat.lt_of_lt_of_le hb h.size) (fun e => (hr b e.symm).elim hn (fun e => absurd e (by omega)))).trans (h.block b hb hn)⟩
theorem Fr.below {w w' : World} (h : Fr [] w w') : Below w.heap.size w w' := ⟨h.os, h.tape, h.output, h.size, fun k hk => h.block k hk (by simp)⟩
theorem Fr.of_below {S : List Nat} {w w' : World} (h : Below w.heap.size w w') : Fr S w w' := ⟨h.os, h.tape, h.output, h.size, fun k hk _ => h.block k hk⟩
theorem Fr.grownBy {w w' : World} (h : Fr [] w w') : w.grownBy w' none := ⟨h.os, h.tape, h.output, h.size, fun k hk _ => h.block k hk (by simp)⟩
theorem Fr.cell {S : List Nat} {w w' : World} (h : Fr S w w') {p : Addr} (hp : p.block < w.heap.size) (hn : p.block ∉ S) : w'.cell? p = w.cell? p := World.cell?_of_block (w := w) (h.block p.block hp hn)
theorem Fr.frozen {S : List Nat} {w w' : World} (h : Fr S w w') {p : Addr} (hp : p.block < w.heap.size) (hn : p.block ∉ S) : w'.frozen? p = w.frozen? p := World.frozen?_of_block (w := w) (h.block p.block hp hn)

/-- Block b is a row of the cells cs, none of them frozen. -/
def Blk (w : World) (b : Nat) (t : TypeId) (cs : List Value) : Prop := w.heap[b]? = some (.cells cs.toArray t (0, 0))

theorem Blk.lt {w : World} {b : Nat} {t : TypeId} {cs : List Value} (h : Blk w b t cs) : b < w.heap.size := (Array.getElem?_eq_some_iff.1 h).1
theorem Blk.cell {w : World} {b : Nat} {t : TypeId} {cs : List Value} (h : Blk w b t cs) (o : Nat) : w.cell? ⟨b, o, none⟩ = cs[o]? := by
  unfold Blk at h
  simp [World.cell?, h]
theorem Blk.frz {w : World} {b : Nat} {t : TypeId} {cs : List Value} (h : Blk w b t cs) (o : Nat) : w.frozen? ⟨b, o, none⟩ = false := by
  unfold Blk at h
  simp [World.frozen?, h]
theorem Blk.fr {w w' : World} {b : Nat} {t : TypeId} {cs : List Value} (h : Blk w b t cs) {S : List Nat} (f : Fr S w w') (hn : b ∉ S) : Blk w' b t cs := (f.block b h.lt hn).trans h
theorem Blk.drewN {w : World} {b : Nat} {t : TypeId} {cs : List Value} (h : Blk w b t cs) (n : Nat) : Blk (w.drewN n) b t cs := h
theorem Blk.drew {w : World} {b : Nat} {t : TypeId} {cs : List Value} (h : Blk w b t cs) : Blk w.drew b t cs := h
theorem Blk.alloc {w : World} {b : Nat} {t : TypeId} {cs : List Value} (h : Blk w b t cs) (o : Obj) : Blk (w.alloc o) b t cs := (Below.heap_alloc w o b h.lt).trans h
theorem Blk.new (w : World) (t : TypeId) (cs : List Value) : Blk (w.alloc (.cells cs.toArray t)) w.heap.size t cs := heap_alloc_new w _
theorem Blk.new' (w : World) (t : TypeId) (cs : Array Value) : Blk (w.alloc (.cells cs t)) w.heap.size t cs.toList := heap_alloc_new w _
theorem Blk.other {w : World} {b : Nat} {t : TypeId} {cs : List Value} (h : Blk w b t cs) {p : Addr} (v : Value) (hn : b ≠ p.block) : Blk (w.setCell p v) b t cs := (Below.heap_setCell w p v b hn).trans h
theorem Blk.set {w : World} {b : Nat} {t : TypeId} {cs : List Value} (h : Blk w b t cs) (o : Nat) (v : Value) : Blk (w.setCell ⟨b, o, none⟩ v) b t (cs.set o v) := by
  have hb : b < w.heap.size := h.lt
  unfold Blk at *
  simp only [World.setCell, Array.getElem?_modify, if_true, h, Option.map_some]
  simp
theorem Blk.put {w : World} {b : Nat} {t : TypeId} {cs : List Value} (h : Blk w b t cs) {r : Nat} (o : Obj) (hn : b ≠ r) : Blk (w.putObj r o) b t cs := (World.putObj_heap_other hn).trans h
/-- the cells at two places of one world: what the blocks hold is one -/
theorem Blk.inj {w : World} {b : Nat} {t t' : TypeId} {cs cs' : List Value} (h : Blk w b t cs) (h' : Blk w b t' cs') : t = t' ∧ cs = cs' := by
  unfold Blk at h h'
  rw [h] at h'
  simp at h'
  exact ⟨h'.2, h'.1⟩

/-- a block's cells, as append's law asks for them -/
theorem Blk.news {w : World} {g : Nat} {t : TypeId} {cs : List Value} (h : Blk w g t cs) : ∀ j u, cs[j]? = some u → w.cell? ((⟨g, 0, none⟩ : Addr).add j) = some u := by
  intro j u hj
  rw [Addr.add_lit, Nat.zero_add, h.cell, hj]

/-- The slice value v of n elements (of the type e, of sz cells each) begins at the head of the block of S, and its cells are xs; or it is nil. -/
def OwnS (w : World) (e sz : Nat) (v : Value) (n : Nat) (xs : List Value) (S : List Nat) : Prop :=
  xs.length = n * sz ∧
  ((v = .slice none 0 0 ∧ n = 0 ∧ S = []) ∨
   ∃ g cap cur, v = .slice (some ⟨g, 0, none⟩) n cap ∧ S = [g] ∧ w.heap[g]? = some (.cells cur e (0, 0)) ∧ n ≤ cap ∧ cap ≤ maxLen ∧ cap * sz ≤ cur.size ∧ cur.toList.take (n * sz) = xs)

theorem OwnS.nil (w : World) (e sz : Nat) : OwnS w e sz (.slice none 0 0) 0 [] [] := ⟨by simp, .inl ⟨rfl, rfl, rfl⟩⟩
theorem OwnS.lt {w : World} {e sz : Nat} {v : Value} {n : Nat} {xs : List Value} {S : List Nat} (h : OwnS w e sz v n xs S) : ∀ b, b ∈ S → b < w.heap.size := by
  rcases h.2 with ⟨_, _, rfl⟩ | ⟨g, cap, cur, _, rfl, hg, _⟩
  · simp
  · intro b hb
    simp at hb; subst hb
    exact (Array.getElem?_eq_some_iff.1 hg).1
/-- what the block of a footprint holds tells all -/
theorem OwnS.kept {w w' : World} {e sz : Nat} {v : Value} {n : Nat} {xs : List Value} {S : List Nat} (h : OwnS w e sz v n xs S) (hk : ∀ b, b ∈ S → w'.heap[b]? = w.heap[b]?) : OwnS w' e sz v n xs S := by
  refine ⟨h.1, ?_⟩
  rcases h.2 with h | ⟨g, cap, cur, hv, rfl, hg, r⟩
  · exact .inl h
  · exact .inr ⟨g, cap, cur, hv, rfl, (hk g (by simp)).trans hg, r⟩
theorem OwnS.fr {w w' : World} {e sz : Nat} {v : Value} {n : Nat} {xs : List Value} {S : List Nat} (h : OwnS w e sz v n xs S) {T : List Nat} (f : Fr T w w') (hd : ∀ b, b ∈ S → b ∉ T) : OwnS w' e sz v n xs S :=
  h.kept fun b hb => f.block b (h.lt b hb) (hd b hb)
theorem OwnS.alloc {w : World} {e sz : Nat} {v : Value} {n : Nat} {xs : List Value} {S : List Nat} (h : OwnS w e sz v n xs S) (o : Obj) : OwnS (w.alloc o) e sz v n xs S :=
  h.fr ((Fr.refl [] w).alloc o) (by simp)
theorem OwnS.cellAt {w : World} {e sz : Nat} {g n cap : Nat} {xs : List Value} {S : List Nat} (h : OwnS w e sz (.slice (some ⟨g, 0, none⟩) n cap) n xs S) (j : Nat) (hj : j < n * sz) : w.cell? ⟨g, j, none⟩ = xs[j]? := by
  rcases h.2 with ⟨h, _⟩ | ⟨g', cap', cur, hv, _, hg, _, _, _, ht⟩
  · cases h
  · cases hv
    rw [← ht, List.getElem?_take_of_lt hj]
    simp [World.cell?, hg]
theorem OwnS.val {w : World} {e sz : Nat} {v : Value} {n : Nat} {xs : List Value} {S : List Nat} (h : OwnS w e sz v n xs S) : ∃ a cap, v = .slice a n cap := by
  rcases h.2 with ⟨rfl, rfl, rfl⟩ | ⟨g, cap, cur, hv, _⟩
  · exact ⟨_, _, rfl⟩
  · exact ⟨_, _, hv⟩
theorem OwnS.head {w : World} {e sz : Nat} {v : Value} {n : Nat} {xs : List Value} {S : List Nat} (h : OwnS w e sz v n xs S) (hn : 0 < n) : ∃ g cap, v = .slice (some ⟨g, 0, none⟩) n cap ∧ S = [g] := by
  rcases h.2 with ⟨rfl, rfl, rfl⟩ | ⟨g, cap, cur, hv, hS, _⟩
  · omega
  · exact ⟨_, _, hv, hS⟩

section
variable {P : Program} (w : World)
/-- append onto a slice that is nil or begins at its block's head: by its footprint. -/
theorem run_append_S (t ty e : TypeId) (i : TypeInfo) (z : Value) (size bytes : Nat) (ht : P.underlying t = some (.slice e)) (hi : P.info? e = some i) (hz : i.zero = some z)
    (hsize : i.size = size) (hby : i.bytes = bytes) (hzs : z.cells.size = size)
    (v : Value) (n : Nat) (xs : List Value) (S : List Nat) (hown : OwnS w e size v n xs S)
    (a : Addr) (m c : Nat) (news : List Value) (hl : news.length = m * size) (hnews : ∀ j u, news[j]? = some u → w.cell? (a.add j) = some u) (h1 : ∀ u ∈ news, u.oneCell' = true)
    (h63 : n + m ≤ maxLen) (hbytes : (n + m) * bytes ≤ 140737488355328) :
    ∃ v' w' S', (Builtin.append_ #[t, t] ty #[v, .slice (some a) m c]).run P w = .ok v' w' ∧ OwnS w' e size v' (n + m) (xs ++ news) S' ∧ Gr w S S' ∧ Fr S w w' := by
  subst hsize
  subst hby
  have hsmall : n + m ≤ 9223372036854775807 := by simp only [maxLen] at h63; omega
  have hlen : (xs ++ news).length = (n + m) * i.size := by rw [List.length_append, hown.1, hl, Nat.add_mul]
  have grown : ∀ (old : Nat), old < n + m →
      OwnS (w.drew.alloc (.cells (xs.toArray ++ news.toArray ++ Builtin.zeroCells z.cells (grownCap w (n + m) old e - (n + m))) e)) e i.size
        (.slice (some ⟨w.heap.size, 0, none⟩) (n + m) (grownCap w (n + m) old e)) (n + m) (xs ++ news) [w.heap.size] ∧
      Fr S w (w.drew.alloc (.cells (xs.toArray ++ news.toArray ++ Builtin.zeroCells z.cells (grownCap w (n + m) old e - (n + m))) e)) := by
    intro old ho
    have hge := grownCap_ge w (n + m) old e
    have hcm : grownCap w (n + m) old e ≤ maxLen := grownCap_le_maxLen w (n + m) old e h63
    refine ⟨⟨hlen, .inr ⟨w.heap.size, _, _, rfl, rfl, heap_alloc_new w.drew _, hge, hcm, ?_, ?_⟩⟩, (Fr.refl S w).drew.alloc _⟩
    · simp only [Array.size_append, List.size_toArray, size_zeroCells, hzs, hown.1, hl, ← Nat.add_mul]
      exact Nat.mul_le_mul_right _ (by omega)
    · simp only [Array.toList_append, List.append_assoc]
      rw [← List.append_assoc, ← hlen]
      exact List.take_left
  have hnew : Gr w S [w.heap.size] := fun b hb => by simp at hb; exact .inr (by omega)
  rcases hown.2 with ⟨rfl, rfl, rfl⟩ | ⟨g, cap, cur, rfl, rfl, hg, hnc, hcm, hcs, htake⟩
  · have hx : xs = [] := List.eq_nil_of_length_eq_zero (by simpa using hown.1)
    subst hx
    by_cases hm : m = 0
    · subst hm
      have hn : news = [] := List.eq_nil_of_length_eq_zero (by simpa using hl)
      subst hn
      refine ⟨.slice none 0 0, w, [], ?_, OwnS.nil w e i.size, Gr.nil _ _, Fr.refl _ _⟩
      simp [Builtin.append_, run_underlying ht, sizeOf, typeInfo, hi, Builtin.lenOf, Builtin.firstCells, loadCells, loadCellsFrom]
    · have hr := run_append_nil (P := P) w t ty e i z ht hi hz a m c news hl hnews (by omega) (by omega) (by have hb := hbytes; simp only [Nat.zero_add] at hb; omega)
      have hgr := grown 0 (by omega)
      simp only [Nat.zero_add, List.nil_append, Array.empty_append] at hgr ⊢
      exact ⟨_, _, _, hr, hgr.1, hnew, hgr.2⟩
  · by_cases hroom : n + m ≤ cap
    · have hfit : n * i.size + news.length ≤ cur.size := by rw [hl, ← Nat.add_mul]; exact Nat.le_trans (Nat.mul_le_mul_right _ hroom) hcs
      have hr := run_append_room (P := P) w t ty e i ht hi g n cap cur hg a m c news hl hnews h1 hroom hfit
      refine ⟨_, _, [g], hr, ⟨hlen, .inr ⟨g, cap, _, rfl, rfl, setRow_heap w g cur _ e _ hg, hroom, hcm, ?_, ?_⟩⟩, Gr.refl _ _, ⟨rfl, rfl, rfl, by simp, fun k hk hn => setRow_other w g k _ (fun e => hn (by simp [e]))⟩⟩
      · simp only [List.size_toArray, List.length_append, List.length_take, List.length_drop, Array.length_toList]
        omega
      · rw [htake, ← hlen]
        exact List.take_left
    · have holds : ∀ j u, xs[j]? = some u → w.cell? ((⟨g, 0, none⟩ : Addr).add j) = some u := by
        intro j u hj
        have hjl : j < n * i.size := by rw [← hown.1]; exact (List.getElem?_eq_some_iff.1 hj).1
        rw [Addr.add_lit]
        rw [show (0 + j) = j from by omega, hown.cellAt j hjl, hj]
      have hr := run_append_grow (P := P) w t ty e i z ht hi hz ⟨g, 0, none⟩ n cap xs hown.1 holds a m c news hl hnews (by omega) (by omega) (growslice_fits (by omega) hbytes)
      have hgr := grown cap (by omega)
      exact ⟨_, _, _, hr, hgr.1, hnew, hgr.2⟩
end

theorem wpList_append_S {P : Program} (w : World) {ops : Array Oper} {rest : List Oper} {o : Oper} {a : Act} {Q : Exit → Act → World → Prop} (hgd : o.guard = none) (s x : Operand) (t : TypeId)
    (ho : o.op = .call { callee := .builtin .append, args := #[s, x], argTypes := #[t, t] })
    (e : TypeId) (i : TypeInfo) (z : Value) (size bytes : Nat) (ht : P.underlying t = some (.slice e)) (hi : P.info? e = some i) (hz : i.zero = some z)
    (hsize : i.size = size) (hby : i.bytes = bytes) (hzs : z.cells.size = size)
    (v : Value) (n : Nat) (xs : List Value) (S : List Nat) (hs : a.eval s = v) (hown : OwnS w e size v n xs S)
    (ad : Addr) (m c : Nat) (news : List Value) (hx : a.eval x = .slice (some ad) m c) (hl : news.length = m * size) (hnews : ∀ j u, news[j]? = some u → w.cell? (ad.add j) = some u) (h1 : ∀ u ∈ news, u.oneCell' = true)
    (h63 : n + m ≤ maxLen) (hbytes : (n + m) * bytes ≤ 140737488355328)
    (h : ∀ v' w' S', OwnS w' e size v' (n + m) (xs ++ news) S' → Gr w S S' → Fr S w w' → wpList P ops Q rest (a.put o.dst v') w') : wpList P ops Q (o :: rest) a w := by
  refine wpList_plain hgd fun K hK => ?_
  obtain ⟨v', w', S', hr, h2, h3, h4⟩ := run_append_S (P := P) w t o.type e i z size bytes ht hi hz hsize hby hzs v n xs S hown ad m c news hl hnews h1 h63 hbytes
  unfold Oper.wp execOp
  simp only [ho, resolve, invoke, builtin, Sem.run_bind, Sem.run_pure, Result.andThen_ok, List.map_toArray, List.map_cons, List.map_nil, hs, hx, hr]
  exact hK _ _ (h v' w' S' h2 h3 h4)

theorem wpListIn_append_S {F : Fence} {k : Nat} {P : Program} (w : World) {ops : Array Oper} {rest : List Oper} {o : Oper} {a : Act} {Q : Exit → Act → World → Prop} (hgd : o.guard = none) (s x : Operand) (t : TypeId)
    (ho : o.op = .call { callee := .builtin .append, args := #[s, x], argTypes := #[t, t] })
    (e : TypeId) (i : TypeInfo) (z : Value) (size bytes : Nat) (ht : P.underlying t = some (.slice e)) (hi : P.info? e = some i) (hz : i.zero = some z)
    (hsize : i.size = size) (hby : i.bytes = bytes) (hzs : z.cells.size = size)
    (v : Value) (n : Nat) (xs : List Value) (S : List Nat) (hs : a.eval s = v) (hown : OwnS w e size v n xs S)
    (ad : Addr) (m c : Nat) (news : List Value) (hx : a.eval x = .slice (some ad) m c) (hl : news.length = m * size) (hnews : ∀ j u, news[j]? = some u → w.cell? (ad.add j) = some u) (h1 : ∀ u ∈ news, u.oneCell' = true)
    (h63 : n + m ≤ maxLen) (hbytes : (n + m) * bytes ≤ 140737488355328)
    (h : ∀ v' w' S', OwnS w' e size v' (n + m) (xs ++ news) S' → Gr w S S' → Fr S w w' → wpListIn F k P ops Q rest (a.put o.dst v') w') : wpListIn F k P ops Q (o :: rest) a w := by
  refine wpListIn_plain hgd fun K hK' => ?_
  obtain ⟨v', w', S', hrun, h2, h3, h4⟩ := run_append_S (P := P) w t o.type e i z size bytes ht hi hz hsize hby hzs v n xs S hown ad m c news hl hnews h1 h63 hbytes
  unfold Oper.wpIn
  refine ⟨?_, ?_⟩
  · simp [Oper.about, ho, resolve, Target.leads, Sem.run_pure]
  · rw [Oper.semAt_plain F _ _ (by rw [ho]; intro c hc'; cases hc')]
    simp [execOp, ho, resolve, invoke, builtin, hs, hx, hrun, Result.andThen]
    exact hK' _ _ (h v' w' S' h2 h3 h4)

/-! ### worlds that part in the count of draws alone -/
structure Sim (A B : World) : Prop where
  heap : B.heap = A.heap
  os : B.os = A.os
  tape : B.tape = A.tape
  output : B.output = A.output
theorem Fr.sim {S : List Nat} {w A B : World} (h : Fr S w A) (s : Sim A B) : Fr S w B :=
  ⟨s.os.trans h.os, s.tape.trans h.tape, s.output.trans h.output, by rw [s.heap]; exact h.size, fun b hb hn => by rw [s.heap]; exact h.block b hb hn⟩
theorem Blk.sim {A B : World} {b : Nat} {t : TypeId} {cs : List Value} (h : Blk A b t cs) (s : Sim A B) : Blk B b t cs := by unfold Blk at *; rw [s.heap]; exact h
theorem OwnS.sim {A B : World} {e sz : Nat} {v : Value} {n : Nat} {xs : List Value} {S : List Nat} (h : OwnS A e sz v n xs S) (s : Sim A B) : OwnS B e sz v n xs S := h.kept fun b _ => by rw [s.heap]

theorem Calls.named {P : Program} {f : FuncId} {args : Array Value} {w : World} {R : Ending → World → Prop} (h : ∀ W, W = w → Calls P f args W R) : Calls P f args w R := h w rfl

/-- a row that came in, by its block and place -/
theorem row_at {w : World} {x : Addr} {n : Nat} {V : Nat → Value} (h : ∀ i, i < n → w.cell? (x.add i) = some (V i)) (hn : 0 < n) :
    ∃ b off, x = ⟨b, off, none⟩ ∧ ∀ i, i < n → w.cell? ⟨b, off + i, none⟩ = some (V i) := by
  obtain ⟨b, off, sp⟩ := x
  have h0 := h 0 hn
  cases sp with
  | some s =>
    simp only [Addr.add, if_true, World.cell?] at h0
    cases hb : w.heap[b]? with
    | none => simp [hb] at h0
    | some o => cases o <;> simp [hb] at h0
  | none =>
    refine ⟨b, off, rfl, fun i hi => ?_⟩
    have := h i hi
    rwa [Addr.add_lit] at this

/-! ### make, copy -/
theorem run_make_S {P : Program} (w : World) (t e : TypeId) (i : TypeInfo) (z : Value) (sz bytes : Nat) (ht : P.underlying t = some (.slice e)) (hi : P.info? e = some i) (hz : i.zero = some z) (hsize : i.size = sz) (hby : i.bytes = bytes)
    (kl kc : IntKind) (c : Nat) (hbytes : bytes * c ≤ 281474976710656) (h63 : c ≤ 9223372036854775807) :
    ∃ w' zs, (Instr.makeSlice t (.int kl (c : Int)) (.int kc (c : Int))).run P w = .ok (.slice (some ⟨w.heap.size, 0, none⟩) c c) w' ∧ Blk w' w.heap.size e zs ∧ zs.length = c * sz ∧ Fr [] w w' ∧ w'.heap.size = w.heap.size + 1 ∧
      ∀ j, j < c * sz → zs[j]? = some (z.cells[j % z.cells.size]!) := by
  subst hsize
  subst hby
  have hb' : (i.bytes : Int) * (c : Int) ≤ 281474976710656 := by
    have h : ((i.bytes * c : Nat) : Int) ≤ 281474976710656 := by omega
    rwa [Int.natCast_mul] at h
  have hr := run_make (P := P) w t e i z ht hi hz kl kc c c (by omega) (Int.le_refl _) hb' (by omega)
  simp only [Int.toNat_natCast] at hr
  refine ⟨_, _, hr, Blk.new' _ _ _, by simp [madeCells], (Fr.refl _ _).alloc _, by simp, fun j hj => by simp [madeCells, hj]⟩

theorem wpList_make_S {P : Program} (w : World) {ops : Array Oper} {rest : List Oper} {o : Oper} {a : Act} {Q : Exit → Act → World → Prop} (hgd : o.guard = none) (l c : Operand) (t : TypeId) (ho : o.op = Op.makeSlice t l c)
    (e : TypeId) (i : TypeInfo) (z : Value) (sz bytes : Nat) (ht : P.underlying t = some (.slice e)) (hi : P.info? e = some i) (hz : i.zero = some z) (hsize : i.size = sz) (hby : i.bytes = bytes)
    (kl kc : IntKind) (L C : Int) (n : Nat) (hl : a.eval l = .int kl L) (hc : a.eval c = .int kc C) (hL : L = (n : Int)) (hC : C = (n : Int)) (hbytes : bytes * n ≤ 281474976710656) (h63 : n ≤ 9223372036854775807)
    (h : ∀ w' zs, Blk w' w.heap.size e zs → zs.length = n * sz → Fr [] w w' → w'.heap.size = w.heap.size + 1 → (∀ j, j < n * sz → zs[j]? = some (z.cells[j % z.cells.size]!)) →
      wpList P ops Q rest (a.put o.dst (.slice (some ⟨w.heap.size, 0, none⟩) n n)) w') : wpList P ops Q (o :: rest) a w := by
  refine wpList_plain hgd fun K hK => ?_
  obtain ⟨w', zs, hrun, h1, h2, h3, h4, h5⟩ := run_make_S (P := P) w t e i z sz bytes ht hi hz hsize hby kl kc n hbytes h63
  subst hL
  subst hC
  unfold Oper.wp
  simp [execOp, ho, hl, hc, hrun, Result.andThen]
  exact hK _ _ (h w' zs h1 h2 h3 h4 h5)

theorem run_copy_S {P : Program} (w : World) (dT sT ty elem : TypeId) (i : TypeInfo) (sz : Nat) (hu : P.underlying dT = some (.slice elem)) (hi : P.info? elem = some i) (hsize : i.size = sz)
    (g dLen dCap : Nat) (t : TypeId) (cur : List Value) (hg : Blk w g t cur) (v : Value) (n : Nat) (xs : List Value) (S : List Nat) (ho : OwnS w elem sz v n xs S) (hn : n ≤ dLen) (hfit : n * sz ≤ cur.length) (h1 : ∀ u ∈ xs, u.oneCell' = true) :
    ∃ w', (Builtin.copy_ #[dT, sT] ty #[.slice (some ⟨g, 0, none⟩) dLen dCap, v]).run P w = .ok (goInt n) w' ∧ Blk w' g t (xs ++ cur.drop xs.length) ∧ Fr [g] w w' := by
  subst hsize
  have hmin : Nat.min n dLen = n := Nat.min_eq_left hn
  have hxl := ho.1
  have hlast : Blk w g t cur := hg
  have hst := run_storeCells_at P g 0 t xs 0 cur.toArray w hg (by simp; omega) h1
  simp only [Nat.add_zero] at hst
  have hrow : ∀ cs : List Value, Blk (w.setRow g cs.toArray) g t cs ∧ Fr [g] w (w.setRow g cs.toArray) := fun cs =>
    ⟨setRow_heap w g cur.toArray _ t _ hg, ⟨rfl, rfl, rfl, by simp [World.setRow], fun k hk hn => setRow_other w g k _ (fun e => hn (by simp [e]))⟩⟩
  rcases ho.2 with ⟨rfl, rfl, rfl⟩ | ⟨g', cap, cc, rfl, rfl, hg', hnc, hcm, hcs, htake⟩
  · have hx : xs = [] := List.eq_nil_of_length_eq_zero (by simpa using hxl)
    subst hx
    refine ⟨w, ?_, by simpa using hg, Fr.refl _ _⟩
    simp [Builtin.copy_, run_underlying hu, Builtin.lenOf, Builtin.firstCells, sizeOf, typeInfo, hi, hmin, storeCells]
  · have hcells : ∀ j u, xs[j]? = some u → w.cell? ((⟨g', 0, none⟩ : Addr).add j) = some u := by
      intro j u hj
      have hjl : j < n * i.size := by rw [← hxl]; exact (List.getElem?_eq_some_iff.1 hj).1
      rw [Addr.add_lit, show (0 + j) = j from by omega, ho.cellAt j hjl, hj]
    have hf := run_firstCells_some (P := P) w i.size n ⟨g', 0, none⟩ n cap xs hxl hcells
    obtain ⟨b1, b2⟩ := hrow (xs ++ cur.drop xs.length)
    refine ⟨_, ?_, b1, b2⟩
    have hst' : (storeCells ⟨g, 0, none⟩ xs).run P w = .ok () (w.setRow g (xs ++ cur.drop xs.length).toArray) := by
      simpa using hst
    simp [Builtin.copy_, run_underlying hu, Builtin.lenOf, sizeOf, typeInfo, hi, hmin, hf, hst']

theorem wpList_copy_S {P : Program} (w : World) {ops : Array Oper} {rest : List Oper} {o : Oper} {a : Act} {Q : Exit → Act → World → Prop} (hgd : o.guard = none) (d s : Operand) (dT sT : TypeId)
    (hop : o.op = .call { callee := .builtin .copy, args := #[d, s], argTypes := #[dT, sT] })
    (elem : TypeId) (i : TypeInfo) (sz : Nat) (hu : P.underlying dT = some (.slice elem)) (hi : P.info? elem = some i) (hsize : i.size = sz)
    (g dLen dCap : Nat) (t : TypeId) (cur : List Value) (hd : a.eval d = .slice (some ⟨g, 0, none⟩) dLen dCap) (hg : Blk w g t cur) (v : Value) (n : Nat) (xs : List Value) (S : List Nat) (hs : a.eval s = v) (ho : OwnS w elem sz v n xs S) (hn : n ≤ dLen) (hfit : n * sz ≤ cur.length) (h1 : ∀ u ∈ xs, u.oneCell' = true)
    (h : ∀ w' cs', Blk w' g t cs' → cs'.length = cur.length → cs'.take (n * sz) = xs → Fr [g] w w' → wpList P ops Q rest (a.put o.dst (goInt n)) w') : wpList P ops Q (o :: rest) a w := by
  refine wpList_plain hgd fun K hK => ?_
  obtain ⟨w', hrun, h2, h3⟩ := run_copy_S (P := P) w dT sT o.type elem i sz hu hi hsize g dLen dCap t cur hg v n xs S ho hn hfit h1
  unfold Oper.wp
  simp [execOp, hop, resolve, invoke, builtin, hd, hs, hrun, Result.andThen]
  have hxl := ho.1
  exact hK _ _ (h w' _ h2 (by simp; omega) (by rw [← hxl]; exact List.take_left) h3)
end Go.Proofs.Yteojodcdehkejaa
