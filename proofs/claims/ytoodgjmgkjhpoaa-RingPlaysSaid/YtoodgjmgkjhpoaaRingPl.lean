/- The statement RingPlays: what its great loop keeps. -/
import Derived.Test.YtoodgjmgkjhpoaaRingRanged2
import Derived.Test.YtoodgjmgkjhpoaaRingFill
import Derived.Test.YtoodgjmgkjhpoaaStepRow
namespace Go.Proofs.Ytoodgjmgkjhpoaa
open Go Go.RowKit
attribute [local go_sem] calmQ_normal wide_fn wide_depth Oper.semAt_some

/-- the kinds of blocks: 0, 1: the rings'; 2: that of the list of lists; 3: that of the two lists' slices; 4: what is not written again; 5: what was there -/
structure PC (n0 A3 A4 hb : Nat) (r : Nat → Nat) (ds : Nat → List Nat) (S : Nat → List Nat) (rows : List (Value × Nat × List Nat)) (S7 Ds : List Nat) (c : Nat → Nat) : Prop where
  ring : ∀ o, o < 2 → ∀ x, x ∈ r o :: ds o → c x = o
  lists : ∀ x, x ∈ S7 → c x = 2
  a4 : c A4 = 3
  a3 : c A3 = 4
  hb : c hb = 4
  list : ∀ o, o < 2 → ∀ x, x ∈ S o → c x = 4
  rows : ∀ (i : Nat) (u : Value) (n : Nat) (T : List Nat), rows[i]? = some (u, n, T) → ∀ x, x ∈ T → c x = 4
  marks : ∀ D, D ∈ Ds → c D = 4
  old : ∀ x, x < n0 → c x = 5

structure PL (w0 : World) (A3 A4 hb of : Nat) (r : Nat → Nat) (ds : Nat → List Nat) (xs : Nat → List Int) (v : Nat → Value) (S : Nat → List Nat) (v7 : Value) (rows : List (Value × Nat × List Nat)) (S7 Ds : List Nat) (W : World) : Prop where
  a3 : Blk W A3 72 [.pointer (some ⟨r 0, 0, none⟩), .pointer (some ⟨r 1, 0, none⟩)]
  a4 : Blk W A4 73 [v 0, v 1]
  ring : ∀ o, o < 2 → Rgi W (r o) (ds o) (xs o)
  list : ∀ o, o < 2 → OwnS W 3 1 (v o) (xs o).length ((xs o).flatMap encI) (S o)
  hold : W.cell? ⟨hb, 0, none⟩ = some (.pointer (some ⟨r of, 0, none⟩))
  of2 : of < 2
  lists : OwnS W 22 1 v7 rows.length (rows.map (·.1)) S7
  rowsok : ∀ (i : Nat) (u : Value) (n : Nat) (T : List Nat), rows[i]? = some (u, n, T) → OwnS W 3 1 u n (List.replicate n (.int .i64 (-7 - (i : Int)))) T ∧ n ≤ 1048576
  marks : ∀ D, D ∈ Ds → W.heap[D]? = some (.deferred (some []))
  nodup : Ds.Nodup
  col : ∃ c, PC w0.heap.size A3 A4 hb r ds S rows S7 Ds c
  fr : Fr [] w0 W

def upd {α : Type} (f : Nat → α) (o : Nat) (x : α) : Nat → α := fun k => if k = o then x else f k
theorem upd_same {α : Type} (f : Nat → α) (o : Nat) (x : α) : upd f o x o = x := by simp [upd]
theorem upd_ne {α : Type} (f : Nat → α) {o k : Nat} (x : α) (h : k ≠ o) : upd f o x k = f k := by simp [upd, h]

theorem small_maxLen {n : Nat} (h : n ≤ 600) : n + 1 + 1 ≤ maxLen := by unfold maxLen; omega
theorem small_bytes {n : Nat} (h : n ≤ 600) : (n + 1 + 1) * 24 ≤ 140737488355328 := by omega
theorem last_row {α : Type} {l : List α} {i : Nat} (hi : l.length ≤ i) {x : α} (h : i - l.length < [x].length) : i = l.length := by simp at h; omega
theorem wrap_small {x : Int} (h1 : -1000000000 ≤ x) (h2 : x ≤ 1000000000) : IntKind.i64.wrap x = x := by rw [IntKind.wrap_i64]; omega
theorem infoLi : (Try.prog.info? 22).map (fun i => (i.zero, i.size, i.bytes)) = some (some (.slice none 0 0), 1, 24) := by kernel_rfl
theorem same_own {w : World} {v u : Value} {xs : List Int} {S T : List Nat} (hv : OwnS w 3 1 v xs.length (xs.flatMap encI) S) (hu : OwnS w 3 1 u xs.length (xs.flatMap encI) T) (hm : xs.length ≤ 65536) :
    Calls Try.prog 30 #[v, u] w fun e w' => e = .returned (.bool true) ∧ Fr [] w w' := by
  obtain ⟨a, ca, rfl⟩ := hv.val
  obtain ⟨b, cb, rfl⟩ := hu.val
  exact same_yes rfl (by unfold maxLen; omega) hv.row hu.row

section
variable {w0 W W' : World} {A3 A4 hb of : Nat} {r : Nat → Nat} {ds : Nat → List Nat} {xs : Nat → List Int} {v : Nat → Value} {S : Nat → List Nat} {v7 : Value} {rows : List (Value × Nat × List Nat)} {S7 Ds : List Nat}

/-- all its blocks are there -/
theorem PL.lt (k : PL w0 A3 A4 hb of r ds xs v S v7 rows S7 Ds W) : (∀ o, o < 2 → ∀ x, x ∈ r o :: ds o → x < W.heap.size) ∧ (∀ o, o < 2 → ∀ x, x ∈ S o → x < W.heap.size) ∧ (∀ x, x ∈ S7 → x < W.heap.size) ∧ A3 < W.heap.size ∧ A4 < W.heap.size ∧ hb < W.heap.size ∧ (∀ D, D ∈ Ds → D < W.heap.size) ∧ (∀ (i : Nat) (u : Value) (n : Nat) (T : List Nat), rows[i]? = some (u, n, T) → ∀ x, x ∈ T → x < W.heap.size) :=
  ⟨fun o ho => (k.ring o ho).lt, fun o ho => (k.list o ho).lt, k.lists.lt, k.a3.lt, k.a4.lt, World.block_lt_of_cell? _ _ k.hold, fun D hD => (Array.getElem?_eq_some_iff.1 (k.marks D hD)).1, fun i u n T h => (k.rowsok i u n T h).1.lt⟩

/-- what turns nothing but blocks of the kinds that T names keeps all others; the kinds of new blocks are free -/
theorem PC.ext {n0 n : Nat} {c : Nat → Nat} (h : PC n0 A3 A4 hb r ds S rows S7 Ds c) (hn : n0 ≤ n) (l1 : ∀ o, o < 2 → ∀ x, x ∈ r o :: ds o → x < n) (l2 : ∀ o, o < 2 → ∀ x, x ∈ S o → x < n) (l3 : ∀ x, x ∈ S7 → x < n) (l4 : A3 < n) (l5 : A4 < n) (l6 : hb < n) (l7 : ∀ D, D ∈ Ds → D < n) (l8 : ∀ (i : Nat) (u : Value) (k : Nat) (T : List Nat), rows[i]? = some (u, k, T) → ∀ x, x ∈ T → x < n)
    (c' : Nat → Nat) : PC n0 A3 A4 hb r ds S rows S7 Ds (fun x => if x < n then c x else c' x) :=
  ⟨fun o ho x hx => by rw [if_pos (l1 o ho x hx)]; exact h.ring o ho x hx, fun x hx => by rw [if_pos (l3 x hx)]; exact h.lists x hx, by rw [if_pos l5]; exact h.a4, by rw [if_pos l4]; exact h.a3, by rw [if_pos l6]; exact h.hb,
   fun o ho x hx => by rw [if_pos (l2 o ho x hx)]; exact h.list o ho x hx, fun i u k T hi x hx => by rw [if_pos (l8 i u k T hi x hx)]; exact h.rows i u k T hi x hx, fun D hD => by rw [if_pos (l7 D hD)]; exact h.marks D hD, fun x hx => by rw [if_pos (by omega)]; exact h.old x hx⟩
theorem PL.ext (k : PL w0 A3 A4 hb of r ds xs v S v7 rows S7 Ds W) (c' : Nat → Nat) : ∃ c, PC w0.heap.size A3 A4 hb r ds S rows S7 Ds c ∧ ∀ x, W.heap.size ≤ x → c x = c' x := by
  obtain ⟨c, hc⟩ := k.col
  obtain ⟨l1, l2, l3, l4, l5, l6, l7, l8⟩ := k.lt
  exact ⟨_, hc.ext k.fr.size l1 l2 l3 l4 l5 l6 l7 l8 c', fun x hx => by rw [if_neg (by omega)]⟩

theorem PL.fr0 (k : PL w0 A3 A4 hb of r ds xs v S v7 rows S7 Ds W) (f : Fr [] W W') : PL w0 A3 A4 hb of r ds xs v S v7 rows S7 Ds W' :=
  ⟨k.a3.fr f (by simp), k.a4.fr f (by simp), fun o ho => (k.ring o ho).fr f (by simp), fun o ho => (k.list o ho).fr f (by simp), (f.cell (p := ⟨hb, 0, none⟩) (World.block_lt_of_cell? _ _ k.hold) (by simp)).trans k.hold, k.of2, k.lists.fr f (by simp),
   fun i u n T h => ⟨(k.rowsok i u n T h).1.fr f (by simp), (k.rowsok i u n T h).2⟩, fun D hD => (f.block D (Array.getElem?_eq_some_iff.1 (k.marks D hD)).1 (by simp)).trans (k.marks D hD), k.nodup, k.col, k.fr.trans' f⟩

theorem PL.frs (k : PL w0 A3 A4 hb of r ds xs v S v7 rows S7 Ds W) {X : List Nat} (f : Fr X W W') (h1 : ∀ o, o < 2 → ∀ x, x ∈ r o :: ds o → x ∉ X) (h2 : ∀ o, o < 2 → ∀ x, x ∈ S o → x ∉ X) (h3 : ∀ x, x ∈ S7 → x ∉ X) (h4 : A3 ∉ X ∧ A4 ∉ X ∧ hb ∉ X) (h5 : ∀ D, D ∈ Ds → D ∉ X)
    (h6 : ∀ (i : Nat) (u : Value) (n : Nat) (T : List Nat), rows[i]? = some (u, n, T) → ∀ x, x ∈ T → x ∉ X) (h7 : ∀ x, x ∈ X → w0.heap.size ≤ x) : PL w0 A3 A4 hb of r ds xs v S v7 rows S7 Ds W' :=
  ⟨k.a3.fr f h4.1, k.a4.fr f h4.2.1, fun o ho => (k.ring o ho).fr f (h1 o ho), fun o ho => (k.list o ho).fr f (h2 o ho), (f.cell (p := ⟨hb, 0, none⟩) (World.block_lt_of_cell? _ _ k.hold) h4.2.2).trans k.hold, k.of2, k.lists.fr f h3,
   fun i u n T h => ⟨(k.rowsok i u n T h).1.fr f (h6 i u n T h), (k.rowsok i u n T h).2⟩, fun D hD => (f.block D (Array.getElem?_eq_some_iff.1 (k.marks D hD)).1 (h5 D hD)).trans (k.marks D hD), k.nodup, k.col, k.fr.trans (fun x hx => .inr (h7 x hx)) f⟩
theorem PL.apart (k : PL w0 A3 A4 hb of r ds xs v S v7 rows S7 Ds W) {o : Nat} (ho : o < 2) : ∀ x, x ∈ S o → x ∉ r o :: ds o := fun x hx hm => by
  obtain ⟨c, hc⟩ := k.col
  have h1 := hc.list o ho x hx
  have h2 := hc.ring o ho x hm
  omega
theorem PL.far (k : PL w0 A3 A4 hb of r ds xs v S v7 rows S7 Ds W) {o : Nat} (ho : o < 2) : A3 ∉ r o :: ds o ∧ A4 ∉ r o :: ds o ∧ A3 ≠ A4 := by
  obtain ⟨c, hc⟩ := k.col
  refine ⟨fun hm => ?_, fun hm => ?_, fun h => ?_⟩
  · have h1 := hc.a3
    have h2 := hc.ring o ho _ hm
    omega
  · have h1 := hc.a4
    have h2 := hc.ring o ho _ hm
    omega
  · have h1 := hc.a3
    have h2 := hc.a4
    rw [h] at h1
    omega
theorem PL.cells (k : PL w0 A3 A4 hb of r ds xs v S v7 rows S7 Ds W) {o : Nat} (ho : o < 2) : W.cell? ⟨A3, o, none⟩ = some (.pointer (some ⟨r o, 0, none⟩)) ∧ W.cell? ⟨A4, o, none⟩ = some (v o) := by
  rw [k.a3.cell, k.a4.cell]
  rcases (by omega : o = 0 ∨ o = 1) with rfl | rfl <;> exact ⟨rfl, rfl⟩
/-- one ring and its list are turned -/
theorem PL.did (k : PL w0 A3 A4 hb of r ds xs v S v7 rows S7 Ds W) {o : Nat} (ho : o < 2) {ds' S' : List Nat} {u : Value} {xs' : List Int} (q : Rgi W' (r o) ds' xs') (ow : OwnS W' 3 1 u xs'.length (xs'.flatMap encI) S')
    (f : Fr (r o :: ds o) W W') (g : Gr W (ds o) ds') (gs : Gr W (S o) S') (ap : ∀ x, x ∈ S' → x ∉ r o :: ds') :
    PL w0 A3 A4 hb of r (upd ds o ds') (upd xs o xs') (upd v o u) (upd S o S') v7 rows S7 Ds (W'.setCell ⟨A4, o, none⟩ u) := by
  obtain ⟨c, hc, hcn⟩ := k.ext (fun x => if x ∈ ds' then o else 4)
  have f1 : Fr [A4] W' (W'.setCell ⟨A4, o, none⟩ u) := (Fr.refl _ _).setCell _ (.inl (by simp))
  have hz := f.size
  have far : ∀ x, c x ≠ o → x ∉ r o :: ds o := fun x hx hm => hx (hc.ring o ho x hm)
  have far3 : ∀ x, c x ≠ 3 → x ∉ [A4] := fun x hx hm => by simp at hm; subst hm; exact hx hc.a4
  have hda : ∀ x, x ∈ ds' → c x = o := fun x hx => by
    rcases g x hx with h | h
    · exact hc.ring o ho x (by simp [h])
    · rw [hcn x h, if_pos hx]
  have hsa : ∀ x, x ∈ S' → c x = 4 := fun x hx => by
    rcases gs x hx with h | h
    · exact hc.list o ho x h
    · rw [hcn x h, if_neg (fun hm => ap x hx (by simp [hm]))]
  have ho4 : c A4 ≠ o := by rw [hc.a4]; omega
  have hA4 : Blk W' A4 73 [v 0, v 1] := k.a4.fr f (far _ ho4)
  refine ⟨(k.a3.fr f (far _ (by rw [hc.a3]; omega))).fr f1 (far3 _ (by rw [hc.a3]; omega)), ?_, fun o' ho' => ?_, fun o' ho' => ?_, ?_, k.of2, (k.lists.fr f (fun x hx => far x (by rw [hc.lists x hx]; omega))).fr f1 (fun x hx => far3 x (by rw [hc.lists x hx]; omega)),
    fun i u n T h => ⟨((k.rowsok i u n T h).1.fr f (fun x hx => far x (by rw [hc.rows i u n T h x hx]; omega))).fr f1 (fun x hx => far3 x (by rw [hc.rows i u n T h x hx]; omega)), (k.rowsok i u n T h).2⟩, fun D hD => ?_, k.nodup, ⟨c, ?_⟩, ?_⟩
  · have := hA4.set o u
    rcases (by omega : o = 0 ∨ o = 1) with rfl | rfl
    · simpa [upd] using this
    · simpa [upd] using this
  · by_cases e : o' = o
    · subst e
      rw [upd_same, upd_same]
      exact q.fr f1 (fun x hx => far3 x (by rcases List.mem_cons.1 hx with h | h; · rw [hc.ring o' ho' x (by simp [h])]; omega
                                            · rw [hda x h]; omega))
    · rw [upd_ne _ _ e, upd_ne _ _ e]
      exact ((k.ring o' ho').fr f (fun x hx => far x (by rw [hc.ring o' ho' x hx]; exact e))).fr f1 (fun x hx => far3 x (by rw [hc.ring o' ho' x hx]; omega))
  · by_cases e : o' = o
    · subst e
      rw [upd_same, upd_same, upd_same]
      exact ow.fr f1 (fun x hx => far3 x (by rw [hsa x hx]; omega))
    · rw [upd_ne _ _ e, upd_ne _ _ e, upd_ne _ _ e]
      exact ((k.list o' ho').fr f (fun x hx => far x (by rw [hc.list o' ho' x hx]; omega))).fr f1 (fun x hx => far3 x (by rw [hc.list o' ho' x hx]; omega))
  · have hl := World.block_lt_of_cell? _ _ k.hold
    exact (f1.cell (p := ⟨hb, 0, none⟩) (by have : hb < W.heap.size := hl; show hb < _; omega) (far3 _ (by rw [hc.hb]; omega))).trans ((f.cell (p := ⟨hb, 0, none⟩) hl (far _ (by rw [hc.hb]; omega))).trans k.hold)
  · have hl := (Array.getElem?_eq_some_iff.1 (k.marks D hD)).1
    exact (f1.block D (by omega) (far3 _ (by rw [hc.marks D hD]; omega))).trans ((f.block D hl (far _ (by rw [hc.marks D hD]; omega))).trans (k.marks D hD))
  · refine ⟨fun o' ho' x hx => ?_, hc.lists, hc.a4, hc.a3, hc.hb, fun o' ho' x hx => ?_, hc.rows, hc.marks, hc.old⟩
    · rcases List.mem_cons.1 hx with h | h
      · exact hc.ring o' ho' x (by simp [h])
      · by_cases e : o' = o
        · subst e
          rw [upd_same] at h
          exact hda x h
        · rw [upd_ne _ _ e] at h
          exact hc.ring o' ho' x (by simp [h])
    · by_cases e : o' = o
      · subst e
        rw [upd_same] at hx
        exact hsa x hx
      · rw [upd_ne _ _ e] at hx
        exact hc.list o' ho' x hx
  · have n1 : ∀ x, c x ≠ 5 → w0.heap.size ≤ x := fun x hx => by
      rcases Nat.lt_or_ge x w0.heap.size with h | h
      · exact absurd (hc.old x h) hx
      · exact h
    exact (k.fr.trans (fun x hx => .inr (n1 x (by rw [hc.ring o ho x hx]; omega))) f).trans (S' := [A4]) (fun x hx => by simp at hx; subst hx; exact .inr (n1 _ (by rw [hc.a4]; omega))) f1

/-- the kept iterator is another one -/
theorem PL.held (k : PL w0 A3 A4 hb of r ds xs v S v7 rows S7 Ds W) {o hb' : Nat} (ho : o < 2) (f : Fr [] W W') (hn : W.heap.size ≤ hb') (hc' : W'.cell? ⟨hb', 0, none⟩ = some (.pointer (some ⟨r o, 0, none⟩))) :
    PL w0 A3 A4 hb' o r ds xs v S v7 rows S7 Ds W' := by
  have k' := k.fr0 f
  obtain ⟨c, hc, hcn⟩ := k.ext (fun _ => 4)
  exact ⟨k'.a3, k'.a4, k'.ring, k'.list, hc', ho, k'.lists, k'.rowsok, k'.marks, k'.nodup, ⟨c, hc.ring, hc.lists, hc.a4, hc.a3, hcn _ hn, hc.list, hc.rows, hc.marks, hc.old⟩, k'.fr⟩
/-- one mark more -/
theorem PL.mark (k : PL w0 A3 A4 hb of r ds xs v S v7 rows S7 Ds W) {D : Nat} (f : Fr [] W W') (hn : W.heap.size ≤ D) (hD : W'.heap[D]? = some (.deferred (some []))) :
    PL w0 A3 A4 hb of r ds xs v S v7 rows S7 (D :: Ds) W' := by
  have k' := k.fr0 f
  obtain ⟨c, hc, hcn⟩ := k.ext (fun _ => 4)
  refine ⟨k'.a3, k'.a4, k'.ring, k'.list, k'.hold, k'.of2, k'.lists, k'.rowsok, ?_, ?_, ⟨c, hc.ring, hc.lists, hc.a4, hc.a3, hc.hb, hc.list, hc.rows, ?_, hc.old⟩, k'.fr⟩
  · intro x hx
    rcases List.mem_cons.1 hx with rfl | hx
    · exact hD
    · exact k'.marks x hx
  · refine List.nodup_cons.2 ⟨fun hm => ?_, k.nodup⟩
    have := (Array.getElem?_eq_some_iff.1 (k.marks D hm)).1
    omega
  · intro x hx
    rcases List.mem_cons.1 hx with rfl | hx
    · exact hcn _ hn
    · exact hc.marks x hx
/-- one list more is kept -/
theorem PL.push (k : PL w0 A3 A4 hb of r ds xs v S v7 rows S7 Ds W) {u v8 : Value} {n : Nat} {T S8 : List Nat} (ou : OwnS W 3 1 u n (List.replicate n (.int .i64 (-7 - (rows.length : Int)))) T) (hn : n ≤ 1048576) (gT : ∀ x, x ∈ T → w0.heap.size ≤ x)
    (ap : ∀ o, o < 2 → ∀ x, x ∈ T → x ∉ r o :: ds o) (ap7 : ∀ x, x ∈ T → x ∉ S7 ∧ x ≠ A4)
    (o8 : OwnS W' 22 1 v8 (rows.length + 1) (rows.map (·.1) ++ [u]) S8) (f : Fr S7 W W') (g : Gr W S7 S8) :
    PL w0 A3 A4 hb of r ds xs v S v8 (rows ++ [(u, n, T)]) S8 Ds W' := by
  obtain ⟨c0, hc0, hcn0⟩ := k.ext (fun _ => 2)
  have hTl := ou.lt
  obtain ⟨c, hc, hcn, hcT⟩ : ∃ c, PC w0.heap.size A3 A4 hb r ds S rows S7 Ds c ∧ (∀ x, W.heap.size ≤ x → c x = 2) ∧ ∀ x, x ∈ T → c x = 4 := by
    refine ⟨fun x => if x ∈ T then 4 else c0 x, ⟨fun o ho x hx => ?_, fun x hx => ?_, ?_, ?_, ?_, fun o ho x hx => ?_, fun i u n T' h x hx => ?_, fun D hD => ?_, fun x hx => ?_⟩, fun x hx => ?_, fun x hx => by simp [hx]⟩
    · rw [if_neg (fun hm => ap o ho x hm hx)]; exact hc0.ring o ho x hx
    · rw [if_neg (fun hm => (ap7 x hm).1 hx)]; exact hc0.lists x hx
    · rw [if_neg (fun hm => (ap7 _ hm).2 rfl)]; exact hc0.a4
    · split <;> first | rfl | exact hc0.a3
    · split <;> first | rfl | exact hc0.hb
    · split <;> first | rfl | exact hc0.list o ho x hx
    · split <;> first | rfl | exact hc0.rows i u n T' h x hx
    · split <;> first | rfl | exact hc0.marks D hD
    · rw [if_neg (fun hm => by have := gT x hm; omega)]; exact hc0.old x hx
    · exact (if_neg (fun hm => by have := hTl x hm; omega)).trans (hcn0 x hx)
  have far : ∀ x, c x ≠ 2 → x ∉ S7 := fun x hx hm => hx (hc.lists x hm)
  refine ⟨k.a3.fr f (far _ (by rw [hc.a3]; omega)), k.a4.fr f (far _ (by rw [hc.a4]; omega)), fun o ho => (k.ring o ho).fr f (fun x hx => far x (by rw [hc.ring o ho x hx]; omega)), fun o ho => (k.list o ho).fr f (fun x hx => far x (by rw [hc.list o ho x hx]; omega)),
    (f.cell (p := ⟨hb, 0, none⟩) (World.block_lt_of_cell? _ _ k.hold) (far _ (by rw [hc.hb]; omega))).trans k.hold, k.of2, by simpa using o8, ?_, fun D hD => (f.block D (Array.getElem?_eq_some_iff.1 (k.marks D hD)).1 (far _ (by rw [hc.marks D hD]; omega))).trans (k.marks D hD), k.nodup,
    ⟨c, hc.ring, ?_, hc.a4, hc.a3, hc.hb, hc.list, ?_, hc.marks, hc.old⟩, ?_⟩
  · intro i u' n' T' h
    rcases Nat.lt_or_ge i rows.length with hi | hi
    · rw [List.getElem?_append_left hi] at h
      exact ⟨(k.rowsok i u' n' T' h).1.fr f (fun x hx => far x (by rw [hc.rows i u' n' T' h x hx]; omega)), (k.rowsok i u' n' T' h).2⟩
    · rw [List.getElem?_append_right hi] at h
      obtain ⟨h1, h2⟩ := List.getElem?_eq_some_iff.1 h
      have hi' : i = rows.length := by simp at h1; omega
      subst hi'
      simp at h
      obtain ⟨rfl, rfl, rfl⟩ := h
      exact ⟨ou.fr f (fun x hx => far x (by rw [hcT x hx]; omega)), hn⟩
  · intro x hx
    rcases g x hx with h | h
    · exact hc.lists x h
    · exact hcn x h
  · intro i u' n' T' h x hx
    rcases Nat.lt_or_ge i rows.length with hi | hi
    · rw [List.getElem?_append_left hi] at h
      exact hc.rows i u' n' T' h x hx
    · rw [List.getElem?_append_right hi] at h
      obtain ⟨h1, h2⟩ := List.getElem?_eq_some_iff.1 h
      have hi' : i = rows.length := by simp at h1; omega
      subst hi'
      simp at h
      obtain ⟨rfl, rfl, rfl⟩ := h
      exact hcT x hx
  · have n1 : ∀ x, c x ≠ 5 → w0.heap.size ≤ x := fun x hx => by
      rcases Nat.lt_or_ge x w0.heap.size with h | h
      · exact absurd (hc.old x h) hx
      · exact h
    exact k.fr.trans (fun x hx => .inr (n1 x (by rw [hc.lists x hx]; omega))) f
/-- the beginning -/
theorem PL.init {w1 w2 w3 W : World} (f1 : Fr [] w0 w1) (h2 : Rgi w2 w1.heap.size [] []) (f2 : Fr [] w1 w2) (h3 : Rgi w3 w2.heap.size [] []) (f3 : Fr [] w2 w3) (h12 : w1.heap.size < w2.heap.size) (h23 : w2.heap.size < w3.heap.size)
    (f : Fr [] w3 W) (a3 : Blk W w3.heap.size 72 [.pointer (some ⟨w1.heap.size, 0, none⟩), .pointer (some ⟨w2.heap.size, 0, none⟩)]) (a4 : Blk W (w3.heap.size + 1) 73 [.slice none 0 0, .slice none 0 0])
    (hc : W.cell? ⟨w3.heap.size + 2, 0, none⟩ = some (.pointer (some ⟨w1.heap.size, 0, none⟩))) :
    PL w0 w3.heap.size (w3.heap.size + 1) (w3.heap.size + 2) 0 (upd (fun _ => w1.heap.size) 1 w2.heap.size) (fun _ => []) (fun _ => []) (fun _ => .slice none 0 0) (fun _ => []) (.slice none 0 0) [] [] [] W := by
  have hz := f1.size
  refine ⟨by simpa [upd] using a3, a4, fun o ho => ?_, fun o ho => OwnS.nil _ _ _, by simpa [upd] using hc, by omega, OwnS.nil _ _ _, fun i u n T h => by simp at h, fun D h => by simp at h, by simp,
    ⟨fun x => if x < w0.heap.size then 5 else if x = w1.heap.size then 0 else if x = w2.heap.size then 1 else if x = w3.heap.size + 1 then 3 else 4, ?_⟩, ((f1.trans' f2).trans' f3).trans' f⟩
  · rcases (by omega : o = 0 ∨ o = 1) with rfl | rfl
    · simpa [upd] using (h2.fr f3 (by simp)).fr f (by simp)
    · simpa [upd] using h3.fr f (by simp)
  · refine ⟨fun o ho x hx => ?_, fun x hx => by simp at hx, ?_, ?_, ?_, fun o ho x hx => by simp at hx, fun i u n T h => by simp at h, fun D h => by simp at h, fun x hx => if_pos hx⟩
    · simp at hx
      subst hx
      rcases (by omega : o = 0 ∨ o = 1) with rfl | rfl
      · simp [upd]; omega
      · simp [upd]; rw [if_neg (by omega), if_neg (by omega)]
    · rw [if_neg (by omega), if_neg (by omega), if_neg (by omega)]; exact if_pos rfl
    · rw [if_neg (by omega), if_neg (by omega), if_neg (by omega), if_neg (by omega)]
    · rw [if_neg (by omega), if_neg (by omega), if_neg (by omega), if_neg (by omega)]
/-- the marks are put away -/
theorem PL.leave (k : PL w0 A3 A4 hb of r ds xs v S v7 rows S7 Ds W) (f : Fr Ds W W') : Fr [] w0 W' := by
  obtain ⟨c, hc⟩ := k.col
  refine k.fr.trans (fun x hx => .inr ?_) f
  rcases Nat.lt_or_ge x w0.heap.size with h | h
  · have h1 := hc.old x h
    have h2 := hc.marks x hx
    omega
  · exact h
end
/-- a frame whose ranges over functions have left their marks -/
theorem leaves_marks {P : Program} {fn : Func} {tmps : Array Value} {R : Ending → World → Prop} : ∀ (Ds : List Nat) (W : World), Ds.Nodup → (∀ D, D ∈ Ds → W.heap[D]? = some (.deferred (some []))) →
    (∀ W', Fr Ds W W' → LeavesInM Fence.wide 0 P fn tmps R [] .returning W') → LeavesInM Fence.wide 0 P fn tmps R (Ds.map (fun D => { target := .collected D, args := #[] })) .returning W
  | [], W, _, _, h => h W (Fr.refl _ _)
  | D :: Ds, W, hn, hm, h => by
    have hn' := List.nodup_cons.1 hn
    have f1 : Fr [D] W (W.putObj D (.deferred none)) := (Fr.refl _ _).putObj _ (.inl (by simp))
    refine ⟨by simp, .inl ⟨D, _, rfl, run_takeDeferred (hm D (by simp)), ?_⟩⟩
    refine leaves_marks Ds _ hn'.2 (fun D' hD' => ?_) (fun W' f => h W' ((f1.mono (by simp)).trans' (f.mono (fun b hb => by simp [hb]))))
    have hl := (Array.getElem?_eq_some_iff.1 (hm D' (by simp [hD']))).1
    exact (f1.block D' hl (fun hm => by simp at hm; subst hm; exact hn'.1 hD')).trans (hm D' (by simp [hD']))
end Go.Proofs.Ytoodgjmgkjhpoaa
