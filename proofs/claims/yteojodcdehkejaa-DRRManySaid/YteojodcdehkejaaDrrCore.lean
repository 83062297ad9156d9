/- A discipline by turns in memory: its struct, its flows' structs, its ring, the flows' queues. -/
import Derived.Test.YteojodcdehkejaaRingW3P6
import Derived.Test.YteojodcdehkejaaRingTQ
import Derived.Test.YteojodcdehkejaaHeldIn
namespace Go.Proofs.Yteojodcdehkejaa
open Go Go.RowKit
attribute [local go_sem] calmQ_normal wide_fn wide_depth Oper.semAt_some

/-- a flow: its struct in block b, its queue the ring r -/
structure Fl where
  b : Nat
  slot : Int
  gen : Int
  wt : Int
  qt : Int
  df : Int
  r : Nat
  ds : List Nat
  q : List P6
  by_ : Int
def Fl.cells (f : Fl) : List Value := [.int .i64 f.slot, .int .i64 f.gen, .int .i64 f.wt, .int .i64 f.qt, .int .i64 f.df, .pointer (some ⟨f.r, 0, none⟩), .int .i64 f.by_]
def CStr (f : Fl) : Chunk := Chunk.blk f.b 95 f.cells
def CQ (f : Fl) : Chunk := CRingp6 f.r f.ds f.q
abbrev CRingq (r : Nat) (ds : List Nat) (xs : List Nat) : Chunk := Chunk.ring 132 89 1 encQ r ds (xs.map some)

/-- the whole -/
structure Dr where
  b : Nat
  fv : Value
  fS : List Nat
  fl : List Fl
  rb : Nat
  rds : List Nat
  ring : List Nat
  turn : Bool
  seq : Int
  came : Int
  n : Int
def Dr.head (d : Dr) : List Value := [d.fv, .pointer (some ⟨d.rb, 0, none⟩), .bool d.turn, .int .i64 d.seq, .int .i64 d.came, .int .i64 d.n]
abbrev CHd (d : Dr) : Chunk := Chunk.blk d.b 92 d.head
abbrev CFs (d : Dr) : Chunk := Chunk.own 89 1 d.fv d.fl.length (d.fl.map fun f => ptrV (some f.b)) d.fS
def Dr.chunks (d : Dr) : List Chunk := [CHd d, CFs d, CRingq d.rb d.rds d.ring] ++ (d.fl.map CStr ++ d.fl.map CQ)
def Dr.setF (d : Dr) (k : Nat) (f : Fl) : Dr := { d with fl := d.fl.set k f }
def CDr (d : Dr) : Chunk := Chunk.all d.chunks

section
variable {d : Dr} {k : Nat} {f f' : Fl}
theorem Dr.str_at (h : d.fl[k]? = some f) : d.chunks[3 + k]? = some (CStr f) := by
  have hk := some_lt h
  unfold Dr.chunks
  rw [List.getElem?_append_right (by simp), List.getElem?_append_left (by simp; omega)]
  simp [h]
theorem Dr.que_at (h : d.fl[k]? = some f) : d.chunks[3 + d.fl.length + k]? = some (CQ f) := by
  unfold Dr.chunks
  rw [List.getElem?_append_right (by simp; omega), List.getElem?_append_right (by simp; omega)]
  simp [h, show 3 + d.fl.length + k - 3 - d.fl.length = k from by omega]
theorem map_set_same {α β : Type} {l : List α} {k : Nat} {x y : α} (g : α → β) (h : l[k]? = some x) (e : g y = g x) : (l.set k y).map g = l.map g := by
  rw [List.map_set, e]
  obtain ⟨hk, rfl⟩ := List.getElem?_eq_some_iff.1 h
  refine List.ext_getElem? fun i => ?_
  by_cases hi : k = i
  · subst hi; rw [List.getElem?_set_self (by simpa using hk)]; simp [hk]
  · rw [List.getElem?_set_ne hi]
theorem Dr.set_str (h : d.fl[k]? = some f) (hb : f'.b = f.b) (hq : CQ f' = CQ f) : d.chunks.set (3 + k) (CStr f') = (d.setF k f').chunks := by
  have hk := some_lt h
  unfold Dr.chunks Dr.setF
  rw [List.set_append_right _ _ (by simp), List.set_append_left _ _ (by simp; omega)]
  simp only [List.length_cons, List.length_nil, Nat.zero_add, Nat.reduceAdd, Nat.add_sub_cancel_left, CHd, CFs, Dr.head, List.length_set]
  rw [map_set_same (fun f => ptrV (some f.b)) h (by rw [hb]), map_set_same CQ h hq, List.map_set]
theorem Dr.set_que (h : d.fl[k]? = some f) (hb : f'.b = f.b) (hs : CStr f' = CStr f) : d.chunks.set (3 + d.fl.length + k) (CQ f') = (d.setF k f').chunks := by
  have hk := some_lt h
  unfold Dr.chunks Dr.setF
  rw [List.set_append_right _ _ (by simp; omega), List.set_append_right _ _ (by simp; omega)]
  simp only [List.length_cons, List.length_nil, Nat.zero_add, Nat.reduceAdd, List.length_map, CHd, CFs, Dr.head, List.length_set]
  rw [map_set_same (fun f => ptrV (some f.b)) h (by rw [hb]), map_set_same CStr h hs, List.map_set, show 3 + d.fl.length + k - 3 - d.fl.length = k from by omega]
end

/-- the flow of a handle -/
def Dr.look (d : Dr) (s g : Int) : Option Nat := d.fl.findIdx? fun f => decide (f.slot = s) && decide (f.gen = g)
theorem Dr.look_some {d : Dr} {s g : Int} {k : Nat} {f : Fl} (hk : d.fl[k]? = some f) (h1 : f.slot = s) (h2 : f.gen = g) (hb : ∀ j f', j < k → d.fl[j]? = some f' → ¬ (f'.slot = s ∧ f'.gen = g)) : d.look s g = some k := by
  unfold Dr.look
  rw [List.findIdx?_eq_some_iff_getElem]
  obtain ⟨hj, he⟩ := List.getElem?_eq_some_iff.1 hk
  refine ⟨hj, by rw [he]; simp [h1, h2], fun j hj' => ?_⟩
  have := hb j d.fl[j] hj' (by simp [show j < d.fl.length from by omega])
  simpa using this
theorem Dr.look_none {d : Dr} {s g : Int} (hb : ∀ j f', j < d.fl.length → d.fl[j]? = some f' → ¬ (f'.slot = s ∧ f'.gen = g)) : d.look s g = none := by
  unfold Dr.look
  rw [List.findIdx?_eq_none_iff]
  intro f hf
  obtain ⟨j, hj, rfl⟩ := List.getElem_of_mem hf
  have := hb j d.fl[j] hj (by simp [hj])
  simpa using this
theorem Dr.look_at {d : Dr} {s g : Int} {k : Nat} (h : d.look s g = some k) : ∃ f, d.fl[k]? = some f ∧ f.slot = s ∧ f.gen = g := by
  unfold Dr.look at h
  rw [List.findIdx?_eq_some_iff_getElem] at h
  obtain ⟨hk, hp, _⟩ := h
  exact ⟨d.fl[k], by simp [hk], by simpa using hp⟩
/-- the pointer to a flow -/
def Dr.ptr (d : Dr) (o : Option Nat) : Value := match o with
  | some k => match d.fl[k]? with
    | some f => .pointer (some ⟨f.b, 0, none⟩)
    | none => .pointer none
  | none => .pointer none

set_option maxRecDepth 100000 in
set_option maxHeartbeats 2000000 in
theorem dfind {w : World} {d : Dr} (h : Holds w d.chunks) (s g : Int) :
    Calls Try.prog 36 #[.pointer (some ⟨d.b, 0, none⟩), .agg #[.int .i64 s, .int .i64 g]] w fun e w' => e = .returned (d.ptr (d.look s g)) ∧ Fr [] w w' := by
  have hB : Blk w d.b 92 d.head := h.get (i := 0) rfl
  have hO : OwnS w 89 1 d.fv d.fl.length (d.fl.map fun f => ptrV (some f.b)) d.fS := h.get (i := 1) rfl
  have h0 : w.cell? ⟨d.b, 0, none⟩ = some d.fv := hB.cell 0
  have hl := hB.lt
  obtain ⟨va, vc, hv⟩ := hO.val
  rw [hv] at h0 hO
  have HO := Lib.hid hO
  have H := Lib.hid h
  have hn : d.fl.length ≤ maxLen := by
    rcases hO.2 with ⟨_, hn, _⟩ | ⟨_, cap, _, _, _, _, h1, h2, _⟩
    · omega
    · omega
  have hbx : ∀ o X, Fr [] (w.alloc o) X → Fr [] w X := fun o X f => ((Fr.refl [] w).alloc o).trans' f
  have HBX := Lib.hid hbx
  unfold maxLen at hn
  clear hB h hO hbx
  go_enter Try.func36, Try.ntmps36
  go_wp2
  obtain ⟨W, hW⟩ : ∃ W, w.alloc (.cells #[.int .i64 s, .int .i64 g] 26) = W := ⟨_, rfl⟩
  have fW : Fr [] w W := by rw [← hW]; exact (Fr.refl _ _).alloc _
  have bW : Blk W w.heap.size 26 [.int .i64 s, .int .i64 g] := by rw [← hW]; exact Blk.new w _ [_, _]
  rw [hW]
  have x0 := bW.cell 0
  have x1 := bW.cell 1
  simp only [List.getElem?_cons_zero, List.getElem?_cons_succ] at x0 x1
  have HW := Lib.hid (H.out.fr' fW (by simp))
  have hOW := Lib.hid (HO.out.fr fW (by simp))
  have FW := Lib.hid fW
  clear hW fW bW H HO HBX
  go_loopg [12] (d.fl.length + 1) (fun k i wr => ∃ j : Nat, k + j = d.fl.length + 1 ∧ j ≤ d.fl.length ∧ i = .int .i64 j ∧ ∃ q, wr = W.drewN q ∧ Hid (∀ j' f', j' < j → d.fl[j']? = some f' → ¬ (f'.slot = s ∧ f'.gen = g)))
  case atStart => exact ⟨0, by omega, by omega, rfl, 0, rfl, fun j' _ h => by omega⟩
  case round =>
    obtain ⟨j, hk, hj, rfl, q, rfl, hsk⟩ := hrel
    by_cases hjn : j < d.fl.length
    · obtain ⟨f, hf⟩ : ∃ f, d.fl[j]? = some f := ⟨d.fl[j], by simp [hjn]⟩
      obtain ⟨gb, gc, hgv, _⟩ := hOW.out.head (by omega)
      cases hgv
      have c0 : W.cell? ⟨gb, j, none⟩ = some (.pointer (some ⟨f.b, 0, none⟩)) := by
        rw [hOW.out.cellAt j (by omega), List.getElem?_map, hf]; rfl
      have hS : Blk W f.b 95 f.cells := HW.out.get (Dr.str_at hf)
      have s0 : W.cell? ⟨f.b, 0, none⟩ = some (.int .i64 f.slot) := hS.cell 0
      have s1 : W.cell? ⟨f.b, 1, none⟩ = some (.int .i64 f.gen) := hS.cell 1
      have hfb : d.ptr (some j) = .pointer (some ⟨f.b, 0, none⟩) := by simp [Dr.ptr, hf]
      have HF := Lib.hid hf
      have HFB := Lib.hid hfb
      clear hS hf hfb
      by_cases hs : f.slot = s
      · by_cases hg : f.gen = g
        · have hlook := Lib.hid (Dr.look_some HF.out hs hg (fun j' f' hj' hf' => hsk.out j' f' hj' hf'))
          rw [hs] at s0
          rw [hg] at s1
          clear hs hg
          go_wp2
          go_quiet (fail)
          go_wp2
          go_ret
          exact ⟨by rw [hlook.out, HFB.out]; rfl, (FW.out.drewN _).drewN _⟩
        · have hb1 : (f.gen == g) = false := by rw [beq_eq_false_iff_ne]; exact hg
          have hstep : Hid (∀ j' f', j' < j + 1 → d.fl[j']? = some f' → ¬ (f'.slot = s ∧ f'.gen = g)) := fun j' f' hj' hf' hc => by
            by_cases e : j' = j
            · subst e; have := HF.out; rw [hf'] at this; cases this; exact hg hc.2
            · exact hsk.out j' f' (by omega) hf' hc
          rw [hs] at s0
          clear hs hg
          go_wp2
          go_quiet (fail)
          go_wp2
          go_roundg (gk - 1)
          case measure => omega
          case rel => exact ⟨j + 1, by omega, by omega, by go_num, _, rfl, hstep⟩
      · have hb1 : (f.slot == s) = false := by rw [beq_eq_false_iff_ne]; exact hs
        have hstep : Hid (∀ j' f', j' < j + 1 → d.fl[j']? = some f' → ¬ (f'.slot = s ∧ f'.gen = g)) := fun j' f' hj' hf' hc => by
          by_cases e : j' = j
          · subst e; have := HF.out; rw [hf'] at this; cases this; exact hs hc.1
          · exact hsk.out j' f' (by omega) hf' hc
        clear hs
        go_wp2
        go_quiet (fail)
        go_wp2
        go_roundg (gk - 1)
        case measure => omega
        case rel => exact ⟨j + 1, by omega, by omega, by go_num, _, rfl, hstep⟩
    · obtain rfl : j = d.fl.length := by omega
      have hlook := Lib.hid (Dr.look_none (fun j' f' hj' hf' => hsk.out j' f' hj' hf'))
      go_wp2
      go_ret
      exact ⟨by rw [hlook.out]; rfl, FW.out.drewN _⟩
end Go.Proofs.Yteojodcdehkejaa
