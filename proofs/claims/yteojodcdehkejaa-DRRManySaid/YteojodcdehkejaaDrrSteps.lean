/- A discipline by turns: single steps on its memory, whatever lies ahead of it. -/
import Derived.Test.YteojodcdehkejaaDrrCalls
namespace Go.Proofs.Yteojodcdehkejaa
open Go Go.RowKit

theorem pre_get {α : Type} {pre l : List α} {i : Nat} {c : α} (h : l[i]? = some c) : (pre ++ l)[pre.length + i]? = some c := by
  rw [List.getElem?_append_right (by omega)]
  simpa using h
theorem pre_set {α : Type} (pre l : List α) (i : Nat) (c : α) : (pre ++ l).set (pre.length + i) c = pre ++ l.set i c := by
  rw [List.set_append_right _ _ (by omega)]
  simp
section
variable {w0 w w' : World} {S0 : List Nat} {pre : List Chunk} {d : Dr} {k : Nat} {f : Fl}
theorem Dr.here (K : Sep w0 S0 w (pre ++ d.chunks)) : Holds w d.chunks := K.hs.right
theorem Dr.set1 (K : Sep w0 S0 w (pre ++ d.chunks)) (hf : d.fl[k]? = some f) (f' : Fl) (o : Nat) (v : Value) (hc : f'.cells = f.cells.set o v) (hb : f'.b = f.b) (hq : CQ f' = CQ f) : Sep w0 S0 (w.setCell ⟨f.b, o, none⟩ v) (pre ++ (d.setF k f').chunks) := by
  have h := K.set (pre.length + (3 + k)) (pre_get (Dr.str_at hf)) o v
  rw [pre_set] at h
  have e : Chunk.blk f.b 95 (f.cells.set o v) = CStr f' := by unfold CStr; rw [hc, hb]
  rw [e, Dr.set_str hf hb hq] at h
  exact h
theorem Dr.que1 (K : Sep w0 S0 w (pre ++ d.chunks)) (hf : d.fl[k]? = some f) {q : List P6} {ds : List Nat} (hr : Rgp6 w' f.r ds q) (fr : Fr (f.r :: f.ds) w w') (g : Gr w f.ds ds) : Sep w0 S0 w' (pre ++ (d.setF k { f with q := q, ds := ds }).chunks) := by
  have h := K.ring1 (pre.length + (3 + d.fl.length + k)) (pre_get (Dr.que_at hf)) hr fr g
  rw [pre_set] at h
  have e := Dr.set_que (f' := { f with q := q, ds := ds }) hf rfl rfl
  have e2 : Chunk.ring 134 34 6 encP6 f.r ds q = CQ { f with q := q, ds := ds } := rfl
  rw [e2, e] at h
  exact h
theorem Dr.hd1 (K : Sep w0 S0 w (pre ++ d.chunks)) (d' : Dr) (o : Nat) (v : Value) (e : d.chunks.set 0 (Chunk.blk d.b 92 (d.head.set o v)) = d'.chunks) : Sep w0 S0 (w.setCell ⟨d.b, o, none⟩ v) (pre ++ d'.chunks) := by
  have h := K.set (pre.length + 0) (pre_get (c := CHd d) rfl) o v
  rw [pre_set, e] at h
  exact h
theorem Dr.ring1 (K : Sep w0 S0 w (pre ++ d.chunks)) {ring : List Nat} {rds : List Nat} (hr : Rgq w' d.rb rds (ring.map some)) (fr : Fr (d.rb :: d.rds) w w') (g : Gr w d.rds rds) : Sep w0 S0 w' (pre ++ ({ d with ring := ring, rds := rds } : Dr).chunks) := by
  have h := K.ring1 (pre.length + 2) (pre_get (c := CRingq d.rb d.rds d.ring) rfl) hr fr g
  rw [pre_set] at h
  exact h
theorem Dr.inbox (K : Sep w0 S0 w d.chunks) (t : TypeId) (vs : List Value) : Sep w0 S0 (w.alloc (.cells vs.toArray t)) ([Chunk.blk w.heap.size t vs] ++ d.chunks) := (K.alloc t vs).perm List.perm_append_comm
theorem Dr.inbox2 (K : Sep w0 S0 w (pre ++ d.chunks)) (t : TypeId) (vs : List Value) : Sep w0 S0 (w.alloc (.cells vs.toArray t)) ((Chunk.blk w.heap.size t vs :: pre) ++ d.chunks) := (K.alloc t vs).perm List.perm_append_comm
theorem Dr.outbox (K : Sep w0 S0 w (pre ++ d.chunks)) : Sep w0 S0 w d.chunks := K.sub (List.sublist_append_right _ _)
theorem Dr.setF_at (hf : d.fl[k]? = some f) (f' : Fl) : (d.setF k f').fl[k]? = some f' := List.getElem?_set_self (some_lt hf)
theorem Dr.setF_setF (d : Dr) (k : Nat) (f f' : Fl) : (d.setF k f).setF k f' = d.setF k f' := by simp [Dr.setF]
theorem Dr.strs (K : Sep w0 S0 w (pre ++ d.chunks)) (hf : d.fl[k]? = some f) : Blk w f.b 95 f.cells := K.hs.right.get (Dr.str_at hf)
theorem Dr.ques (K : Sep w0 S0 w (pre ++ d.chunks)) (hf : d.fl[k]? = some f) : Rgp6 w f.r f.ds f.q := K.hs.right.get (Dr.que_at hf)
theorem Dr.hds (K : Sep w0 S0 w (pre ++ d.chunks)) : Blk w d.b 92 d.head := K.hs.right.get (i := 0) rfl
theorem Dr.rings (K : Sep w0 S0 w (pre ++ d.chunks)) : Rgq w d.rb d.rds (d.ring.map some) := K.hs.right.get (i := 2) rfl
end

/-- a flow that has got a packet -/
def Fl.got (f : Fl) (p : P6) (ds : List Nat) : Fl := { f with q := f.q ++ [p], ds := ds, df := if f.q = [] then 0 else f.df, by_ := f.by_ + p.f3 }
def Dr.admitted (d : Dr) (k : Nat) (f : Fl) (p : P6) (rds ds : List Nat) : Dr := { d.setF k (f.got p ds) with ring := if f.q = [] then d.ring ++ [f.b] else d.ring, rds := rds, n := d.n + 1, seq := p.f4, came := p.f5 }
theorem add_w2 {a b : Int} (h1 : 0 ≤ a) (h2 : a ≤ 1125899906842624) (h3 : 0 ≤ b) (h4 : b ≤ 1125899906842624) : wrap64 (a + b) = a + b := by unfold wrap64; omega
theorem sub_w2 {a b : Int} (h1 : 0 ≤ b) (h2 : b ≤ a) (h3 : a ≤ 1125899906842624) : wrap64 (a - b) = a - b := by unfold wrap64; omega
end Go.Proofs.Yteojodcdehkejaa
