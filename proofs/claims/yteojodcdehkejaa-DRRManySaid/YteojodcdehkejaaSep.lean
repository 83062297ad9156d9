/- Memory in pieces: chunks of blocks that lie apart, each with what it holds; a call changes its own chunks and leaves the others. -/
import Derived.Test.YteojodcdehkejaaBase
import Derived.RangeFuncLeaves
namespace Go.Proofs.Yteojodcdehkejaa
open Go Go.RowKit

/-- A piece of memory: its blocks, and what they hold. -/
structure Chunk where
  bs : List Nat
  ok : World → Prop
  kept : ∀ {w w' : World}, ok w → (∀ b, b ∈ bs → w'.heap[b]? = w.heap[b]?) → ok w'
  lt : ∀ {w : World}, ok w → ∀ b, b ∈ bs → b < w.heap.size

/-- a block of cells -/
def Chunk.blk (b : Nat) (t : TypeId) (vs : List Value) : Chunk where
  bs := [b]
  ok w := Blk w b t vs
  kept h hk := (hk b (by simp)).trans h
  lt h x hx := by simp at hx; subst hx; exact Blk.lt h
/-- an owned row -/
def Chunk.own (e sz : Nat) (v : Value) (n : Nat) (xs : List Value) (S : List Nat) : Chunk where
  bs := S
  ok w := OwnS w e sz v n xs S
  kept h hk := OwnS.kept h hk
  lt h := OwnS.lt h
/-- the mark of a loop over a function -/
def Chunk.mark (D : Nat) : Chunk where
  bs := [D]
  ok w := w.heap[D]? = some (.deferred (some []))
  kept h hk := (hk D (by simp)).trans h
  lt h x hx := by simp at hx; subst hx; exact (Array.getElem?_eq_some_iff.1 h).1
theorem Chunk.blk_bs (b : Nat) (t : TypeId) (vs : List Value) : (Chunk.blk b t vs).bs = [b] := rfl
theorem Chunk.own_bs (e sz : Nat) (v : Value) (n : Nat) (xs : List Value) (S : List Nat) : (Chunk.own e sz v n xs S).bs = S := rfl
theorem Chunk.mark_bs (D : Nat) : (Chunk.mark D).bs = [D] := rfl

def Chunks.bs (cs : List Chunk) : List Nat := cs.flatMap Chunk.bs
theorem Chunks.mem_bs {cs : List Chunk} {b : Nat} : b ∈ Chunks.bs cs ↔ ∃ c, c ∈ cs ∧ b ∈ c.bs := List.mem_flatMap

/-- they hold, and lie apart -/
structure Holds (w : World) (cs : List Chunk) : Prop where
  ok : ∀ c, c ∈ cs → c.ok w
  ap : cs.Pairwise (fun c d => ∀ b, b ∈ c.bs → b ∉ d.bs)

/-- .. and of what was there in w0, none but the blocks of S0 has turned; the chunks' blocks are of S0 or new. -/
structure Sep (w0 : World) (S0 : List Nat) (w : World) (cs : List Chunk) : Prop where
  fr : Fr S0 w0 w
  hs : Holds w cs
  gr : Gr w0 S0 (Chunks.bs cs)

section
variable {w0 w w' w'' : World} {S0 S T : List Nat} {cs cs' ds news : List Chunk} {c c' d d' : Chunk}

theorem Holds.get (h : Holds w cs) {i : Nat} (hi : cs[i]? = some c) : c.ok w := h.ok c (List.mem_of_getElem? hi)
theorem Holds.lt (h : Holds w cs) : ∀ b, b ∈ Chunks.bs cs → b < w.heap.size := fun b hb => by
  obtain ⟨c, hc, hb⟩ := Chunks.mem_bs.1 hb
  exact c.lt (h.ok c hc) b hb
theorem Holds.kept (h : Holds w cs) (hk : ∀ b, b ∈ Chunks.bs cs → w'.heap[b]? = w.heap[b]?) : Holds w' cs :=
  ⟨fun c hc => c.kept (h.ok c hc) (fun b hb => hk b (Chunks.mem_bs.2 ⟨c, hc, hb⟩)), h.ap⟩
theorem Holds.fr' (h : Holds w cs) (f : Fr S w w') (hn : ∀ b, b ∈ Chunks.bs cs → b ∉ S) : Holds w' cs := h.kept fun b hb => f.block b (h.lt b hb) (hn b hb)
theorem Holds.apart (h : Holds w cs) {i j : Nat} (hij : i ≠ j) (hi : cs[i]? = some c) (hj : cs[j]? = some d) : ∀ b, b ∈ c.bs → b ∉ d.bs := by
  intro b hb hd
  obtain ⟨hil, rfl⟩ := List.getElem?_eq_some_iff.1 hi
  obtain ⟨hjl, rfl⟩ := List.getElem?_eq_some_iff.1 hj
  rcases Nat.lt_or_gt_of_ne hij with hlt | hgt
  · exact List.pairwise_iff_getElem.1 h.ap i j hil hjl hlt b hb hd
  · exact List.pairwise_iff_getElem.1 h.ap j i hjl hil hgt b hd hb
theorem Holds.sub (h : Holds w cs) (hs : cs'.Sublist cs) : Holds w cs' := ⟨fun c hc => h.ok c (hs.subset hc), h.ap.sublist hs⟩
theorem Holds.perm (h : Holds w cs) (hp : cs.Perm cs') : Holds w cs' :=
  ⟨fun c hc => h.ok c (hp.mem_iff.2 hc), (hp.pairwise_iff (fun hab x hx hx' => hab x hx' hx)).1 h.ap⟩
theorem Holds.nil (w : World) : Holds w [] := ⟨(fun _ h => by cases h), List.Pairwise.nil⟩
theorem Holds.app (h : Holds w cs) (k : Holds w ds) (hd : ∀ b, b ∈ Chunks.bs cs → b ∉ Chunks.bs ds) : Holds w (cs ++ ds) :=
  ⟨fun c hc => (List.mem_append.1 hc).elim (h.ok c) (k.ok c), List.pairwise_append.2 ⟨h.ap, k.ap, fun c hc d hd' b hb hb' => hd b (Chunks.mem_bs.2 ⟨c, hc, hb⟩) (Chunks.mem_bs.2 ⟨d, hd', hb'⟩)⟩⟩
theorem Holds.left (h : Holds w (cs ++ ds)) : Holds w cs := h.sub (List.sublist_append_left _ _)
theorem Holds.right (h : Holds w (cs ++ ds)) : Holds w ds := h.sub (List.sublist_append_right _ _)
theorem Holds.cross (h : Holds w (cs ++ ds)) : ∀ b, b ∈ Chunks.bs cs → b ∉ Chunks.bs ds := fun b hb hb' => by
  obtain ⟨c, hc, h1⟩ := Chunks.mem_bs.1 hb
  obtain ⟨d, hd, h2⟩ := Chunks.mem_bs.1 hb'
  exact (List.pairwise_append.1 h.ap).2.2 c hc d hd b h1 h2
theorem Chunks.bs_app (cs ds : List Chunk) : Chunks.bs (cs ++ ds) = Chunks.bs cs ++ Chunks.bs ds := by simp [Chunks.bs]
theorem Chunks.bs_cons (c : Chunk) (ds : List Chunk) : Chunks.bs (c :: ds) = c.bs ++ Chunks.bs ds := by simp [Chunks.bs]
theorem Chunks.bs_nil : Chunks.bs [] = [] := rfl
theorem Holds.one (h : c.ok w) : Holds w [c] := ⟨fun d hd => by simp at hd; subst hd; exact h, by simp⟩

theorem Sep.start (h : Holds w cs) : Sep w (Chunks.bs cs) w cs := ⟨Fr.refl _ _, h, Gr.refl _ _⟩
theorem Sep.start1 (h : c.ok w) : Sep w c.bs w [c] := ⟨Fr.refl _ _, Holds.one h, by rw [Chunks.bs_cons, Chunks.bs_nil, List.append_nil]; exact Gr.refl _ _⟩
theorem Sep.get (h : Sep w0 S0 w cs) {i : Nat} (hi : cs[i]? = some c) : c.ok w := h.hs.get hi
theorem Sep.blk (h : Sep w0 S0 w cs) (i : Nat) {b : Nat} {t : TypeId} {vs : List Value} (hi : cs[i]? = some (Chunk.blk b t vs)) : Blk w b t vs := h.hs.get hi
theorem Sep.own (h : Sep w0 S0 w cs) (i : Nat) {e sz : Nat} {v : Value} {n : Nat} {xs : List Value} {S : List Nat} (hi : cs[i]? = some (Chunk.own e sz v n xs S)) : OwnS w e sz v n xs S := h.hs.get hi
theorem Sep.sub (h : Sep w0 S0 w cs) (hs : cs'.Sublist cs) : Sep w0 S0 w cs' :=
  ⟨h.fr, h.hs.sub hs, fun b hb => by obtain ⟨c, hc, hb⟩ := Chunks.mem_bs.1 hb; exact h.gr b (Chunks.mem_bs.2 ⟨c, hs.subset hc, hb⟩)⟩
theorem Sep.perm (h : Sep w0 S0 w cs) (hp : cs.Perm cs') : Sep w0 S0 w cs' :=
  ⟨h.fr, h.hs.perm hp, fun b hb => by obtain ⟨c, hc, hb⟩ := Chunks.mem_bs.1 hb; exact h.gr b (Chunks.mem_bs.2 ⟨c, hp.mem_iff.2 hc, hb⟩)⟩
theorem Sep.bne (h : Sep w0 S0 w cs) (i j : Nat) (hij : i ≠ j) {b b' : Nat} {t t' : TypeId} {vs vs' : List Value} (hi : cs[i]? = some (Chunk.blk b t vs)) (hj : cs[j]? = some (Chunk.blk b' t' vs')) : b ≠ b' :=
  fun e => h.hs.apart hij hi hj b (by simp [Chunk.blk]) (by simp [Chunk.blk, e])

/-- The frame rule: what a call did with some chunks, beside the others. -/
theorem Sep.frame (h : Sep w0 S0 w (cs ++ ds)) (k : Sep w (Chunks.bs cs) w' cs') : Sep w0 S0 w' (cs' ++ ds) := by
  have hlt := h.hs.right.lt
  refine ⟨h.fr.trans (fun b hb => h.gr b (by rw [Chunks.bs_app]; simp [hb])) k.fr, k.hs.app (h.hs.right.fr' k.fr (fun b hb hc => h.hs.cross b hc hb)) (fun b hb hd => ?_), fun b hb => ?_⟩
  · rcases k.gr b hb with h1 | h1
    · exact h.hs.cross b h1 hd
    · have := hlt b hd; omega
  · rw [Chunks.bs_app] at hb
    rcases List.mem_append.1 hb with hb | hb
    · rcases k.gr b hb with h1 | h1
      · exact h.gr b (by rw [Chunks.bs_app]; simp [h1])
      · exact .inr (Nat.le_trans h.fr.size h1)
    · exact h.gr b (by rw [Chunks.bs_app]; simp [hb])

theorem perm_set {α : Type} {l : List α} {i : Nat} {c : α} (hi : l[i]? = some c) (c' : α) : (c' :: l.eraseIdx i).Perm (l.set i c') := by
  induction l generalizing i with
  | nil => simp at hi
  | cons a l ih =>
    cases i with
    | zero => simp
    | succ i =>
      simp only [List.getElem?_cons_succ] at hi
      simp only [List.eraseIdx_cons_succ, List.set_cons_succ]
      exact (List.Perm.swap a c' _).trans ((ih hi).cons a)
theorem perm_get {α : Type} {l : List α} {i : Nat} {c : α} (hi : l[i]? = some c) : l.Perm (c :: l.eraseIdx i) := by
  have := perm_set hi c
  rw [show l.set i c = l from by
    obtain ⟨hil, rfl⟩ := List.getElem?_eq_some_iff.1 hi
    simp] at this
  exact this.symm
/-- a call that changes one chunk and makes others -/
theorem Sep.call1 (h : Sep w0 S0 w cs) (i : Nat) (hi : cs[i]? = some c) (k : Sep w c.bs w' (c' :: news)) : Sep w0 S0 w' (cs.set i c' ++ news) := by
  have h1 := h.perm (perm_get hi)
  have h2 := Sep.frame (cs := [c]) (ds := cs.eraseIdx i) (by simpa using h1) (by rw [Chunks.bs_cons, Chunks.bs_nil, List.append_nil]; exact k)
  refine h2.perm ?_
  rw [List.cons_append]
  refine (List.Perm.cons _ List.perm_append_comm).trans ?_
  rw [← List.cons_append]
  exact (perm_set hi c').append_right news
theorem Sep.call1' (h : Sep w0 S0 w cs) (i : Nat) (hi : cs[i]? = some c) (k : Sep w c.bs w' [c']) : Sep w0 S0 w' (cs.set i c') := by simpa using h.call1 i hi k
/-- a call that makes chunks alone -/
theorem Sep.call0 (h : Sep w0 S0 w cs) (k : Sep w [] w' news) : Sep w0 S0 w' (cs ++ news) :=
  (Sep.frame (cs := []) (ds := cs) h k).perm List.perm_append_comm
/-- a call that changes two -/
theorem Sep.call2 (h : Sep w0 S0 w cs) (i j : Nat) (hij : i ≠ j) (hi : cs[i]? = some c) (hj : cs[j]? = some d) (k : Sep w (c.bs ++ d.bs) w' (c' :: d' :: news)) : Sep w0 S0 w' ((cs.set i c').set j d' ++ news) := by
  have hj' : (cs.set i c)[j]? = some d := by rw [List.getElem?_set_ne hij]; exact hj
  have p1 : cs.Perm (c :: cs.eraseIdx i) := perm_get hi
  have hj2 : (c' :: cs.eraseIdx i).Perm (cs.set i c') := perm_set hi c'
  have hj3 : (cs.set i c')[j]? = some d := by rw [List.getElem?_set_ne hij]; exact hj
  have p2 : (cs.set i c').Perm (d :: (cs.set i c').eraseIdx j) := perm_get hj3
  -- the rest: both struck
  obtain ⟨rest, hr⟩ : ∃ rest, (cs.eraseIdx i).Perm (d :: rest) := by
    have : d ∈ cs.eraseIdx i := by
      rw [List.mem_eraseIdx_iff_getElem?]
      exact ⟨j, fun e => hij e.symm, hj⟩
    obtain ⟨k, hk⟩ := List.getElem?_of_mem this
    exact ⟨_, perm_get hk⟩
  have pA : cs.Perm ([c, d] ++ rest) := p1.trans (hr.cons c)
  have pB : ((cs.set i c').set j d').Perm ([c', d'] ++ rest) := by
    have e1 : (d :: (cs.set i c').eraseIdx j).Perm (d :: (c' :: rest)) := p2.symm.trans (hj2.symm.trans ((hr.cons c').trans (List.Perm.swap d c' rest)))
    have e2 : ((cs.set i c').eraseIdx j).Perm (c' :: rest) := List.Perm.cons_inv e1
    exact (perm_set hj3 d').symm.trans ((e2.cons d').trans (List.Perm.swap c' d' rest))
  have h2 := Sep.frame (cs := [c, d]) (ds := rest) (h.perm pA) (by rw [Chunks.bs_cons, Chunks.bs_cons, Chunks.bs_nil, List.append_nil]; exact k)
  refine h2.perm ?_
  refine List.Perm.trans ?_ (pB.symm.append_right news)
  simp only [List.cons_append, List.nil_append]
  exact (List.perm_append_comm.cons d').cons c'
/-- a call that changes those in the middle, and makes others -/
theorem Sep.mid {a b b' c : List Chunk} (h : Sep w0 S0 w (a ++ (b ++ c))) (k : Sep w (Chunks.bs b) w' (b' ++ news)) : Sep w0 S0 w' (a ++ (b' ++ c) ++ news) := by
  have p1 : (a ++ (b ++ c)).Perm (b ++ (a ++ c)) := by
    rw [← List.append_assoc, ← List.append_assoc]
    exact List.perm_append_comm.append_right c
  refine (Sep.frame (h.perm p1) k).perm ?_
  have p2 : (b' ++ (a ++ c)).Perm (a ++ (b' ++ c)) := by
    rw [← List.append_assoc, ← List.append_assoc]
    exact List.perm_append_comm.append_right c
  refine List.Perm.trans ?_ (p2.append_right news)
  rw [List.append_assoc, List.append_assoc]
  exact List.Perm.append_left b' List.perm_append_comm
theorem Sep.next (h : Sep w0 S0 w cs) (k : Sep w (Chunks.bs cs) w' cs') : Sep w0 S0 w' cs' := by
  have := Sep.frame (cs := cs) (ds := []) (by simpa using h) k
  simpa using this
/-- chunks that are looked at no more may turn -/
theorem Sep.gone (h : Sep w0 S0 w (cs ++ ds)) (f : Fr S w w') (hS : ∀ b, b ∈ S → b ∈ Chunks.bs ds) : Sep w0 S0 w' cs := by
  have := Sep.frame (cs := ds) (ds := cs) (cs' := []) (h.perm List.perm_append_comm) ⟨f.mono hS, Holds.nil _, Gr.nil _ _⟩
  simpa using this
/-- nothing of what was there has turned -/
theorem Sep.same (h : Sep w0 S0 w cs) (f : Fr [] w w') : Sep w0 S0 w' cs := by
  have := h.call0 (news := []) ⟨f, Holds.nil _, Gr.nil _ _⟩
  simpa using this
theorem Sep.sim (h : Sep w0 S0 w cs) (s : Sim w w') : Sep w0 S0 w' cs := h.same ((Fr.refl [] w).sim s)
theorem Sep.drewN (h : Sep w0 S0 w cs) (n : Nat) : Sep w0 S0 (w.drewN n) cs := h.same ((Fr.refl [] w).drewN n)
theorem Sep.drew (h : Sep w0 S0 w cs) : Sep w0 S0 w.drew cs := h.same (Fr.refl [] w).drew
theorem Sep.allocJ (h : Sep w0 S0 w cs) (o : Obj) : Sep w0 S0 (w.alloc o) cs := h.same ((Fr.refl [] w).alloc o)
theorem Sep.alloc (h : Sep w0 S0 w cs) (t : TypeId) (vs : List Value) : Sep w0 S0 (w.alloc (.cells vs.toArray t)) (cs ++ [Chunk.blk w.heap.size t vs]) :=
  h.call0 ⟨(Fr.refl [] w).alloc _, Holds.one (Blk.new w t vs), fun b hb => by simp [Chunks.bs, Chunk.blk] at hb; subst hb; exact .inr (Nat.le_refl _)⟩
theorem Sep.set (h : Sep w0 S0 w cs) (i : Nat) {b : Nat} {t : TypeId} {vs : List Value} (hi : cs[i]? = some (Chunk.blk b t vs)) (o : Nat) (v : Value) : Sep w0 S0 (w.setCell ⟨b, o, none⟩ v) (cs.set i (Chunk.blk b t (vs.set o v))) :=
  h.call1' i hi ⟨(Fr.refl _ w).setCell v (.inl (by simp [Chunk.blk])), Holds.one ((h.blk i hi).set o v), by simp [Chunks.bs, Chunk.blk]; exact Gr.refl _ _⟩
/-- a chunk said anew, of the same blocks -/
theorem Sep.re (h : Sep w0 S0 w cs) (i : Nat) (hi : cs[i]? = some c) (hb : c'.bs = c.bs) (hc : c'.ok w) : Sep w0 S0 w (cs.set i c') :=
  h.call1' i hi ⟨Fr.refl _ _, Holds.one hc, by rw [Chunks.bs_cons, Chunks.bs_nil, List.append_nil, hb]; exact Gr.refl _ _⟩
/-- .. and the whole at the end -/
theorem Sep.take (h : Sep w0 S0 w cs) (n : Nat) : Sep w0 S0 w (cs.take n) := h.sub (List.take_sublist _ _)
theorem Sep.cellOf (h : Sep w0 S0 w cs) (i : Nat) {b : Nat} {t : TypeId} {vs : List Value} (hi : cs[i]? = some (Chunk.blk b t vs)) (o : Nat) {v : Value} (hv : vs[o]? = some v) : w.cell? ⟨b, o, none⟩ = some v := ((h.blk i hi).cell o).trans hv
theorem Sep.of_one {S : List Nat} (f : Fr S w w') (hk : c.ok w') (g : Gr w S c.bs) : Sep w S w' [c] := ⟨f, Holds.one hk, by rw [Chunks.bs_cons, Chunks.bs_nil, List.append_nil]; exact g⟩
theorem Sep.of_one0 (f : Fr [] w w') (hk : c.ok w') (g : Gr w [] c.bs) : Sep w [] w' [c] := Sep.of_one f hk g
theorem Sep.of_same {S : List Nat} (f : Fr S w w') (hk : c.ok w') (hS : S = c.bs) : Sep w c.bs w' [c] := by subst hS; exact Sep.of_one f hk (Gr.refl _ _)

/-- one of many chunks: all of a list -/
def Chunk.all (cs : List Chunk) : Chunk where
  bs := Chunks.bs cs
  ok w := Holds w cs
  kept h hk := Holds.kept h hk
  lt h := Holds.lt h
theorem Sep.open (h : Sep w0 S0 w (Chunk.all ds :: cs)) : Sep w0 S0 w (ds ++ cs) := by
  refine Sep.frame (cs := [Chunk.all ds]) (ds := cs) h ?_
  have hd : Holds w ds := h.hs.ok (Chunk.all ds) (by simp)
  have := Sep.start hd
  rw [Chunks.bs_cons, Chunks.bs_nil, List.append_nil]
  exact this
theorem Sep.shut (h : Sep w0 S0 w (ds ++ cs)) : Sep w0 S0 w (Chunk.all ds :: cs) := by
  refine Sep.frame (cs := ds) (cs' := [Chunk.all ds]) h ?_
  exact Sep.of_one (Fr.refl _ _) (show Holds w ds from h.hs.left) (Gr.refl _ _)

/-- those of the numbers of a list, in its order -/
theorem Sep.pick (h : Sep w0 S0 w cs) (is : List Nat) (hn : is.Nodup) : Sep w0 S0 w (is.filterMap (fun i => cs[i]?)) := by
  refine ⟨h.fr, ⟨fun c hc => ?_, ?_⟩, fun b hb => ?_⟩
  · obtain ⟨i, _, hi⟩ := List.mem_filterMap.1 hc
    exact h.hs.get hi
  · exact List.Pairwise.filterMap (R := fun i j => i ≠ j) (fun i => cs[i]?) (fun i j hij c hc d hd => h.hs.apart hij hc hd) hn
  · obtain ⟨c, hc, hb⟩ := Chunks.mem_bs.1 hb
    obtain ⟨i, _, hi⟩ := List.mem_filterMap.1 hc
    exact h.gr b (Chunks.mem_bs.2 ⟨c, List.mem_of_getElem? hi, hb⟩)
/-- what an invariant of a range over a function may say -/
theorem loc_holds {β : Type} {n₀ : Nat} (φ : β → List Chunk → Prop) : ∀ S (s : β) A B T, (∃ cs, S = Chunks.bs cs ∧ Holds A cs ∧ φ s cs) → Fr T A B → (∀ b, b ∈ T → n₀ ≤ b ∧ b ∉ S) → ∃ cs, S = Chunks.bs cs ∧ Holds B cs ∧ φ s cs := by
  rintro S s A B T ⟨cs, rfl, h, hp⟩ f ht
  exact ⟨cs, rfl, h.fr' f (fun b hb hm => (ht b hm).2 hb), hp⟩
end
/-- a range over a function has ended: its chunks, and its mark -/
theorem Sep.ranged {w w' : World} {S S' : List Nat} {cs : List Chunk} {D : Nat} (f : Fr S w w') (g : Gr w S S') (hb : S' = Chunks.bs cs) (h : Holds w' cs) (hD : w.heap.size ≤ D) (hn : D ∉ S') (hm : w'.heap[D]? = some (.deferred (some []))) : Sep w S w' (cs ++ [Chunk.mark D]) := by
  subst hb
  refine ⟨f, h.app (Holds.one hm) (fun b hb hm => by simp [Chunks.bs, Chunk.mark] at hm; subst hm; exact hn hb), fun b hb => ?_⟩
  rw [Chunks.bs_app] at hb
  rcases List.mem_append.1 hb with hb | hb
  · exact g b hb
  · simp [Chunks.bs, Chunk.mark] at hb; subst hb; exact .inr hD
/-- a frame meets a pattern whose free slots are told by a function -/
theorem meet_frame {R : (Nat → Value) → List Deferred → Prop} {G : (Nat → Value) → Array Value} {l : List Value} {d : List Deferred} (hR : R (fun i => l.getD i undef) d) (hG : l.toArray = G (fun i => l.getD i undef)) :
    ∃ (u : Nat → Value) (dfs : List Deferred), R u dfs ∧ (⟨l.toArray, d⟩ : Act) = ⟨G u, dfs⟩ := ⟨_, d, hR, by rw [hG]⟩
/-- the walk stops here -/
structure Stop (p : Prop) : Prop where
  out : p
theorem stop_block (n : Nat) {s : Code} {F : Fence} {rm : Nat} {P : Program} {Q : Exit → Act → World → Prop} {a : Act} {w : World} (h : Stop ((Code.block n s).wpIn F rm P Q a w)) : (Code.block n s).wpIn F rm P Q a w := h.out
theorem stop_at (n : Nat) {ops : Array Oper} {dr : Bool} {s : Code} {F : Fence} {rm : Nat} {P : Program} {Q : Exit → Act → World → Prop} {a : Act} {w : World} (h : Stop (((Code.region n ops dr).seq s).wpIn F rm P Q a w)) : ((Code.region n ops dr).seq s).wpIn F rm P Q a w := h.out
theorem stop_cond (n : Nat) {s t : Code} {F : Fence} {rm : Nat} {P : Program} {Q : Exit → Act → World → Prop} {a : Act} {w : World} (h : Stop ((Code.cond (.tmp n) s t).wpIn F rm P Q a w)) : (Code.cond (.tmp n) s t).wpIn F rm P Q a w := h.out
/-- a frame whose ranges over functions have left their marks -/
theorem leaves_marks' {P : Program} {fn : Func} {tmps : Array Value} {R : Ending → World → Prop} : ∀ (Ds : List Nat) (W : World), Ds.Nodup → (∀ D, D ∈ Ds → W.heap[D]? = some (.deferred (some []))) →
    (∀ W', Fr Ds W W' → LeavesInM Fence.wide 0 P fn tmps R [] .returning W') → LeavesInM Fence.wide 0 P fn tmps R (Ds.map (fun D => { target := .collected D, args := #[] })) .returning W
  | [], W, _, _, h => h W (Fr.refl _ _)
  | D :: Ds, W, hn, hm, h => by
    have hn' := List.nodup_cons.1 hn
    have f1 : Fr [D] W (W.putObj D (.deferred none)) := (Fr.refl _ _).putObj _ (.inl (by simp))
    refine ⟨by simp, .inl ⟨D, _, rfl, run_takeDeferred (hm D (by simp)), ?_⟩⟩
    refine leaves_marks' Ds _ hn'.2 (fun D' hD' => ?_) (fun W' f => h W' ((f1.mono (by simp)).trans' (f.mono (fun b hb => by simp [hb]))))
    have hl := (Array.getElem?_eq_some_iff.1 (hm D' (by simp [hD']))).1
    exact (f1.block D' hl (fun hm => by simp at hm; subst hm; exact hn'.1 hD')).trans (hm D' (by simp [hD']))
/-- the marks of a frame -/
def Chunk.marks (Ds : List Nat) : Chunk := Chunk.all (Ds.map Chunk.mark)
theorem marks_ok {w : World} {Ds : List Nat} (h : (Chunk.marks Ds).ok w) : Ds.Nodup ∧ ∀ D, D ∈ Ds → w.heap[D]? = some (.deferred (some [])) := by
  obtain ⟨h1, h2⟩ : Holds w (Ds.map Chunk.mark) := h
  refine ⟨?_, fun D hD => h1 (Chunk.mark D) (List.mem_map.2 ⟨D, hD, rfl⟩)⟩
  rw [List.pairwise_map] at h2
  exact List.Pairwise.imp (fun {a b} hab e => hab a (by simp [Chunk.mark]) (by simp [Chunk.mark, e])) h2
theorem marks_bs (Ds : List Nat) : (Chunk.marks Ds).bs = Ds := by
  show Chunks.bs (Ds.map Chunk.mark) = Ds
  induction Ds with
  | nil => rfl
  | cons D Ds ih => rw [List.map_cons, Chunks.bs_cons, ih]; rfl
theorem marks_nil (w : World) : (Chunk.marks []).ok w := Holds.nil w
theorem marks_cons {w : World} {Ds : List Nat} {D : Nat} (h : (Chunk.marks Ds).ok w) (hd : w.heap[D]? = some (.deferred (some []))) (hn : D ∉ Ds) : (Chunk.marks (D :: Ds)).ok w := by
  refine Holds.app (cs := [Chunk.mark D]) (Holds.one hd) h (fun b hb hm => ?_)
  rw [show Chunks.bs (Ds.map Chunk.mark) = Ds from marks_bs Ds] at hm
  simp [Chunks.bs, Chunk.mark] at hb
  subst hb
  exact hn hm
theorem Sep.marks_push {w0 w : World} {S0 : List Nat} {cs : List Chunk} {D : Nat} {Ds : List Nat} (h : Sep w0 S0 w (Chunk.mark D :: Chunk.marks Ds :: cs)) : Sep w0 S0 w (Chunk.marks (D :: Ds) :: cs) := by
  refine Sep.frame (cs := [Chunk.mark D, Chunk.marks Ds]) (ds := cs) (cs' := [Chunk.marks (D :: Ds)]) h (Sep.of_one (Fr.refl _ _) (marks_cons (h.get (i := 1) rfl) (h.get (i := 0) rfl) (fun hm => ?_)) ?_)
  · exact h.hs.apart (i := 0) (j := 1) (by decide) rfl rfl D (by simp [Chunk.mark]) (by rw [marks_bs]; exact hm)
  · rw [marks_bs, Chunks.bs_cons, Chunks.bs_cons, marks_bs, Chunks.bs_nil]
    exact Gr.of_sub (by simp [Chunk.mark])
end Go.Proofs.Yteojodcdehkejaa
