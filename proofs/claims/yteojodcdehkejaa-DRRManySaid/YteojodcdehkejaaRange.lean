/- The law of a range over a function, by footprints: at the outermost loop of a function and at a loop within a round. -/
import Derived.Test.YteojodcdehkejaaBase
namespace Go.Proofs.Yteojodcdehkejaa
open Go Go.RowKit

theorem wideIn {P : Program} {f : FuncId} {args : Array Value} {w : World} {R : Ending → World → Prop} (n : Nat) (h : Calls P f args w R) : CallsIn Fence.wide n P f args w R := callsIn_wide.2 h

theorem wide_fn (f : FuncId) : Fence.wide.fn f = True := rfl
theorem wide_depth : Fence.wide.depth = none := rfl
theorem wide_round : Fence.wide.round = none := rfl

/-- What I says of a world hangs on the blocks below n₀ and on those of its footprint alone. -/
def Loc {β : Type} (n₀ : Nat) (I : List Nat → β → World → Prop) : Prop :=
  ∀ S s A B T, I S s A → Fr T A B → (∀ b, b ∈ T → n₀ ≤ b ∧ b ∉ S) → I S s B

/-- The contract of an iterator value (function gf, captured lb) in the world w: it hands the elements of xs in their order to yield, and stops where that says false. -/
def SeqF {α : Type} (P : Program) (gf : Nat) (lb : Array Value) (encs : α → Array Value) (xs : List α) (w : World) : Prop :=
  ∀ (l : Nat) (I Ix : List Nat → List α → World → Prop) (S : List Nat) (W : World), Fr [] w W → (∀ b, b ∈ S → b < W.heap.size) → Loc W.heap.size I → Loc W.heap.size Ix →
    (∀ pre x post S1 W1, xs = pre ++ x :: post → W.heap.size ≤ W1.heap.size → Gr W S S1 → Fr S W W1 → I S1 pre W1 → YieldAt Fence.wide 0 P l (encs x) W1 fun e W' => ∃ S', Gr W1 S1 S' ∧ Fr S1 W1 W' ∧
      ((e = .returned (.bool true) ∧ I S' (pre ++ [x]) W') ∨ (e = .returned (.bool false) ∧ Ix S' (pre ++ [x]) W'))) →
    I S [] W →
    Calls P gf (#[.func (.yield l) #[] #[]] ++ lb) W fun e W' => (∃ v, e = .returned v) ∧ ∃ S', Gr W S S' ∧ Fr S W W' ∧
      (I S' xs W' ∨ ∃ pre x post, xs = pre ++ x :: post ∧ Ix S' (pre ++ [x]) W')

/-- How the body of a round may be left. -/
def postF {α : Type} (I : List Nat → List α → World → Prop) (Ix : Code → List Nat → List α → World → Prop) (S : List Nat) (xs : List α) (W : World) : Exit → Act → World → Prop
  | .normal, _, W' => ∃ S', Gr W S S' ∧ Fr S W W' ∧ I S' xs W'
  | .ret, _, W' => ∃ S', Gr W S S' ∧ Fr S W W' ∧ Ix .ret S' xs W'
  | .exit id, _, W' => ∃ S', Gr W S S' ∧ Fr S W W' ∧ Ix (.exit id) S' xs W'
  | .goto t, _, W' => ∃ S', Gr W S S' ∧ Fr S W W' ∧ Ix (.goto t) S' xs W'
  | .panic _, _, _ => False
  | .outgrown, _, _ => False

theorem Loc.put {β : Type} {n₀ : Nat} {I : List Nat → β → World → Prop} (h : Loc n₀ I) {S : List Nat} {s : β} {A : World} (l : Nat) (o : Obj) (hi : I S s A) (hl : n₀ ≤ l) (hn : l ∉ S) : I S s (A.putObj l o) :=
  h S s A _ [l] hi ((Fr.refl [l] A).putObj o (.inl (by simp))) (fun b hb => by simp at hb; subst hb; exact ⟨hl, hn⟩)
theorem Loc.alloc {β : Type} {n₀ : Nat} {I : List Nat → β → World → Prop} (h : Loc n₀ I) {S : List Nat} {s : β} {A : World} (o : Obj) (hi : I S s A) : I S s (A.alloc o) :=
  h S s A _ [] hi ((Fr.refl [] A).alloc o) (by simp)
theorem Loc.mono {β : Type} {n₀ n₁ : Nat} {I : List Nat → β → World → Prop} (h : Loc n₀ I) (hn : n₀ ≤ n₁) : Loc n₁ I :=
  fun S s A B T hi f ht => h S s A B T hi f (fun b hb => ⟨Nat.le_trans hn (ht b hb).1, (ht b hb).2⟩)

/-- one round's end: the record is put back -/
theorem round_fin {P : Program} {l : Nat} {rec : LoopState → Option Code → Loop} (hrec : ∀ st pe, (rec st pe).state = st ∧ { rec st pe with state := .busy } = rec .busy pe ∧ ∀ st' pe', { rec st pe with state := st', pending := pe' } = rec st' pe')
    (jump : Option Code) {W3 : World} (hl : W3.heap[l]? = some (.loop (rec .busy none))) :
    (Instr.endRound l jump).run P W3 = .ok (.bool jump.isNone) (W3.putObj l (.loop (rec (if jump.isNone then .ready else .done) jump))) ∧
      (W3.putObj l (.loop (rec (if jump.isNone then .ready else .done) jump))).heap[l]? = some (.loop (rec (if jump.isNone then .ready else .done) jump)) := by
  have := run_endRound (P := P) jump hl
  rw [(hrec .busy none).2.2] at this
  exact ⟨this, World.putObj_heap_same (Array.getElem?_eq_some_iff.1 hl).1⟩

theorem wp_rangeF {P : Program} {α : Type} {g : Operand} {ps : Array Tmp} {assign body : Code} {Q : Exit → Act → World → Prop} {a : Act} {w : World}
    {gf : Nat} {lb : Array Value} (hg : a.eval g = .func (.func gf) #[] lb) (eg : ∀ args w, (callFunc gf args).run P w = .ok (.enter gf args) w)
    {encs : α → Array Value} {xs : List α} (hseq : SeqF P gf lb encs xs w) (hps : ∀ x, (encs x).size = ps.size)
    (I : List Nat → List α → World → Prop) (Ix : Code → List Nat → List α → World → Prop) (S : List Nat) (hS : ∀ b, b ∈ S → b < w.heap.size)
    (hI : Loc w.heap.size I) (hIx : ∀ c, Loc w.heap.size (Ix c)) (h0 : I S [] w)
    (Ax : α → Act → List Nat → List α → World → Prop) (hAx : ∀ x a', Loc w.heap.size (Ax x a'))
    (hassign : ∀ l pre x post S1 W, xs = pre ++ x :: post → w.heap.size ≤ W.heap.size → Gr w S S1 → Fr S w W → w.heap.size ≤ l → l ∉ S1 → (∃ r, W.heap[l]? = some (.loop r)) → I S1 pre W →
      assign.wpIn (Fence.wide.inRound l) 0 P (Exit.then (fun a' W' => ∃ S', Gr W S1 S' ∧ Fr S1 W W' ∧ Ax x a' S' pre W') (fun _ _ _ => False))
        { tmps := (ps.zip (encs x)).foldl (fun t (p, v) => t.setIfInBounds p v) a.tmps, defers := [] } W)
    (hbody : ∀ l pre x post a' S1 W, xs = pre ++ x :: post → w.heap.size ≤ W.heap.size → Gr w S S1 → Fr S w W → w.heap.size ≤ l → l ∉ S1 → (∃ r, W.heap[l]? = some (.loop r)) → Ax x a' S1 pre W →
      body.wpIn (Fence.wide.inRound l) 0 P (postF I Ix S1 (pre ++ [x]) W) a' W)
    (hdone : ∀ D S' W, w.heap.size ≤ D → D ∉ S' → Gr w S S' → Fr S w W → I S' xs W → W.heap[D]? = some (.deferred (some [])) →
      Q .normal { a with defers := { target := .collected D, args := #[] } :: a.defers } W)
    (hstop : ∀ D c S' pre x post W, w.heap.size ≤ D → D ∉ S' → Gr w S S' → Fr S w W → xs = pre ++ x :: post → Ix c S' (pre ++ [x]) W → W.heap[D]? = some (.deferred (some [])) →
      c.wpIn Fence.wide 0 P Q { a with defers := { target := .collected D, args := #[] } :: a.defers } W) :
    (Code.rangeFunc g ps assign body).wpIn Fence.wide 0 P Q a w := by
  refine wpIn_rangeFunc ?_
  intro fn hfn
  rw [show Fence.wide.round = none from rfl]
  obtain ⟨rec, hrec⟩ : ∃ rec : LoopState → Option Code → Loop, rec = fun st pe => { state := st, pending := pe, fn, tmps := a.tmps, params := ps, assign, body, defers := w.heap.size } := ⟨_, rfl⟩
  have hrecs : ∀ st pe, (rec st pe).state = st ∧ { rec st pe with state := .busy } = rec .busy pe ∧ ∀ st' pe', { rec st pe with state := st', pending := pe' } = rec st' pe' := by
    rw [hrec]; exact fun _ _ => ⟨rfl, rfl, fun _ _ => rfl⟩
  obtain ⟨W1, hW1⟩ : ∃ W1, (w.alloc (.deferred (some []))).alloc (.loop (rec .ready none)) = W1 := ⟨_, rfl⟩
  have hL1 : W1.heap[w.heap.size + 1]? = some (.loop (rec .ready none)) := by
    rw [← hW1]; have := World.alloc_heap_new (w.alloc (.deferred (some []))) (.loop (rec .ready none)); rwa [World.size_alloc] at this
  have hK1 : W1.heap[w.heap.size]? = some (.deferred (some [])) := by
    rw [← hW1]; exact (Below.heap_alloc _ _ _ (by simp)).trans (World.alloc_heap_new w _)
  have hI1 : I S [] W1 := by rw [← hW1]; exact hI.alloc _ (hI.alloc _ h0)
  have hz1 : W1.heap.size = w.heap.size + 2 := by rw [← hW1]; simp
  have hf1 : ∀ T, Fr T w W1 := fun T => by rw [← hW1]; exact ((Fr.refl T w).alloc _).alloc _
  have hSn : ∀ b, b ∈ S → b ≠ w.heap.size ∧ b ≠ w.heap.size + 1 := fun b hb => by have := hS b hb; omega
  refine ⟨w.heap.size + 1, [{ target := .collected w.heap.size, args := #[] }], W1, { target := .fn (.func gf) lb, args := #[.func (.yield (w.heap.size + 1)) #[] #[]] }, W1, gf,
    #[.func (.yield (w.heap.size + 1)) #[] #[]] ++ lb, W1, ?_, ?_, ?_, ?_, ?_, ?_⟩
  · rw [← hW1, hrec]; exact run_enterLoop_outer _ _ _ _ _
  · simp only [resolve, hg]
    simp [go_sem]
  · intro f' _; exact trivial
  · simp [invoke, go_sem, eg]
  · intro h; simp [Fence.wide] at h
  · -- the whole: the record and the block for deferred calls beside the caller's own
    have locB : ∀ (J : List Nat → List α → World → Prop) (hJ : Loc w.heap.size J) (st : LoopState) (pe : Option Code),
        Loc W1.heap.size (fun S' pre W => ∃ S0, S' = (w.heap.size + 1) :: S0 ∧ w.heap.size ∉ S0 ∧ (w.heap.size + 1) ∉ S0 ∧ J S0 pre W ∧ W.heap[w.heap.size + 1]? = some (.loop (rec st pe)) ∧ W.heap[w.heap.size]? = some (.deferred (some [])) ∧ w.heap.size + 2 ≤ W.heap.size) := by
      intro J hJ st pe S' pre A B T hs f ht
      obtain ⟨S0, rfl, hd, hl, hi, hr, hk, hz⟩ := hs
      refine ⟨S0, rfl, hd, hl, hJ S0 pre A B T hi f (fun b hb => ?_), ?_, ?_, by have := f.size; omega⟩
      · have := ht b hb
        refine ⟨by omega, fun hm => this.2 (by simp [hm])⟩
      · exact (f.block _ (by omega) (fun hm => by have := (ht _ hm).2; simp at this)).trans hr
      · exact (f.block _ (by omega) (fun hm => by have := (ht _ hm).1; omega)).trans hk
    have locX : Loc W1.heap.size (fun S' pre W => ∃ c S0, S' = (w.heap.size + 1) :: S0 ∧ w.heap.size ∉ S0 ∧ (w.heap.size + 1) ∉ S0 ∧ Ix c S0 pre W ∧ W.heap[w.heap.size + 1]? = some (.loop (rec .done (some c))) ∧ W.heap[w.heap.size]? = some (.deferred (some [])) ∧ w.heap.size + 2 ≤ W.heap.size) := by
      intro S' pre A B T hs f ht
      obtain ⟨c, hc⟩ := hs
      exact ⟨c, locB (Ix c) (hIx c) .done (some c) S' pre A B T hc f ht⟩
    refine (callsIn_wide.2 (hseq (w.heap.size + 1)
      (fun S' pre W => ∃ S0, S' = (w.heap.size + 1) :: S0 ∧ w.heap.size ∉ S0 ∧ (w.heap.size + 1) ∉ S0 ∧ I S0 pre W ∧ W.heap[w.heap.size + 1]? = some (.loop (rec .ready none)) ∧ W.heap[w.heap.size]? = some (.deferred (some [])) ∧ w.heap.size + 2 ≤ W.heap.size)
      (fun S' pre W => ∃ c S0, S' = (w.heap.size + 1) :: S0 ∧ w.heap.size ∉ S0 ∧ (w.heap.size + 1) ∉ S0 ∧ Ix c S0 pre W ∧ W.heap[w.heap.size + 1]? = some (.loop (rec .done (some c))) ∧ W.heap[w.heap.size]? = some (.deferred (some [])) ∧ w.heap.size + 2 ≤ W.heap.size)
      ((w.heap.size + 1) :: S) W1 (hf1 []) (fun b hb => by
        rcases List.mem_cons.1 hb with rfl | hb
        · omega
        · have := hS b hb; omega)
      (locB I hI .ready none) locX ?_ ⟨S, rfl, fun h => (hSn _ h).1 rfl, fun h => (hSn _ h).2 rfl, hI1, hL1, hK1, by omega⟩)).mono ?_
    · -- one round
      rintro pre x post S1 W hx hzW hgW hfW ⟨S0, rfl, hd, hl, hi, hr, hk, hz⟩
      have hg0 : Gr w S S0 := fun b hb => by
        rcases hgW b (List.mem_cons_of_mem _ hb) with h | h
        · rcases List.mem_cons.1 h with rfl | h
          · exact absurd hb hl
          · exact .inl h
        · right; omega
      have hf0 : Fr S w W := (hf1 S).trans (fun b hb => by
        rcases List.mem_cons.1 hb with rfl | hb
        · right; omega
        · exact .inl hb) hfW
      have hy := run_yield (P := P) (args := encs x) hr (by rw [hrec]; exact hps x)
      refine ⟨_, _, _, _, hy, ?_⟩
      rw [show (rec .ready none).assign = assign from by rw [hrec], show (rec .ready none).body = body from by rw [hrec], show (rec .ready none).fn = fn from by rw [hrec], show (rec .ready none).params = ps from by rw [hrec], show (rec .ready none).tmps = a.tmps from by rw [hrec]]
      refine roundIn_of_wpIn trivial (wpIn_mono (hassign _ pre x post S0 W hx (by omega) hg0 hf0 (by omega) hl ⟨_, hr⟩ hi) ?_)
      rintro e a' Wa hp
      cases e with
      | normal =>
        obtain ⟨S2, hg2, hf2, hax⟩ := hp
        have hl2 : w.heap.size + 1 ∉ S2 := hg2.notMem (by omega) hl
        have hd2 : w.heap.size ∉ S2 := hg2.notMem (by omega) hd
        have hza := hf2.size
        have hra : Wa.heap[w.heap.size + 1]? = some (.loop (rec .ready none)) := (hf2.block _ (by omega) hl).trans hr
        have hka : Wa.heap[w.heap.size]? = some (.deferred (some [])) := (hf2.block _ (by omega) hd).trans hk
        have hbr := run_beginRound (P := P) hra (hrecs _ _).1
        rw [(hrecs _ _).2.1] at hbr
        refine ⟨_, hbr, ?_⟩
        have hgA : Gr w S S2 := hg0.trans hf0.size hg2
        have hfA : Fr S w Wa := hf0.trans hg0 hf2
        obtain ⟨Wb, hWb⟩ : ∃ Wb, Wa.putObj (w.heap.size + 1) (.loop (rec .busy none)) = Wb := ⟨_, rfl⟩
        have hzb : Wb.heap.size = Wa.heap.size := by rw [← hWb]; simp
        have hrb : Wb.heap[w.heap.size + 1]? = some (.loop (rec .busy none)) := by rw [← hWb]; exact World.putObj_heap_same (by omega)
        have hkb : Wb.heap[w.heap.size]? = some (.deferred (some [])) := by rw [← hWb]; exact (World.putObj_heap_other (by omega)).trans hka
        have hfB : Fr S w Wb := by rw [← hWb]; exact hfA.putObj _ (.inr (by omega))
        have haxb : Ax x a' S2 pre Wb := by rw [← hWb]; exact (hAx x a').put _ _ hax (by omega) hl2
        have f2 : Fr ((w.heap.size + 1) :: S0) W Wb := by rw [← hWb]; exact (hf2.mono (fun b hb => List.mem_cons_of_mem _ hb)).putObj _ (.inl (by simp))
        rw [hWb]
        refine wpIn_mono (hbody _ pre x post a' S2 Wb hx (by omega) hgA hfB (by omega) hl2 ⟨_, hrb⟩ haxb) ?_
        have fin : ∀ (J : List Nat → List α → World → Prop) (jump : Option Code) (S3 : List Nat) (W3 : World), Loc w.heap.size J → Gr Wb S2 S3 → Fr S2 Wb W3 → J S3 (pre ++ [x]) W3 →
            (Instr.endRound (w.heap.size + 1) jump).run P W3 = .ok (.bool jump.isNone) (W3.putObj (w.heap.size + 1) (.loop (rec (if jump.isNone then .ready else .done) jump))) ∧
            Gr W ((w.heap.size + 1) :: S0) ((w.heap.size + 1) :: S3) ∧ Fr ((w.heap.size + 1) :: S0) W (W3.putObj (w.heap.size + 1) (.loop (rec (if jump.isNone then .ready else .done) jump))) ∧
            w.heap.size ∉ S3 ∧ (w.heap.size + 1) ∉ S3 ∧ J S3 (pre ++ [x]) (W3.putObj (w.heap.size + 1) (.loop (rec (if jump.isNone then .ready else .done) jump))) ∧
            (W3.putObj (w.heap.size + 1) (.loop (rec (if jump.isNone then .ready else .done) jump))).heap[w.heap.size + 1]? = some (.loop (rec (if jump.isNone then .ready else .done) jump)) ∧
            (W3.putObj (w.heap.size + 1) (.loop (rec (if jump.isNone then .ready else .done) jump))).heap[w.heap.size]? = some (.deferred (some [])) ∧
            w.heap.size + 2 ≤ (W3.putObj (w.heap.size + 1) (.loop (rec (if jump.isNone then .ready else .done) jump))).heap.size := by
          intro J jump S3 W3 hJ hg3 hf3 hj3
          have hz3 := hf3.size
          have hl3 : w.heap.size + 1 ∉ S3 := hg3.notMem (by omega) hl2
          have hr3 : W3.heap[w.heap.size + 1]? = some (.loop (rec .busy none)) := (hf3.block _ (by omega) hl2).trans hrb
          obtain ⟨he, hh⟩ := round_fin (P := P) hrecs jump hr3
          refine ⟨he, ?_, ?_, hg3.notMem (by omega) hd2, hl3, hJ.put _ _ hj3 (by omega) hl3, hh, (World.putObj_heap_other (by omega)).trans ((hf3.block _ (by omega) hd2).trans hkb), by simp; omega⟩
          · refine Gr.cons _ (hg2.trans hf2.size (hg3.size (by omega)))
          · exact (f2.trans (hg2.mono (fun b hb => List.mem_cons_of_mem _ hb)) hf3).putObj _ (.inl (by simp))
        rintro e2 a3 W3 hp3
        cases e2 with
        | normal =>
          obtain ⟨S3, hg3, hf3, hi3⟩ := hp3
          obtain ⟨h1, h2, h3, h4⟩ := fin I none S3 W3 hI hg3 hf3 hi3
          exact ⟨_, _, h1, _, h2, h3, .inl ⟨rfl, S3, rfl, h4⟩⟩
        | ret =>
          obtain ⟨S3, hg3, hf3, hi3⟩ := hp3
          obtain ⟨h1, h2, h3, h4⟩ := fin (Ix .ret) (some .ret) S3 W3 (hIx _) hg3 hf3 hi3
          exact ⟨_, _, h1, _, h2, h3, .inr ⟨rfl, .ret, S3, rfl, h4⟩⟩
        | exit id =>
          obtain ⟨S3, hg3, hf3, hi3⟩ := hp3
          obtain ⟨h1, h2, h3, h4⟩ := fin (Ix (.exit id)) (some (.exit id)) S3 W3 (hIx _) hg3 hf3 hi3
          exact ⟨_, _, h1, _, h2, h3, .inr ⟨rfl, .exit id, S3, rfl, h4⟩⟩
        | goto t =>
          obtain ⟨S3, hg3, hf3, hi3⟩ := hp3
          obtain ⟨h1, h2, h3, h4⟩ := fin (Ix (.goto t)) (some (.goto t)) S3 W3 (hIx _) hg3 hf3 hi3
          exact ⟨_, _, h1, _, h2, h3, .inr ⟨rfl, .goto t, S3, rfl, h4⟩⟩
        | panic ch => exact hp3.elim
        | outgrown => exact hp3.elim
      | ret => exact hp.elim
      | exit id => exact hp.elim
      | goto t => exact hp.elim
      | panic ch => exact hp.elim
      | outgrown => exact hp.elim
    · -- behind the iterator
      have back : ∀ (J : List Nat → List α → World → Prop) (st : LoopState) (pe : Option Code) (S' : List Nat) (pre : List α) (W2 : World), Loc w.heap.size J → st ≠ .busy → Gr W1 ((w.heap.size + 1) :: S) S' → Fr ((w.heap.size + 1) :: S) W1 W2 →
          (∃ S0, S' = (w.heap.size + 1) :: S0 ∧ w.heap.size ∉ S0 ∧ (w.heap.size + 1) ∉ S0 ∧ J S0 pre W2 ∧ W2.heap[w.heap.size + 1]? = some (.loop (rec st pe)) ∧ W2.heap[w.heap.size]? = some (.deferred (some [])) ∧ w.heap.size + 2 ≤ W2.heap.size) →
          ∃ W3 S0, (Instr.endLoop (w.heap.size + 1)).run P W2 = .ok pe W3 ∧ w.heap.size ∉ S0 ∧ Gr w S S0 ∧ Fr S w W3 ∧ J S0 pre W3 ∧ W3.heap[w.heap.size]? = some (.deferred (some [])) := by
        intro J st pe S' pre W2 hJ hst hg2 hf2 ⟨S0, hS0, hd, hl, hj, hr, hk, hz⟩
        subst hS0
        have := run_endLoop (P := P) hr (by rw [(hrecs _ _).1]; exact hst)
        refine ⟨_, S0, by rw [this, show (rec st pe).pending = pe from by rw [hrec]], hd, ?_, ?_, hJ.put _ _ hj (by omega) hl, (World.putObj_heap_other (by omega)).trans hk⟩
        · intro b hb
          rcases hg2 b (List.mem_cons_of_mem _ hb) with h | h
          · rcases List.mem_cons.1 h with rfl | h
            · exact absurd hb hl
            · exact .inl h
          · right; omega
        · exact ((hf1 S).trans (fun b hb => by
            rcases List.mem_cons.1 hb with rfl | hb
            · right; omega
            · exact .inl hb) hf2).putObj _ (.inr (by omega))
      rintro e W2 ⟨⟨v, rfl⟩, S', hg2, hf2, h | ⟨pre, x, post, hx, c, h⟩⟩
      · obtain ⟨W3, S0, h1, h2, h3, h4, h5, h6⟩ := back I .ready none S' xs W2 hI (by simp) hg2 hf2 h
        exact ⟨none, W3, h1, hdone _ S0 W3 (Nat.le_refl _) h2 h3 h4 h5 h6⟩
      · obtain ⟨W3, S0, h1, h2, h3, h4, h5, h6⟩ := back (Ix c) .done (some c) S' (pre ++ [x]) W2 (hIx c) (by simp) hg2 hf2 h
        exact ⟨some c, W3, h1, hstop _ c S0 pre x post W3 (Nat.le_refl _) h2 h3 h4 hx h5 h6⟩

/-- The same at a loop within a round of the loop l₀. -/
theorem wp_rangeF_in {P : Program} {α : Type} {g : Operand} {ps : Array Tmp} {assign body : Code} {Q : Exit → Act → World → Prop} {a : Act} {w : World} {l₀ : Nat} {r₀ : Loop} (hl₀ : w.heap[l₀]? = some (.loop r₀))
    {gf : Nat} {lb : Array Value} (hg : a.eval g = .func (.func gf) #[] lb) (eg : ∀ args w, (callFunc gf args).run P w = .ok (.enter gf args) w)
    {encs : α → Array Value} {xs : List α} (hseq : SeqF P gf lb encs xs w) (hps : ∀ x, (encs x).size = ps.size)
    (I : List Nat → List α → World → Prop) (Ix : Code → List Nat → List α → World → Prop) (S : List Nat) (hS : ∀ b, b ∈ S → b < w.heap.size)
    (hI : Loc w.heap.size I) (hIx : ∀ c, Loc w.heap.size (Ix c)) (h0 : I S [] w)
    (Ax : α → Act → List Nat → List α → World → Prop) (hAx : ∀ x a', Loc w.heap.size (Ax x a'))
    (hassign : ∀ l pre x post S1 W, xs = pre ++ x :: post → w.heap.size ≤ W.heap.size → Gr w S S1 → Fr S w W → w.heap.size ≤ l → l ∉ S1 → (∃ r, W.heap[l]? = some (.loop r)) → I S1 pre W →
      assign.wpIn (Fence.wide.inRound l) 0 P (Exit.then (fun a' W' => ∃ S', Gr W S1 S' ∧ Fr S1 W W' ∧ Ax x a' S' pre W') (fun _ _ _ => False))
        { tmps := (ps.zip (encs x)).foldl (fun t (p, v) => t.setIfInBounds p v) a.tmps, defers := [] } W)
    (hbody : ∀ l pre x post a' S1 W, xs = pre ++ x :: post → w.heap.size ≤ W.heap.size → Gr w S S1 → Fr S w W → w.heap.size ≤ l → l ∉ S1 → (∃ r, W.heap[l]? = some (.loop r)) → Ax x a' S1 pre W →
      body.wpIn (Fence.wide.inRound l) 0 P (postF I Ix S1 (pre ++ [x]) W) a' W)
    (hdone : ∀ S' W, Gr w S S' → Fr S w W → I S' xs W → Q .normal a W)
    (hstop : ∀ c S' pre x post W, Gr w S S' → Fr S w W → xs = pre ++ x :: post → Ix c S' (pre ++ [x]) W → c.wpIn (Fence.wide.inRound l₀) 0 P Q a W) :
    (Code.rangeFunc g ps assign body).wpIn (Fence.wide.inRound l₀) 0 P Q a w := by
  refine wpIn_rangeFunc ?_
  intro fn hfn
  rw [show (Fence.wide.inRound l₀).round = some l₀ from rfl]
  obtain ⟨rec, hrec⟩ : ∃ rec : LoopState → Option Code → Loop, rec = fun st pe => { state := st, pending := pe, fn, tmps := a.tmps, params := ps, assign, body, defers := r₀.defers } := ⟨_, rfl⟩
  have hrecs : ∀ st pe, (rec st pe).state = st ∧ { rec st pe with state := .busy } = rec .busy pe ∧ ∀ st' pe', { rec st pe with state := st', pending := pe' } = rec st' pe' := by
    rw [hrec]; exact fun _ _ => ⟨rfl, rfl, fun _ _ => rfl⟩
  obtain ⟨W1, hW1⟩ : ∃ W1, w.alloc (.loop (rec .ready none)) = W1 := ⟨_, rfl⟩
  have hL1 : W1.heap[w.heap.size]? = some (.loop (rec .ready none)) := by rw [← hW1]; exact World.alloc_heap_new w _
  have hI1 : I S [] W1 := by rw [← hW1]; exact hI.alloc _ h0
  have hz1 : W1.heap.size = w.heap.size + 1 := by rw [← hW1]; simp
  have hf1 : ∀ T, Fr T w W1 := fun T => by rw [← hW1]; exact (Fr.refl T w).alloc _
  have hSn : ∀ b, b ∈ S → b ≠ w.heap.size := fun b hb => by have := hS b hb; omega
  refine ⟨w.heap.size, [], W1, { target := .fn (.func gf) lb, args := #[.func (.yield w.heap.size) #[] #[]] }, W1, gf,
    #[.func (.yield w.heap.size) #[] #[]] ++ lb, W1, ?_, ?_, ?_, ?_, ?_, ?_⟩
  · rw [← hW1, hrec]; exact run_enterLoop_inner hl₀ _ _ _ _ _
  · simp only [resolve, hg]
    simp [go_sem]
  · intro f' _; exact trivial
  · simp [invoke, go_sem, eg]
  · intro h; simp [Fence.wide] at h
  · have locB : ∀ (J : List Nat → List α → World → Prop) (hJ : Loc w.heap.size J) (st : LoopState) (pe : Option Code),
        Loc W1.heap.size (fun S' pre W => ∃ S0, S' = w.heap.size :: S0 ∧ w.heap.size ∉ S0 ∧ J S0 pre W ∧ W.heap[w.heap.size]? = some (.loop (rec st pe)) ∧ w.heap.size + 1 ≤ W.heap.size) := by
      intro J hJ st pe S' pre A B T hs f ht
      obtain ⟨S0, rfl, hl, hi, hr, hz⟩ := hs
      refine ⟨S0, rfl, hl, hJ S0 pre A B T hi f (fun b hb => ?_), ?_, by have := f.size; omega⟩
      · have := ht b hb
        refine ⟨by omega, fun hm => this.2 (by simp [hm])⟩
      · exact (f.block _ (by omega) (fun hm => by have := (ht _ hm).2; simp at this)).trans hr
    have locX : Loc W1.heap.size (fun S' pre W => ∃ c S0, S' = w.heap.size :: S0 ∧ w.heap.size ∉ S0 ∧ Ix c S0 pre W ∧ W.heap[w.heap.size]? = some (.loop (rec .done (some c))) ∧ w.heap.size + 1 ≤ W.heap.size) := by
      intro S' pre A B T hs f ht
      obtain ⟨c, hc⟩ := hs
      exact ⟨c, locB (Ix c) (hIx c) .done (some c) S' pre A B T hc f ht⟩
    refine (CallsIn.inRound l₀ (callsIn_wide.2 (hseq w.heap.size
      (fun S' pre W => ∃ S0, S' = w.heap.size :: S0 ∧ w.heap.size ∉ S0 ∧ I S0 pre W ∧ W.heap[w.heap.size]? = some (.loop (rec .ready none)) ∧ w.heap.size + 1 ≤ W.heap.size)
      (fun S' pre W => ∃ c S0, S' = w.heap.size :: S0 ∧ w.heap.size ∉ S0 ∧ Ix c S0 pre W ∧ W.heap[w.heap.size]? = some (.loop (rec .done (some c))) ∧ w.heap.size + 1 ≤ W.heap.size)
      (w.heap.size :: S) W1 (hf1 []) (fun b hb => by
        rcases List.mem_cons.1 hb with rfl | hb
        · omega
        · have := hS b hb; omega)
      (locB I hI .ready none) locX ?_ ⟨S, rfl, fun h => hSn _ h rfl, hI1, hL1, by omega⟩))).mono ?_
    · -- one round
      rintro pre x post S1 W hx hzW hgW hfW ⟨S0, rfl, hl, hi, hr, hz⟩
      have hg0 : Gr w S S0 := fun b hb => by
        rcases hgW b (List.mem_cons_of_mem _ hb) with h | h
        · rcases List.mem_cons.1 h with rfl | h
          · exact absurd hb hl
          · exact .inl h
        · right; omega
      have hf0 : Fr S w W := (hf1 S).trans (fun b hb => by
        rcases List.mem_cons.1 hb with rfl | hb
        · right; omega
        · exact .inl hb) hfW
      have hy := run_yield (P := P) (args := encs x) hr (by rw [hrec]; exact hps x)
      refine ⟨_, _, _, _, hy, ?_⟩
      rw [show (rec .ready none).assign = assign from by rw [hrec], show (rec .ready none).body = body from by rw [hrec], show (rec .ready none).fn = fn from by rw [hrec], show (rec .ready none).params = ps from by rw [hrec], show (rec .ready none).tmps = a.tmps from by rw [hrec]]
      refine roundIn_of_wpIn trivial (wpIn_mono (hassign _ pre x post S0 W hx (by omega) hg0 hf0 (Nat.le_refl _) hl ⟨_, hr⟩ hi) ?_)
      rintro e a' Wa hp
      cases e with
      | normal =>
        obtain ⟨S2, hg2, hf2, hax⟩ := hp
        have hl2 : w.heap.size ∉ S2 := hg2.notMem (by omega) hl
        have hza := hf2.size
        have hra : Wa.heap[w.heap.size]? = some (.loop (rec .ready none)) := (hf2.block _ (by omega) hl).trans hr
        have hbr := run_beginRound (P := P) hra (hrecs _ _).1
        rw [(hrecs _ _).2.1] at hbr
        refine ⟨_, hbr, ?_⟩
        have hgA : Gr w S S2 := hg0.trans hf0.size hg2
        have hfA : Fr S w Wa := hf0.trans hg0 hf2
        obtain ⟨Wb, hWb⟩ : ∃ Wb, Wa.putObj w.heap.size (.loop (rec .busy none)) = Wb := ⟨_, rfl⟩
        have hzb : Wb.heap.size = Wa.heap.size := by rw [← hWb]; simp
        have hrb : Wb.heap[w.heap.size]? = some (.loop (rec .busy none)) := by rw [← hWb]; exact World.putObj_heap_same (by omega)
        have hfB : Fr S w Wb := by rw [← hWb]; exact hfA.putObj _ (.inr (by omega))
        have haxb : Ax x a' S2 pre Wb := by rw [← hWb]; exact (hAx x a').put _ _ hax (Nat.le_refl _) hl2
        have f2 : Fr (w.heap.size :: S0) W Wb := by rw [← hWb]; exact (hf2.mono (fun b hb => List.mem_cons_of_mem _ hb)).putObj _ (.inl (by simp))
        rw [hWb]
        refine wpIn_mono (hbody _ pre x post a' S2 Wb hx (by omega) hgA hfB (Nat.le_refl _) hl2 ⟨_, hrb⟩ haxb) ?_
        have fin : ∀ (J : List Nat → List α → World → Prop) (jump : Option Code) (S3 : List Nat) (W3 : World), Loc w.heap.size J → Gr Wb S2 S3 → Fr S2 Wb W3 → J S3 (pre ++ [x]) W3 →
            (Instr.endRound w.heap.size jump).run P W3 = .ok (.bool jump.isNone) (W3.putObj w.heap.size (.loop (rec (if jump.isNone then .ready else .done) jump))) ∧
            Gr W (w.heap.size :: S0) (w.heap.size :: S3) ∧ Fr (w.heap.size :: S0) W (W3.putObj w.heap.size (.loop (rec (if jump.isNone then .ready else .done) jump))) ∧
            w.heap.size ∉ S3 ∧ J S3 (pre ++ [x]) (W3.putObj w.heap.size (.loop (rec (if jump.isNone then .ready else .done) jump))) ∧
            (W3.putObj w.heap.size (.loop (rec (if jump.isNone then .ready else .done) jump))).heap[w.heap.size]? = some (.loop (rec (if jump.isNone then .ready else .done) jump)) ∧
            w.heap.size + 1 ≤ (W3.putObj w.heap.size (.loop (rec (if jump.isNone then .ready else .done) jump))).heap.size := by
          intro J jump S3 W3 hJ hg3 hf3 hj3
          have hz3 := hf3.size
          have hl3 : w.heap.size ∉ S3 := hg3.notMem (by omega) hl2
          have hr3 : W3.heap[w.heap.size]? = some (.loop (rec .busy none)) := (hf3.block _ (by omega) hl2).trans hrb
          obtain ⟨he, hh⟩ := round_fin (P := P) hrecs jump hr3
          refine ⟨he, ?_, ?_, hl3, hJ.put _ _ hj3 (Nat.le_refl _) hl3, hh, by simp; omega⟩
          · refine Gr.cons _ (hg2.trans hf2.size (hg3.size (by omega)))
          · exact (f2.trans (hg2.mono (fun b hb => List.mem_cons_of_mem _ hb)) hf3).putObj _ (.inl (by simp))
        rintro e2 a3 W3 hp3
        cases e2 with
        | normal =>
          obtain ⟨S3, hg3, hf3, hi3⟩ := hp3
          obtain ⟨h1, h2, h3, h4⟩ := fin I none S3 W3 hI hg3 hf3 hi3
          exact ⟨_, _, h1, _, h2, h3, .inl ⟨rfl, S3, rfl, h4⟩⟩
        | ret =>
          obtain ⟨S3, hg3, hf3, hi3⟩ := hp3
          obtain ⟨h1, h2, h3, h4⟩ := fin (Ix .ret) (some .ret) S3 W3 (hIx _) hg3 hf3 hi3
          exact ⟨_, _, h1, _, h2, h3, .inr ⟨rfl, .ret, S3, rfl, h4⟩⟩
        | exit id =>
          obtain ⟨S3, hg3, hf3, hi3⟩ := hp3
          obtain ⟨h1, h2, h3, h4⟩ := fin (Ix (.exit id)) (some (.exit id)) S3 W3 (hIx _) hg3 hf3 hi3
          exact ⟨_, _, h1, _, h2, h3, .inr ⟨rfl, .exit id, S3, rfl, h4⟩⟩
        | goto t =>
          obtain ⟨S3, hg3, hf3, hi3⟩ := hp3
          obtain ⟨h1, h2, h3, h4⟩ := fin (Ix (.goto t)) (some (.goto t)) S3 W3 (hIx _) hg3 hf3 hi3
          exact ⟨_, _, h1, _, h2, h3, .inr ⟨rfl, .goto t, S3, rfl, h4⟩⟩
        | panic ch => exact hp3.elim
        | outgrown => exact hp3.elim
      | ret => exact hp.elim
      | exit id => exact hp.elim
      | goto t => exact hp.elim
      | panic ch => exact hp.elim
      | outgrown => exact hp.elim
    · -- behind the iterator
      have back : ∀ (J : List Nat → List α → World → Prop) (st : LoopState) (pe : Option Code) (S' : List Nat) (pre : List α) (W2 : World), Loc w.heap.size J → st ≠ .busy → Gr W1 (w.heap.size :: S) S' → Fr (w.heap.size :: S) W1 W2 →
          (∃ S0, S' = w.heap.size :: S0 ∧ w.heap.size ∉ S0 ∧ J S0 pre W2 ∧ W2.heap[w.heap.size]? = some (.loop (rec st pe)) ∧ w.heap.size + 1 ≤ W2.heap.size) →
          ∃ W3 S0, (Instr.endLoop w.heap.size).run P W2 = .ok pe W3 ∧ Gr w S S0 ∧ Fr S w W3 ∧ J S0 pre W3 := by
        intro J st pe S' pre W2 hJ hst hg2 hf2 ⟨S0, hS0, hl, hj, hr, hz⟩
        subst hS0
        have := run_endLoop (P := P) hr (by rw [(hrecs _ _).1]; exact hst)
        refine ⟨_, S0, by rw [this, show (rec st pe).pending = pe from by rw [hrec]], ?_, ?_, hJ.put _ _ hj (Nat.le_refl _) hl⟩
        · intro b hb
          rcases hg2 b (List.mem_cons_of_mem _ hb) with h | h
          · rcases List.mem_cons.1 h with rfl | h
            · exact absurd hb hl
            · exact .inl h
          · right; omega
        · exact ((hf1 S).trans (fun b hb => by
            rcases List.mem_cons.1 hb with rfl | hb
            · right; omega
            · exact .inl hb) hf2).putObj _ (.inr (by omega))
      rintro e W2 ⟨⟨v, rfl⟩, S', hg2, hf2, h | ⟨pre, x, post, hx, c, h⟩⟩
      · obtain ⟨W3, S0, h1, h3, h4, h5⟩ := back I .ready none S' xs W2 hI (by simp) hg2 hf2 h
        exact ⟨none, W3, h1, hdone S0 W3 h3 h4 h5⟩
      · obtain ⟨W3, S0, h1, h3, h4, h5⟩ := back (Ix c) .done (some c) S' (pre ++ [x]) W2 (hIx c) (by simp) hg2 hf2 h
        exact ⟨some c, W3, h1, hstop c S0 pre x post W3 h3 h4 hx h5⟩

/-- .. where the assignment to the loop's variables makes nothing: the activation behind it is known. -/
theorem wp_rangeF1 {P : Program} {α : Type} {g : Operand} {ps : Array Tmp} {assign body : Code} {Q : Exit → Act → World → Prop} {a : Act} {w : World}
    {gf : Nat} {lb : Array Value} (hg : a.eval g = .func (.func gf) #[] lb) (eg : ∀ args w, (callFunc gf args).run P w = .ok (.enter gf args) w)
    {encs : α → Array Value} {xs : List α} (hseq : SeqF P gf lb encs xs w) (hps : ∀ x, (encs x).size = ps.size)
    (I : List Nat → List α → World → Prop) (Ix : Code → List Nat → List α → World → Prop) (S : List Nat) (hS : ∀ b, b ∈ S → b < w.heap.size)
    (hI : Loc w.heap.size I) (hIx : ∀ c, Loc w.heap.size (Ix c)) (h0 : I S [] w) (asg : α → Act)
    (hassign : ∀ l x W (K : Act → World → Prop), K (asg x) W →
      assign.wpIn (Fence.wide.inRound l) 0 P (Exit.then K (fun _ _ _ => False)) { tmps := (ps.zip (encs x)).foldl (fun t (p, v) => t.setIfInBounds p v) a.tmps, defers := [] } W)
    (hbody : ∀ l pre x post S1 W, xs = pre ++ x :: post → w.heap.size ≤ W.heap.size → Gr w S S1 → Fr S w W → w.heap.size ≤ l → l ∉ S1 → (∃ r, W.heap[l]? = some (.loop r)) → I S1 pre W →
      body.wpIn (Fence.wide.inRound l) 0 P (postF I Ix S1 (pre ++ [x]) W) (asg x) W)
    (hdone : ∀ D S' W, w.heap.size ≤ D → D ∉ S' → Gr w S S' → Fr S w W → I S' xs W → W.heap[D]? = some (.deferred (some [])) →
      Q .normal { a with defers := { target := .collected D, args := #[] } :: a.defers } W)
    (hstop : ∀ D c S' pre x post W, w.heap.size ≤ D → D ∉ S' → Gr w S S' → Fr S w W → xs = pre ++ x :: post → Ix c S' (pre ++ [x]) W → W.heap[D]? = some (.deferred (some [])) →
      c.wpIn Fence.wide 0 P Q { a with defers := { target := .collected D, args := #[] } :: a.defers } W) :
    (Code.rangeFunc g ps assign body).wpIn Fence.wide 0 P Q a w :=
  wp_rangeF hg eg hseq hps I Ix S hS hI hIx h0 (fun x a' S pre W => a' = asg x ∧ I S pre W) (fun x a' S pre A B T h f ht => ⟨h.1, hI S pre A B T h.2 f ht⟩)
    (fun l pre x post S1 W _ _ _ _ _ _ _ hi => hassign l x W _ ⟨S1, Gr.refl _ _, Fr.refl _ _, rfl, hi⟩)
    (fun l pre x post a' S1 W hx hz hgr hf hl hnl hr h => by rw [h.1]; exact hbody l pre x post S1 W hx hz hgr hf hl hnl hr h.2) hdone hstop

/-- .. where the assignment to the loop's variables makes nothing: the activation behind it is known. -/
theorem wp_rangeF_in1 {P : Program} {α : Type} {g : Operand} {ps : Array Tmp} {assign body : Code} {Q : Exit → Act → World → Prop} {a : Act} {w : World} {l₀ : Nat} {r₀ : Loop} (hl₀ : w.heap[l₀]? = some (.loop r₀))
    {gf : Nat} {lb : Array Value} (hg : a.eval g = .func (.func gf) #[] lb) (eg : ∀ args w, (callFunc gf args).run P w = .ok (.enter gf args) w)
    {encs : α → Array Value} {xs : List α} (hseq : SeqF P gf lb encs xs w) (hps : ∀ x, (encs x).size = ps.size)
    (I : List Nat → List α → World → Prop) (Ix : Code → List Nat → List α → World → Prop) (S : List Nat) (hS : ∀ b, b ∈ S → b < w.heap.size)
    (hI : Loc w.heap.size I) (hIx : ∀ c, Loc w.heap.size (Ix c)) (h0 : I S [] w) (asg : α → Act)
    (hassign : ∀ l x W (K : Act → World → Prop), K (asg x) W →
      assign.wpIn (Fence.wide.inRound l) 0 P (Exit.then K (fun _ _ _ => False)) { tmps := (ps.zip (encs x)).foldl (fun t (p, v) => t.setIfInBounds p v) a.tmps, defers := [] } W)
    (hbody : ∀ l pre x post S1 W, xs = pre ++ x :: post → w.heap.size ≤ W.heap.size → Gr w S S1 → Fr S w W → w.heap.size ≤ l → l ∉ S1 → (∃ r, W.heap[l]? = some (.loop r)) → I S1 pre W →
      body.wpIn (Fence.wide.inRound l) 0 P (postF I Ix S1 (pre ++ [x]) W) (asg x) W)
    (hdone : ∀ S' W, Gr w S S' → Fr S w W → I S' xs W → Q .normal a W)
    (hstop : ∀ c S' pre x post W, Gr w S S' → Fr S w W → xs = pre ++ x :: post → Ix c S' (pre ++ [x]) W → c.wpIn (Fence.wide.inRound l₀) 0 P Q a W) :
    (Code.rangeFunc g ps assign body).wpIn (Fence.wide.inRound l₀) 0 P Q a w :=
  wp_rangeF_in hl₀ hg eg hseq hps I Ix S hS hI hIx h0 (fun x a' S pre W => a' = asg x ∧ I S pre W) (fun x a' S pre A B T h f ht => ⟨h.1, hI S pre A B T h.2 f ht⟩)
    (fun l pre x post S1 W _ _ _ _ _ _ _ hi => hassign l x W _ ⟨S1, Gr.refl _ _, Fr.refl _ _, rfl, hi⟩)
    (fun l pre x post a' S1 W hx hz hgr hf hl hnl hr h => by rw [h.1]; exact hbody l pre x post S1 W hx hz hgr hf hl hnl hr h.2) hdone hstop
end Go.Proofs.Yteojodcdehkejaa
