/- A region that draws its order, within a round of a range over a function: by the law of held conditions. -/
import Derived.Test.YteojodcdehkejaaMA2
import Derived.Deep.RegionHeld3
import Derived.Test.YteojodcdehkejaaMA4
set_option linter.unusedVariables false
namespace Go.Proofs.Yteojodcdehkejaa
open Go Go.RowKit

/-- a region that is left at its end alone -/
def onlyN (Q : Exit → Act → World → Prop) : Exit → Act → World → Prop
  | .normal, a, w => Q .normal a w
  | _, _, _ => False
theorem onlyN_lets {Q : Exit → Act → World → Prop} : ¬ LetsOut (onlyN Q) := fun ⟨_, _, h⟩ => h
theorem onlyN_normal (Q : Exit → Act → World → Prop) (a : Act) (w : World) : onlyN Q .normal a w = Q .normal a w := rfl

theorem rowsIn_wide {n : Nat} {P : Program} {row : String} {args : Array Value} {w : World} {R : Value → World → Prop} (h : Rows P row args w R) : RowsIn Fence.wide n P row args w R :=
  fun c cs _ => let ⟨v, w', r, s⟩ := h c cs; ⟨v, w', r, stepsIn_wide.2 s⟩

def noDefer (ops : Array Oper) : Bool := ops.all fun o => match o.op with | .defer _ => false | _ => true

section
variable {P : Program} {ops : Array Oper} {Q : Exit → Act → World → Prop} {md : Region.Mode} {S : World → Prop} {l : Nat}
theorem noDefer_at (h : noDefer ops = true) {i : Nat} {o : Oper} (ho : ops[i]? = some o) : ∀ c, o.op ≠ .defer c := by
  intro c hc
  have := Array.all_eq_true.1 h i (Array.getElem?_eq_some_iff.1 ho).1
  rw [(Array.getElem?_eq_some_iff.1 ho).2, hc] at this
  cases this

theorem wpOpIn_of {i : Nat} {a : Act} {w : World} {K K' : Act → World → Prop} (hnd : noDefer ops = true) (hK : ∀ a w, K a w → K' a w) (h : wpOp P ops (onlyN Q) i K a w) : wpOpIn (Fence.wide.inRound l) 0 P ops Q i K' a w := by
  unfold wpOp at h
  unfold wpOpIn
  split
  · rename_i ho
    simp only [ho] at h
    exact hK _ _ h
  · rename_i o ho
    simp only [ho] at h
    split
    · rename_i hw
      rw [if_pos hw] at h
      rcases h with h | h
      · refine ⟨fun f _ => trivial, ?_⟩
        rw [show (Fence.wide.inRound l).round = some l from rfl, Oper.semAt_some l _ _ (noDefer_at hnd ho)]
        unfold Oper.wp at h
        generalize (execOp a.eval o).run P w = r at h
        cases r with
        | ok x w' =>
          cases x <;> simp only [Oper.upon] at h <;> simp only [Oper.uponIn]
          case value v => exact hK _ _ h
          case skip => exact hK _ _ h
          case defer d => exact hK _ _ h
          case enter f args =>
            refine ⟨fun h => by simp [Fence.wide, Fence.inRound] at h, CallsIn.inRound l (callsIn_wide.2 (Calls.mono h fun e w'' he => ?_))⟩
            cases e with
            | returned v => exact hK _ _ he
            | panicked c => exact he.elim
            | outgrown => exact (onlyN_lets he).elim
          case row row args =>
            exact ⟨fun h => by simp [Fence.wide, Fence.inRound] at h, RowsIn.mono (rowsIn_wide h) fun _ _ hv => hK _ _ hv⟩
        | halt x w' =>
          cases x <;> simp only [Oper.upon] at h <;> exact h.elim
      · exact (onlyN_lets h.2).elim
    · rename_i hw
      rw [if_neg hw] at h
      exact ⟨fun f _ => trivial, hK _ _ h⟩

theorem wpAnyIn_of (hnd : noDefer ops = true) : ∀ (f : Nat) (listed : Array Bool) (a : Act) (w : World), wpAny P md ops (onlyN Q) f listed a w → wpAnyIn (Fence.wide.inRound l) 0 P md ops Q f listed a w
  | 0, _, _, _, h => h
  | f + 1, listed, _, _, h => ⟨h.1, fun i hi => wpOpIn_of hnd (wpAnyIn_of hnd f (listed.setIfInBounds i true)) (h.2 i hi)⟩

/-- The beginning, in a round: S is shown of the world behind the draw, once, and handed on. -/
theorem wpIn_held {id : Nat} {a : Act} {w : World} (S : World → Prop) (hm : P.follows .mixedOrders = true) (hnd : noDefer ops = true) (hS : S w.drew)
    (h : S w.drew → wpAnyH P .any ops (onlyN Q) S ops.size (Array.replicate ops.size false) a w.drew) : (Code.region id ops true).wpIn (Fence.wide.inRound l) 0 P Q a w :=
  wpIn_region_any hm (wpAnyIn_of hnd _ _ _ _ (wpAny_of_held _ _ _ _ (h hS)))
end

/-! ### a tail in which copies and parts of results may come up at any time -/
/-- an operation that looks at its operand alone -/
def pureB (ops : Array Oper) (i : Nat) : Bool :=
  match ops[i]? with
  | some o => (match o.op with | .move _ => true | .assign _ => true | .extract _ _ => true | _ => false) && o.guard.isNone
  | none => false
def tailB (md : Region.Mode) (ops : Array Oper) : Nat → Nat → Array Bool → Bool
  | 0, _, listed => (Region.ready md ops listed).isEmpty
  | g + 1, k, listed => (Region.ready md ops listed).contains k && (decide (Region.ready md ops listed = [k]) || (Region.free md ops listed k && pureB ops k)) && tailB md ops g (k + 1) (listed.setIfInBounds k true)

/-- every one of the tail but its first waits for one of the tail ahead of it -/
def chain2B (md : Region.Mode) (ops : Array Oper) (n : Nat) : Bool :=
  (List.range ops.size).all fun t => decide (t ≤ n) || (List.range t).any fun s => decide (n ≤ s) && Region.waitsFor md ops t s

section
variable {P : Program} {ops : Array Oper} {md : Region.Mode}
theorem tail_waits2 {n : Nat} {listed : Array Bool} (hs : Region.sinkB md ops n = true) (hc : chain2B md ops n = true) (hn : n < ops.size) (inv : HeadInv md ops n listed) :
    ∀ (d i : Nat), n - i = d → i < n → listed.getD i true = false → ∀ t, n ≤ t → t ∉ Region.ready md ops listed := by
  intro d
  induction d using Nat.strongRecOn with
  | _ d ih =>
    intro i hd hi hun t ht hr
    obtain ⟨_, ot, hot, hall⟩ := mem_ready.1 hr
    have htlt : t < ops.size := (Array.getElem?_eq_some_iff.1 hot).1
    by_cases htn : t = n
    · subst htn
      have h1 := List.all_eq_true.1 hs i (List.mem_range.2 hi)
      obtain ⟨j, hj, hj2⟩ := List.any_eq_true.1 h1
      simp only [Bool.and_eq_true, decide_eq_true_eq] at hj2
      obtain ⟨oj, hoj, e, he, hb, hon⟩ := Region.waitsFor_spec hj2.2
      have hjle : j ≤ t := by have := List.mem_range.1 hj; omega
      by_cases hjt : j = t
      · subst hjt
        have : oj = ot := Option.some.inj (hoj.symm.trans hot)
        subst this
        have h2 := hall e he hb
        rw [hon, getD_both hun] at h2
        cases h2
      · cases hl : listed.getD j false with
        | true =>
          have h2 := inv.closed j oj hoj hl e he hb
          rw [hon, getD_both hun] at h2
          cases h2
        | false =>
          have hjs : j < listed.size := by rw [inv.size]; omega
          exact ih (t - j) (by omega) j rfl (by omega) (getD_in hjs hl) t (Nat.le_refl _) hr
    · have h1 := List.all_eq_true.1 hc t (List.mem_range.2 htlt)
      simp only [Bool.or_eq_true, decide_eq_true_eq] at h1
      rcases h1 with h1 | h1
      · omega
      · obtain ⟨s, hs1, hs2⟩ := List.any_eq_true.1 h1
        simp only [Bool.and_eq_true, decide_eq_true_eq] at hs2
        have hst := List.mem_range.1 hs1
        obtain ⟨o', ho', e, he, hb, hon⟩ := Region.waitsFor_spec hs2.2
        have : o' = ot := Option.some.inj (ho'.symm.trans hot)
        subst this
        have h2 := hall e he hb
        rw [hon, getD_both (inv.tail s hs2.1 (by omega))] at h2
        cases h2
theorem wpAnyQL_first2 {C : World → Prop} {n i : Nat} {oi : Oper} {v : Value} {L : Array Bool → Act → Prop} (hi : ops[i]? = some oi) (hsel : ∀ (j : Nat) (o : Oper) cs b, ops[j]? = some o → o.op ≠ .select cs b)
    (hs : Region.sinkB md ops n = true) (hc : chain2B md ops n = true) (hn : n < ops.size) (hin : i < n)
    (hdone : ∀ listed a, L listed a → ∀ j ∈ Region.ready md ops listed, n ≤ j) :
    ∀ (f : Nat) (listed : Array Bool) (a : Act), HeadInv md ops n listed →
      (∀ j oj, ops[j]? = some oj → j ≠ i → listed.getD j true = false → (∀ e ∈ oj.after, Region.binds md e = true → e.on ≠ i) → oi.apart ops oj = true) →
      i ∈ Region.ready md ops listed → YieldsIn P ops C oi v a →
      wpAnyQL P md ops C n L f (listed.setIfInBounds i true) (a.put oi.dst v) → wpAnyQL P md ops C n L (f + 1) listed a := by
  intro f
  induction f with
  | zero =>
    intro listed a inv _ hr hy H
    have hun := (mem_ready.1 hr).1
    refine ⟨fun h => (by rw [h] at hr; cases hr), fun j hj => ?_⟩
    have hjn : j < n := by
      rcases Nat.lt_or_ge j n with h | h
      · exact h
      · exact absurd hj (tail_waits2 hs hc hn inv _ i rfl hin hun j h)
    refine ⟨hjn, ?_⟩
    by_cases hji : j = i
    · subst hji; exact hy.qOp hi H
    · have := hdone _ _ H j (ready_mono hj hji)
      omega
  | succ f ih =>
    intro listed a inv hfree hr hy H
    have hun := (mem_ready.1 hr).1
    refine ⟨fun h => (by rw [h] at hr; cases hr), fun j hj => ?_⟩
    have hjn : j < n := by
      rcases Nat.lt_or_ge j n with h | h
      · exact h
      · exact absurd hj (tail_waits2 hs hc hn inv _ i rfl hin hun j h)
    refine ⟨hjn, ?_⟩
    by_cases hji : j = i
    · subst hji; exact hy.qOp hi H
    · have h1 := (H.2 j (ready_mono hj hji)).2
      obtain ⟨hjun, oj, hoj, hall⟩ := mem_ready.1 hj
      have hnot : ∀ e ∈ oj.after, Region.binds md e = true → e.on ≠ i := fun e he hb heq => by
        have h1 := hall e he hb
        rw [heq, getD_both hun] at h1
        cases h1
      have h2 := qOp_put hoj (hfree j oj hoj hji hjun hnot) (fun cs b => hsel i oi cs b hi) (fun cs b => hsel j oj cs b hoj) hy h1
      have hfree' : ∀ k ok, ops[k]? = some ok → k ≠ i → (listed.setIfInBounds j true).getD k true = false →
          (∀ e ∈ ok.after, Region.binds md e = true → e.on ≠ i) → oi.apart ops ok = true := fun k ok hk hki hun hno => by
        refine hfree k ok hk hki ?_ hno
        by_cases hjk : j = k
        · subst hjk; exact hjun
        · rw [getD_set_ne true hjk] at hun; exact hun
      refine qOp_mono (fun a' h3 => ih (listed.setIfInBounds j true) a' (inv.set hj hjn) hfree' (ready_mono hr (Ne.symm hji)) h3.1 ?_) h2
      rw [Array.setIfInBounds_comm _ _ hji]
      exact h3.2

end

def lexHead2 (md : Region.Mode) (ops : Array Oper) (g : Nat) : Nat → Nat → Array Bool → Bool
  | 0, k, listed => (List.range k).all (fun j => listed.getD j false) && tailB md ops g k listed
  | f + 1, k, listed => (Region.ready md ops listed).contains k && Region.free md ops listed k && lexHead2 md ops g f (k + 1) (listed.setIfInBounds k true)
def headTailB (md : Region.Mode) (ops : Array Oper) (n : Nat) : Bool :=
  Region.noSelect ops && decide (n < ops.size) && Region.sinkB md ops n && chain2B md ops n && lexHead2 md ops (ops.size - n) n 0 (Array.replicate ops.size false)

section
variable {P : Program} {ops : Array Oper} {Q : Exit → Act → World → Prop} {md : Region.Mode}

theorem yields_of_pure {k : Nat} {o : Oper} {a : Act} {w : World} {K : Act → World → Prop} (h0 : ops[k]? = some o) (hp : pureB ops k = true) (h : wpOp P ops (onlyN Q) k K a w) :
    ∃ v, Yields P ops o v a ∧ K (a.put o.dst v) w := by
  unfold pureB at hp
  simp only [h0, Bool.and_eq_true] at hp
  obtain ⟨hop, hg⟩ := hp
  have hg' : o.guard = none := by cases hg2 : o.guard with | none => rfl | some x => rw [hg2] at hg; cases hg
  have hw : Region.wanted o (yielded ops a.tmps) = true := by simp [Region.wanted, hg']
  unfold wpOp at h
  simp only [h0, hw, if_true] at h
  rcases h with h | h
  · unfold Oper.wp at h
    cases ho : o.op with
    | move x =>
      have hr : ∀ w, (execOp a.eval o).run P w = .ok (.value (a.eval x)) w := fun w => by unfold execOp; simp [ho, Sem.run_pure]
      rw [hr w] at h
      exact ⟨_, .inl ⟨hw, hr⟩, h⟩
    | assign x =>
      have hr : ∀ w, (execOp a.eval o).run P w = .ok (.value (a.eval x)) w := fun w => by unfold execOp; simp [ho, Sem.run_pure]
      rw [hr w] at h
      exact ⟨_, .inl ⟨hw, hr⟩, h⟩
    | extract x n =>
      have he : execOp a.eval o = (do pure (.value (← Instr.extract (a.eval x) n))) := by unfold execOp; simp [ho]
      rw [he] at h
      cases hx : a.eval x <;> simp only [hx] at he h
      case tuple vs =>
        cases hv : vs[n]? with
        | none => simp [Instr.extract, hv, Oper.upon] at h
        | some v =>
          have hr : ∀ w, (execOp a.eval o).run P w = .ok (.value v) w := fun w => by rw [he]; simp [Instr.extract, hv]
          have := hr w
          rw [he] at this
          rw [this] at h
          exact ⟨_, .inl ⟨hw, hr⟩, h⟩
      all_goals first | done | (simp [Instr.extract, Oper.upon] at h)
    | _ => rw [ho] at hop; cases hop
  · exact (onlyN_lets h.2).elim

theorem wpAny_of_tail (hsel : Region.noSelect ops = true) : ∀ (l : List Oper) (k : Nat) (listed : Array Bool) (a : Act) (w : World), (∀ j, l[j]? = ops[k + j]?) →
    tailB md ops l.length k listed = true → wpList P ops (onlyN Q) l a w → wpAny P md ops (onlyN Q) l.length listed a w
  | [], _, _, _, _, _, hB, h => ⟨by simpa [tailB] using hB, h⟩
  | o :: l, k, listed, a, w, hl, hB, h => by
    have h0 : ops[k]? = some o := by simpa using (hl 0).symm
    simp only [List.length_cons, tailB, Bool.and_eq_true, Bool.or_eq_true, decide_eq_true_eq] at hB
    obtain ⟨⟨hr, hwhich⟩, hB'⟩ := hB
    have hw : wpOp P ops (onlyN Q) k (wpList P ops (onlyN Q) l) a w := by unfold wpOp; simp only [h0]; exact h
    have hl' : ∀ j, l[j]? = ops[k + 1 + j]? := fun j => by have := hl (j + 1); simpa [Nat.add_assoc, Nat.add_comm 1 j] using this
    rcases hwhich with hone | ⟨hfree, hpure⟩
    · refine ⟨fun h1 => (by rw [hone] at h1; cases h1), fun i hi => ?_⟩
      rw [hone] at hi
      have hik : i = k := by simpa using hi
      subst hik
      exact wpOp_mono (fun a' w' h' => wpAny_of_tail hsel l (i + 1) _ a' w' hl' hB' h') hw
    · obtain ⟨v, hy, hK⟩ := yields_of_pure h0 hpure hw
      exact wpAny_take h0 hsel hfree hr (fun c a w h => h) hy (wpAny_of_tail hsel l (k + 1) _ _ w hl' hB' hK)

theorem wpAnyQL_lex2 {C : World → Prop} {n g : Nat} {Lq : Act → Prop} (hsel : Region.noSelect ops = true) (hs : Region.sinkB md ops n = true) (hc : chain2B md ops n = true) (hn : n < ops.size) :
    ∀ (l : List Oper) (k : Nat) (listed : Array Bool) (a : Act), (∀ j, j < l.length → l[j]? = ops[k + j]?) → k + l.length = n → HeadInv md ops n listed →
    lexHead2 md ops g l.length k listed = true → wpQuiet P ops C Lq l a →
    wpAnyQL P md ops C n (fun listed' a' => ((List.range n).all (fun j => listed'.getD j false) && tailB md ops g n listed') = true ∧ Lq a') l.length listed a
  | [], k, listed, a, _, hk, _, hB, h => by
    have : k = n := by simpa using hk
    subst this
    exact ⟨by simpa [lexHead2] using hB, h⟩
  | o :: l, k, listed, a, hl, hk, inv, hB, h => by
    have h0 : ops[k]? = some o := by simpa using (hl 0 (by simp)).symm
    simp only [List.length_cons, lexHead2, Bool.and_eq_true] at hB
    obtain ⟨⟨hr, hf⟩, hB'⟩ := hB
    have hkn : k < n := by simp only [List.length_cons] at hk; omega
    have hr' : k ∈ Region.ready md ops listed := by simpa using hr
    have hst : qOp P ops C k (wpQuiet P ops C Lq l) a := by unfold qOp; simp only [h0]; exact h
    obtain ⟨v, hy, hK⟩ := yieldsIn_of_qOp h0 hst
    refine wpAnyQL_first2 h0 (Region.noSelect_spec hsel) hs hc hn hkn (fun listed' a' hL j hj => ?_) l.length listed a inv (Region.free_spec h0 hf) hr' hy
      (wpAnyQL_lex2 hsel hs hc hn l (k + 1) _ _ (fun j hj => by have := hl (j + 1) (by simp; omega); simpa [Nat.add_assoc, Nat.add_comm 1 j] using this) (by simp only [List.length_cons] at hk; omega) (inv.set hr' hkn) hB' hK)
    have hun := (mem_ready.1 hj).1
    rcases Nat.lt_or_ge j n with hlt | hge
    · have h1 := (Bool.and_eq_true _ _ ▸ hL.1).1
      have h2 := List.all_eq_true.1 h1 j (List.mem_range.2 hlt)
      rw [getD_both hun] at h2
      cases h2
    · exact hge

/-- A region that draws its order: n reading operations and quiet calls, then a tail in which copies may float: one walk, in the order of the text; here from within a round. -/
theorem wpAny_head_tail {a : Act} {w : World} {l : List Oper} (n : Nat) (hB : headTailB .any l.toArray n = true)
    (h : wpQuiet P l.toArray (fun w' => ∃ n, w' = w.drewN n) (fun a' => ∀ w', (∃ n, w' = w.drewN n) → wpList P l.toArray (onlyN Q) (l.drop n) a' w') (l.take n) a) :
    wpAny P .any l.toArray (onlyN Q) l.toArray.size (Array.replicate l.toArray.size false) a w.drew := by
  simp only [headTailB, Bool.and_eq_true, decide_eq_true_eq] at hB
  obtain ⟨⟨⟨⟨hsel, hn⟩, hs⟩, hc⟩, hlex⟩ := hB
  have hn' : n < l.length := by simpa using hn
  have htl : (l.take n).length = n := by simp; omega
  have hdl : (l.drop n).length = l.toArray.size - n := by simp
  have inv0 : HeadInv .any l.toArray n (Array.replicate l.toArray.size false) :=
    ⟨by simp, fun j oj _ hl => (by rw [getD_replicate_false] at hl; cases hl), fun t _ ht => getD_in (by simpa using ht) (getD_replicate_false _ _)⟩
  have H := wpAnyQL_lex2 (md := .any) (g := l.toArray.size - n) hsel hs hc hn (l.take n) 0 _ a (fun j hj => by
    have hj' : j < n := by rw [htl] at hj; exact hj
    simp [hj']) (by simpa using htl) inv0 (by rw [htl]; exact hlex) h
  have := wpAny_of_qhead (Q' := onlyN Q) (g := l.toArray.size - n) (C := fun w' => ∃ n, w' = w.drewN n) (fun listed a' w' hw' hL => by
    have := wpAny_of_tail (md := .any) (Q := Q) hsel (l.drop n) n listed a' w' (fun j => by simp [List.getElem?_drop]) (by rw [hdl]; exact (Bool.and_eq_true _ _ ▸ hL.1).2) (hL.2 w' hw')
    rwa [hdl] at this) _ _ _ { w with drawn := w.drawn + 1 } ⟨1, rfl⟩ H
  rw [htl, show n + (l.toArray.size - n) = l.toArray.size by omega] at this
  exact this
theorem wp_head_tail {id : Nat} {a : Act} {w : World} {l : List Oper} (n : Nat) (hm : P.follows .mixedOrders = true) (hB : headTailB .any l.toArray n = true)
    (h : wpQuiet P l.toArray (fun w' => ∃ n, w' = w.drewN n) (fun a' => ∀ w', (∃ n, w' = w.drewN n) → wpList P l.toArray (onlyN Q) (l.drop n) a' w') (l.take n) a) : (Code.region id l.toArray true).wp P Q a w :=
  Code.wp_mono (fun e a w hq => by cases e <;> first | exact hq | exact hq.elim) (wp_region_any hm (wpAny_head_tail n hB h))
theorem wpIn_head_tail {id lp : Nat} {a : Act} {w : World} {l : List Oper} (n : Nat) (hm : P.follows .mixedOrders = true) (hnd : noDefer l.toArray = true) (hB : headTailB .any l.toArray n = true)
    (h : wpQuiet P l.toArray (fun w' => ∃ n, w' = w.drewN n) (fun a' => ∀ w', (∃ n, w' = w.drewN n) → wpList P l.toArray (onlyN Q) (l.drop n) a' w') (l.take n) a) : (Code.region id l.toArray true).wpIn (Fence.wide.inRound lp) 0 P Q a w :=
  wpIn_region_any hm (wpAnyIn_of hnd _ _ _ _ (wpAny_head_tail n hB h))
end
/-! ### a condition on the world that holds till one of the operations of T (a store, mostly) is carried out -/
def wpAnyT (P : Program) (md : Region.Mode) (ops : Array Oper) (Q : Exit → Act → World → Prop) (T : List Nat) (C : World → Prop) : Nat → Array Bool → Act → World → Prop
  | 0, listed, a, w => Region.ready md ops listed = [] ∧ Q .normal a w
  | fuel + 1, listed, a, w =>
    (Region.ready md ops listed = [] → Q .normal a w) ∧
    ∀ i ∈ Region.ready md ops listed, wpOp P ops Q i (fun a' w' => if T.contains i = true then wpAny P md ops Q fuel (listed.setIfInBounds i true) a' w' else C w' ∧ wpAnyT P md ops Q T C fuel (listed.setIfInBounds i true) a' w') a w

/-- each of T waits for i -/
def allWaitB (md : Region.Mode) (ops : Array Oper) (T : List Nat) (i : Nat) : Bool := T.all fun t => Region.waitsFor md ops t i

section
variable {P : Program} {ops : Array Oper} {Q : Exit → Act → World → Prop} {md : Region.Mode} {T : List Nat} {C : World → Prop}
theorem wpAny_of_T : ∀ (fuel : Nat) (listed : Array Bool) (a : Act) (w : World), wpAnyT P md ops Q T C fuel listed a w → wpAny P md ops Q fuel listed a w
  | 0, _, _, _, h => h
  | fuel + 1, _, _, _, h => ⟨h.1, fun i hi => wpOp_mono (fun a' w' h' => by
      split at h'
      · exact h'
      · exact wpAny_of_T fuel _ a' w' h'.2) (h.2 i hi)⟩

theorem wpAnyT_firstC {i : Nat} {oi : Oper} {v : Value} (hi : ops[i]? = some oi) (hsel : ∀ (j : Nat) (o : Oper) cs b, ops[j]? = some o → o.op ≠ .select cs b)
    (hQ : ∀ c a w, Q (.panic c) (a.put oi.dst v) w → Q (.panic c) a w) (hT : T.contains i = false) (hw : allWaitB md ops T i = true) :
    ∀ (fuel : Nat) (listed : Array Bool) (a : Act) (w : World),
      (∀ j oj, ops[j]? = some oj → j ≠ i → listed.getD j true = false → (∀ e ∈ oj.after, Region.binds md e = true → e.on ≠ i) → oi.apart ops oj = true) →
      i ∈ Region.ready md ops listed → YieldsIf P ops C oi v a → C w →
      wpAnyT P md ops Q T C fuel (listed.setIfInBounds i true) (a.put oi.dst v) w → wpAnyT P md ops Q T C (fuel + 1) listed a w := by
  intro fuel
  induction fuel with
  | zero =>
    intro listed a w _ hr hy hS H
    refine ⟨fun h => (by rw [h] at hr; cases hr), fun j hj => ?_⟩
    by_cases hji : j = i
    · subst hji
      rw [hT]
      exact hy.wpOp hi hS ⟨hS, H⟩
    · have := ready_mono hj hji
      rw [H.1] at this
      cases this
  | succ fuel ih =>
    intro listed a w hfree hr hy hS H
    refine ⟨fun h => (by rw [h] at hr; cases hr), fun j hj => ?_⟩
    by_cases hji : j = i
    · subst hji
      rw [hT]
      exact hy.wpOp hi hS ⟨hS, H⟩
    · have h1 := H.2 j (ready_mono hj hji)
      obtain ⟨hjun, oj, hoj, hall⟩ := mem_ready.1 hj
      have hnot : ∀ e ∈ oj.after, Region.binds md e = true → e.on ≠ i := fun e he hb heq => by
        have h1 := hall e he hb
        rw [heq, getD_both (mem_ready.1 hr).1] at h1
        cases h1
      have hjT : T.contains j = false := by
        cases hc : T.contains j with
        | false => rfl
        | true =>
          have := List.all_eq_true.1 hw j (by simpa using hc)
          obtain ⟨o', ho', e, he, hb, hon⟩ := Region.waitsFor_spec this
          have : o' = oj := Option.some.inj (ho'.symm.trans hoj)
          subst this
          exact absurd hon (hnot e he hb)
      rw [hjT] at h1 ⊢
      have h2 := wpOp_putIf hoj (hfree j oj hoj hji hjun hnot) (fun cs b => hsel i oi cs b hi) (fun cs b => hsel j oj cs b hoj) hQ hy h1
      have hfree' : ∀ k ok, ops[k]? = some ok → k ≠ i → (listed.setIfInBounds j true).getD k true = false →
          (∀ e ∈ ok.after, Region.binds md e = true → e.on ≠ i) → oi.apart ops ok = true := fun k ok hk hki hun hno => by
        refine hfree k ok hk hki ?_ hno
        by_cases hjk : j = k
        · subst hjk; exact hjun
        · rw [getD_set_ne true hjk] at hun; exact hun
      refine wpOp_mono (fun a' w' h3 => ?_) h2
      obtain ⟨h3a, h3b, h3c⟩ := h3
      refine ⟨h3b, ih (listed.setIfInBounds j true) a' w' hfree' (ready_mono hr (Ne.symm hji)) h3a h3b ?_⟩
      rw [Array.setIfInBounds_comm _ _ hji]
      exact h3c

theorem wpAnyT_firstP {i : Nat} {oi : Oper} {v : Value} (hi : ops[i]? = some oi) (hsel : ∀ (j : Nat) (o : Oper) cs b, ops[j]? = some o → o.op ≠ .select cs b)
    (hQ : ∀ c a w, Q (.panic c) (a.put oi.dst v) w → Q (.panic c) a w) (hT : T.contains i = false) :
    ∀ (fuel : Nat) (listed : Array Bool) (a : Act) (w : World),
      (∀ j oj, ops[j]? = some oj → j ≠ i → listed.getD j true = false → (∀ e ∈ oj.after, Region.binds md e = true → e.on ≠ i) → oi.apart ops oj = true) →
      i ∈ Region.ready md ops listed → Yields P ops oi v a → C w →
      wpAnyT P md ops Q T C fuel (listed.setIfInBounds i true) (a.put oi.dst v) w → wpAnyT P md ops Q T C (fuel + 1) listed a w := by
  intro fuel
  induction fuel with
  | zero =>
    intro listed a w _ hr hy hS H
    refine ⟨fun h => (by rw [h] at hr; cases hr), fun j hj => ?_⟩
    by_cases hji : j = i
    · subst hji
      rw [hT]
      exact hy.wpOp hi ⟨hS, H⟩
    · have := ready_mono hj hji
      rw [H.1] at this
      cases this
  | succ fuel ih =>
    intro listed a w hfree hr hy hS H
    refine ⟨fun h => (by rw [h] at hr; cases hr), fun j hj => ?_⟩
    by_cases hji : j = i
    · subst hji
      rw [hT]
      exact hy.wpOp hi ⟨hS, H⟩
    · have h1 := H.2 j (ready_mono hj hji)
      obtain ⟨hjun, oj, hoj, hall⟩ := mem_ready.1 hj
      have hnot : ∀ e ∈ oj.after, Region.binds md e = true → e.on ≠ i := fun e he hb heq => by
        have h1 := hall e he hb
        rw [heq, getD_both (mem_ready.1 hr).1] at h1
        cases h1
      have hfree' : ∀ k ok, ops[k]? = some ok → k ≠ i → (listed.setIfInBounds j true).getD k true = false →
          (∀ e ∈ ok.after, Region.binds md e = true → e.on ≠ i) → oi.apart ops ok = true := fun k ok hk hki hun hno => by
        refine hfree k ok hk hki ?_ hno
        by_cases hjk : j = k
        · subst hjk; exact hjun
        · rw [getD_set_ne true hjk] at hun; exact hun
      have h2 := wpOp_put hoj (hfree j oj hoj hji hjun hnot) (fun cs b => hsel i oi cs b hi) (fun cs b => hsel j oj cs b hoj) hQ hy h1
      refine wpOp_mono (fun a' w' h3 => ?_) h2
      obtain ⟨h3a, h3b⟩ := h3
      cases hjT : T.contains j with
      | true =>
        rw [hjT] at h3b
        simp only [if_true] at h3b ⊢
        refine wpAny_first hi hsel hQ fuel (listed.setIfInBounds j true) a' w' hfree' (ready_mono hr (Ne.symm hji)) h3a ?_
        rw [Array.setIfInBounds_comm _ _ hji]
        exact h3b
      | false =>
        rw [hjT] at h3b
        simp only [Bool.false_eq_true, if_false] at h3b ⊢
        refine ⟨h3b.1, ih (listed.setIfInBounds j true) a' w' hfree' (ready_mono hr (Ne.symm hji)) h3a h3b.1 ?_⟩
        rw [Array.setIfInBounds_comm _ _ hji]
        exact h3b.2

/-- take number i first: it yields v in every world that meets C, and T waits for it -/
theorem wpAnyT_takeC {i : Nat} {oi : Oper} {v : Value} {fuel : Nat} {listed : Array Bool} {a : Act} {w : World} (hi : ops[i]? = some oi)
    (hB : (Region.noSelect ops && Region.free md ops listed i && (Region.ready md ops listed).contains i && !T.contains i && allWaitB md ops T i) = true)
    (hQ : ∀ c a w, Q (.panic c) (a.put oi.dst v) w → Q (.panic c) a w) (hC : C w) (hw : Region.wanted oi (yielded ops a.tmps) = true) (hy : ∀ w, C w → (execOp a.eval oi).run P w = .ok (.value v) w)
    (h : wpAnyT P md ops Q T C fuel (listed.setIfInBounds i true) (a.put oi.dst v) w) : wpAnyT P md ops Q T C (fuel + 1) listed a w := by
  simp only [Bool.and_eq_true, Bool.not_eq_true'] at hB
  exact wpAnyT_firstC hi (Region.noSelect_spec hB.1.1.1.1) hQ hB.1.2 hB.2 fuel listed a w (Region.free_spec hi hB.1.1.1.2) (by simpa using hB.1.1.2) (.inl ⟨hw, hy⟩) hC h
/-- take number i first: it yields v in whatever world -/
theorem wpAnyT_takeP {i : Nat} {oi : Oper} {v : Value} {fuel : Nat} {listed : Array Bool} {a : Act} {w : World} (hi : ops[i]? = some oi)
    (hB : (Region.noSelect ops && Region.free md ops listed i && (Region.ready md ops listed).contains i && !T.contains i) = true)
    (hQ : ∀ c a w, Q (.panic c) (a.put oi.dst v) w → Q (.panic c) a w) (hC : C w) (hw : Region.wanted oi (yielded ops a.tmps) = true) (hy : ∀ w, (execOp a.eval oi).run P w = .ok (.value v) w)
    (h : wpAnyT P md ops Q T C fuel (listed.setIfInBounds i true) (a.put oi.dst v) w) : wpAnyT P md ops Q T C (fuel + 1) listed a w := by
  simp only [Bool.and_eq_true, Bool.not_eq_true'] at hB
  exact wpAnyT_firstP hi (Region.noSelect_spec hB.1.1.1) hQ hB.2 fuel listed a w (Region.free_spec hi hB.1.1.2) (by simpa using hB.1.2) (.inl ⟨hw, hy⟩) hC h
/-- .. a guarded one whose guard says no -/
theorem wpAnyT_takeN {i : Nat} {oi : Oper} {fuel : Nat} {listed : Array Bool} {a : Act} {w : World} (hi : ops[i]? = some oi)
    (hB : (Region.noSelect ops && Region.free md ops listed i && (Region.ready md ops listed).contains i && !T.contains i) = true)
    (hQ : ∀ c a w, Q (.panic c) (a.put oi.dst undef) w → Q (.panic c) a w) (hC : C w) (hw : Region.wanted oi (yielded ops a.tmps) = false)
    (h : wpAnyT P md ops Q T C fuel (listed.setIfInBounds i true) (a.put oi.dst undef) w) : wpAnyT P md ops Q T C (fuel + 1) listed a w := by
  simp only [Bool.and_eq_true, Bool.not_eq_true'] at hB
  exact wpAnyT_firstP hi (Region.noSelect_spec hB.1.1.1) hQ hB.2 fuel listed a w (Region.free_spec hi hB.1.1.2) (by simpa using hB.1.2) (.inr ⟨hw, rfl⟩) hC h
/-- the one that may come up, none of T -/
theorem wpAnyT_one {i : Nat} {oi : Oper} {fuel : Nat} {listed : Array Bool} {a : Act} {w : World} (hi : ops[i]? = some oi)
    (hB : (decide (Region.ready md ops listed = [i]) && !T.contains i) = true) (hw : Region.wanted oi (yielded ops a.tmps) = true)
    (h : ∀ K : Act → World → Prop, Hid (∀ a w, C w → wpAnyT P md ops Q T C fuel (listed.setIfInBounds i true) a w → K a w) → Oper.wp P oi a w K Q) : wpAnyT P md ops Q T C (fuel + 1) listed a w := by
  simp only [Bool.and_eq_true, Bool.not_eq_true', decide_eq_true_eq] at hB
  refine ⟨fun h0 => (by rw [hB.1] at h0; cases h0), fun j hj => ?_⟩
  rw [hB.1] at hj
  obtain rfl : j = i := by simpa using hj
  rw [hB.2]
  refine wpOp_step hi fun K hK => ?_
  rw [if_pos hw]
  exact h K (Lib.hid fun a w h1 h2 => hK a w ⟨h1, h2⟩)
/-- the one that may come up, one of T: from here on no condition is kept; the rest in the order of the text -/
theorem wpAnyT_last (k : Nat) {l : List Oper} {listed : Array Bool} {a : Act} {w : World} (hl : ops.toList.drop k = l)
    (hB : (Region.noSelect ops && decide (k < ops.size) && T.contains k && decide (Region.ready md ops listed = [k]) && tailB md ops (ops.size - k - 1) (k + 1) (listed.setIfInBounds k true)) = true)
    (h : wpList P ops (onlyN Q) l a w) : wpAnyT P md ops (onlyN Q) T C (ops.size - k - 1 + 1) listed a w := by
  simp only [Bool.and_eq_true, decide_eq_true_eq] at hB
  obtain ⟨⟨⟨⟨hsel, hk⟩, hkT⟩, hr⟩, htl⟩ := hB
  have hlen : l.length = ops.size - k := by rw [← hl]; simp
  have hat : ∀ j, l[j]? = ops[k + j]? := fun j => by rw [← hl, List.getElem?_drop]; simp
  match l, hlen, hat, h with
  | [], hlen, _, _ => simp at hlen; omega
  | o :: l', hlen, hat, h =>
    have h0 : ops[k]? = some o := by simpa using (hat 0).symm
    refine ⟨fun h1 => (by rw [hr] at h1; cases h1), fun i hi => ?_⟩
    rw [hr] at hi
    obtain rfl : i = k := by simpa using hi
    rw [hkT]
    simp only [if_true]
    have hw : wpOp P ops (onlyN Q) i (wpList P ops (onlyN Q) l') a w := by unfold wpOp; simp only [h0]; exact h
    have hl' : l'.length = ops.size - i - 1 := by simp at hlen; omega
    refine wpOp_mono (fun a' w' h' => ?_) hw
    have := wpAny_of_tail (md := md) (Q := Q) hsel l' (i + 1) (listed.setIfInBounds i true) a' w' (fun j => by have := hat (j + 1); simpa [Nat.add_assoc, Nat.add_comm 1 j] using this) (by rw [hl']; exact htl) h'
    rwa [hl'] at this

/-! the same with the operations as a list: what is taken stands written out behind 'List.getD' -/
theorem getD_at {l : List Oper} {i : Nat} (h : i < l.length) : l.toArray[i]? = some (l.getD i default) := by simp [List.getD, h]
section
variable {l : List Oper}
theorem wpAnyT_takeC' (i : Nat) {v : Value} {fuel : Nat} {listed : Array Bool} {a : Act} {w : World}
    (hB : (decide (i < l.length) && (Region.noSelect l.toArray && Region.free md l.toArray listed i && (Region.ready md l.toArray listed).contains i && !T.contains i && allWaitB md l.toArray T i)) = true)
    (hQ : ∀ c a w, Q (.panic c) (a.put (l.getD i default).dst v) w → Q (.panic c) a w) (hC : C w) (hw : Region.wanted (l.getD i default) (yielded l.toArray a.tmps) = true) (hy : ∀ w, C w → (execOp a.eval (l.getD i default)).run P w = .ok (.value v) w)
    (h : wpAnyT P md l.toArray Q T C fuel (listed.setIfInBounds i true) (a.put (l.getD i default).dst v) w) : wpAnyT P md l.toArray Q T C (fuel + 1) listed a w := by
  rw [Bool.and_eq_true, decide_eq_true_eq] at hB
  exact wpAnyT_takeC (getD_at hB.1) hB.2 hQ hC hw hy h
theorem wpAnyT_takeP' (i : Nat) {v : Value} {fuel : Nat} {listed : Array Bool} {a : Act} {w : World}
    (hB : (decide (i < l.length) && (Region.noSelect l.toArray && Region.free md l.toArray listed i && (Region.ready md l.toArray listed).contains i && !T.contains i)) = true)
    (hQ : ∀ c a w, Q (.panic c) (a.put (l.getD i default).dst v) w → Q (.panic c) a w) (hC : C w) (hw : Region.wanted (l.getD i default) (yielded l.toArray a.tmps) = true) (hy : ∀ w, (execOp a.eval (l.getD i default)).run P w = .ok (.value v) w)
    (h : wpAnyT P md l.toArray Q T C fuel (listed.setIfInBounds i true) (a.put (l.getD i default).dst v) w) : wpAnyT P md l.toArray Q T C (fuel + 1) listed a w := by
  rw [Bool.and_eq_true, decide_eq_true_eq] at hB
  exact wpAnyT_takeP (getD_at hB.1) hB.2 hQ hC hw hy h
theorem wpAnyT_takeN' (i : Nat) {fuel : Nat} {listed : Array Bool} {a : Act} {w : World}
    (hB : (decide (i < l.length) && (Region.noSelect l.toArray && Region.free md l.toArray listed i && (Region.ready md l.toArray listed).contains i && !T.contains i)) = true)
    (hQ : ∀ c a w, Q (.panic c) (a.put (l.getD i default).dst undef) w → Q (.panic c) a w) (hC : C w) (hw : Region.wanted (l.getD i default) (yielded l.toArray a.tmps) = false)
    (h : wpAnyT P md l.toArray Q T C fuel (listed.setIfInBounds i true) (a.put (l.getD i default).dst undef) w) : wpAnyT P md l.toArray Q T C (fuel + 1) listed a w := by
  rw [Bool.and_eq_true, decide_eq_true_eq] at hB
  exact wpAnyT_takeN (getD_at hB.1) hB.2 hQ hC hw h
theorem wpAnyT_one' (i : Nat) {fuel : Nat} {listed : Array Bool} {a : Act} {w : World}
    (hB : (decide (i < l.length) && (decide (Region.ready md l.toArray listed = [i]) && !T.contains i)) = true) (hw : Region.wanted (l.getD i default) (yielded l.toArray a.tmps) = true)
    (h : ∀ K : Act → World → Prop, Hid (∀ a w, C w → wpAnyT P md l.toArray Q T C fuel (listed.setIfInBounds i true) a w → K a w) → Oper.wp P (l.getD i default) a w K Q) : wpAnyT P md l.toArray Q T C (fuel + 1) listed a w := by
  rw [Bool.and_eq_true, decide_eq_true_eq] at hB
  exact wpAnyT_one (getD_at hB.1) hB.2 hw h
end
theorem wpAnyT_done {listed : Array Bool} {a : Act} {w : World} (hr : Region.ready md ops listed = []) (h : Q .normal a w) : ∀ fuel, wpAnyT P md ops Q T C fuel listed a w
  | 0 => ⟨hr, h⟩
  | _ + 1 => ⟨fun _ => h, by rw [hr]; simp⟩
theorem wp_T {id : Nat} {a : Act} {w : World} (T : List Nat) (C : World → Prop) (hm : P.follows .mixedOrders = true) (h : C w.drew → wpAnyT P .any ops (onlyN Q) T C ops.size (Array.replicate ops.size false) a w.drew) (hC : C w.drew) :
    (Code.region id ops true).wp P Q a w :=
  Code.wp_mono (fun e a w hq => by cases e <;> first | exact hq | exact hq.elim) (wp_region_any hm (wpAny_of_T _ _ _ _ (h hC)))
theorem wpIn_T {id lp : Nat} {a : Act} {w : World} (T : List Nat) (C : World → Prop) (hm : P.follows .mixedOrders = true) (hnd : noDefer ops = true) (h : C w.drew → wpAnyT P .any ops (onlyN Q) T C ops.size (Array.replicate ops.size false) a w.drew) (hC : C w.drew) :
    (Code.region id ops true).wpIn (Fence.wide.inRound lp) 0 P Q a w :=
  wpIn_region_any hm (wpAnyIn_of hnd _ _ _ _ (wpAny_of_T _ _ _ _ (h hC)))
end
/-! ### function values in cells -/
theorem run_store_func {P : Program} {w : World} (a : Addr) (m : Mode) (f : Fn) (xs ys : Array Value) : (store a (.func f xs ys) m).run P w = stored P w a (.func f xs ys) m := run_store P w a _ m rfl
theorem run_equalIn_func_nil {P : Program} {w : World} (d : Nat) {t : TypeId} {ps rs : Array TypeId} {b : Bool} (h : P.underlying t = some (.func ps rs b)) (f : Fn) (xs ys : Array Value) : (Op.equalIn (d + 1) t (.func f xs ys) .nilFunc).run P w = .ok false w := by
  simp [Op.equalIn, run_underlying h]
theorem run_equal_func_nil {P : Program} {w : World} {t : TypeId} {ps rs : Array TypeId} {b : Bool} (h : P.underlying t = some (.func ps rs b)) (f : Fn) (xs ys : Array Value) : (Op.equal t (.func f xs ys) .nilFunc).run P w = .ok false w := run_equalIn_func_nil 9999 h f xs ys
theorem run_eql_func_nil {P : Program} {w : World} {t : TypeId} {ps rs : Array TypeId} {b : Bool} (h : P.underlying t = some (.func ps rs b)) (f : Fn) (xs ys : Array Value) : (binOp .eql t (.func f xs ys) .nilFunc).run P w = .ok (.bool false) w := by
  simp only [binOp]
  simp [run_equal_func_nil h]
end Go.Proofs.Yteojodcdehkejaa
/- A discipline by turns in memory: its struct, its flows' structs, its ring, the flows' queues. -/
namespace Go.Proofs.Yteojodcdehkejaa
open Go Go.RowKit
attribute [local go_sem] calmQ_normal wide_fn wide_depth Oper.semAt_some

/-- a flow: its struct in block b, its queue the ring r -/
structure Fl where
  b : Nat
  slot : Int
  gen : Int
  wt : Int
  qt : Int
  df : Int
  r : Nat
  ds : List Nat
  q : List P6
  by_ : Int
def Fl.cells (f : Fl) : List Value := [.int .i64 f.slot, .int .i64 f.gen, .int .i64 f.wt, .int .i64 f.qt, .int .i64 f.df, .pointer (some ⟨f.r, 0, none⟩), .int .i64 f.by_]
def CStr (f : Fl) : Chunk := Chunk.blk f.b 95 f.cells
def CQ (f : Fl) : Chunk := CRingp6 f.r f.ds f.q
abbrev CRingq (r : Nat) (ds : List Nat) (xs : List Nat) : Chunk := Chunk.ring 132 89 1 encQ r ds (xs.map some)

/-- the whole -/
structure Dr where
  b : Nat
  fv : Value
  fS : List Nat
  fl : List Fl
  rb : Nat
  rds : List Nat
  ring : List Nat
  turn : Bool
  seq : Int
  came : Int
  n : Int
def Dr.head (d : Dr) : List Value := [d.fv, .pointer (some ⟨d.rb, 0, none⟩), .bool d.turn, .int .i64 d.seq, .int .i64 d.came, .int .i64 d.n]
abbrev CHd (d : Dr) : Chunk := Chunk.blk d.b 92 d.head
abbrev CFs (d : Dr) : Chunk := Chunk.own 89 1 d.fv d.fl.length (d.fl.map fun f => ptrV (some f.b)) d.fS
def Dr.chunks (d : Dr) : List Chunk := [CHd d, CFs d, CRingq d.rb d.rds d.ring] ++ (d.fl.map CStr ++ d.fl.map CQ)
def Dr.setF (d : Dr) (k : Nat) (f : Fl) : Dr := { d with fl := d.fl.set k f }
def CDr (d : Dr) : Chunk := Chunk.all d.chunks

section
variable {d : Dr} {k : Nat} {f f' : Fl}
theorem Dr.str_at (h : d.fl[k]? = some f) : d.chunks[3 + k]? = some (CStr f) := by
  have hk := some_lt h
  unfold Dr.chunks
  rw [List.getElem?_append_right (by simp), List.getElem?_append_left (by simp; omega)]
  simp [h]
theorem Dr.que_at (h : d.fl[k]? = some f) : d.chunks[3 + d.fl.length + k]? = some (CQ f) := by
  unfold Dr.chunks
  rw [List.getElem?_append_right (by simp; omega), List.getElem?_append_right (by simp; omega)]
  simp [h, show 3 + d.fl.length + k - 3 - d.fl.length = k from by omega]
theorem map_set_same {α β : Type} {l : List α} {k : Nat} {x y : α} (g : α → β) (h : l[k]? = some x) (e : g y = g x) : (l.set k y).map g = l.map g := by
  rw [List.map_set, e]
  obtain ⟨hk, rfl⟩ := List.getElem?_eq_some_iff.1 h
  refine List.ext_getElem? fun i => ?_
  by_cases hi : k = i
  · subst hi; rw [List.getElem?_set_self (by simpa using hk)]; simp [hk]
  · rw [List.getElem?_set_ne hi]
theorem Dr.set_str (h : d.fl[k]? = some f) (hb : f'.b = f.b) (hq : CQ f' = CQ f) : d.chunks.set (3 + k) (CStr f') = (d.setF k f').chunks := by
  have hk := some_lt h
  unfold Dr.chunks Dr.setF
  rw [List.set_append_right _ _ (by simp), List.set_append_left _ _ (by simp; omega)]
  simp only [List.length_cons, List.length_nil, Nat.zero_add, Nat.reduceAdd, Nat.add_sub_cancel_left, CHd, CFs, Dr.head, List.length_set]
  rw [map_set_same (fun f => ptrV (some f.b)) h (by rw [hb]), map_set_same CQ h hq, List.map_set]
theorem Dr.set_que (h : d.fl[k]? = some f) (hb : f'.b = f.b) (hs : CStr f' = CStr f) : d.chunks.set (3 + d.fl.length + k) (CQ f') = (d.setF k f').chunks := by
  have hk := some_lt h
  unfold Dr.chunks Dr.setF
  rw [List.set_append_right _ _ (by simp; omega), List.set_append_right _ _ (by simp; omega)]
  simp only [List.length_cons, List.length_nil, Nat.zero_add, Nat.reduceAdd, List.length_map, CHd, CFs, Dr.head, List.length_set]
  rw [map_set_same (fun f => ptrV (some f.b)) h (by rw [hb]), map_set_same CStr h hs, List.map_set, show 3 + d.fl.length + k - 3 - d.fl.length = k from by omega]
end

/-- the flow of a handle -/
def Dr.look (d : Dr) (s g : Int) : Option Nat := d.fl.findIdx? fun f => decide (f.slot = s) && decide (f.gen = g)
theorem Dr.look_some {d : Dr} {s g : Int} {k : Nat} {f : Fl} (hk : d.fl[k]? = some f) (h1 : f.slot = s) (h2 : f.gen = g) (hb : ∀ j f', j < k → d.fl[j]? = some f' → ¬ (f'.slot = s ∧ f'.gen = g)) : d.look s g = some k := by
  unfold Dr.look
  rw [List.findIdx?_eq_some_iff_getElem]
  obtain ⟨hj, he⟩ := List.getElem?_eq_some_iff.1 hk
  refine ⟨hj, by rw [he]; simp [h1, h2], fun j hj' => ?_⟩
  have := hb j d.fl[j] hj' (by simp [show j < d.fl.length from by omega])
  simpa using this
theorem Dr.look_none {d : Dr} {s g : Int} (hb : ∀ j f', j < d.fl.length → d.fl[j]? = some f' → ¬ (f'.slot = s ∧ f'.gen = g)) : d.look s g = none := by
  unfold Dr.look
  rw [List.findIdx?_eq_none_iff]
  intro f hf
  obtain ⟨j, hj, rfl⟩ := List.getElem_of_mem hf
  have := hb j d.fl[j] hj (by simp [hj])
  simpa using this
theorem Dr.look_at {d : Dr} {s g : Int} {k : Nat} (h : d.look s g = some k) : ∃ f, d.fl[k]? = some f ∧ f.slot = s ∧ f.gen = g := by
  unfold Dr.look at h
  rw [List.findIdx?_eq_some_iff_getElem] at h
  obtain ⟨hk, hp, _⟩ := h
  exact ⟨d.fl[k], by simp [hk], by simpa using hp⟩
/-- the pointer to a flow -/
def Dr.ptr (d : Dr) (o : Option Nat) : Value := match o with
  | some k => match d.fl[k]? with
    | some f => .pointer (some ⟨f.b, 0, none⟩)
    | none => .pointer none
  | none => .pointer none

set_option maxRecDepth 100000 in
set_option maxHeartbeats 2000000 in
theorem dfind {w : World} {d : Dr} (h : Holds w d.chunks) (s g : Int) :
    Calls Try.prog 36 #[.pointer (some ⟨d.b, 0, none⟩), .agg #[.int .i64 s, .int .i64 g]] w fun e w' => e = .returned (d.ptr (d.look s g)) ∧ Fr [] w w' := by
  have hB : Blk w d.b 92 d.head := h.get (i := 0) rfl
  have hO : OwnS w 89 1 d.fv d.fl.length (d.fl.map fun f => ptrV (some f.b)) d.fS := h.get (i := 1) rfl
  have h0 : w.cell? ⟨d.b, 0, none⟩ = some d.fv := hB.cell 0
  have hl := hB.lt
  obtain ⟨va, vc, hv⟩ := hO.val
  rw [hv] at h0 hO
  have HO := Lib.hid hO
  have H := Lib.hid h
  have hn : d.fl.length ≤ maxLen := by
    rcases hO.2 with ⟨_, hn, _⟩ | ⟨_, cap, _, _, _, _, h1, h2, _⟩
    · omega
    · omega
  have hbx : ∀ o X, Fr [] (w.alloc o) X → Fr [] w X := fun o X f => ((Fr.refl [] w).alloc o).trans' f
  have HBX := Lib.hid hbx
  unfold maxLen at hn
  clear hB h hO hbx
  go_enter Try.func36, Try.ntmps36
  go_wp2
  obtain ⟨W, hW⟩ : ∃ W, w.alloc (.cells #[.int .i64 s, .int .i64 g] 26) = W := ⟨_, rfl⟩
  have fW : Fr [] w W := by rw [← hW]; exact (Fr.refl _ _).alloc _
  have bW : Blk W w.heap.size 26 [.int .i64 s, .int .i64 g] := by rw [← hW]; exact Blk.new w _ [_, _]
  rw [hW]
  have x0 := bW.cell 0
  have x1 := bW.cell 1
  simp only [List.getElem?_cons_zero, List.getElem?_cons_succ] at x0 x1
  have HW := Lib.hid (H.out.fr' fW (by simp))
  have hOW := Lib.hid (HO.out.fr fW (by simp))
  have FW := Lib.hid fW
  clear hW fW bW H HO HBX
  go_loopg [12] (d.fl.length + 1) (fun k i wr => ∃ j : Nat, k + j = d.fl.length + 1 ∧ j ≤ d.fl.length ∧ i = .int .i64 j ∧ ∃ q, wr = W.drewN q ∧ Hid (∀ j' f', j' < j → d.fl[j']? = some f' → ¬ (f'.slot = s ∧ f'.gen = g)))
  case atStart => exact ⟨0, by omega, by omega, rfl, 0, rfl, fun j' _ h => by omega⟩
  case round =>
    obtain ⟨j, hk, hj, rfl, q, rfl, hsk⟩ := hrel
    by_cases hjn : j < d.fl.length
    · obtain ⟨f, hf⟩ : ∃ f, d.fl[j]? = some f := ⟨d.fl[j], by simp [hjn]⟩
      obtain ⟨gb, gc, hgv, _⟩ := hOW.out.head (by omega)
      cases hgv
      have c0 : W.cell? ⟨gb, j, none⟩ = some (.pointer (some ⟨f.b, 0, none⟩)) := by
        rw [hOW.out.cellAt j (by omega), List.getElem?_map, hf]; rfl
      have hS : Blk W f.b 95 f.cells := HW.out.get (Dr.str_at hf)
      have s0 : W.cell? ⟨f.b, 0, none⟩ = some (.int .i64 f.slot) := hS.cell 0
      have s1 : W.cell? ⟨f.b, 1, none⟩ = some (.int .i64 f.gen) := hS.cell 1
      have hfb : d.ptr (some j) = .pointer (some ⟨f.b, 0, none⟩) := by simp [Dr.ptr, hf]
      have HF := Lib.hid hf
      have HFB := Lib.hid hfb
      clear hS hf hfb
      by_cases hs : f.slot = s
      · by_cases hg : f.gen = g
        · have hlook := Lib.hid (Dr.look_some HF.out hs hg (fun j' f' hj' hf' => hsk.out j' f' hj' hf'))
          rw [hs] at s0
          rw [hg] at s1
          clear hs hg
          go_wp2
          go_quiet (fail)
          go_wp2
          go_ret
          exact ⟨by rw [hlook.out, HFB.out]; rfl, (FW.out.drewN _).drewN _⟩
        · have hb1 : (f.gen == g) = false := by rw [beq_eq_false_iff_ne]; exact hg
          have hstep : Hid (∀ j' f', j' < j + 1 → d.fl[j']? = some f' → ¬ (f'.slot = s ∧ f'.gen = g)) := fun j' f' hj' hf' hc => by
            by_cases e : j' = j
            · subst e; have := HF.out; rw [hf'] at this; cases this; exact hg hc.2
            · exact hsk.out j' f' (by omega) hf' hc
          rw [hs] at s0
          clear hs hg
          go_wp2
          go_quiet (fail)
          go_wp2
          go_roundg (gk - 1)
          case measure => omega
          case rel => exact ⟨j + 1, by omega, by omega, by go_num, _, rfl, hstep⟩
      · have hb1 : (f.slot == s) = false := by rw [beq_eq_false_iff_ne]; exact hs
        have hstep : Hid (∀ j' f', j' < j + 1 → d.fl[j']? = some f' → ¬ (f'.slot = s ∧ f'.gen = g)) := fun j' f' hj' hf' hc => by
          by_cases e : j' = j
          · subst e; have := HF.out; rw [hf'] at this; cases this; exact hs hc.1
          · exact hsk.out j' f' (by omega) hf' hc
        clear hs
        go_wp2
        go_quiet (fail)
        go_wp2
        go_roundg (gk - 1)
        case measure => omega
        case rel => exact ⟨j + 1, by omega, by omega, by go_num, _, rfl, hstep⟩
    · obtain rfl : j = d.fl.length := by omega
      have hlook := Lib.hid (Dr.look_none (fun j' f' hj' hf' => hsk.out j' f' hj' hf'))
      go_wp2
      go_ret
      exact ⟨by rw [hlook.out]; rfl, FW.out.drewN _⟩
end Go.Proofs.Yteojodcdehkejaa
/- Turns, in plain lists: what choose does, one turn after the other. -/
namespace Go.Proofs.Yteojodcdehkejaa
open Go Go.RowKit

/-- the size of a flow's first packet -/
def Fl.sz (f : Fl) : Int := match f.q with
  | [] => 0
  | p :: _ => p.f3
def Fl.add (f : Fl) (x : Int) : Fl := { f with df := f.df + x }
theorem Fl.add_sz (f : Fl) (x : Int) : (f.add x).sz = f.sz := rfl

/-- turns that send nothing -/
inductive Turns : List Fl → List Nat → Bool → List Fl → List Nat → Bool → Prop
  | refl (fl : List Fl) (ri : List Nat) (t : Bool) : Turns fl ri t fl ri t
  | step {fl : List Fl} {i : Nat} {rest : List Nat} {t : Bool} {f : Fl} {fl' : List Fl} {ri' : List Nat} {t' : Bool} (hf : fl[i]? = some f) (h : f.df + (if t then 0 else f.qt) < f.sz)
      (k : Turns (fl.set i (f.add (if t then 0 else f.qt))) (rest ++ [i]) false fl' ri' t') : Turns fl (i :: rest) t fl' ri' t'
theorem Turns.trans {a : List Fl} {ra : List Nat} {ta : Bool} {b : List Fl} {rb : List Nat} {tb : Bool} {c : List Fl} {rc : List Nat} {tc : Bool} (h : Turns a ra ta b rb tb) (k : Turns b rb tb c rc tc) : Turns a ra ta c rc tc := by
  induction h with
  | refl => exact k
  | step hf h _ ih => exact Turns.step hf h (ih k)
theorem Turns.one {fl : List Fl} {i : Nat} {rest : List Nat} {t : Bool} {f : Fl} (hf : fl[i]? = some f) (h : f.df + (if t then 0 else f.qt) < f.sz) : Turns fl (i :: rest) t (fl.set i (f.add (if t then 0 else f.qt))) (rest ++ [i]) false :=
  Turns.step hf h (Turns.refl _ _ _)

/-- all of the ring get so many quanta -/
def bump (fl : List Fl) (ri : List Nat) (c : Int) : List Fl := fl.mapIdx fun i f => if i ∈ ri then f.add (c * f.qt) else f
theorem bump_at {fl : List Fl} {ri : List Nat} {c : Int} {i : Nat} : (bump fl ri c)[i]? = (fl[i]?).map fun f => if i ∈ ri then f.add (c * f.qt) else f := by
  simp [bump, List.getElem?_mapIdx]
theorem bump_len (fl : List Fl) (ri : List Nat) (c : Int) : (bump fl ri c).length = fl.length := by simp [bump]
theorem bump_zero (fl : List Fl) (ri : List Nat) : bump fl ri 0 = fl := by
  refine List.ext_getElem? fun i => ?_
  rw [bump_at]
  cases fl[i]? with
  | none => rfl
  | some f => simp [Fl.add]
theorem bump_nil (fl : List Fl) (c : Int) : bump fl [] c = fl := by
  refine List.ext_getElem? fun i => ?_
  rw [bump_at]
  cases fl[i]? with
  | none => rfl
  | some f => simp
theorem bump_bump (fl : List Fl) (ri : List Nat) (c e : Int) : bump (bump fl ri c) ri e = bump fl ri (c + e) := by
  refine List.ext_getElem? fun i => ?_
  rw [bump_at, bump_at, bump_at]
  cases fl[i]? with
  | none => rfl
  | some f =>
    by_cases h : i ∈ ri
    · simp [h, Fl.add, Int.add_mul, Int.add_assoc]
    · simp [h]
theorem bump_cons {fl : List Fl} {i : Nat} {a : List Nat} {f : Fl} (hf : fl[i]? = some f) (hn : i ∉ a) : bump (fl.set i (f.add f.qt)) a 1 = bump fl (i :: a) 1 := by
  have hi := some_lt hf
  refine List.ext_getElem? fun j => ?_
  rw [bump_at, bump_at]
  by_cases e : j = i
  · subst e
    rw [List.getElem?_set_self hi, hf]
    simp [hn]
  · rw [List.getElem?_set_ne (Ne.symm e)]
    simp [e]

theorem bump_take {fl : List Fl} {ri : List Nat} {k i : Nat} {f : Fl} {c : Int} (hn : ri.Nodup) (hk : ri[k]? = some i) (hf : fl[i]? = some f) : (bump fl (ri.take k) c)[i]? = some f ∧ bump fl (ri.take (k + 1)) c = (bump fl (ri.take k) c).set i (f.add (c * f.qt)) := by
  have hi := some_lt hf
  obtain ⟨hkl, hk'⟩ := List.getElem?_eq_some_iff.1 hk
  have hni : i ∉ ri.take k := fun hm => by
    obtain ⟨j, hj, he⟩ := List.getElem_of_mem hm
    rw [List.getElem_take] at he
    simp at hj
    have := (List.getElem_inj (h₀ := by omega) (h₁ := hkl) hn).1 (he.trans hk'.symm)
    omega
  refine ⟨by rw [bump_at, hf]; simp [hni], ?_⟩
  refine List.ext_getElem? fun j => ?_
  rw [bump_at, List.take_add_one, hk]
  by_cases e : i = j
  · subst e
    rw [List.getElem?_set_self (by rw [bump_len]; exact hi), hf]
    simp
  · rw [List.getElem?_set_ne e, bump_at]
    simp [Ne.symm e]
theorem bump_bs (fl : List Fl) (ri : List Nat) (c : Int) : Chunks.bs ((bump fl ri c).map CStr) = Chunks.bs (fl.map CStr) := by
  unfold Chunks.bs bump
  rw [List.flatMap_map, List.flatMap_map]
  have : ∀ (l : List Fl) (n : Nat), (l.mapIdx fun i f => if (i + n) ∈ ri then f.add (c * f.qt) else f).flatMap (fun x => (CStr x).bs) = l.flatMap (fun x => (CStr x).bs) := by
    intro l
    induction l with
    | nil => intro n; rfl
    | cons a l ih =>
      intro n
      rw [List.mapIdx_cons]
      simp only [List.flatMap_cons, Nat.zero_add]
      have := ih (n + 1)
      rw [show (fun i (f : Fl) => if i + 1 + n ∈ ri then f.add (c * f.qt) else f) = (fun i f => if i + (n + 1) ∈ ri then f.add (c * f.qt) else f) from by funext i f; rw [Nat.add_assoc, Nat.add_comm 1 n]]
      rw [this]
      congr 1
      split <;> rfl
  have h := this fl 0
  simpa using h
theorem bump_q (fl : List Fl) (ri : List Nat) (c : Int) : (bump fl ri c).map CQ = fl.map CQ := by
  refine List.ext_getElem? fun i => ?_
  rw [List.getElem?_map, List.getElem?_map, bump_at]
  cases fl[i]? with
  | none => rfl
  | some f => simp only [Option.map_some]; congr 1; split <;> rfl
theorem bump_b {fl : List Fl} {ri : List Nat} {c : Int} (i : Nat) : ((bump fl ri c)[i]?).map (·.b) = (fl[i]?).map (·.b) := by
  rw [bump_at]
  cases fl[i]? with
  | none => rfl
  | some f => simp only [Option.map_some]; congr 1; split <;> rfl
theorem Turns.round : ∀ (a b : List Nat) (fl : List Fl), (a ++ b).Nodup → (∀ i, i ∈ a → ∃ f, fl[i]? = some f ∧ f.df + f.qt < f.sz) → Turns fl (a ++ b) false (bump fl a 1) (b ++ a) false
  | [], b, fl, _, _ => by rw [bump_nil, List.append_nil]; exact Turns.refl _ _ _
  | i :: a, b, fl, hn, h => by
    obtain ⟨f, hf, hl⟩ := h i (by simp)
    have hn' := List.nodup_cons.1 (show (i :: (a ++ b)).Nodup from hn)
    have hia : i ∉ a := fun hm => hn'.1 (by simp [hm])
    refine Turns.step hf (by simpa using hl) ?_
    have ih := Turns.round a (b ++ [i]) (fl.set i (f.add f.qt)) ?_ (fun j hj => ?_)
    · rw [bump_cons hf hia] at ih
      simpa using ih
    · rw [← List.append_assoc]
      refine List.nodup_append.2 ⟨hn'.2, by simp, fun x hx y hy e => ?_⟩
      simp at hy; subst hy; subst e; exact hn'.1 hx
    · obtain ⟨g, hg, hgl⟩ := h j (by simp [hj])
      refine ⟨g, ?_, hgl⟩
      rw [List.getElem?_set_ne (fun e => hia (by rw [e]; exact hj))]
      exact hg
theorem Turns.rounds (ri : List Nat) (hn : ri.Nodup) (fl : List Fl) : ∀ c : Nat, (∀ i, i ∈ ri → ∃ f, fl[i]? = some f ∧ f.df + (c : Int) * f.qt < f.sz ∧ 0 ≤ f.qt) → Turns fl ri false (bump fl ri c) ri false
  | 0, _ => by
    have := bump_zero fl ri
    simp only [Int.natCast_zero]
    rw [this]
    exact Turns.refl _ _ _
  | c + 1, h => by
    have e : ((c + 1 : Nat) : Int) = (c : Int) + 1 := by omega
    have h1 := Turns.rounds ri hn fl c (fun i hi => by
      obtain ⟨f, hf, hl, hq⟩ := h i hi
      refine ⟨f, hf, ?_, hq⟩
      rw [e, Int.add_mul] at hl
      omega)
    have h2 := Turns.round ri [] (bump fl ri c) (by simpa using hn) (fun i hi => by
      obtain ⟨f, hf, hl, hq⟩ := h i hi
      refine ⟨f.add (c * f.qt), by rw [bump_at, hf]; simp [hi], ?_⟩
      rw [e, Int.add_mul] at hl
      simp only [Fl.add, Fl.sz] at *
      omega)
    rw [bump_bump] at h2
    simp only [List.append_nil, List.nil_append] at h2
    rw [e]
    exact h1.trans h2
end Go.Proofs.Yteojodcdehkejaa
