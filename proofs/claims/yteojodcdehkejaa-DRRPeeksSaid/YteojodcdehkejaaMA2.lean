/- A region that draws its order: a head that only reads (its callees may draw), a tail in one forced order: one walk serves every order. -/
import Derived.Test.YteojodcdehkejaaMA1
import Derived.Deep.QuietTactic
import Derived.BigQuiet
import Derived.StillTail
set_option linter.unusedVariables false
namespace Go.Proofs.Yteojodcdehkejaa
open Go Go.RowKit
section
variable {P : Program} {ops : Array Oper} {md : Region.Mode} {C : World → Prop}

def wpAnyQL (P : Program) (md : Region.Mode) (ops : Array Oper) (C : World → Prop) (n : Nat) (L : Array Bool → Act → Prop) : Nat → Array Bool → Act → Prop
  | 0, listed, a => L listed a
  | f + 1, listed, a =>
    Region.ready md ops listed ≠ [] ∧ ∀ i ∈ Region.ready md ops listed, i < n ∧ qOp P ops C i (wpAnyQL P md ops C n L f (listed.setIfInBounds i true)) a

theorem wpAny_of_qhead {n g : Nat} {L : Array Bool → Act → Prop} {Q' : Exit → Act → World → Prop} (hL : ∀ listed a w, C w → L listed a → wpAny P md ops Q' g listed a w) :
    ∀ (f : Nat) (listed : Array Bool) (a : Act) (w : World), C w → wpAnyQL P md ops C n L f listed a → wpAny P md ops Q' (f + g) listed a w
  | 0, listed, a, w, hw, h => by rw [Nat.zero_add]; exact hL _ _ _ hw h
  | f + 1, listed, a, w, hw, h => by
    rw [show f + 1 + g = (f + g) + 1 by omega]
    exact ⟨fun h0 => absurd h0 h.1, fun i hi => wpOp_of_qOp hw (fun a' w' hw' h' => wpAny_of_qhead hL f _ a' w' hw' h') (h.2 i hi).2⟩

theorem wpAnyQL_first {n i : Nat} {oi : Oper} {v : Value} {L : Array Bool → Act → Prop} (hi : ops[i]? = some oi) (hsel : ∀ (j : Nat) (o : Oper) cs b, ops[j]? = some o → o.op ≠ .select cs b)
    (hs : Region.sinkB md ops n = true) (hc : Region.chainB md ops n = true) (hn : n < ops.size) (hin : i < n)
    (hdone : ∀ listed a, L listed a → ∀ j ∈ Region.ready md ops listed, n ≤ j) :
    ∀ (f : Nat) (listed : Array Bool) (a : Act), HeadInv md ops n listed →
      (∀ j oj, ops[j]? = some oj → j ≠ i → listed.getD j true = false → (∀ e ∈ oj.after, Region.binds md e = true → e.on ≠ i) → oi.apart ops oj = true) →
      i ∈ Region.ready md ops listed → YieldsIn P ops C oi v a →
      wpAnyQL P md ops C n L f (listed.setIfInBounds i true) (a.put oi.dst v) → wpAnyQL P md ops C n L (f + 1) listed a := by
  intro f
  induction f with
  | zero =>
    intro listed a inv _ hr hy H
    have hun := (mem_ready.1 hr).1
    refine ⟨fun h => (by rw [h] at hr; cases hr), fun j hj => ?_⟩
    have hjn : j < n := by
      rcases Nat.lt_or_ge j n with h | h
      · exact h
      · exact absurd hj (tail_waits hs hc hn inv _ i rfl hin hun j h)
    refine ⟨hjn, ?_⟩
    by_cases hji : j = i
    · subst hji; exact hy.qOp hi H
    · have := hdone _ _ H j (ready_mono hj hji)
      omega
  | succ f ih =>
    intro listed a inv hfree hr hy H
    have hun := (mem_ready.1 hr).1
    refine ⟨fun h => (by rw [h] at hr; cases hr), fun j hj => ?_⟩
    have hjn : j < n := by
      rcases Nat.lt_or_ge j n with h | h
      · exact h
      · exact absurd hj (tail_waits hs hc hn inv _ i rfl hin hun j h)
    refine ⟨hjn, ?_⟩
    by_cases hji : j = i
    · subst hji; exact hy.qOp hi H
    · have h1 := (H.2 j (ready_mono hj hji)).2
      obtain ⟨hjun, oj, hoj, hall⟩ := mem_ready.1 hj
      have hnot : ∀ e ∈ oj.after, Region.binds md e = true → e.on ≠ i := fun e he hb heq => by
        have h1 := hall e he hb
        rw [heq, getD_both hun] at h1
        cases h1
      have h2 := qOp_put hoj (hfree j oj hoj hji hjun hnot) (fun cs b => hsel i oi cs b hi) (fun cs b => hsel j oj cs b hoj) hy h1
      have hfree' : ∀ k ok, ops[k]? = some ok → k ≠ i → (listed.setIfInBounds j true).getD k true = false →
          (∀ e ∈ ok.after, Region.binds md e = true → e.on ≠ i) → oi.apart ops ok = true := fun k ok hk hki hun hno => by
        refine hfree k ok hk hki ?_ hno
        by_cases hjk : j = k
        · subst hjk; exact hjun
        · rw [getD_set_ne true hjk] at hun; exact hun
      refine qOp_mono (fun a' h3 => ih (listed.setIfInBounds j true) a' (inv.set hj hjn) hfree' (ready_mono hr (Ne.symm hji)) h3.1 ?_) h2
      rw [Array.setIfInBounds_comm _ _ hji]
      exact h3.2

theorem wpAnyQL_lex {n g : Nat} {Lq : Act → Prop} (hsel : Region.noSelect ops = true) (hs : Region.sinkB md ops n = true) (hc : Region.chainB md ops n = true) (hn : n < ops.size) :
    ∀ (l : List Oper) (k : Nat) (listed : Array Bool) (a : Act), (∀ j, j < l.length → l[j]? = ops[k + j]?) → k + l.length = n → HeadInv md ops n listed →
    Region.lexHead md ops g l.length k listed = true → wpQuiet P ops C Lq l a →
    wpAnyQL P md ops C n (fun listed' a' => Region.seqB md ops g n listed' = true ∧ Lq a') l.length listed a
  | [], k, listed, a, _, hk, _, hB, h => by
    have : k = n := by simpa using hk
    subst this
    exact ⟨by simpa [Region.lexHead] using hB, h⟩
  | o :: l, k, listed, a, hl, hk, inv, hB, h => by
    have h0 : ops[k]? = some o := by simpa using (hl 0 (by simp)).symm
    simp only [List.length_cons, Region.lexHead, Bool.and_eq_true] at hB
    obtain ⟨⟨hr, hf⟩, hB'⟩ := hB
    have hkn : k < n := by simp only [List.length_cons] at hk; omega
    have hr' : k ∈ Region.ready md ops listed := by simpa using hr
    have hst : qOp P ops C k (wpQuiet P ops C Lq l) a := by unfold qOp; simp only [h0]; exact h
    obtain ⟨v, hy, hK⟩ := yieldsIn_of_qOp h0 hst
    exact wpAnyQL_first h0 (Region.noSelect_spec hsel) hs hc hn hkn (fun listed' a' hL => seqB_ready hL.1) l.length listed a inv (Region.free_spec h0 hf) hr' hy
      (wpAnyQL_lex hsel hs hc hn l (k + 1) _ _ (fun j hj => by have := hl (j + 1) (by simp; omega); simpa [Nat.add_assoc, Nat.add_comm 1 j] using this) (by simp only [List.length_cons] at hk; omega) (inv.set hr' hkn) hB' hK)

theorem wp_region_quiet_tail {id : Nat} {Q : Exit → Act → World → Prop} {a : Act} {w : World} {l : List Oper} (n : Nat) (hm : P.follows .mixedOrders = true) (hB : Region.lexTailB .any l.toArray n = true)
    (h : wpQuiet P l.toArray (fun w' => ∃ n, w' = w.drewN n) (fun a' => ∀ w', (∃ n, w' = w.drewN n) → wpList P l.toArray Q (l.drop n) a' w') (l.take n) a) : (Code.region id l.toArray true).wp P Q a w := by
  simp only [Region.lexTailB, Bool.and_eq_true, decide_eq_true_eq] at hB
  obtain ⟨⟨⟨⟨hsel, hn⟩, hs⟩, hc⟩, hlex⟩ := hB
  have hn' : n < l.length := by simpa using hn
  have htl : (l.take n).length = n := by simp; omega
  have hdl : (l.drop n).length = l.toArray.size - n := by simp
  have inv0 : HeadInv .any l.toArray n (Array.replicate l.toArray.size false) :=
    ⟨by simp, fun j oj _ hl => (by rw [getD_replicate_false] at hl; cases hl), fun t _ ht => getD_in (by simpa using ht) (getD_replicate_false _ _)⟩
  have H := wpAnyQL_lex (md := .any) (g := l.toArray.size - n) hsel hs hc hn (l.take n) 0 _ a (fun j hj => by
    have hj' : j < n := by rw [htl] at hj; exact hj
    simp [hj']) (by simpa using htl) inv0 (by rw [htl]; exact hlex) h
  refine wp_region_any hm ?_
  have := wpAny_of_qhead (Q' := Q) (g := l.toArray.size - n) (C := fun w' => ∃ n, w' = w.drewN n) (fun listed a' w' hw' hL => by
    have := wpAny_of_seq (md := .any) (Q' := Q) (l.drop n) n listed a' w' (fun j => by simp [List.getElem?_drop]) (by rw [hdl]; exact hL.1) (hL.2 w' hw')
    rwa [hdl] at this) _ _ _ { w with drawn := w.drawn + 1 } ⟨1, rfl⟩ H
  rw [htl, show n + (l.toArray.size - n) = l.toArray.size by omega] at this
  exact this

/-! ### floats: moves that may come up at any time -/
/-- A walk that cannot be left by a panic. -/
def calmQ (Q : Exit → Act → World → Prop) : Exit → Act → World → Prop
  | .normal, a, w => Q .normal a w
  | .outgrown, a, w => Q .outgrown a w
  | _, _, _ => False
theorem calmQ_normal (Q : Exit → Act → World → Prop) (a : Act) (w : World) : calmQ Q .normal a w = Q .normal a w := rfl
theorem calmQ_imp {Q : Exit → Act → World → Prop} : ∀ e a w, calmQ Q e a w → Q e a w := by
  intro e a w h
  cases e <;> first | exact h | exact h.elim
theorem wpAny_mono {Q Q' : Exit → Act → World → Prop} (hq : ∀ e a w, Q e a w → Q' e a w) (hP : ∀ o a K w, Oper.wp P o a w K Q → Oper.wp P o a w K Q') (hL : LetsOut Q → LetsOut Q') : ∀ (f : Nat) (listed : Array Bool) (a : Act) (w : World), wpAny P md ops Q f listed a w → wpAny P md ops Q' f listed a w
  | 0, _, _, _, h => ⟨h.1, hq _ _ _ h.2⟩
  | f + 1, _, _, _, h => ⟨fun h0 => hq _ _ _ (h.1 h0), fun i hi => by
      have := h.2 i hi
      have := wpOp_mono (fun a' w' h' => wpAny_mono hq hP hL f _ a' w' h') this
      unfold wpOp at *
      split
      · rename_i ho; simpa [ho] using this
      · rename_i o ho
        simp only [ho] at this
        split
        · rename_i hw; simp only [hw, if_true] at this; exact this.imp (hP _ _ _ _) (fun ⟨x, y⟩ => ⟨x, hL y⟩)
        · rename_i hw; simp only [hw] at this; exact this⟩
theorem wp_calm {o : Oper} {a : Act} {K : Act → World → Prop} {Q : Exit → Act → World → Prop} {w : World} (h : o.wp P a w K (calmQ Q)) : o.wp P a w K Q := by
  unfold Oper.wp at *
  generalize (execOp a.eval o).run P w = r at *
  cases r with
  | ok n w' =>
    cases n <;> simp only [Oper.upon] at h ⊢ <;> first | exact h | skip
    case enter f args =>
      exact h.mono fun e w'' he => by
        cases e with
        | returned v => exact he
        | panicked c => exact he.elim
        | outgrown => obtain ⟨a₀, w₀, h⟩ := he; exact ⟨a₀, w₀, h⟩
  | halt x w' => cases x <;> simp only [Oper.upon] at h ⊢ <;> first | exact h | exact h.elim

/-- Operation oi is a move of x: whatever the world, it yields the operand's value. -/
def MoveAt (oi : Oper) (v : Value) (a : Act) : Prop := ∃ x, oi.op = .move x ∧ oi.guard = none ∧ a.eval x = v

theorem wpOp_float {Q : Exit → Act → World → Prop} {j : Nat} {oi oj : Oper} {v : Value} (hj : ops[j]? = some oj) (hap : oi.apart ops oj = true)
    (hsi : ∀ cs b, oi.op ≠ .select cs b) (hsj : ∀ cs b, oj.op ≠ .select cs b) {K : Act → World → Prop} {a : Act} {w : World} (hy : MoveAt oi v a) (h : wpOp P ops (calmQ Q) j K (a.put oi.dst v) w) :
    wpOp P ops (calmQ Q) j (fun a' w' => MoveAt oi v a' ∧ K (a'.put oi.dst v) w') a w := by
  obtain ⟨h1, h2, h3⟩ := Oper.apart_spec hap
  obtain ⟨x, hx, hgd, hv⟩ := hy
  have keep : ∀ u, MoveAt oi v (a.put oj.dst u) := fun u => ⟨x, hx, hgd, by
    have e := execOp_put oi hsi a oj.dst u h3
    unfold execOp at e
    simp only [hx] at e
    have e2 := congrArg (fun s => Sem.run P s w) e
    simp [Sem.run_pure] at e2
    rw [e2, hv]⟩
  unfold wpOp at *
  simp only [hj] at *
  rw [wanted_put oj a oi.dst v h1] at h
  split
  · rename_i hw
    simp only [hw, if_true] at h
    rcases h with h | ⟨h, hl⟩
    · left
      unfold Oper.wp at *
      rw [execOp_put oj hsj a oi.dst v h1] at h
      generalize (execOp a.eval oj).run P w = r at *
      cases r with
      | ok n w' =>
        cases n <;> simp only [Oper.upon] at h ⊢
        case value u => exact ⟨keep u, by rw [← Act.put_comm a v u h2]; exact h⟩
        case skip => exact ⟨keep _, by rw [← Act.put_comm a v undef h2]; exact h⟩
        case defer d =>
          have e : ({ a.put oi.dst v with defers := d :: (a.put oi.dst v).defers } : Act).put oj.dst undef = ({ a with defers := d :: a.defers }.put oj.dst undef).put oi.dst v := by
            have := Act.put_comm { a with defers := d :: a.defers } v undef h2
            cases hoi : oi.dst <;> cases hoj : oj.dst <;> simp_all [Act.put]
          rw [e] at h
          refine ⟨?_, h⟩
          obtain ⟨x', hx', hgd', hv'⟩ := keep undef
          refine ⟨x', hx', hgd', ?_⟩
          rw [← hv']
          cases hoj : oj.dst <;> cases x' <;> simp [Act.put, Act.eval]
        case enter f args =>
          refine Calls.mono h fun e w'' he => ?_
          cases e with
          | returned u => exact ⟨keep u, by rw [← Act.put_comm a v u h2]; exact he⟩
          | panicked c => exact he.elim
          | outgrown => exact he
        case row r args =>
          exact Rows.mono h fun u w'' he => ⟨keep u, by rw [← Act.put_comm a v u h2]; exact he⟩
      | halt x w' => cases x <;> simp only [Oper.upon] at h ⊢ <;> first | exact h | exact h.elim
    · right
      unfold Oper.asks at *
      rw [execOp_put oj hsj a oi.dst v h1] at h
      exact ⟨h, hl⟩
  · rename_i hw
    simp only [hw] at h
    exact ⟨keep _, by rw [← Act.put_comm a v undef h2]; exact h⟩

theorem run_move' {o : Oper} {ρ : Operand → Value} (x : Operand) (h : o.op = .move x) (w : World) : (execOp ρ o).run P w = .ok (.value (ρ x)) w := by
  unfold execOp
  simp [h, Sem.run_pure]

theorem wpOp_of_move {Q : Exit → Act → World → Prop} {i : Nat} {oi : Oper} {v : Value} {a : Act} {w : World} {K : Act → World → Prop} (hi : ops[i]? = some oi) (hy : MoveAt oi v a) (h : K (a.put oi.dst v) w) : wpOp P ops Q i K a w := by
  obtain ⟨x, hx, hgd, hv⟩ := hy
  unfold wpOp
  simp only [hi]
  rw [if_pos (by simp [Region.wanted, hgd])]
  left
  unfold Oper.wp
  rw [run_move' x hx, hv]
  exact h

theorem wpAny_float_first {Q : Exit → Act → World → Prop} {i : Nat} {oi : Oper} {v : Value} (hi : ops[i]? = some oi) (hsel : ∀ (j : Nat) (o : Oper) cs b, ops[j]? = some o → o.op ≠ .select cs b) :
    ∀ (f : Nat) (listed : Array Bool) (a : Act) (w : World),
      (∀ j oj, ops[j]? = some oj → j ≠ i → listed.getD j true = false → (∀ e ∈ oj.after, Region.binds md e = true → e.on ≠ i) → oi.apart ops oj = true) →
      i ∈ Region.ready md ops listed → MoveAt oi v a →
      wpAny P md ops (calmQ Q) f (listed.setIfInBounds i true) (a.put oi.dst v) w → wpAny P md ops (calmQ Q) (f + 1) listed a w := by
  intro f
  induction f with
  | zero =>
    intro listed a w _ hr hy H
    refine ⟨fun h => (by rw [h] at hr; cases hr), fun j hj => ?_⟩
    by_cases hji : j = i
    · subst hji; exact wpOp_of_move hi hy H
    · have := ready_mono hj hji
      rw [H.1] at this
      cases this
  | succ f ih =>
    intro listed a w hfree hr hy H
    have hun := (mem_ready.1 hr).1
    refine ⟨fun h => (by rw [h] at hr; cases hr), fun j hj => ?_⟩
    by_cases hji : j = i
    · subst hji; exact wpOp_of_move hi hy H
    · have h1 := H.2 j (ready_mono hj hji)
      obtain ⟨hjun, oj, hoj, hall⟩ := mem_ready.1 hj
      have hnot : ∀ e ∈ oj.after, Region.binds md e = true → e.on ≠ i := fun e he hb heq => by
        have h1 := hall e he hb
        rw [heq, getD_both hun] at h1
        cases h1
      have h2 := wpOp_float (Q := Q) hoj (hfree j oj hoj hji hjun hnot) (fun cs b => hsel i oi cs b hi) (fun cs b => hsel j oj cs b hoj) hy h1
      have hfree' : ∀ k ok, ops[k]? = some ok → k ≠ i → (listed.setIfInBounds j true).getD k true = false →
          (∀ e ∈ ok.after, Region.binds md e = true → e.on ≠ i) → oi.apart ops ok = true := fun k ok hk hki hun hno => by
        refine hfree k ok hk hki ?_ hno
        by_cases hjk : j = k
        · subst hjk; exact hjun
        · rw [getD_set_ne true hjk] at hun; exact hun
      refine wpOp_mono (fun a' w' h3 => ih (listed.setIfInBounds j true) a' w' hfree' (ready_mono hr (Ne.symm hji)) h3.1 ?_) h2
      rw [Array.setIfInBounds_comm _ _ hji]
      exact h3.2

/-- every one of the head but a float is waited for by one of the head that is no float, or by the tail's first -/
def sinkF (md : Region.Mode) (ops : Array Oper) (n : Nat) (fl : List Nat) : Bool :=
  (List.range n).all fun i => fl.contains i || (List.range (n + 1)).any fun j => decide (i < j) && !fl.contains j && Region.waitsFor md ops j i

theorem tail_waits_F {n : Nat} {fl : List Nat} {listed : Array Bool} (hs : sinkF md ops n fl = true) (hc : Region.chainB md ops n = true) (hn : n < ops.size) (inv : HeadInv md ops n listed) (hfl : ∀ i, i ∈ fl → listed.getD i true = true) :
    ∀ (d i : Nat), n - i = d → i < n → listed.getD i true = false → ∀ t, n ≤ t → t ∉ Region.ready md ops listed := by
  intro d
  induction d using Nat.strongRecOn with
  | _ d ih =>
    intro i hd hi hun t ht hr
    obtain ⟨_, ot, hot, hall⟩ := mem_ready.1 hr
    have htlt : t < ops.size := (Array.getElem?_eq_some_iff.1 hot).1
    by_cases htn : t = n
    · subst htn
      have h1 := List.all_eq_true.1 hs i (List.mem_range.2 hi)
      rw [Bool.or_eq_true] at h1
      rcases h1 with h1 | h1
      · have := hfl i (by simpa using h1)
        rw [hun] at this; cases this
      obtain ⟨j, hj, hj2⟩ := List.any_eq_true.1 h1
      simp only [Bool.and_eq_true, decide_eq_true_eq] at hj2
      obtain ⟨oj, hoj, e, he, hb, hon⟩ := Region.waitsFor_spec hj2.2
      have hjle : j ≤ t := by have := List.mem_range.1 hj; omega
      by_cases hjt : j = t
      · subst hjt
        have : oj = ot := Option.some.inj (hoj.symm.trans hot)
        subst this
        have h2 := hall e he hb
        rw [hon, getD_both hun] at h2
        cases h2
      · cases hl : listed.getD j false with
        | true =>
          have h2 := inv.closed j oj hoj hl e he hb
          rw [hon, getD_both hun] at h2
          cases h2
        | false =>
          have hjs : j < listed.size := by rw [inv.size]; omega
          exact ih (t - j) (by omega) j rfl (by omega) (getD_in hjs hl) t (Nat.le_refl _) hr
    · have h1 := List.all_eq_true.1 hc t (List.mem_range.2 htlt)
      simp only [Bool.or_eq_true, decide_eq_true_eq] at h1
      rcases h1 with h1 | h1
      · omega
      · obtain ⟨o', ho', e, he, hb, hon⟩ := Region.waitsFor_spec h1
        have : o' = ot := Option.some.inj (ho'.symm.trans hot)
        subst this
        have h2 := hall e he hb
        rw [hon, getD_both (inv.tail (t - 1) (by omega) (by omega))] at h2
        cases h2

theorem wpAnyQL_first_F {n i : Nat} {fl : List Nat} {oi : Oper} {v : Value} {L : Array Bool → Act → Prop} (hi : ops[i]? = some oi) (hsel : ∀ (j : Nat) (o : Oper) cs b, ops[j]? = some o → o.op ≠ .select cs b)
    (hs : sinkF md ops n fl = true) (hc : Region.chainB md ops n = true) (hn : n < ops.size) (hin : i < n)
    (hdone : ∀ listed a, L listed a → ∀ j ∈ Region.ready md ops listed, n ≤ j) :
    ∀ (f : Nat) (listed : Array Bool) (a : Act), HeadInv md ops n listed → (∀ i, i ∈ fl → listed.getD i true = true) →
      (∀ j oj, ops[j]? = some oj → j ≠ i → listed.getD j true = false → (∀ e ∈ oj.after, Region.binds md e = true → e.on ≠ i) → oi.apart ops oj = true) →
      i ∈ Region.ready md ops listed → YieldsIn P ops C oi v a →
      wpAnyQL P md ops C n L f (listed.setIfInBounds i true) (a.put oi.dst v) → wpAnyQL P md ops C n L (f + 1) listed a := by
  intro f
  induction f with
  | zero =>
    intro listed a inv hfl _ hr hy H
    have hun := (mem_ready.1 hr).1
    refine ⟨fun h => (by rw [h] at hr; cases hr), fun j hj => ?_⟩
    have hjn : j < n := by
      rcases Nat.lt_or_ge j n with h | h
      · exact h
      · exact absurd hj (tail_waits_F hs hc hn inv hfl _ i rfl hin hun j h)
    refine ⟨hjn, ?_⟩
    by_cases hji : j = i
    · subst hji; exact hy.qOp hi H
    · have := hdone _ _ H j (ready_mono hj hji)
      omega
  | succ f ih =>
    intro listed a inv hfl hfree hr hy H
    have hun := (mem_ready.1 hr).1
    refine ⟨fun h => (by rw [h] at hr; cases hr), fun j hj => ?_⟩
    have hjn : j < n := by
      rcases Nat.lt_or_ge j n with h | h
      · exact h
      · exact absurd hj (tail_waits_F hs hc hn inv hfl _ i rfl hin hun j h)
    refine ⟨hjn, ?_⟩
    by_cases hji : j = i
    · subst hji; exact hy.qOp hi H
    · have h1 := (H.2 j (ready_mono hj hji)).2
      obtain ⟨hjun, oj, hoj, hall⟩ := mem_ready.1 hj
      have hnot : ∀ e ∈ oj.after, Region.binds md e = true → e.on ≠ i := fun e he hb heq => by
        have h1 := hall e he hb
        rw [heq, getD_both hun] at h1
        cases h1
      have h2 := qOp_put hoj (hfree j oj hoj hji hjun hnot) (fun cs b => hsel i oi cs b hi) (fun cs b => hsel j oj cs b hoj) hy h1
      have hfree' : ∀ k ok, ops[k]? = some ok → k ≠ i → (listed.setIfInBounds j true).getD k true = false →
          (∀ e ∈ ok.after, Region.binds md e = true → e.on ≠ i) → oi.apart ops ok = true := fun k ok hk hki hun hno => by
        refine hfree k ok hk hki ?_ hno
        by_cases hjk : j = k
        · subst hjk; exact hjun
        · rw [getD_set_ne true hjk] at hun; exact hun
      refine qOp_mono (fun a' h3 => ih (listed.setIfInBounds j true) a' (inv.set hj hjn) (fun k hk => getD_set_true' (hfl k hk)) hfree' (ready_mono hr (Ne.symm hji)) h3.1 ?_) h2
      rw [Array.setIfInBounds_comm _ _ hji]
      exact h3.2
where
  getD_set_true' {listed : Array Bool} {j k : Nat} (h : listed.getD k true = true) : (listed.setIfInBounds j true).getD k true = true := by
    by_cases hjk : j = k
    · subst hjk
      rcases Nat.lt_or_ge j listed.size with h' | h'
      · simp [h']
      · simp [Array.getElem?_eq_none (xs := listed.setIfInBounds j true) (i := j) (by simpa using h')]
    · rw [getD_set_ne true hjk]; exact h

def isMove (ops : Array Oper) (i : Nat) : Bool :=
  match ops[i]? with
  | some o => (match o.op with | .move _ => true | _ => false) && o.guard.isNone
  | none => false
def floatB (md : Region.Mode) (ops : Array Oper) (n : Nat) : List Nat → Array Bool → Bool
  | [], _ => true
  | i :: r, listed => decide (i < n) && (Region.ready md ops listed).contains i && Region.free md ops listed i && isMove ops i && floatB md ops n r (listed.setIfInBounds i true)
def afterFl : List Nat → Array Bool → Array Bool
  | [], listed => listed
  | i :: r, listed => afterFl r (listed.setIfInBounds i true)
def lexHeadL (md : Region.Mode) (ops : Array Oper) (n g : Nat) : List Nat → Array Bool → Bool
  | [], listed => Region.seqB md ops g n listed
  | k :: r, listed => decide (k < n) && (Region.ready md ops listed).contains k && Region.free md ops listed k && lexHeadL md ops n g r (listed.setIfInBounds k true)
def mixB (md : Region.Mode) (ops : Array Oper) (n : Nat) (fl hd : List Nat) : Bool :=
  Region.noSelect ops && decide (n < ops.size) && decide (fl.length + hd.length = n) && sinkF md ops n fl && Region.chainB md ops n && floatB md ops n fl (Array.replicate ops.size false) && lexHeadL md ops n (ops.size - n) hd (afterFl fl (Array.replicate ops.size false))

theorem wpQuiet_append {Q : Act → Prop} : ∀ (l1 l2 : List Oper) (a : Act), wpQuiet P ops C Q (l1 ++ l2) a → wpQuiet P ops C (wpQuiet P ops C Q l2) l1 a
  | [], _, _, h => h
  | o :: l1, l2, a, h => by
    simp only [List.cons_append, wpQuiet] at h ⊢
    split
    · rename_i hw
      simp only [hw, if_true] at h
      exact Oper.quiet_mono (fun a' h' => wpQuiet_append l1 l2 a' h') h
    · rename_i hw
      simp only [hw] at h
      exact wpQuiet_append l1 l2 _ h

theorem wpAny_floats {Q : Exit → Act → World → Prop} {Qq : Act → Prop} (hsel : Region.noSelect ops = true) {n : Nat} (w0 : World) (hw0 : C w0) (f : Nat) (w : World) : ∀ (fl : List Nat) (listed : Array Bool) (a : Act), floatB md ops n fl listed = true →
    wpQuiet P ops C Qq (fl.map fun i => ops.getD i default) a → (∀ a', Qq a' → wpAny P md ops (calmQ Q) f (afterFl fl listed) a' w) → wpAny P md ops (calmQ Q) (fl.length + f) listed a w
  | [], listed, a, _, h, hk => by simpa [afterFl] using hk a h
  | i :: fl, listed, a, hB, h, hk => by
    simp only [floatB, Bool.and_eq_true, decide_eq_true_eq] at hB
    obtain ⟨⟨⟨⟨hin, hr⟩, hf⟩, hmv⟩, hB'⟩ := hB
    have hr' : i ∈ Region.ready md ops listed := by simpa using hr
    obtain ⟨_, oi, hoi, _⟩ := mem_ready.1 hr'
    have hg : ops.getD i default = oi := by rw [Array.getD_eq_getD_getElem?, hoi]; rfl
    unfold isMove at hmv
    rw [hoi] at hmv
    simp only [Bool.and_eq_true, Option.isNone_iff_eq_none] at hmv
    obtain ⟨hmv, hgd⟩ := hmv
    obtain ⟨x, hx⟩ : ∃ x, oi.op = .move x := by
      revert hmv
      cases oi.op <;> simp
    simp only [List.map_cons, hg, wpQuiet] at h
    rw [if_pos (by simp [Region.wanted, hgd])] at h
    obtain ⟨v, hv, hrest⟩ := h
    have hvv := hv w0 hw0
    unfold Oper.quietAt at hvv
    rw [run_move' x hx] at hvv
    have hmove : MoveAt oi v a := ⟨x, hx, hgd, hvv.2⟩
    have := wpAny_float_first (Q := Q) hoi (Region.noSelect_spec hsel) (fl.length + f) listed a w (Region.free_spec hoi hf) hr' hmove
      (wpAny_floats hsel w0 hw0 f w fl _ _ hB' hrest (fun a' ha' => hk a' ha'))
    rw [List.length_cons, show fl.length + 1 + f = (fl.length + f) + 1 by omega]
    exact this

theorem wpAnyQL_lexL {n g : Nat} {fl : List Nat} {Lq : Act → Prop} (hsel : Region.noSelect ops = true) (hs : sinkF md ops n fl = true) (hc : Region.chainB md ops n = true) (hn : n < ops.size) :
    ∀ (hd : List Nat) (listed : Array Bool) (a : Act), HeadInv md ops n listed → (∀ i, i ∈ fl → listed.getD i true = true) →
    lexHeadL md ops n g hd listed = true → wpQuiet P ops C Lq (hd.map fun i => ops.getD i default) a →
    wpAnyQL P md ops C n (fun listed' a' => Region.seqB md ops g n listed' = true ∧ Lq a') hd.length listed a
  | [], listed, a, _, _, hB, h => ⟨by simpa [lexHeadL] using hB, h⟩
  | k :: hd, listed, a, inv, hfl, hB, h => by
    simp only [lexHeadL, Bool.and_eq_true, decide_eq_true_eq] at hB
    obtain ⟨⟨⟨hkn, hr⟩, hf⟩, hB'⟩ := hB
    have hr' : k ∈ Region.ready md ops listed := by simpa using hr
    obtain ⟨_, ok, hok, _⟩ := mem_ready.1 hr'
    have hg : ops.getD k default = ok := by rw [Array.getD_eq_getD_getElem?, hok]; rfl
    have hst : qOp P ops C k (wpQuiet P ops C Lq (hd.map fun i => ops.getD i default)) a := by
      unfold qOp; simp only [hok]; simp only [List.map_cons, hg] at h; exact h
    obtain ⟨v, hy, hK⟩ := yieldsIn_of_qOp hok hst
    exact wpAnyQL_first_F hok (Region.noSelect_spec hsel) hs hc hn hkn (fun listed' a' hL => seqB_ready hL.1) hd.length listed a inv hfl (Region.free_spec hok hf) hr' hy
      (wpAnyQL_lexL hsel hs hc hn hd _ _ (inv.set hr' hkn) (fun i hi => wpAnyQL_first_F.getD_set_true' (hfl i hi)) hB' hK)

theorem afterFl_inv {n : Nat} : ∀ (fl : List Nat) (listed : Array Bool), HeadInv md ops n listed → floatB md ops n fl listed = true →
    HeadInv md ops n (afterFl fl listed) ∧ (∀ i, listed.getD i true = true → (afterFl fl listed).getD i true = true) ∧ ∀ i, i ∈ fl → (afterFl fl listed).getD i true = true
  | [], listed, inv, _ => ⟨inv, fun _ h => h, fun _ h => by cases h⟩
  | i :: fl, listed, inv, hB => by
    simp only [floatB, Bool.and_eq_true, decide_eq_true_eq] at hB
    obtain ⟨⟨⟨⟨hin, hr⟩, _⟩, _⟩, hB'⟩ := hB
    obtain ⟨h1, h2, h3⟩ := afterFl_inv fl _ (inv.set (by simpa using hr) hin) hB'
    refine ⟨h1, fun j hj => h2 j (wpAnyQL_first_F.getD_set_true' hj), fun j hj => ?_⟩
    rcases List.mem_cons.1 hj with rfl | hj
    · refine h2 j ?_
      rcases Nat.lt_or_ge j listed.size with h' | h'
      · simp [h']
      · simp [Array.getElem?_eq_none (xs := listed.setIfInBounds j true) (i := j) (by simpa using h')]
    · exact h3 j hj

theorem getD_toArray_list {β : Type} (l : List β) (i : Nat) (d : β) : l.toArray.getD i d = l.getD i d := by simp [Array.getD_eq_getD_getElem?]

/-- floats, a quiet head, a forced tail -/
theorem wp_region_mix {id : Nat} {Q : Exit → Act → World → Prop} {a : Act} {w : World} {l : List Oper} (n : Nat) (fl hd : List Nat) (hm : P.follows .mixedOrders = true) (hB : mixB .any l.toArray n fl hd = true)
    (h : wpQuiet P l.toArray (fun w' => ∃ n, w' = w.drewN n) (fun a' => ∀ w', (∃ n, w' = w.drewN n) → wpList P l.toArray (calmQ Q) (l.drop n) a' w') ((fl ++ hd).map fun i => l.toArray.getD i default) a) : (Code.region id l.toArray true).wp P Q a w := by
  simp only [mixB, Bool.and_eq_true, decide_eq_true_eq] at hB
  obtain ⟨⟨⟨⟨⟨⟨hsel, hn⟩, hcount⟩, hs⟩, hc⟩, hfl⟩, hlex⟩ := hB
  have hdl : (l.drop n).length = l.toArray.size - n := by simp
  have inv0 : HeadInv .any l.toArray n (Array.replicate l.toArray.size false) :=
    ⟨by simp, fun j oj _ hl => (by rw [getD_replicate_false] at hl; cases hl), fun t _ ht => getD_in (by simpa using ht) (getD_replicate_false _ _)⟩
  obtain ⟨inv1, _, hfl1⟩ := afterFl_inv fl _ inv0 hfl
  rw [List.map_append] at h
  have h := wpQuiet_append _ _ _ h
  refine wp_region_any hm ?_
  refine wpAny_mono (Q := calmQ Q) calmQ_imp (fun _ _ _ _ => wp_calm) (fun ⟨a₀, w₀, h⟩ => ⟨a₀, w₀, h⟩) _ _ _ _ ?_
  have hsz : l.toArray.size = fl.length + (hd.length + (l.toArray.size - n)) := by omega
  have key := wpAny_floats (md := .any) (Q := Q) hsel w ⟨0, rfl⟩ (hd.length + (l.toArray.size - n)) { w with drawn := w.drawn + 1 } fl (Array.replicate l.toArray.size false) a hfl h (fun a' ha' => by
    have H := wpAnyQL_lexL (md := .any) (g := l.toArray.size - n) hsel hs hc hn hd _ a' inv1 hfl1 hlex ha'
    exact wpAny_of_qhead (Q' := calmQ Q) (g := l.toArray.size - n) (C := fun w' => ∃ n, w' = w.drewN n) (fun listed a' w' hw' hL => by
      have := wpAny_of_seq (md := .any) (Q' := calmQ Q) (l.drop n) n listed a' w' (fun j => by simp [List.getElem?_drop]) (by rw [hdl]; exact hL.1) (hL.2 w' hw')
      rwa [hdl] at this) _ _ _ { w with drawn := w.drawn + 1 } ⟨1, rfl⟩ H)
  rw [← hsz] at key
  exact key
end
end Go.Proofs.Yteojodcdehkejaa
/- Rings, in plain lists: cells that lie round. -/
namespace Go.Proofs.Yteojodcdehkejaa
open Go Go.RowKit

/-- a pointer to the head of a block, or none -/
abbrev ptrV (o : Option Nat) : Value := .pointer (o.map fun b => ⟨b, 0, none⟩)

theorem mod2 {a L : Nat} (h : a < L + L) : a % L = if a < L then a else a - L := by
  split
  · exact Nat.mod_eq_of_lt (by assumption)
  · rw [Nat.mod_eq_sub_mod (by omega)]; exact Nat.mod_eq_of_lt (by omega)

/-- ys stands at place m of cs' (places are sz cells wide), all else as in cs. -/
def Splice (cs cs' : List Value) (sz m : Nat) (ys : List Value) : Prop :=
  cs'.length = cs.length ∧ (∀ j, j < sz → cs'[m * sz + j]? = ys[j]?) ∧ ∀ k, (k < m * sz ∨ m * sz + sz ≤ k) → cs'[k]? = cs[k]?

theorem Splice.one {cs : List Value} {m : Nat} (h : m < cs.length) (v : Value) : Splice cs (cs.set m v) 1 m [v] := by
  refine ⟨by simp, fun j hj => ?_, fun k hk => ?_⟩
  · have : j = 0 := by omega
    subst this
    simp [h]
  · rw [List.getElem?_set_ne (by omega)]

theorem Splice.row {cs ys : List Value} {sz m : Nat} (hy : ys.length = sz) (h : m * sz + sz ≤ cs.length) : Splice cs (cs.take (m * sz) ++ ys ++ cs.drop (m * sz + sz)) sz m ys := by
  subst hy
  refine ⟨by simp; omega, fun j hj => ?_, fun k hk => ?_⟩
  · rw [List.append_assoc, List.getElem?_append_right (by simp; omega), List.length_take, Nat.min_eq_left (by omega), Nat.add_sub_cancel_left, List.getElem?_append_left hj]
  · rcases hk with hk | hk
    · rw [List.append_assoc, List.getElem?_append_left (by simp; omega), List.getElem?_take_of_lt hk]
    · rw [List.getElem?_append_right (by simp; omega), List.getElem?_drop, List.length_append, List.length_take, Nat.min_eq_left (by omega)]
      congr 1; omega
theorem Splice.take {cs cs' : List Value} {sz m : Nat} {ys : List Value} (h : Splice cs cs' sz m ys) {q j : Nat} (hq : q ≠ m) (hj : j < sz) : cs'[q * sz + j]? = cs[q * sz + j]? := by
  refine h.2.2 _ ?_
  rcases Nat.lt_or_gt_of_ne hq with hlt | hgt
  · left
    calc q * sz + j < q * sz + sz := by omega
      _ = (q + 1) * sz := by rw [Nat.add_mul, Nat.one_mul]
      _ ≤ m * sz := Nat.mul_le_mul_right _ hlt
  · right
    calc m * sz + sz = (m + 1) * sz := by rw [Nat.add_mul, Nat.one_mul]
      _ ≤ q * sz := Nat.mul_le_mul_right _ hgt
      _ ≤ q * sz + j := by omega

/-- The things of xs lie round in cs, from head on. -/
structure Cyc {α : Type} (L head sz : Nat) (enc : α → List Value) (cs : List Value) (xs : List α) : Prop where
  len : cs.length = L * sz
  room : xs.length ≤ L
  headL : head < L
  at_ : ∀ i x, xs[i]? = some x → ∀ j, j < sz → cs[((head + i) % L) * sz + j]? = (enc x)[j]?

variable {α : Type} {L head sz : Nat} {enc : α → List Value} {cs cs' : List Value} {xs : List α}

theorem some_lt {i : Nat} {x : α} (h : xs[i]? = some x) : i < xs.length := (List.getElem?_eq_some_iff.1 h).1

theorem Cyc.set (h : Cyc L head sz enc cs xs) {i : Nat} (hi : i < xs.length) {y : α} (s : Splice cs cs' sz ((head + i) % L) (enc y)) : Cyc L head sz enc cs' (xs.set i y) := by
  refine ⟨by rw [s.1, h.len], by rw [List.length_set]; exact h.room, h.headL, fun k x hk j hj => ?_⟩
  have hr := h.room
  have hh := h.headL
  by_cases e : k = i
  · subst e
    rw [List.getElem?_set_self hi] at hk
    cases hk
    exact s.2.1 j hj
  · rw [List.getElem?_set_ne (Ne.symm e)] at hk
    have hkl := some_lt hk
    rw [s.take ?_ hj]
    · exact h.at_ k x hk j hj
    · rw [mod2 (by omega), mod2 (by omega)]
      split <;> split <;> omega

theorem Cyc.back (h : Cyc L head sz enc cs xs) (hr : xs.length < L) {y : α} (s : Splice cs cs' sz ((head + xs.length) % L) (enc y)) : Cyc L head sz enc cs' (xs ++ [y]) := by
  refine ⟨by rw [s.1, h.len], by simp; omega, h.headL, fun k x hk j hj => ?_⟩
  have hh := h.headL
  have hkl := some_lt hk
  simp at hkl
  by_cases e : k = xs.length
  · subst e
    rw [List.getElem?_append_right (Nat.le_refl _)] at hk
    simp at hk
    subst hk
    exact s.2.1 j hj
  · rw [List.getElem?_append_left (by omega)] at hk
    rw [s.take ?_ hj]
    · exact h.at_ k x hk j hj
    · rw [mod2 (by omega), mod2 (by omega)]
      split <;> split <;> omega

theorem Cyc.front (h : Cyc L head sz enc cs xs) (hr : xs.length < L) {y : α} {hd : Nat} (hhd : hd = (head + (L - 1)) % L) (s : Splice cs cs' sz hd (enc y)) : Cyc L hd sz enc cs' (y :: xs) := by
  have hh := h.headL
  have e1 : hd = if head + (L - 1) < L then head + (L - 1) else head + (L - 1) - L := by rw [hhd]; exact mod2 (by omega)
  have hdL : hd < L := by rw [e1]; split <;> omega
  refine ⟨by rw [s.1, h.len], by simp; omega, hdL, fun k x hk j hj => ?_⟩
  have hkl := some_lt hk
  simp at hkl
  cases k with
  | zero =>
    simp at hk
    subst hk
    rw [Nat.add_zero, Nat.mod_eq_of_lt hdL]
    exact s.2.1 j hj
  | succ k =>
    simp at hk
    have e : (hd + (k + 1)) % L = (head + k) % L := by
      rw [mod2 (by omega), mod2 (by omega), e1]
      split <;> split <;> split <;> omega
    rw [e, s.take ?_ hj]
    · exact h.at_ k x hk j hj
    · rw [mod2 (by omega), e1]
      split <;> split <;> omega

theorem Cyc.popF {x0 : α} (h : Cyc L head sz enc cs (x0 :: xs)) {ys : List Value} (s : Splice cs cs' sz head ys) : Cyc L ((head + 1) % L) sz enc cs' xs := by
  have hh := h.headL
  have hr := h.room
  simp at hr
  have e1 : (head + 1) % L = if head + 1 < L then head + 1 else head + 1 - L := mod2 (by omega)
  have hdL : (head + 1) % L < L := Nat.mod_lt _ (by omega)
  refine ⟨by rw [s.1, h.len], by omega, hdL, fun k x hk j hj => ?_⟩
  have hkl := some_lt hk
  have e : ((head + 1) % L + k) % L = (head + (k + 1)) % L := by
    rw [Nat.mod_add_mod]; congr 1; omega
  rw [e, s.take ?_ hj]
  · exact h.at_ (k + 1) x (by simpa using hk) j hj
  · rw [mod2 (by omega)]
    split <;> omega

theorem Cyc.popB {x0 : α} (h : Cyc L head sz enc cs (xs ++ [x0])) {ys : List Value} (s : Splice cs cs' sz ((head + xs.length) % L) ys) : Cyc L head sz enc cs' xs := by
  have hh := h.headL
  have hr := h.room
  simp at hr
  refine ⟨by rw [s.1, h.len], by omega, hh, fun k x hk j hj => ?_⟩
  have hkl := some_lt hk
  rw [s.take ?_ hj]
  · exact h.at_ k x (by rw [List.getElem?_append_left hkl]; exact hk) j hj
  · rw [mod2 (by omega), mod2 (by omega)]
    split <;> split <;> omega

/-- Straight, from the first cell on: what an owned row holds. -/
theorem Cyc.straight {L' : Nat} (hL : xs.length ≤ L') (h0 : 0 < L') (hlen : cs.length = L' * sz) (henc : ∀ x, (enc x).length = sz) (ht : cs.take (xs.length * sz) = xs.flatMap enc) : Cyc L' 0 sz enc cs xs := by
  refine ⟨hlen, hL, h0, fun i x hi j hj => ?_⟩
  have hil := some_lt hi
  rw [Nat.zero_add, Nat.mod_eq_of_lt (by omega)]
  have e : cs[i * sz + j]? = (cs.take (xs.length * sz))[i * sz + j]? := by
    rw [List.getElem?_take_of_lt]
    calc i * sz + j < i * sz + sz := by omega
      _ = (i + 1) * sz := by rw [Nat.add_mul, Nat.one_mul]
      _ ≤ xs.length * sz := Nat.mul_le_mul_right _ hil
  rw [e, ht]
  clear e ht hlen h0 hL
  induction xs generalizing i with
  | nil => simp at hi
  | cons y ys ih =>
    simp only [List.flatMap_cons]
    cases i with
    | zero =>
      simp at hi
      subst hi
      rw [Nat.zero_mul, Nat.zero_add, List.getElem?_append_left (by rw [henc]; exact hj)]
    | succ i =>
      simp at hi
      have := ih i hi (some_lt hi)
      rw [List.getElem?_append_right (by rw [henc, Nat.add_mul]; omega), henc]
      rw [show (i + 1) * sz + j - sz = i * sz + j from by rw [Nat.add_mul]; omega]
      exact this

theorem length_flatMap_enc (henc : ∀ x, (enc x).length = sz) (xs : List α) : (xs.flatMap enc).length = xs.length * sz := by
  induction xs with
  | nil => simp
  | cons x xs ih => simp [henc, ih, Nat.add_mul]; omega

theorem flatMap_at (henc : ∀ x, (enc x).length = sz) {i : Nat} {x : α} (hi : xs[i]? = some x) {j : Nat} (hj : j < sz) : (xs.flatMap enc)[i * sz + j]? = (enc x)[j]? := by
  have hl := length_flatMap_enc henc xs
  have := (Cyc.straight (L' := xs.length) (Nat.le_refl _) (by have := some_lt hi; omega) (cs := xs.flatMap enc) hl henc (by rw [← hl, List.take_length])).at_ i x hi j hj
  rwa [Nat.zero_add, Nat.mod_eq_of_lt (some_lt hi)] at this

theorem flatMap_splice (henc : ∀ x, (enc x).length = sz) {i : Nat} (hi : i < xs.length) {y : α} {cs' : List Value} (s : Splice (xs.flatMap enc) cs' sz i (enc y)) : cs' = (xs.set i y).flatMap enc := by
  have hl := length_flatMap_enc henc xs
  have hl' := length_flatMap_enc henc (xs.set i y)
  rw [List.length_set] at hl'
  by_cases hsz : sz = 0
  · subst hsz
    have e1 := s.1
    rw [hl] at e1
    simp only [Nat.mul_zero] at e1 hl'
    rw [List.eq_nil_of_length_eq_zero e1, List.eq_nil_of_length_eq_zero hl']
  refine List.ext_getElem? fun k => ?_
  by_cases hk : k < xs.length * sz
  · obtain ⟨q, j, hj, rfl⟩ : ∃ q j, j < sz ∧ k = q * sz + j := ⟨k / sz, k % sz, Nat.mod_lt _ (by omega), by rw [Nat.mul_comm]; exact (Nat.div_add_mod k sz).symm⟩
    have hq : q < xs.length := by
      rcases Nat.lt_or_ge q xs.length with h | h
      · exact h
      · have := Nat.mul_le_mul_right sz h
        omega
    by_cases e : q = i
    · subst e
      rw [s.2.1 j hj, flatMap_at henc (xs := xs.set q y) (x := y) (by simp [hq]) hj]
    · rw [s.take e hj, flatMap_at henc (x := xs[q]) (by simp [hq]) hj, flatMap_at henc (xs := xs.set i y) (x := xs[q]) (by rw [List.getElem?_set_ne (Ne.symm e)]; simp [hq]) hj]
  · rw [List.getElem?_eq_none (by rw [s.1, hl]; omega), List.getElem?_eq_none (by omega)]

/-- A ring in memory: the struct at the head of block r, its things in the block of ds (none: it never held one). -/
def RingAt (TR E sz : Nat) (enc : α → List Value) (w : World) (r : Nat) (ds : List Nat) (xs : List α) : Prop :=
  ∃ (L head : Nat) (sv : Value), Blk w r TR [sv, .int .i64 head, .int .i64 xs.length] ∧ L ≤ 1073741824 ∧
    ((L = 0 ∧ head = 0 ∧ xs = [] ∧ ds = [] ∧ sv = .slice none 0 0) ∨
     ∃ d cs, ds = [d] ∧ d ≠ r ∧ sv = .slice (some ⟨d, 0, none⟩) L L ∧ Blk w d E cs ∧ Cyc L head sz enc cs xs)

theorem RingAt.kept {TR E sz : Nat} {enc : α → List Value} {w w' : World} {r : Nat} {ds : List Nat} {xs : List α} (h : RingAt TR E sz enc w r ds xs) (hk : ∀ b, b ∈ r :: ds → w'.heap[b]? = w.heap[b]?) : RingAt TR E sz enc w' r ds xs := by
  obtain ⟨L, head, sv, hb, hL, h⟩ := h
  refine ⟨L, head, sv, (hk r (by simp)).trans hb, hL, ?_⟩
  rcases h with h | ⟨d, cs, rfl, hd, hsv, hbd, hc⟩
  · exact .inl h
  · exact .inr ⟨d, cs, rfl, hd, hsv, (hk d (by simp)).trans hbd, hc⟩
theorem RingAt.lt {TR E sz : Nat} {enc : α → List Value} {w : World} {r : Nat} {ds : List Nat} {xs : List α} (h : RingAt TR E sz enc w r ds xs) : ∀ b, b ∈ r :: ds → b < w.heap.size := by
  obtain ⟨L, head, sv, hb, hL, h⟩ := h
  intro b hm
  rcases List.mem_cons.1 hm with rfl | hm
  · exact hb.lt
  · rcases h with ⟨_, _, _, rfl, _⟩ | ⟨d, cs, rfl, hd, hsv, hbd, hc⟩
    · simp at hm
    · simp at hm; subst hm; exact hbd.lt
theorem RingAt.fr {TR E sz : Nat} {enc : α → List Value} {w w' : World} {r : Nat} {ds : List Nat} {xs : List α} (h : RingAt TR E sz enc w r ds xs) {S : List Nat} (f : Fr S w w') (hd : ∀ b, b ∈ r :: ds → b ∉ S) : RingAt TR E sz enc w' r ds xs :=
  h.kept fun b hb => f.block b (h.lt b hb) (hd b hb)
theorem RingAt.drewN {TR E sz : Nat} {enc : α → List Value} {w : World} {r : Nat} {ds : List Nat} {xs : List α} (h : RingAt TR E sz enc w r ds xs) (n : Nat) : RingAt TR E sz enc (w.drewN n) r ds xs := h
theorem RingAt.alloc {TR E sz : Nat} {enc : α → List Value} {w : World} {r : Nat} {ds : List Nat} {xs : List α} (h : RingAt TR E sz enc w r ds xs) (o : Obj) : RingAt TR E sz enc (w.alloc o) r ds xs := h.fr ((Fr.refl [] w).alloc o) (by simp)
theorem RingAt.nd {TR E sz : Nat} {enc : α → List Value} {w : World} {r : Nat} {ds : List Nat} {xs : List α} (h : RingAt TR E sz enc w r ds xs) : r ∉ ds := by
  obtain ⟨L, head, sv, hb, hL, h⟩ := h
  rcases h with ⟨_, _, _, rfl, _⟩ | ⟨d, cs, rfl, hd, hsv, hbd, hc⟩
  · simp
  · simpa using Ne.symm hd
theorem RingAt.sim {TR E sz : Nat} {enc : α → List Value} {w w' : World} {r : Nat} {ds : List Nat} {xs : List α} (h : RingAt TR E sz enc w r ds xs) (s : Sim w w') : RingAt TR E sz enc w' r ds xs := h.kept fun b _ => by rw [s.heap]
end Go.Proofs.Yteojodcdehkejaa
/- Things of several cells, all of them numbers. -/
namespace Go.Proofs.Yteojodcdehkejaa
open Go Go.RowKit

/-- three numbers -/
structure P3 where
  f0 : Int
  f1 : Int
  f2 : Int
/-- six numbers -/
structure P6 where
  f0 : Int
  f1 : Int
  f2 : Int
  f3 : Int
  f4 : Int
  f5 : Int
def encP3 (x : P3) : List Value := [.int .i64 x.f0, .int .i64 x.f1, .int .i64 x.f2]
def encP6 (x : P6) : List Value := [.int .i64 x.f0, .int .i64 x.f1, .int .i64 x.f2, .int .i64 x.f3, .int .i64 x.f4, .int .i64 x.f5]
theorem Splice.three {cs : List Value} {m : Nat} (h : m * 3 + 3 ≤ cs.length) (a b c : Value) : Splice cs (((cs.set (m * 3) a).set (m * 3 + 1) b).set (m * 3 + 2) c) 3 m [a, b, c] := by
  refine ⟨by simp, fun j hj => ?_, fun k hk => ?_⟩
  · match j, hj with
    | 0, _ => simp [List.getElem?_set]; omega
    | 1, _ => simp [List.getElem?_set]; omega
    | 2, _ => simp [List.getElem?_set]; omega
  · rw [List.getElem?_set_ne (by omega), List.getElem?_set_ne (by omega), List.getElem?_set_ne (by omega)]
theorem Splice.six {cs : List Value} {m : Nat} (h : m * 6 + 6 ≤ cs.length) (a b c d e f : Value) :
    Splice cs ((((((cs.set (m * 6) a).set (m * 6 + 1) b).set (m * 6 + 2) c).set (m * 6 + 3) d).set (m * 6 + 4) e).set (m * 6 + 5) f) 6 m [a, b, c, d, e, f] := by
  refine ⟨by simp, fun j hj => ?_, fun k hk => ?_⟩
  · match j, hj with
    | 0, _ => simp [List.getElem?_set]; omega
    | 1, _ => simp [List.getElem?_set]; omega
    | 2, _ => simp [List.getElem?_set]; omega
    | 3, _ => simp [List.getElem?_set]; omega
    | 4, _ => simp [List.getElem?_set]; omega
    | 5, _ => simp [List.getElem?_set]; omega
  · rw [List.getElem?_set_ne (by omega), List.getElem?_set_ne (by omega), List.getElem?_set_ne (by omega), List.getElem?_set_ne (by omega), List.getElem?_set_ne (by omega), List.getElem?_set_ne (by omega)]
/-- the place m's cells lie in a row of L places -/
theorem place_in {L sz m n : Nat} (hm : m < L) (hn : n = L * sz) : m * sz + sz ≤ n := by
  rw [hn]
  calc m * sz + sz = (m + 1) * sz := by rw [Nat.add_mul, Nat.one_mul]
    _ ≤ L * sz := Nat.mul_le_mul_right _ hm
end Go.Proofs.Yteojodcdehkejaa
