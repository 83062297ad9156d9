/- Slices of packets that are read and cut, wherever they begin; Same. -/
import Derived.Test.YteojodcdehkejaaMA9
import Derived.Laws.StructEq
import Derived.Test.YteojodcdehkejaaMA1
import Derived.Test.YteojodcdehkejaaMA5
set_option linter.unusedVariables false
namespace Go.Proofs.Yteojodcdehkejaa
open Go Go.RowKit
attribute [local go_sem] calmQ_normal wide_fn wide_depth Oper.semAt_some run_store_func

theorem flat6_len (xs : List P6) : (xs.flatMap encP6).length = xs.length * 6 := by
  induction xs with
  | nil => rfl
  | cons p l ih => rw [List.flatMap_cons, List.length_append, ih]; simp [encP6]; omega
theorem flat6_at {xs : List P6} {i : Nat} {p : P6} (h : xs[i]? = some p) {j : Nat} (hj : j < 6) : (xs.flatMap encP6)[i * 6 + j]? = (encP6 p)[j]? := by
  induction xs generalizing i with
  | nil => simp at h
  | cons q l ih =>
    rw [List.flatMap_cons]
    cases i with
    | zero =>
      simp at h; subst h
      rw [List.getElem?_append_left (by simp [encP6]; omega)]; simp
    | succ i =>
      simp only [List.getElem?_cons_succ] at h
      rw [List.getElem?_append_right (by simp [encP6]; omega), ← ih h]
      congr 1
      simp [encP6]; omega

/-- a slice of packets that reads as xs, in the blocks of S -/
def RowS (w : World) (v : Value) (xs : List P6) (S : List Nat) : Prop :=
  (∀ b, b ∈ S → b < w.heap.size) ∧ ∃ a cap, v = .slice a xs.length cap ∧ xs.length ≤ cap ∧ cap ≤ maxLen ∧
    (xs = [] ∨ ∃ g off t cur, a = some ⟨g, off, none⟩ ∧ g ∈ S ∧ w.heap[g]? = some (.cells cur t (0, 0)) ∧ ∀ j u, (xs.flatMap encP6)[j]? = some u → cur[off + j]? = some u)
theorem RowS.kept {w w' : World} {v : Value} {xs : List P6} {S : List Nat} (h : RowS w v xs S) (hk : ∀ b, b ∈ S → w'.heap[b]? = w.heap[b]?) : RowS w' v xs S := by
  obtain ⟨h1, a, cap, hv, hc, hm, h2⟩ := h
  refine ⟨fun b hb => ?_, a, cap, hv, hc, hm, h2.imp id ?_⟩
  · have hl := h1 b hb
    have e := hk b hb
    rw [Array.getElem?_eq_getElem hl] at e
    exact (Array.getElem?_eq_some_iff.1 e).1
  · rintro ⟨g, off, t, cur, ha, hg, hh, hcell⟩
    exact ⟨g, off, t, cur, ha, hg, (hk g hg).trans hh, hcell⟩
def Chunk.row (v : Value) (xs : List P6) (S : List Nat) : Chunk where
  bs := S
  ok w := RowS w v xs S
  kept h hk := RowS.kept h hk
  lt h := h.1
theorem RowS.nil (w : World) : RowS w (.slice none 0 0) [] [] := ⟨by simp, none, 0, rfl, by simp, by unfold maxLen; omega, .inl rfl⟩
theorem RowS.of_own {w : World} {t : TypeId} {v : Value} {n : Nat} {xs : List P6} {S : List Nat} (h : OwnS w t 6 v n (xs.flatMap encP6) S) : RowS w v xs S := by
  have hl := h.1
  rw [flat6_len] at hl
  have e : n = xs.length := by omega
  subst e
  refine ⟨h.lt, ?_⟩
  rcases h.2 with ⟨rfl, h0, rfl⟩ | ⟨g, cap, cur, rfl, rfl, hg, hn, hm, hc, ht⟩
  · have : xs = [] := List.eq_nil_of_length_eq_zero h0
    subst this
    exact ⟨none, 0, rfl, by simp, by unfold maxLen; omega, .inl rfl⟩
  · refine ⟨some ⟨g, 0, none⟩, cap, rfl, hn, hm, .inr ⟨g, 0, t, cur, rfl, by simp, hg, fun j u hu => ?_⟩⟩
    rw [← ht] at hu
    have hj : j < xs.length * 6 := by have := some_lt hu; simp at this; omega
    rw [List.getElem?_take_of_lt hj] at hu
    rw [Nat.zero_add]
    simpa using hu
theorem RowS.val {w : World} {v : Value} {xs : List P6} {S : List Nat} (h : RowS w v xs S) : ∃ a cap, v = .slice a xs.length cap ∧ xs.length ≤ cap ∧ cap ≤ maxLen := by
  obtain ⟨_, a, cap, hv, hc, hm, _⟩ := h
  exact ⟨a, cap, hv, hc, hm⟩
/-- the cells of the thing at place i -/
theorem RowS.at_ {w : World} {a : Option Addr} {n cap : Nat} {xs : List P6} {S : List Nat} (h : RowS w (.slice a n cap) xs S) {i : Nat} {p : P6} (hi : xs[i]? = some p) :
    ∃ g off, a = some ⟨g, off, none⟩ ∧ g ∈ S ∧ g < w.heap.size ∧ ∀ j, j < 6 → w.cell? ⟨g, off + (i * 6 + j), none⟩ = (encP6 p)[j]? := by
  obtain ⟨hS, a', cap', hv, _, _, h2⟩ := h
  cases hv
  rcases h2 with rfl | ⟨g, off, t, cur, ha, hg, hh, hcell⟩
  · simp at hi
  · refine ⟨g, off, ha, hg, hS g hg, fun j hj => ?_⟩
    have e := flat6_at hi hj
    have hlen : (encP6 p).length = 6 := rfl
    have hsome : (encP6 p)[j]? = some ((encP6 p)[j]'(by omega)) := List.getElem?_eq_getElem (by omega)
    rw [hsome] at e ⊢
    have := hcell _ _ e
    simp [World.cell?, hh, this]
theorem RowS.tail {w : World} {a : Option Addr} {n cap : Nat} {p : P6} {xs : List P6} {S : List Nat} (h : RowS w (.slice a n cap) (p :: xs) S) :
    ∃ g off, a = some ⟨g, off, none⟩ ∧ RowS w (.slice (if cap = 1 then a else some ⟨g, off + 6, none⟩) xs.length (cap - 1)) xs S := by
  obtain ⟨g, off, ha, hgS, _⟩ := h.at_ (i := 0) rfl
  refine ⟨g, off, ha, ?_⟩
  obtain ⟨hS, a', cap', hv, hc, hm, h2⟩ := h
  cases hv
  rw [List.length_cons] at hc
  refine ⟨hS, _, cap - 1, rfl, by omega, by omega, ?_⟩
  cases hx : xs with
  | nil => exact .inl rfl
  | cons q l =>
    right
    subst hx
    rw [List.length_cons] at hc
    rcases h2 with h2 | ⟨g', off', t, cur, ha', hg, hh, hcell⟩
    · cases h2
    · rw [ha] at ha'
      cases ha'
      refine ⟨g, off + 6, t, cur, by rw [if_neg (by omega)], hg, hh, fun j u hu => ?_⟩
      have := hcell (6 + j) u (by rw [List.flatMap_cons, List.getElem?_append_right (by simp [encP6])]; simpa [encP6] using hu)
      rw [← Nat.add_assoc] at this
      exact this
theorem RowS.init {w : World} {a : Option Addr} {n cap : Nat} {p : P6} {xs : List P6} {S : List Nat} (h : RowS w (.slice a n cap) (xs ++ [p]) S) : RowS w (.slice a xs.length cap) xs S := by
  obtain ⟨hS, a', cap', hv, hc, hm, h2⟩ := h
  cases hv
  rw [List.length_append, List.length_singleton] at hc
  refine ⟨hS, a, cap, rfl, by omega, hm, ?_⟩
  rcases h2 with h2 | ⟨g, off, t, cur, ha, hg, hh, hcell⟩
  · simp at h2
  · refine .inr ⟨g, off, t, cur, ha, hg, hh, fun j u hu => hcell j u ?_⟩
    rw [List.flatMap_append, List.getElem?_append_left (some_lt hu)]
    exact hu

theorem p6_hS : Try.prog.underlying 34 = some (.struct (Try.prog.fieldsOf 34)) := by kernel_rfl
theorem p6_hp : Try.prog.stoodInHeld 34 = false := by kernel_rfl
theorem p6_hm : Try.prog.eqGuardType Try.prog.depth 34 = false := by kernel_rfl
theorem h2_hS : Try.prog.underlying 26 = some (.struct (Try.prog.fieldsOf 26)) := by kernel_rfl
theorem h2_hp : Try.prog.stoodInHeld 26 = false := by kernel_rfl
theorem h2_hm : Try.prog.eqGuardType Try.prog.depth 26 = false := by kernel_rfl
set_option maxRecDepth 100000 in
set_option maxHeartbeats 1000000 in
theorem neq_p6 (w : World) (p : P6) : ((binOp .neq 34 (aggp6 p) (aggp6 p)).run Try.prog w) = .ok (.bool false) w := by
  unfold aggp6
  rw [run_neq_struct, show (10000 : Nat) = 9999 + 1 from rfl, run_equalIn_agg w 9999 34 _ _ p6_hS p6_hp]
  simp only [Program.fieldsOf, Try.underlying34]
  go_simp
end Go.Proofs.Yteojodcdehkejaa
/- Same: two slices of the same packets. -/
namespace Go.Proofs.Yteojodcdehkejaa
open Go Go.RowKit
attribute [local go_sem] calmQ_normal wide_fn wide_depth Oper.semAt_some run_store_func

set_option maxRecDepth 100000 in
set_option maxHeartbeats 4000000 in
theorem same_p6 {w : World} {va vb : Value} {xs : List P6} {Sa Sb : List Nat} (ha : RowS w va xs Sa) (hb : RowS w vb xs Sb) :
    Calls Try.prog 45 #[va, vb] w fun e w' => e = .returned (.bool true) ∧ ∃ n, w' = w.drewN n := by
  obtain ⟨a, ca, rfl, hca, hma⟩ := ha.val
  obtain ⟨b, cb, rfl, hcb, hmb⟩ := hb.val
  have HA := Lib.hid ha
  have HB := Lib.hid hb
  unfold maxLen at hma
  have hnn : xs.length ≤ 9223372036854775807 := by omega
  clear ha hb hma hmb hca hcb
  go_enter Try.func45, Try.ntmps45
  go_wp2
  go_loopg [5] (xs.length + 1) (fun k i wr => ∃ j : Nat, k + j = xs.length + 1 ∧ j ≤ xs.length ∧ i = .int .i64 j ∧ ∃ q, wr = w.drewN q)
  case atStart => exact ⟨0, by omega, by omega, rfl, 0, rfl⟩
  case round =>
    obtain ⟨j, hk, hj, rfl, q, rfl⟩ := hrel
    by_cases hjn : j < xs.length
    · obtain ⟨p, hp⟩ : ∃ p, xs[j]? = some p := ⟨xs[j], by simp [hjn]⟩
      obtain ⟨ga, oa, rfl, _, la, fa⟩ := HA.out.at_ hp
      obtain ⟨gb, ob, rfl, _, lb, fb⟩ := HB.out.at_ hp
      have a0 : w.cell? ⟨ga, oa + j * 6, none⟩ = some (.int .i64 p.f0) := fa 0 (by omega)
      have a1 : w.cell? ⟨ga, oa + j * 6 + 1, none⟩ = some (.int .i64 p.f1) := by rw [Nat.add_assoc]; exact fa 1 (by omega)
      have a2 : w.cell? ⟨ga, oa + j * 6 + 2, none⟩ = some (.int .i64 p.f2) := by rw [Nat.add_assoc]; exact fa 2 (by omega)
      have a3 : w.cell? ⟨ga, oa + j * 6 + 3, none⟩ = some (.int .i64 p.f3) := by rw [Nat.add_assoc]; exact fa 3 (by omega)
      have a4 : w.cell? ⟨ga, oa + j * 6 + 4, none⟩ = some (.int .i64 p.f4) := by rw [Nat.add_assoc]; exact fa 4 (by omega)
      have a5 : w.cell? ⟨ga, oa + j * 6 + 5, none⟩ = some (.int .i64 p.f5) := by rw [Nat.add_assoc]; exact fa 5 (by omega)
      have b0 : w.cell? ⟨gb, ob + j * 6, none⟩ = some (.int .i64 p.f0) := fb 0 (by omega)
      have b1 : w.cell? ⟨gb, ob + j * 6 + 1, none⟩ = some (.int .i64 p.f1) := by rw [Nat.add_assoc]; exact fb 1 (by omega)
      have b2 : w.cell? ⟨gb, ob + j * 6 + 2, none⟩ = some (.int .i64 p.f2) := by rw [Nat.add_assoc]; exact fb 2 (by omega)
      have b3 : w.cell? ⟨gb, ob + j * 6 + 3, none⟩ = some (.int .i64 p.f3) := by rw [Nat.add_assoc]; exact fb 3 (by omega)
      have b4 : w.cell? ⟨gb, ob + j * 6 + 4, none⟩ = some (.int .i64 p.f4) := by rw [Nat.add_assoc]; exact fb 4 (by omega)
      have b5 : w.cell? ⟨gb, ob + j * 6 + 5, none⟩ = some (.int .i64 p.f5) := by rw [Nat.add_assoc]; exact fb 5 (by omega)
      clear fa fb hp
      go_wp2
      go_quiet (fail)
      go_wp2
      go_roundg (gk - 1)
      case measure => omega
      case rel => exact ⟨j + 1, by omega, by omega, by go_num, _, rfl⟩
    · obtain rfl : j = xs.length := by omega
      go_wp2
      go_ret
      exact ⟨rfl, _, rfl⟩
end Go.Proofs.Yteojodcdehkejaa
/- Small facts of numbers. -/
namespace Go.Proofs.Yteojodcdehkejaa
open Go Go.RowKit

theorem and_range (x : Int) (M : Nat) (hM : M < 9223372036854775808) : ∃ r : Nat, bits .and .i64 x (M : Int) = (r : Int) ∧ r ≤ M := by
  refine ⟨(BitVec.ofInt 64 x &&& BitVec.ofInt 64 (M : Int)).toNat, ?_, ?_⟩
  · have h : (BitVec.ofInt 64 x &&& BitVec.ofInt 64 (M : Int)).toNat ≤ M := by
      rw [BitVec.toNat_and]
      refine Nat.le_trans Nat.and_le_right ?_
      simp
      omega
    unfold bits
    show IntKind.wrap .i64 (((BitVec.ofInt 64 x &&& BitVec.ofInt 64 (M : Int)).toNat : Nat) : Int) = _
    generalize (BitVec.ofInt 64 x &&& BitVec.ofInt 64 (M : Int)).toNat = r at *
    have := IntKind.wrap_i64 (r : Int)
    rw [this]
    omega
  · rw [BitVec.toNat_and]
    refine Nat.le_trans Nat.and_le_right ?_
    simp
    omega
theorem and_up (x : Int) (M : Nat) (hM : M < 9223372036854775807) : ∃ r : Nat, wrap64 (bits .and .i64 x (M : Int) + 1) = (r : Int) ∧ 1 ≤ r ∧ r ≤ M + 1 := by
  obtain ⟨r, h1, h2⟩ := and_range x M (by omega)
  refine ⟨r + 1, ?_, by omega, by omega⟩
  rw [h1]
  unfold wrap64
  omega

/-- one cell of an owned row is written -/
theorem OwnS.set {w : World} {e sz g n cap : Nat} {xs : List Value} {S : List Nat} (h : OwnS w e sz (.slice (some ⟨g, 0, none⟩) n cap) n xs S) (k : Nat) (v : Value) :
    OwnS (w.setCell ⟨g, k, none⟩ v) e sz (.slice (some ⟨g, 0, none⟩) n cap) n (xs.set k v) S := by
  refine ⟨by rw [List.length_set]; exact h.1, ?_⟩
  rcases h.2 with ⟨h, _⟩ | ⟨g', cap', cur, hv, hS, hg, h1, h2, h3, h4⟩
  · cases h
  · cases hv
    have hb : Blk w g e cur.toList := by unfold Blk; simpa using hg
    have hb2 := hb.set k v
    unfold Blk at hb2
    exact .inr ⟨g, cap, _, rfl, hS, hb2, h1, h2, by simpa using h3, by rw [← h4, List.take_set]⟩
theorem OwnS.frz {w : World} {e sz g n cap : Nat} {xs : List Value} {S : List Nat} (h : OwnS w e sz (.slice (some ⟨g, 0, none⟩) n cap) n xs S) (k : Nat) : w.frozen? ⟨g, k, none⟩ = false := by
  rcases h.2 with ⟨h, _⟩ | ⟨g', cap', cur, hv, hS, hg, h1, h2, h3, h4⟩
  · cases h
  · cases hv
    have hb : Blk w g e cur.toList := by unfold Blk; simpa using hg
    exact hb.frz k
end Go.Proofs.Yteojodcdehkejaa
/- An operation that a store waits for through others: it may be taken first. -/
namespace Go.Proofs.Yteojodcdehkejaa
open Go Go.RowKit

/-- all operations that wait for i, through whatever others -/
def waitSet (md : Region.Mode) (ops : Array Oper) (i : Nat) : List Nat :=
  (List.range ops.size).foldl (fun M k => if Region.waitsFor md ops k i || M.any (fun m => Region.waitsFor md ops k m) then k :: M else M) []
def waitM (md : Region.Mode) (ops : Array Oper) (T : List Nat) (listed : Array Bool) (i : Nat) (M : List Nat) : Bool :=
  (M.all fun m => (Region.waitsFor md ops m i || M.any (fun m' => Region.waitsFor md ops m m')) && !listed.getD m true) && T.all (fun t => M.contains t)

section
variable {P : Program} {ops : Array Oper} {Q : Exit → Act → World → Prop} {md : Region.Mode} {T : List Nat} {C : World → Prop}
theorem wpAnyT_firstM {i : Nat} {oi : Oper} {v : Value} (hi : ops[i]? = some oi) (hsel : ∀ (j : Nat) (o : Oper) cs b, ops[j]? = some o → o.op ≠ .select cs b)
    (hQ : ∀ c a w, Q (.panic c) (a.put oi.dst v) w → Q (.panic c) a w) (hT : T.contains i = false) (M : List Nat)
    (hM : ∀ m, m ∈ M → Region.waitsFor md ops m i = true ∨ ∃ m', m' ∈ M ∧ Region.waitsFor md ops m m' = true) (hTM : ∀ t, T.contains t = true → t ∈ M) :
    ∀ (fuel : Nat) (listed : Array Bool) (a : Act) (w : World),
      (∀ j oj, ops[j]? = some oj → j ≠ i → listed.getD j true = false → (∀ e ∈ oj.after, Region.binds md e = true → e.on ≠ i) → oi.apart ops oj = true) →
      i ∈ Region.ready md ops listed → (∀ m, m ∈ M → listed.getD m true = false) → YieldsIf P ops C oi v a → C w →
      wpAnyT P md ops Q T C fuel (listed.setIfInBounds i true) (a.put oi.dst v) w → wpAnyT P md ops Q T C (fuel + 1) listed a w := by
  intro fuel
  induction fuel with
  | zero =>
    intro listed a w _ hr _ hy hS H
    refine ⟨fun h => (by rw [h] at hr; cases hr), fun j hj => ?_⟩
    by_cases hji : j = i
    · subst hji
      rw [hT]
      exact hy.wpOp hi hS ⟨hS, H⟩
    · have := ready_mono hj hji
      rw [H.1] at this
      cases this
  | succ fuel ih =>
    intro listed a w hfree hr hul hy hS H
    refine ⟨fun h => (by rw [h] at hr; cases hr), fun j hj => ?_⟩
    by_cases hji : j = i
    · subst hji
      rw [hT]
      exact hy.wpOp hi hS ⟨hS, H⟩
    · have h1 := H.2 j (ready_mono hj hji)
      obtain ⟨hjun, oj, hoj, hall⟩ := mem_ready.1 hj
      have hnot : ∀ e ∈ oj.after, Region.binds md e = true → e.on ≠ i := fun e he hb heq => by
        have h1 := hall e he hb
        rw [heq, getD_both (mem_ready.1 hr).1] at h1
        cases h1
      have hjM : j ∉ M := fun hm => by
        rcases hM j hm with hw | ⟨m', hm', hw⟩
        · obtain ⟨o', ho', e, he, hb, hon⟩ := Region.waitsFor_spec hw
          have : o' = oj := Option.some.inj (ho'.symm.trans hoj)
          subst this
          exact hnot e he hb hon
        · obtain ⟨o', ho', e, he, hb, hon⟩ := Region.waitsFor_spec hw
          have : o' = oj := Option.some.inj (ho'.symm.trans hoj)
          subst this
          have h1 := hall e he hb
          rw [hon, getD_both (hul m' hm')] at h1
          cases h1
      have hjT : T.contains j = false := by
        cases hc : T.contains j with
        | false => rfl
        | true => exact absurd (hTM j hc) hjM
      rw [hjT] at h1 ⊢
      have h2 := wpOp_putIf hoj (hfree j oj hoj hji hjun hnot) (fun cs b => hsel i oi cs b hi) (fun cs b => hsel j oj cs b hoj) hQ hy h1
      have hfree' : ∀ k ok, ops[k]? = some ok → k ≠ i → (listed.setIfInBounds j true).getD k true = false →
          (∀ e ∈ ok.after, Region.binds md e = true → e.on ≠ i) → oi.apart ops ok = true := fun k ok hk hki hun hno => by
        refine hfree k ok hk hki ?_ hno
        by_cases hjk : j = k
        · subst hjk; exact hjun
        · rw [getD_set_ne true hjk] at hun; exact hun
      refine wpOp_mono (fun a' w' h3 => ?_) h2
      obtain ⟨h3a, h3b, h3c⟩ := h3
      refine ⟨h3b, ih (listed.setIfInBounds j true) a' w' hfree' (ready_mono hr (Ne.symm hji)) (fun m hm => ?_) h3a h3b ?_⟩
      · rw [getD_set_ne true (fun e => hjM (by rw [e]; exact hm))]
        exact hul m hm
      · rw [Array.setIfInBounds_comm _ _ hji]
        exact h3c
end
section
variable {P : Program} {Q : Exit → Act → World → Prop} {md : Region.Mode} {T : List Nat} {C : World → Prop} {l : List Oper}
/-- take number i first: it yields v in every world that meets C, and T waits for it, be it through others -/
theorem wpAnyT_takeM' (i : Nat) {v : Value} {fuel : Nat} {listed : Array Bool} {a : Act} {w : World}
    (hB : (decide (i < l.length) && (Region.noSelect l.toArray && Region.free md l.toArray listed i && (Region.ready md l.toArray listed).contains i && !T.contains i && waitM md l.toArray T listed i (waitSet md l.toArray i))) = true)
    (hQ : ∀ c a w, Q (.panic c) (a.put (l.getD i default).dst v) w → Q (.panic c) a w) (hC : C w) (hw : Region.wanted (l.getD i default) (yielded l.toArray a.tmps) = true) (hy : ∀ w, C w → (execOp a.eval (l.getD i default)).run P w = .ok (.value v) w)
    (h : wpAnyT P md l.toArray Q T C fuel (listed.setIfInBounds i true) (a.put (l.getD i default).dst v) w) : wpAnyT P md l.toArray Q T C (fuel + 1) listed a w := by
  rw [Bool.and_eq_true, decide_eq_true_eq] at hB
  obtain ⟨h1, h2⟩ := hB
  simp only [Bool.and_eq_true, Bool.not_eq_true'] at h2
  obtain ⟨⟨⟨⟨a1, a2⟩, a3⟩, a4⟩, a5⟩ := h2
  generalize waitSet md l.toArray i = M at a5
  unfold waitM at a5
  rw [Bool.and_eq_true] at a5
  obtain ⟨a5, a6⟩ := a5
  have a7 := List.all_eq_true.1 a5
  refine wpAnyT_firstM (getD_at h1) (Region.noSelect_spec a1) hQ a4 M (fun m hm => ?_) (fun t ht => ?_) fuel listed a w (Region.free_spec (getD_at h1) a2) (by simpa using a3) (fun m hm => ?_) (.inl ⟨hw, hy⟩) hC h
  · have := a7 m hm
    simp only [Bool.and_eq_true, Bool.or_eq_true] at this
    refine this.1.imp id (fun h => ?_)
    obtain ⟨m', h1, h2⟩ := List.any_eq_true.1 h
    exact ⟨m', h1, h2⟩
  · have := List.all_eq_true.1 a6 t (by simpa using ht)
    simpa using this
  · have := a7 m hm
    simp only [Bool.and_eq_true, Bool.not_eq_true'] at this
    exact this.2
/-- two that may come up, in either order -/
theorem wpAnyT_two' (i j : Nat) {fuel : Nat} {listed : Array Bool} {a : Act} {w : World}
    (hB : (decide (i < l.length) && (decide (j < l.length) && (decide (Region.ready md l.toArray listed = [i, j]) && (!T.contains i && !T.contains j)))) = true)
    (hwi : Region.wanted (l.getD i default) (yielded l.toArray a.tmps) = true) (hwj : Region.wanted (l.getD j default) (yielded l.toArray a.tmps) = true)
    (hi : ∀ K : Act → World → Prop, Hid (∀ a w, C w → wpAnyT P md l.toArray Q T C fuel (listed.setIfInBounds i true) a w → K a w) → Oper.wp P (l.getD i default) a w K Q)
    (hj : ∀ K : Act → World → Prop, Hid (∀ a w, C w → wpAnyT P md l.toArray Q T C fuel (listed.setIfInBounds j true) a w → K a w) → Oper.wp P (l.getD j default) a w K Q) : wpAnyT P md l.toArray Q T C (fuel + 1) listed a w := by
  simp only [Bool.and_eq_true, decide_eq_true_eq, Bool.not_eq_true'] at hB
  obtain ⟨b1, b2, b3, b4, b5⟩ := hB
  refine ⟨fun h0 => (by rw [b3] at h0; cases h0), fun k hk => ?_⟩
  rw [b3] at hk
  have hk' : k = i ∨ k = j := by simpa using hk
  rcases hk' with rfl | rfl
  · rw [b4]
    refine wpOp_step (getD_at b1) fun K hK => ?_
    rw [if_pos hwi]
    exact hi K (Lib.hid fun a w h1 h2 => hK a w ⟨h1, h2⟩)
  · rw [b5]
    refine wpOp_step (getD_at b2) fun K hK => ?_
    rw [if_pos hwj]
    exact hj K (Lib.hid fun a w h1 h2 => hK a w ⟨h1, h2⟩)
end
end Go.Proofs.Yteojodcdehkejaa
/- The law's world in memory. -/
namespace Go.Proofs.Yteojodcdehkejaa
open Go Go.RowKit

abbrev CWd (x : Wd) : Chunk := Chunk.blk x.b 52 x.cells
def CRow (x : Wd) (f : Nat) : Chunk := Chunk.row (x.V f) (x.L f) (x.S f)
def Wd.wch (x : Wd) : List Chunk := [CWd x, CRow x 0, CRow x 1, CRow x 2, CRow x 3]
def Wd.chunks (x : Wd) : List Chunk := x.wch ++ x.dr.chunks

theorem RowS.fr0 {w w' : World} {v : Value} {xs : List P6} {S : List Nat} (h : RowS w v xs S) (f : Fr [] w w') : RowS w' v xs S := h.kept fun b hb => f.block b (h.1 b hb) (by simp)
section
variable {x : Wd} {f : Nat}
theorem four {P : Nat → Prop} (h0 : P 0) (h1 : P 1) (h2 : P 2) (h3 : P 3) {f : Nat} (hf : f < 4) : P f := by
  rcases (show f = 0 ∨ f = 1 ∨ f = 2 ∨ f = 3 by omega) with rfl | rfl | rfl | rfl <;> assumption
theorem Wd.cQ (x : Wd) {f : Nat} (hf : f < 4) : x.cells[1 + f]? = some (.int .i64 (x.Q f)) := four (P := fun f => x.cells[1 + f]? = some (.int .i64 (x.Q f))) rfl rfl rfl rfl hf
theorem Wd.cV (x : Wd) {f : Nat} (hf : f < 4) : x.cells[5 + f]? = some (x.V f) := four (P := fun f => x.cells[5 + f]? = some (x.V f)) rfl rfl rfl rfl hf
theorem Wd.cG (x : Wd) {f : Nat} (hf : f < 4) : x.cells[9 + f]? = some (.int .i64 (x.G f)) := four (P := fun f => x.cells[9 + f]? = some (.int .i64 (x.G f))) rfl rfl rfl rfl hf
theorem Wd.cS (x : Wd) {f : Nat} (hf : f < 4) : x.cells[13 + f]? = some (.int .i64 (x.sent f)) := four (P := fun f => x.cells[13 + f]? = some (.int .i64 (x.sent f))) rfl rfl rfl rfl hf
theorem Wd.sV (x : Wd) {f : Nat} (hf : f < 4) (v : Value) : x.cells.set (5 + f) v = ({ x with V := upd x.V f v } : Wd).cells := four (P := fun f => x.cells.set (5 + f) v = ({ x with V := upd x.V f v } : Wd).cells) rfl rfl rfl rfl hf
theorem Wd.sG (x : Wd) {f : Nat} (hf : f < 4) (v : Int) : x.cells.set (9 + f) (.int .i64 v) = ({ x with G := upd x.G f v } : Wd).cells := four (P := fun f => x.cells.set (9 + f) (.int .i64 v) = ({ x with G := upd x.G f v } : Wd).cells) rfl rfl rfl rfl hf
theorem Wd.sS (x : Wd) {f : Nat} (hf : f < 4) (v : Int) : x.cells.set (13 + f) (.int .i64 v) = ({ x with sent := upd x.sent f v } : Wd).cells := four (P := fun f => x.cells.set (13 + f) (.int .i64 v) = ({ x with sent := upd x.sent f v } : Wd).cells) rfl rfl rfl rfl hf
theorem Wd.row_at (x : Wd) {f : Nat} (hf : f < 4) : x.wch[1 + f]? = some (CRow x f) := four (P := fun f => x.wch[1 + f]? = some (CRow x f)) rfl rfl rfl rfl hf
/-- the books' slice of a flow, and its row, said anew -/
theorem Wd.setL (x : Wd) {f : Nat} (hf : f < 4) (v : Value) (l : List P6) (S : List Nat) : (x.wch.set 0 (Chunk.blk x.b 52 (x.cells.set (5 + f) v))).set (1 + f) (Chunk.row v l S) = ({ x with V := upd x.V f v, L := upd x.L f l, S := upd x.S f S } : Wd).wch :=
  four (P := fun f => (x.wch.set 0 (Chunk.blk x.b 52 (x.cells.set (5 + f) v))).set (1 + f) (Chunk.row v l S) = ({ x with V := upd x.V f v, L := upd x.L f l, S := upd x.S f S } : Wd).wch) rfl rfl rfl rfl hf
theorem pre_set1 {α : Type} (pre l : List α) (i : Nat) (c : α) : (pre ++ l).set (pre.length + i) c = pre ++ l.set i c := by
  rw [List.set_append_right _ _ (by omega)]; simp
variable {w0 w w' : World} {S0 : List Nat} {pre post : List Chunk}
/-- a store into the world's own block -/
theorem Wd.put1 (K : Sep w0 S0 w (pre ++ (x.wch ++ post))) (o : Nat) (v : Value) {y : Wd} (hb : y.b = x.b) (hc : x.cells.set o v = y.cells) (hr : ∀ f, CRow y f = CRow x f) : Sep w0 S0 (w.setCell ⟨x.b, o, none⟩ v) (pre ++ (y.wch ++ post)) := by
  have h := K.set (pre.length + 0) (pre_get (c := CWd x) rfl) o v
  rw [pre_set1] at h
  have e : (x.wch ++ post).set 0 (Chunk.blk x.b 52 (x.cells.set o v)) = y.wch ++ post := by
    show Chunk.blk x.b 52 (x.cells.set o v) :: ([CRow x 0, CRow x 1, CRow x 2, CRow x 3] ++ post) = CWd y :: ([CRow y 0, CRow y 1, CRow y 2, CRow y 3] ++ post)
    rw [hc, ← hb, hr 0, hr 1, hr 2, hr 3]
  rw [e] at h
  exact h
/-- the books' slice is cut, or laid anew where its row lies -/
theorem Wd.putL (K : Sep w0 S0 w (pre ++ (x.wch ++ post))) (hf : f < 4) (v : Value) (l : List P6) (hrow : RowS w v l (x.S f)) : Sep w0 S0 (w.setCell ⟨x.b, 5 + f, none⟩ v) (pre ++ (({ x with V := upd x.V f v, L := upd x.L f l } : Wd).wch ++ post)) := by
  have h := K.set (pre.length + 0) (pre_get (c := CWd x) rfl) (5 + f) v
  rw [pre_set1] at h
  have hne : x.b ∉ x.S f := fun hm => K.hs.apart (i := pre.length + 0) (j := pre.length + (1 + f)) (by omega) (pre_get (c := CWd x) rfl) (pre_get (by rw [List.getElem?_append_left (by simp [Wd.wch]; omega)]; exact x.row_at hf)) x.b (List.mem_singleton.2 rfl) hm
  have hrow' : RowS (w.setCell ⟨x.b, 5 + f, none⟩ v) v l (x.S f) := hrow.kept fun b hb => ((Fr.refl [x.b] w).setCell (p := ⟨x.b, 5 + f, none⟩) v (.inl (by simp))).block b (hrow.1 b hb) (fun hm => by simp at hm; subst hm; exact hne hb)
  have h2 := h.re (pre.length + (1 + f)) (c := CRow x f) (c' := Chunk.row v l (x.S f)) (pre_get (by
      rw [List.getElem?_set_ne (by omega), List.getElem?_append_left (by simp [Wd.wch]; omega)]; exact x.row_at hf)) rfl hrow'
  rw [pre_set1] at h2
  have e : ((x.wch ++ post).set 0 (Chunk.blk x.b 52 (x.cells.set (5 + f) v))).set (1 + f) (Chunk.row v l (x.S f)) = ({ x with V := upd x.V f v, L := upd x.L f l } : Wd).wch ++ post := by
    rw [List.set_append_left _ _ (by simp [Wd.wch]), List.set_append_left _ _ (by simp [Wd.wch]; omega), x.setL hf, upd_id]
  rw [e] at h2
  exact h2
theorem Sep.swap {c old : Chunk} {l : List Chunk} {i : Nat} (K : Sep w0 S0 w ((c :: pre) ++ (l ++ post))) (hi : l[i]? = some old) : Sep w0 S0 w (pre ++ (l.set i c ++ post)) := by
  have h1 := K.sub (cs' := (c :: pre) ++ (l.eraseIdx i ++ post)) (List.Sublist.append (List.Sublist.refl _) (List.Sublist.append (List.eraseIdx_sublist _ _) (List.Sublist.refl _)))
  refine h1.perm ?_
  have e1 : (c :: pre ++ (l.eraseIdx i ++ post)).Perm (pre ++ (c :: l.eraseIdx i ++ post)) := by
    rw [List.cons_append, List.cons_append]
    exact List.perm_middle.symm
  exact e1.trans (((perm_set hi c).append_right post).append_left pre)
/-- the books' slice is a new one -/
theorem Wd.putNew {e : TypeId} {n : Nat} {v : Value} {l : List P6} {S : List Nat} (K : Sep w0 S0 w ((Chunk.own e 6 v n (l.flatMap encP6) S :: pre) ++ (x.wch ++ post))) (hf : f < 4) : Sep w0 S0 (w.setCell ⟨x.b, 5 + f, none⟩ v) (pre ++ (({ x with V := upd x.V f v, L := upd x.L f l, S := upd x.S f S } : Wd).wch ++ post)) := by
  have h := K.set ((Chunk.own e 6 v n (l.flatMap encP6) S :: pre).length + 0) (pre_get (c := CWd x) rfl) (5 + f) v
  rw [pre_set1] at h
  have h2 := h.re 0 (c := Chunk.own e 6 v n (l.flatMap encP6) S) (c' := Chunk.row v l S) rfl rfl (RowS.of_own (show OwnS _ e 6 v n (l.flatMap encP6) S from h.get (i := 0) rfl))
  have h3 : Sep w0 S0 (w.setCell ⟨x.b, 5 + f, none⟩ v) ((Chunk.row v l S :: pre) ++ (x.wch.set 0 (Chunk.blk x.b 52 (x.cells.set (5 + f) v)) ++ post)) := h2
  have h4 := h3.swap (i := 1 + f) (old := CRow x f) (by rw [List.getElem?_set_ne (by omega)]; exact x.row_at hf)
  rw [x.setL hf] at h4
  exact h4
/-- a call on the discipline; the boxes ahead are looked at no more -/
theorem Sep.outbox2 {d d' : Dr} {wc : List Chunk} (K : Sep w0 S0 w (pre ++ (wc ++ d.chunks))) (k : Sep w (Chunks.bs d.chunks) w' d'.chunks) : Sep w0 S0 w' (wc ++ d'.chunks) := by
  rw [← List.append_assoc] at K
  have h := Dr.call (pre := pre ++ wc) K k
  rw [List.append_assoc] at h
  exact h.sub (List.sublist_append_right _ _)
theorem Wd.wds (K : Sep w0 S0 w (pre ++ (x.wch ++ post))) : Blk w x.b 52 x.cells := K.hs.right.get (i := 0) rfl
theorem Wd.rowf (K : Sep w0 S0 w (pre ++ (x.wch ++ post))) (hf : f < 4) : RowS w (x.V f) (x.L f) (x.S f) := K.hs.right.left.get (x.row_at hf)
end
end Go.Proofs.Yteojodcdehkejaa
/- A move of the law's world: the last packet of a flow is evicted. -/
namespace Go.Proofs.Yteojodcdehkejaa
open Go Go.RowKit
attribute [local go_sem] calmQ_normal wide_fn wide_depth Oper.semAt_some run_store_func

/-- what the laws look at -/
structure Dat where
  ring : List Nat
  turn : Bool
  seq : Int
  Q : Nat → Int
  G : Nat → Int
  df : Nat → Int
  sent : Nat → Int
  L : Nat → List P6
  told : Int
  most : Int
def Wd.dat (x : Wd) : Dat := { ring := x.ring, turn := x.turn, seq := x.seq, Q := x.Q, G := x.G, df := x.df, sent := x.sent, L := x.L, told := x.told, most := x.most }
/-- an eviction -/
def EvR (x x' : Wd) (f : Nat) : Prop := (x.L f = [] ∧ x'.dat = x.dat) ∨ ∃ qs v, x.L f = qs ++ [v] ∧ x'.dat = (if qs = [] then x.outS f else x.less f qs).dat
/-- what a move leaves -/
def Moved (R : Wd → Prop) (x : Wd) (N : Nat) (w : World) (e : Ending) (w' : World) : Prop := e = .returned (.bool true) ∧ ∃ x', R x' ∧ Wf x' (N + 1) ∧ x'.b = x.b ∧ Sep w (Chunks.bs x.chunks) w' x'.chunks
theorem last_of {l : List P6} (h : l ≠ []) : ∃ qs v, l = qs ++ [v] := ⟨l.dropLast, l.getLast h, (List.dropLast_concat_getLast h).symm⟩

set_option maxRecDepth 100000 in
set_option maxHeartbeats 4000000 in
theorem mv2 {w : World} {x : Wd} {N : Nat} (h : Wf x N) (hN : N + 1 ≤ 1000000) (K : Holds w x.chunks) (fl sz : Int) {f : Nat} (hf : f < 4) (he : bits .and .i64 fl 3 = (f : Int)) :
    Calls Try.prog 17 #[.pointer (some ⟨x.b, 0, none⟩), .agg #[.int .i64 2, .int .i64 fl, .int .i64 sz]] w (Moved (fun x' => EvR x x' f) x N w) := by
  have K0 := Lib.hid (((Sep.start K).alloc 45 [.int .i64 2, .int .i64 fl, .int .i64 sz]).perm List.perm_append_comm)
  have hB : Blk w x.b 52 x.cells := K.get (i := 0) rfl
  have c5 : w.cell? ⟨x.b, 5 + f, none⟩ = some (x.V f) := by rw [hB.cell]; exact x.cV hf
  have c0 : w.cell? ⟨x.b, 0, none⟩ = some (.pointer (some ⟨x.db, 0, none⟩)) := hB.cell 0
  have lb := hB.lt
  have fz := hB.frz (5 + f)
  have hrow : RowS w (x.V f) (x.L f) (x.S f) := K.left.get (x.row_at hf)
  obtain ⟨a, cap, hv, hcc, hcm⟩ := hrow.val
  have hlen := h.len f hf
  rw [hv] at c5 hrow
  have HV := Lib.hid hv
  have HR := Lib.hid hrow
  have HH := Lib.hid h
  clear K hB hv h
  by_cases hl : x.L f = []
  · have hz : (x.L f).length = 0 := by rw [hl]; rfl
    have HL := Lib.hid hl
    have hrow' := hrow
    rw [hz] at c5
    clear hl hz hrow hrow'
    go_enter Try.func17, Try.ntmps17
    go_wp2_with fail
    go_ret
    exact ⟨rfl, x, .inl ⟨HL.out, rfl⟩, HH.out.more (Nat.le_succ N) hN, rfl, K0.out.sub (List.sublist_append_right _ _)⟩
  · obtain ⟨qs, v, hq⟩ := last_of hl
    rw [hq, List.length_append, List.length_singleton] at c5 hcc
    rw [hq] at hrow hlen
    rw [List.length_append, List.length_singleton] at hlen hrow
    obtain ⟨g, off, rfl, hgS, hlt, hc⟩ := hrow.at_ (i := qs.length) (p := v) (by simp)
    have k0 : w.cell? ⟨g, off + qs.length * 6, none⟩ = some (.int .i64 v.f0) := hc 0 (by omega)
    have k1 : w.cell? ⟨g, off + qs.length * 6 + 1, none⟩ = some (.int .i64 v.f1) := by rw [Nat.add_assoc]; exact hc 1 (by omega)
    have k2 : w.cell? ⟨g, off + qs.length * 6 + 2, none⟩ = some (.int .i64 v.f2) := by rw [Nat.add_assoc]; exact hc 2 (by omega)
    have k3 : w.cell? ⟨g, off + qs.length * 6 + 3, none⟩ = some (.int .i64 v.f3) := by rw [Nat.add_assoc]; exact hc 3 (by omega)
    have k4 : w.cell? ⟨g, off + qs.length * 6 + 4, none⟩ = some (.int .i64 v.f4) := by rw [Nat.add_assoc]; exact hc 4 (by omega)
    have k5 : w.cell? ⟨g, off + qs.length * 6 + 5, none⟩ = some (.int .i64 v.f5) := by rw [Nat.add_assoc]; exact hc 5 (by omega)
    have HRI := Lib.hid hrow.init
    have HQ := Lib.hid hq
    unfold maxLen at hcm
    have hne : (((qs.length : Int) + 1) == 0) = false := by rw [beq_eq_false_iff_ne]; omega
    clear hq hl hc hrow
    go_enter Try.func17, Try.ntmps17
    go_wp2_with fail
    refine wp_region_quiet_tail 14 (by kernel_rfl) (by kernel_rfl) ?_
    simp only [List.take_succ_cons, List.take_zero, List.drop_succ_cons, List.drop_zero]
    repeat (first | go_big_quiet_step (fail) | quiet_step (fail))
    refine wpQuiet_nil ?_
    rintro _ ⟨nq, rfl⟩
    go_wp2
    have K1 := Lib.hid ((K0.out.alloc 34 (encP6 v)).perm List.perm_append_comm)
    rw [World.size_alloc] at K1
    have HRJ := Lib.hid (HRI.out.fr0 ((((Fr.refl [] w).alloc (.cells #[.int .i64 2, .int .i64 fl, .int .i64 sz] 45)).alloc (.cells (encP6 v).toArray 34)).drewN nq))
    obtain ⟨A, hA⟩ : ∃ A, w.heap.size = A := ⟨_, rfl⟩
    rw [hA] at K1 lb hlt ⊢
    have K2 : Sep w (Chunks.bs x.chunks) _ ([Chunk.blk (A + 1) 34 (encP6 v), Chunk.blk A 45 [.int .i64 2, .int .i64 fl, .int .i64 sz]] ++ (x.wch ++ x.dr.chunks)) := K1.out.drewN nq
    have ks := Wd.putL K2 hf (.slice (some ⟨g, off, none⟩) qs.length cap) qs HRJ.out
    obtain ⟨W3, hW3⟩ : ∃ W3, (((((w.alloc (.cells #[.int .i64 2, .int .i64 fl, .int .i64 sz] 45)).alloc (.cells (encP6 v).toArray 34)).drewN nq).setCell ⟨x.b, 5 + f, none⟩ (.slice (some ⟨g, off, none⟩) qs.length cap))) = W3 := ⟨_, rfl⟩
    have hW3' := hW3
    simp only [encP6] at hW3'
    rw [hW3] at ks
    rw [hW3']
    have K3 := Lib.hid ks
    clear K2 K1 ks hW3 hW3' K0 k0 k1 k2 k3 k4 k5 c0 c5 HRJ HRI lb hlt fz hA
    have b0 := Wd.wds K3.out
    have c0 : W3.cell? ⟨x.b, 0, none⟩ = some (.pointer (some ⟨x.db, 0, none⟩)) := b0.cell 0
    have lb := b0.lt
    have BP : Blk W3 (A + 1) 34 (encP6 v) := K3.out.blk 0 rfl
    have k0 : W3.cell? ⟨A + 1, 0, none⟩ = some (.int .i64 v.f0) := BP.cell 0
    have k1 : W3.cell? ⟨A + 1, 1, none⟩ = some (.int .i64 v.f1) := BP.cell 1
    have k2 : W3.cell? ⟨A + 1, 2, none⟩ = some (.int .i64 v.f2) := BP.cell 2
    have k3 : W3.cell? ⟨A + 1, 3, none⟩ = some (.int .i64 v.f3) := BP.cell 3
    have k4 : W3.cell? ⟨A + 1, 4, none⟩ = some (.int .i64 v.f4) := BP.cell 4
    have k5 : W3.cell? ⟨A + 1, 5, none⟩ = some (.int .i64 v.f5) := BP.cell 5
    have lp := BP.lt
    clear b0 BP
    refine wp_region_quiet_tail 5 (by kernel_rfl) (by kernel_rfl) ?_
    simp only [List.take_succ_cons, List.take_zero, List.drop_succ_cons, List.drop_zero]
    repeat (first | go_big_quiet_step (fail) | quiet_step (fail))
    refine wpQuiet_nil ?_
    rintro _ ⟨nq, rfl⟩
    go_wp2_with fail
    refine (x_evict HH.out (K3.out.drewN nq).hs.right.right hf HQ.out).mono ?_
    rintro e w4 ⟨rfl, rds, k4⟩
    have K4 := Lib.hid ((K3.out.drewN nq).outbox2 k4)
    clear k4 K3 k0 k1 k2 k3 k5 c0 lb lp
    go_wp2
    go_ret
    have H := HH.out
    by_cases hqs : qs = []
    · have K5 := K4.out
      rw [if_pos hqs] at K5
      refine ⟨rfl, { x.outS f with rds := rds, V := upd x.V f (.slice (some ⟨g, off, none⟩) qs.length cap) }, .inr ⟨qs, v, HQ.out, by rw [if_pos hqs]; rfl⟩, ((H.outS hf).more (Nat.le_succ N) hN).re rfl rfl rfl rfl rfl rfl rfl rfl rfl rfl rfl, rfl, ?_⟩
      subst hqs
      exact K5
    · have K5 := K4.out
      rw [if_neg hqs] at K5
      refine ⟨rfl, { x.less f qs with V := upd x.V f (.slice (some ⟨g, off, none⟩) qs.length cap) }, .inr ⟨qs, v, HQ.out, by rw [if_neg hqs]; rfl⟩, ((H.less HQ.out hqs).more (Nat.le_succ N) hN).re rfl rfl rfl rfl rfl rfl rfl rfl rfl rfl rfl, rfl, ?_⟩
      exact K5
end Go.Proofs.Yteojodcdehkejaa
/- A move of the law's world: a flow leaves and comes anew. -/
namespace Go.Proofs.Yteojodcdehkejaa
open Go Go.RowKit
attribute [local go_sem] calmQ_normal wide_fn wide_depth Oper.semAt_some run_store_func

theorem Sep.call_own {w0 w w' : World} {S0 : List Nat} {pre wc : List Chunk} {d d' : Dr} {c : Chunk} (K : Sep w0 S0 w (pre ++ (wc ++ d.chunks))) (k : Sep w (Chunks.bs d.chunks) w' (c :: d'.chunks)) : Sep w0 S0 w' ((c :: pre) ++ (wc ++ d'.chunks)) := by
  rw [← List.append_assoc] at K
  refine (Sep.frame (K.perm List.perm_append_comm) k).perm ?_
  rw [List.cons_append, List.cons_append]
  refine List.Perm.cons c ?_
  refine List.perm_append_comm.trans ?_
  rw [List.append_assoc]
theorem Sep.call_pre {w0 w w' : World} {S0 : List Nat} {pre wc : List Chunk} {d d' : Dr} (K : Sep w0 S0 w (pre ++ (wc ++ d.chunks))) (k : Sep w (Chunks.bs d.chunks) w' d'.chunks) : Sep w0 S0 w' (pre ++ (wc ++ d'.chunks)) := by
  rw [← List.append_assoc] at K ⊢
  exact Dr.call K k

set_option maxRecDepth 100000 in
set_option maxHeartbeats 4000000 in
theorem mv3 {w : World} {x : Wd} {N : Nat} (h : Wf x N) (hN : N + 1 ≤ 1000000) (K : Holds w x.chunks) (fl sz : Int) {f : Nat} (hf : f < 4) (he : bits .and .i64 fl 3 = (f : Int)) :
    Calls Try.prog 17 #[.pointer (some ⟨x.b, 0, none⟩), .agg #[.int .i64 3, .int .i64 fl, .int .i64 sz]] w (Moved (fun x' => x'.dat = (x.anew f).dat) x N w) := by
  have K0 := Lib.hid (((Sep.start K).alloc 45 [.int .i64 3, .int .i64 fl, .int .i64 sz]).perm List.perm_append_comm)
  have HH := Lib.hid h
  have hg1 := (h.g f hf).1
  have hg2 := (h.g f hf).2
  have lb : x.b < w.heap.size := (show Blk w x.b 52 x.cells from K.get (i := 0) rfl).lt
  obtain ⟨A, hA⟩ : ∃ A, w.heap.size = A := ⟨_, rfl⟩
  clear K h
  go_enter Try.func17, Try.ntmps17
  go_wp2_with fail
  rw [hA] at K0
  obtain ⟨W0, hW0⟩ : ∃ W0, w.alloc (.cells #[.int .i64 3, .int .i64 fl, .int .i64 sz] 45) = W0 := ⟨_, rfl⟩
  have K1 : Hid (Sep w (Chunks.bs x.chunks) W0 ([Chunk.blk A 45 [.int .i64 3, .int .i64 fl, .int .i64 sz]] ++ (x.wch ++ x.dr.chunks))) := by rw [← hW0]; exact K0
  rw [hW0]
  clear hW0 K0 hA lb
  have b0 := Wd.wds K1.out
  have c0 : W0.cell? ⟨x.b, 0, none⟩ = some (.pointer (some ⟨x.db, 0, none⟩)) := b0.cell 0
  refine wp_T [7] (fun X => X.cell? ⟨x.b, 0, none⟩ = some (.pointer (some ⟨x.db, 0, none⟩))) (by kernel_rfl) (fun hC => ?_) c0
  have lb := b0.lt
  clear b0 c0
  refine wpAnyT_takeP' 0 (by kernel_rfl) (fun _ _ _ h => h) (by assumption) (by rfl) (fun w => by simp only [List.getD_cons_zero]; go_simp; try with_reducible rfl) ?_
  try simp only [List.getD_cons_zero, Act.put, List.setIfInBounds_toArray, List.set_cons_zero, List.set_cons_succ]
  refine wpAnyT_takeP' 1 (by kernel_rfl) (fun _ _ _ h => h) (by assumption) (by rfl) (fun w => by simp only [List.getD_cons_succ, List.getD_cons_zero]; go_simp; try with_reducible rfl) ?_
  try simp only [List.getD_cons_succ, List.getD_cons_zero, Act.put, List.setIfInBounds_toArray, List.set_cons_zero, List.set_cons_succ]
  refine wpAnyT_takeP' 2 (by kernel_rfl) (fun _ _ _ h => h) (by assumption) (by rfl) (fun w => by simp only [List.getD_cons_succ, List.getD_cons_zero]; go_simp; try with_reducible rfl) ?_
  try simp only [List.getD_cons_succ, List.getD_cons_zero, Act.put, List.setIfInBounds_toArray, List.set_cons_zero, List.set_cons_succ]
  refine wpAnyT_takeC' 3 (by kernel_rfl) (fun _ _ _ h => h) (by assumption) (by rfl) (fun w hSw => by simp only [List.getD_cons_succ, List.getD_cons_zero]; (try dsimp only at hSw); go_simp; try with_reducible rfl) ?_
  try simp only [List.getD_cons_succ, List.getD_cons_zero, Act.put, List.setIfInBounds_toArray, List.set_cons_zero, List.set_cons_succ]
  refine wpAnyT_takeP' 4 (by kernel_rfl) (fun _ _ _ h => h) (by assumption) (by rfl) (fun w => by simp only [List.getD_cons_succ, List.getD_cons_zero]; go_simp; try with_reducible rfl) ?_
  try simp only [List.getD_cons_succ, List.getD_cons_zero, Act.put, List.setIfInBounds_toArray, List.set_cons_zero, List.set_cons_succ]
  refine wpAnyT_takeP' 5 (by kernel_rfl) (fun _ _ _ h => h) (by assumption) (by rfl) (fun w => by simp only [List.getD_cons_succ, List.getD_cons_zero]; go_simp; try with_reducible rfl) ?_
  try simp only [List.getD_cons_succ, List.getD_cons_zero, Act.put, List.setIfInBounds_toArray, List.set_cons_zero, List.set_cons_succ]
  refine wpAnyT_one' 6 (by kernel_rfl) (by rfl) (fun K hK => ?_)
  simp only [List.getD_cons_succ, List.getD_cons_zero]
  go_simp
  refine (whandle (Wd.wds K1.out.drew) hf (x.cG hf)).mono ?_
  rintro er W1 ⟨rfl, f1⟩
  have K2 := Lib.hid (K1.out.drew.same f1)
  clear f1 K1 hC
  have c0 : W1.cell? ⟨x.b, 0, none⟩ = some (.pointer (some ⟨x.db, 0, none⟩)) := (Wd.wds K2.out).cell 0
  refine hK.out _ _ c0 ?_
  clear hK c0 lb
  try simp only [Act.put, List.setIfInBounds_toArray, List.set_cons_zero, List.set_cons_succ]
  refine wpAnyT_last 7 rfl (by kernel_rfl) ?_
  simp only [List.drop_succ_cons, List.drop_zero]
  go_wp2_with fail
  refine (x_leave HH.out K2.out.hs.right.right hf 0).mono ?_
  rintro er W2 ⟨v, S, fv, rds, rfl, k2⟩
  have K3 := Lib.hid (Sep.call_own K2.out k2)
  clear k2 K2
  have R1 := Lib.hid (RowS.of_own (show OwnS W2 34 6 v (x.L f).length ((x.L f).flatMap encP6) S from K3.out.get (i := 0) rfl))
  have R2 := Lib.hid (Wd.rowf K3.out hf)
  have b0 := Wd.wds K3.out
  have c5 : W2.cell? ⟨x.b, 5 + f, none⟩ = some (x.V f) := by rw [b0.cell]; exact x.cV hf
  have c9 : W2.cell? ⟨x.b, 9 + f, none⟩ = some (.int .i64 (x.G f)) := by rw [b0.cell]; exact x.cG hf
  have z5 := b0.frz (5 + f)
  have z9 := b0.frz (9 + f)
  have lb := b0.lt
  clear b0
  go_wp2_with fail
  rw [onlyN_normal]
  go_wp2_with fail
  refine (same_p6 R1.out R2.out).mono ?_
  rintro er _ ⟨rfl, n1, rfl⟩
  have R3 : RowS (W2.drewN n1) (.slice none 0 0) [] (x.S f) := ⟨(R2.out.fr0 ((Fr.refl [] W2).drewN n1)).1, none, 0, rfl, by simp, by unfold maxLen; omega, .inl rfl⟩
  have ks := Wd.putL (K3.out.drewN n1) hf (.slice none 0 0) [] R3
  obtain ⟨W3, hW3⟩ : ∃ W3, (W2.drewN n1).setCell ⟨x.b, 5 + f, none⟩ (.slice none 0 0) = W3 := ⟨_, rfl⟩
  rw [hW3] at ks
  have K4 := Lib.hid ks
  clear ks K3 R1 R2 R3
  go_wp2_with fail
  clear hW3 c5 c9 z5 z9 lb
  obtain ⟨x4, hx4⟩ : ∃ x4 : Wd, Hid (({ x with V := upd x.V f (.slice none 0 0), L := upd x.L f [] } : Wd) = x4) := ⟨_, Lib.hid rfl⟩
  rw [hx4.out] at K4
  have eb : x4.b = x.b := by rw [← hx4.out]
  have eG : x4.G = x.G := by rw [← hx4.out]
  have b0 := Wd.wds K4.out
  rw [eb] at b0
  have c9 : W3.cell? ⟨x.b, 9 + f, none⟩ = some (.int .i64 (x.G f)) := by rw [b0.cell, ← eG]; exact x4.cG hf
  have z9 := b0.frz (9 + f)
  have lb := b0.lt
  clear b0 eb eG
  refine wp_region_quiet_tail 10 (by kernel_rfl) (by kernel_rfl) ?_
  simp only [List.take_succ_cons, List.take_zero, List.drop_succ_cons, List.drop_zero]
  repeat (first | go_big_quiet_step (fail) | quiet_step (fail))
  refine wpQuiet_nil ?_
  rintro _ ⟨nq, rfl⟩
  go_wp2_with fail
  have ek : Hid (x4.b = x.b ∧ x4.G = x.G) := by rw [← hx4.out]; exact Lib.hid ⟨rfl, rfl⟩
  have ks := Wd.put1 (y := { x4 with G := upd x4.G f (x.G f + 1) }) (K4.out.drewN nq) (9 + f) (.int .i64 (x.G f + 1)) rfl (x4.sG hf _) (fun _ => rfl)
  rw [ek.out.1] at ks
  obtain ⟨W4, hW4⟩ : ∃ W4, (W3.drewN nq).setCell ⟨x.b, 9 + f, none⟩ (.int .i64 (x.G f + 1)) = W4 := ⟨_, rfl⟩
  rw [hW4] at ks ⊢
  have K5 := Lib.hid ks
  clear ks K4 hW4 c9 z9 lb
  have eq4 : Hid (x4.db = x.db ∧ x4.Q = x.Q) := by rw [← hx4.out]; exact Lib.hid ⟨rfl, rfl⟩
  obtain ⟨y, hy⟩ : ∃ y : Wd, Hid (({ x4 with b := x.b, G := upd x4.G f (x.G f + 1) } : Wd) = y) := ⟨_, Lib.hid rfl⟩
  rw [hy.out] at K5
  have ey : Hid (y.b = x.b ∧ y.db = x.db ∧ y.Q f = x.Q f ∧ y.G f = x.G f + 1) := by
    rw [← hy.out]
    exact Lib.hid ⟨rfl, eq4.out.1, by show x4.Q f = _; rw [eq4.out.2], upd_self _ _ _⟩
  have cells : ∀ X : World, Blk X y.b 52 y.cells → X.cell? ⟨x.b, 0, none⟩ = some (.pointer (some ⟨x.db, 0, none⟩)) ∧ X.cell? ⟨x.b, 1 + f, none⟩ = some (.int .i64 (x.Q f)) := fun X hX => by
    have h1 : X.cell? ⟨y.b, 0, none⟩ = some (.pointer (some ⟨y.db, 0, none⟩)) := hX.cell 0
    have h2 : X.cell? ⟨y.b, 1 + f, none⟩ = some (.int .i64 (y.Q f)) := by rw [hX.cell]; exact y.cQ hf
    rw [ey.out.1] at h1 h2
    rw [ey.out.2.1] at h1
    rw [ey.out.2.2.1] at h2
    exact ⟨h1, h2⟩
  have HC := Lib.hid cells
  clear cells
  have lb : x.b < W4.heap.size := by have := (Wd.wds K5.out).lt; rw [ey.out.1] at this; exact this
  have hfi : (f : Int) < 4 := by omega
  refine wp_T [14] (fun X => X.cell? ⟨x.b, 0, none⟩ = some (.pointer (some ⟨x.db, 0, none⟩)) ∧ X.cell? ⟨x.b, 1 + f, none⟩ = some (.int .i64 (x.Q f))) (by kernel_rfl) (fun hC => ?_) (HC.out _ (Wd.wds K5.out).drew)
  refine wpAnyT_takeP' 0 (by kernel_rfl) (fun _ _ _ h => h) (by assumption) (by rfl) (fun w => by simp only [List.getD_cons_zero]; go_simp; try with_reducible rfl) ?_
  try simp only [List.getD_cons_zero, Act.put, List.setIfInBounds_toArray, List.set_cons_zero, List.set_cons_succ]
  refine wpAnyT_takeP' 1 (by kernel_rfl) (fun _ _ _ h => h) (by assumption) (by rfl) (fun w => by simp only [List.getD_cons_succ, List.getD_cons_zero]; go_simp; try with_reducible rfl) ?_
  try simp only [List.getD_cons_succ, List.getD_cons_zero, Act.put, List.setIfInBounds_toArray, List.set_cons_zero, List.set_cons_succ]
  refine wpAnyT_takeP' 2 (by kernel_rfl) (fun _ _ _ h => h) (by assumption) (by rfl) (fun w => by simp only [List.getD_cons_succ, List.getD_cons_zero]; go_simp; try with_reducible rfl) ?_
  try simp only [List.getD_cons_succ, List.getD_cons_zero, Act.put, List.setIfInBounds_toArray, List.set_cons_zero, List.set_cons_succ]
  refine wpAnyT_takeC' 3 (by kernel_rfl) (fun _ _ _ h => h) (by assumption) (by rfl) (fun w hSw => by simp only [List.getD_cons_succ, List.getD_cons_zero]; (try dsimp only at hSw); go_simp; try with_reducible rfl) ?_
  try simp only [List.getD_cons_succ, List.getD_cons_zero, Act.put, List.setIfInBounds_toArray, List.set_cons_zero, List.set_cons_succ]
  refine wpAnyT_takeP' 4 (by kernel_rfl) (fun _ _ _ h => h) (by assumption) (by rfl) (fun w => by simp only [List.getD_cons_succ, List.getD_cons_zero]; go_simp; try with_reducible rfl) ?_
  try simp only [List.getD_cons_succ, List.getD_cons_zero, Act.put, List.setIfInBounds_toArray, List.set_cons_zero, List.set_cons_succ]
  refine wpAnyT_takeP' 5 (by kernel_rfl) (fun _ _ _ h => h) (by assumption) (by rfl) (fun w => by simp only [List.getD_cons_succ, List.getD_cons_zero]; go_simp; try with_reducible rfl) ?_
  try simp only [List.getD_cons_succ, List.getD_cons_zero, Act.put, List.setIfInBounds_toArray, List.set_cons_zero, List.set_cons_succ]
  refine wpAnyT_takeP' 7 (by kernel_rfl) (fun _ _ _ h => h) (by assumption) (by rfl) (fun w => by simp only [List.getD_cons_succ, List.getD_cons_zero]; go_simp; try with_reducible rfl) ?_
  try simp only [List.getD_cons_succ, List.getD_cons_zero, Act.put, List.setIfInBounds_toArray, List.set_cons_zero, List.set_cons_succ]
  refine wpAnyT_takeP' 8 (by kernel_rfl) (fun _ _ _ h => h) (by assumption) (by rfl) (fun w => by simp only [List.getD_cons_succ, List.getD_cons_zero]; go_simp; try with_reducible rfl) ?_
  try simp only [List.getD_cons_succ, List.getD_cons_zero, Act.put, List.setIfInBounds_toArray, List.set_cons_zero, List.set_cons_succ]
  refine wpAnyT_takeP' 9 (by kernel_rfl) (fun _ _ _ h => h) (by assumption) (by rfl) (fun w => by simp only [List.getD_cons_succ, List.getD_cons_zero]; go_simp; try with_reducible rfl) ?_
  try simp only [List.getD_cons_succ, List.getD_cons_zero, Act.put, List.setIfInBounds_toArray, List.set_cons_zero, List.set_cons_succ]
  refine wpAnyT_takeP' 10 (by kernel_rfl) (fun _ _ _ h => h) (by assumption) (by rfl) (fun w => by simp only [List.getD_cons_succ, List.getD_cons_zero]; go_simp; try with_reducible rfl) ?_
  try simp only [List.getD_cons_succ, List.getD_cons_zero, Act.put, List.setIfInBounds_toArray, List.set_cons_zero, List.set_cons_succ]
  refine wpAnyT_takeP' 11 (by kernel_rfl) (fun _ _ _ h => h) (by assumption) (by rfl) (fun w => by simp only [List.getD_cons_succ, List.getD_cons_zero]; go_simp; try with_reducible rfl) ?_
  try simp only [List.getD_cons_succ, List.getD_cons_zero, Act.put, List.setIfInBounds_toArray, List.set_cons_zero, List.set_cons_succ]
  refine wpAnyT_takeM' 12 (by kernel_rfl) (fun _ _ _ h => h) (by assumption) (by rfl) (fun w hSw => by simp only [List.getD_cons_succ, List.getD_cons_zero]; (try dsimp only at hSw); go_simp; try with_reducible rfl) ?_
  try simp only [List.getD_cons_succ, List.getD_cons_zero, Act.put, List.setIfInBounds_toArray, List.set_cons_zero, List.set_cons_succ]
  refine wpAnyT_takeP' 13 (by kernel_rfl) (fun _ _ _ h => h) (by assumption) (by rfl) (fun w => by simp only [List.getD_cons_succ, List.getD_cons_zero]; go_simp; try with_reducible rfl) ?_
  try simp only [List.getD_cons_succ, List.getD_cons_zero, Act.put, List.setIfInBounds_toArray, List.set_cons_zero, List.set_cons_succ]
  refine wpAnyT_one' 6 (by kernel_rfl) (by rfl) (fun K hK => ?_)
  simp only [List.getD_cons_succ, List.getD_cons_zero]
  go_simp
  have hwh := whandle (Wd.wds K5.out.drew) hf (y.cG hf)
  rw [ey.out.1, ey.out.2.2.2] at hwh
  refine hwh.mono ?_
  rintro er W5 ⟨rfl, f1⟩
  have K6 := Lib.hid (K5.out.drew.same f1)
  clear f1 K5 hC hwh
  have hC2 := HC.out _ (Wd.wds K6.out)
  refine hK.out _ _ hC2 ?_
  clear hK lb
  have hC := hC2
  clear hC2
  try simp only [Act.put, List.setIfInBounds_toArray, List.set_cons_zero, List.set_cons_succ]
  refine wpAnyT_last 14 rfl (by kernel_rfl) ?_
  simp only [List.drop_succ_cons, List.drop_zero]
  clear hC
  go_wp2_with fail
  refine (x_join HH.out hf K6.out.hs.right.right rfl _ _ _ _ _ _ 0).mono ?_
  rintro er W6 ⟨rfl, fv', fS', b, r, k6⟩
  have K7 := Lib.hid (Sep.outbox2 K6.out k6)
  clear k6 K6 HC
  go_wp2
  rw [onlyN_normal]
  go_wp2
  go_ret
  refine ⟨rfl, { x.again f fv' fS' rds b r with V := upd x.V f (.slice none 0 0) }, rfl, (HH.out.anew hf hN).re rfl rfl rfl rfl rfl rfl rfl rfl rfl rfl rfl, rfl, ?_⟩
  have e : y.wch = ({ x.again f fv' fS' rds b r with V := upd x.V f (.slice none 0 0) } : Wd).wch := by
    rw [← hy.out, ← hx4.out]; rfl
  have K8 := K7.out
  rw [e] at K8
  exact K8
end Go.Proofs.Yteojodcdehkejaa
/- A move of the law's world: the next packet is told. -/
namespace Go.Proofs.Yteojodcdehkejaa
open Go Go.RowKit
attribute [local go_sem] calmQ_normal wide_fn wide_depth Oper.semAt_some run_store_func

/-- a packet that is told, or none -/
def NxR (x x' : Wd) : Prop := (x.ring = [] ∧ x'.dat = x.dat) ∨ ∃ df1 s rest t1 p qs, NextS x df1 s rest t1 p qs ∧ x'.dat = (x.nexted df1 s rest (if t1 then 0 else x.Q s) p qs [] (.slice none 0 0)).dat
theorem and3 {s : Nat} (hs : s < 4) : bits .and .i64 (s : Int) 3 = s := four (P := fun s => bits .and .i64 (s : Int) 3 = s) (by decide) (by decide) (by decide) (by decide) hs

set_option maxRecDepth 100000 in
set_option maxHeartbeats 4000000 in
theorem mv1_no {w : World} {x : Wd} {N : Nat} (h : Wf x N) (hN : N + 1 ≤ 1000000) (K : Holds w x.chunks) (fl sz : Int) {f : Nat} (hf : f < 4) (he : bits .and .i64 fl 3 = (f : Int)) (hr : x.ring = []) :
    Calls Try.prog 17 #[.pointer (some ⟨x.b, 0, none⟩), .agg #[.int .i64 1, .int .i64 fl, .int .i64 sz]] w (Moved (fun x' => NxR x x') x N w) := by
  have K0 := Lib.hid (((Sep.start K).alloc 45 [.int .i64 1, .int .i64 fl, .int .i64 sz]).perm List.perm_append_comm)
  have HH := Lib.hid h
  have HR := Lib.hid hr
  have hL : ∀ s, s < 4 → (x.L s).length = 0 := fun s hs => by
    by_cases e : x.L s = []
    · rw [e]; rfl
    · have := (h.mem s).2 ⟨hs, e⟩
      rw [hr] at this; cases this
  have hB : Blk w x.b 52 x.cells := K.get (i := 0) rfl
  have hs : ∀ s, s < 4 → ∃ a cap, x.V s = .slice a 0 cap := fun s hs => by
    have hrow : RowS w (x.V s) (x.L s) (x.S s) := K.left.get (x.row_at hs)
    obtain ⟨a, cap, hv, _⟩ := hrow.val
    rw [hL s hs] at hv
    exact ⟨a, cap, hv⟩
  obtain ⟨a0, p0, v0⟩ := hs 0 (by omega)
  obtain ⟨a1, p1, v1⟩ := hs 1 (by omega)
  obtain ⟨a2, p2, v2⟩ := hs 2 (by omega)
  obtain ⟨a3, p3, v3⟩ := hs 3 (by omega)
  have V0 := Lib.hid v0
  have V1 := Lib.hid v1
  have V2 := Lib.hid v2
  have V3 := Lib.hid v3
  have c0 : w.cell? ⟨x.b, 0, none⟩ = some (.pointer (some ⟨x.db, 0, none⟩)) := hB.cell 0
  have lb := hB.lt
  clear K h hr hB hs hL v0 v1 v2 v3
  go_enter Try.func17, Try.ntmps17
  go_wp2_with fail
  obtain ⟨A, hA⟩ : ∃ A, w.heap.size = A := ⟨_, rfl⟩
  rw [hA] at K0 lb
  obtain ⟨W0, hW0⟩ : ∃ W0, w.alloc (.cells #[.int .i64 1, .int .i64 fl, .int .i64 sz] 45) = W0 := ⟨_, rfl⟩
  have K1 : Hid (Sep w (Chunks.bs x.chunks) W0 ([Chunk.blk A 45 [.int .i64 1, .int .i64 fl, .int .i64 sz]] ++ (x.wch ++ x.dr.chunks))) := by rw [← hW0]; exact K0
  rw [hA, hW0]
  clear hW0 K0 hA lb c0
  refine (x_next_no K1.out.hs.right.right HR.out 0).mono ?_
  rintro er W1 ⟨rfl, rds, k1⟩
  have K2 := Lib.hid (Sep.call_pre K1.out k1)
  clear k1 K1
  have b0 := Wd.wds K2.out
  have c5 : W1.cell? ⟨x.b, 5, none⟩ = some (.slice a0 0 p0) := by rw [← V0.out]; exact b0.cell 5
  have c6 : W1.cell? ⟨x.b, 6, none⟩ = some (.slice a1 0 p1) := by rw [← V1.out]; exact b0.cell 6
  have c7 : W1.cell? ⟨x.b, 7, none⟩ = some (.slice a2 0 p2) := by rw [← V2.out]; exact b0.cell 7
  have c8 : W1.cell? ⟨x.b, 8, none⟩ = some (.slice a3 0 p3) := by rw [← V3.out]; exact b0.cell 8
  have lb := b0.lt
  clear b0
  simp only [aggp6, zerop6]
  go_wp2_with fail
  go_quiet (fail)
  go_wp2
  go_ret
  have K3 := Lib.hid ((K2.out.alloc 34 (encP6 zerop6)).drewN nq)
  refine ⟨rfl, { x with rds := rds }, .inl ⟨HR.out, rfl⟩, (HH.out.more (Nat.le_succ N) hN).re rfl rfl rfl rfl rfl rfl rfl rfl rfl rfl rfl, rfl, ?_⟩
  have := K3.out.sub (List.sublist_append_left _ _)
  exact this.sub (List.sublist_append_right _ _)
end Go.Proofs.Yteojodcdehkejaa
/- A move of the law's world: a packet is told. -/
namespace Go.Proofs.Yteojodcdehkejaa
open Go Go.RowKit
attribute [local go_sem] calmQ_normal wide_fn wide_depth Oper.semAt_some run_store_func

set_option maxRecDepth 100000 in
set_option maxHeartbeats 4000000 in
theorem mv1_yes {w : World} {x : Wd} {N : Nat} (h : Wf x N) (hN : N + 1 ≤ 1000000) (K : Holds w x.chunks) (fl sz : Int) {f : Nat} (hf : f < 4) (he : bits .and .i64 fl 3 = (f : Int)) (hr : x.ring ≠ []) :
    Calls Try.prog 17 #[.pointer (some ⟨x.b, 0, none⟩), .agg #[.int .i64 1, .int .i64 fl, .int .i64 sz]] w (Moved (fun x' => NxR x x') x N w) := by
  have K0 := Lib.hid (((Sep.start K).alloc 45 [.int .i64 1, .int .i64 fl, .int .i64 sz]).perm List.perm_append_comm)
  have HH := Lib.hid h
  have HR := Lib.hid hr
  have hB : Blk w x.b 52 x.cells := K.get (i := 0) rfl
  have c0 : w.cell? ⟨x.b, 0, none⟩ = some (.pointer (some ⟨x.db, 0, none⟩)) := hB.cell 0
  have lb := hB.lt
  clear K h hr hB
  go_enter Try.func17, Try.ntmps17
  go_wp2_with fail
  obtain ⟨A, hA⟩ : ∃ A, w.heap.size = A := ⟨_, rfl⟩
  rw [hA] at K0 lb
  obtain ⟨W0, hW0⟩ : ∃ W0, w.alloc (.cells #[.int .i64 1, .int .i64 fl, .int .i64 sz] 45) = W0 := ⟨_, rfl⟩
  have K1 : Hid (Sep w (Chunks.bs x.chunks) W0 ([Chunk.blk A 45 [.int .i64 1, .int .i64 fl, .int .i64 sz]] ++ (x.wch ++ x.dr.chunks))) := by rw [← hW0]; exact K0
  rw [hA, hW0]
  clear hW0 K0 hA lb c0
  refine (x_next HH.out K1.out.hs.right.right HR.out 0).mono ?_
  rintro er W1 ⟨df1, s, rest, t1, p, qs, rds, ns, rfl, k1⟩
  have NS := Lib.hid ns
  have hs : s < 4 := (Wf.mt ns.mt rfl rfl rfl rfl rfl HH.out).lt (s := s) (by simp)
  have hq := ns.q
  have hp := HH.out.pk s hs p (by rw [hq]; simp)
  have hp0 : p.f0 = s := hp.1
  have hp3 : 1 ≤ p.f3 := hp.2.2.2.1
  have hp4 : p.f3 ≤ 1024 := by have := hp.2.2.2.2.1; have := HH.out.mo.2; omega
  have hse := HH.out.se s hs
  have htl := HH.out.tl
  have hs1 := hse.1
  have hs2 : x.sent s ≤ 1024000000 := by have := hse.2; omega
  have ht1 := htl.1
  have ht2 : x.told ≤ 1000000 := by have := htl.2; omega
  have hand := and3 hs
  have hsi : (s : Int) < 4 := by omega
  have K2 := Lib.hid (Sep.call_pre K1.out k1)
  have hl := HH.out.len s hs
  have hrow0 := Wd.rowf K2.out hs
  obtain ⟨a, cap, hv, hcc, hcm⟩ := hrow0.val
  rw [hq] at hrow0 hcc hl
  have HV0 := Lib.hid hv
  rw [hv, hq] at hrow0
  rw [List.length_cons] at hrow0 hcc hl
  obtain ⟨g, off, rfl, htail⟩ := hrow0.tail
  obtain ⟨_, _, hgo, hgS, hlt, hcl⟩ := hrow0.at_ (i := 0) rfl
  cases hgo
  have HT := Lib.hid htail
  have HQ := Lib.hid hq
  have HV : Hid (x.V s = .slice (some ⟨g, off, none⟩) (x.L s).length cap) := HV0
  have b0 := Wd.wds K2.out
  have c5 : W1.cell? ⟨x.b, 5 + s, none⟩ = some (.slice (some ⟨g, off, none⟩) (qs.length + 1) cap) := by rw [b0.cell, x.cV hs, hv, hq, List.length_cons]
  have c13 : W1.cell? ⟨x.b, 13 + s, none⟩ = some (.int .i64 (x.sent s)) := by rw [b0.cell]; exact x.cS hs
  have c18 : W1.cell? ⟨x.b, 18, none⟩ = some (.int .i64 x.told) := b0.cell 18
  have z5 := b0.frz (5 + s)
  have z13 := b0.frz (13 + s)
  have z18 := b0.frz 18
  have lb := b0.lt
  have q0 : W1.cell? ⟨g, off, none⟩ = some (.int .i64 p.f0) := by simpa [encP6] using hcl 0 (by omega)
  have q1 : W1.cell? ⟨g, off + 1, none⟩ = some (.int .i64 p.f1) := by simpa [encP6] using hcl 1 (by omega)
  have q2 : W1.cell? ⟨g, off + 2, none⟩ = some (.int .i64 p.f2) := by simpa [encP6] using hcl 2 (by omega)
  have q3 : W1.cell? ⟨g, off + 3, none⟩ = some (.int .i64 p.f3) := by simpa [encP6] using hcl 3 (by omega)
  have q4 : W1.cell? ⟨g, off + 4, none⟩ = some (.int .i64 p.f4) := by simpa [encP6] using hcl 4 (by omega)
  have q5 : W1.cell? ⟨g, off + 5, none⟩ = some (.int .i64 p.f5) := by simpa [encP6] using hcl 5 (by omega)
  rw [hp0] at q0
  have hz : (((qs.length : Int) + 1) == 0) = false := by rw [beq_eq_false_iff_ne]; omega
  have HP0 := Lib.hid hp0
  unfold maxLen at hcm
  clear ns hq hp k1 K1 hv hcl hgS hrow0 htail b0 hse htl
  simp only [aggp6]
  rw [hp0]
  clear hp0
  go_wp2_with fail
  have K3 := Lib.hid ((K2.out.alloc 34 (encP6 p)).perm List.perm_append_comm)
  go_quiet (fail)
  obtain ⟨P, hP⟩ : ∃ P, W1.heap.size = P := ⟨_, rfl⟩
  rw [hP] at K3 ⊢
  obtain ⟨W2, hW2⟩ : ∃ W2, (W1.alloc (.cells #[.int .i64 s, .int .i64 p.f1, .int .i64 p.f2, .int .i64 p.f3, .int .i64 p.f4, .int .i64 p.f5] 34)).drewN nq = W2 := ⟨_, rfl⟩
  have K4 : Hid (Sep w (Chunks.bs x.chunks) W2 ([Chunk.blk P 34 (encP6 p), Chunk.blk A 45 [.int .i64 1, .int .i64 fl, .int .i64 sz]] ++ (x.wch ++ (x.nexted df1 s rest (if t1 then 0 else x.Q s) p qs rds (.slice none 0 0)).dr.chunks))) := by
    rw [← hW2, ← HP0.out]
    exact Lib.hid (K3.out.drewN nq)
  have HT2 := Lib.hid (HT.out.fr0 (w' := W2) (by rw [← hW2]; exact ((Fr.refl [] W1).alloc _).drewN nq))
  rw [hW2]
  clear hW2 K3 K2 hP c5 c13 c18 z5 z13 z18 lb q0 q1 q2 q3 q4 q5 hlt
  have b0 := Wd.wds K4.out
  have c5 : W2.cell? ⟨x.b, 5 + s, none⟩ = some (.slice (some ⟨g, off, none⟩) (qs.length + 1) cap) := by rw [b0.cell, x.cV hs, HV.out, HQ.out, List.length_cons]
  have c13 : W2.cell? ⟨x.b, 13 + s, none⟩ = some (.int .i64 (x.sent s)) := by rw [b0.cell]; exact x.cS hs
  have c18 : W2.cell? ⟨x.b, 18, none⟩ = some (.int .i64 x.told) := b0.cell 18
  have z5 := b0.frz (5 + s)
  have z13 := b0.frz (13 + s)
  have z18 := b0.frz 18
  have lb := b0.lt
  have r3 : W2.cell? ⟨P, 3, none⟩ = some (.int .i64 p.f3) := (K4.out.blk 0 rfl).cell 3
  have lP := (K4.out.blk 0 rfl).lt
  clear b0
  by_cases hc1 : cap = 1
  · subst hc1
    have hq0 : qs.length = 0 := by omega
    rw [if_pos rfl] at HT2
    obtain rfl : qs = [] := List.eq_nil_of_length_eq_zero hq0
    have HT3 : Hid (RowS W2 (.slice (some ⟨g, off, none⟩) 0 0) [] (x.S s)) := HT2
    have c51 : W2.cell? ⟨x.b, 5 + s, none⟩ = some (.slice (some ⟨g, off, none⟩) 1 1) := c5
    clear HT2 c5 hq0 hz hl hcc hcm
    have HT2 := HT3
    have c5 := c51
    clear HT3 c51
    go_wp2_with fail
    refine wp_region_quiet_tail 12 (by kernel_rfl) (by kernel_rfl) ?_
    simp only [List.take_succ_cons, List.take_zero, List.drop_succ_cons, List.drop_zero]
    repeat (first | go_big_quiet_step (fail) | quiet_step (fail))
    refine wpQuiet_nil ?_
    rintro _ ⟨nq, rfl⟩
    have ks := Wd.putL (K4.out.drewN nq) hs (.slice (some ⟨g, off, none⟩) 0 0) [] (HT2.out.fr0 ((Fr.refl [] W2).drewN nq))
    obtain ⟨W3, hW3⟩ : ∃ W3, (W2.drewN nq).setCell ⟨x.b, 5 + s, none⟩ (.slice (some ⟨g, off, none⟩) 0 0) = W3 := ⟨_, rfl⟩
    rw [hW3] at ks
    have K5 := Lib.hid ks
    clear ks K4 HT2 HT
    go_wp2_with fail
    clear hW3 c5 c13 c18 z5 z13 z18 lb r3 lP
    have b1 := Wd.wds K5.out
    have c13 : W3.cell? ⟨x.b, 13 + s, none⟩ = some (.int .i64 (x.sent s)) := by rw [b1.cell]; exact Wd.cS _ hs
    have c18 : W3.cell? ⟨x.b, 18, none⟩ = some (.int .i64 x.told) := b1.cell 18
    have z13 := b1.frz (13 + s)
    have z18 := b1.frz 18
    have lb := b1.lt
    have r3 : W3.cell? ⟨P, 3, none⟩ = some (.int .i64 p.f3) := (K5.out.blk 0 rfl).cell 3
    have lP := (K5.out.blk 0 rfl).lt
    clear b1
    refine wp_region_quiet_tail 14 (by kernel_rfl) (by kernel_rfl) ?_
    simp only [List.take_succ_cons, List.take_zero, List.drop_succ_cons, List.drop_zero]
    repeat (first | go_big_quiet_step (fail) | quiet_step (fail))
    refine wpQuiet_nil ?_
    rintro _ ⟨nq, rfl⟩
    have ks := Wd.put1 (y := { x with V := upd x.V s (.slice (some ⟨g, off, none⟩) 0 0), L := upd x.L s [], sent := upd x.sent s (x.sent s + p.f3) }) (K5.out.drewN nq) (13 + s) (.int .i64 (x.sent s + p.f3)) rfl (Wd.sS _ hs _) (fun _ => rfl)
    obtain ⟨W4, hW4⟩ : ∃ W4, (W3.drewN nq).setCell ⟨x.b, 13 + s, none⟩ (.int .i64 (x.sent s + p.f3)) = W4 := ⟨_, rfl⟩
    have kt := Wd.put1 (y := { x with V := upd x.V s (.slice (some ⟨g, off, none⟩) 0 0), L := upd x.L s [], sent := upd x.sent s (x.sent s + p.f3), told := x.told + 1 }) ks 18 (.int .i64 (x.told + 1)) rfl rfl (fun _ => rfl)
    have K6 := Lib.hid kt
    clear ks kt K5 hW4
    go_wp2
    go_ret
    have NS := NS.out
    refine ⟨rfl, x.nexted df1 s rest (if t1 then 0 else x.Q s) p [] rds (.slice (some ⟨g, off, none⟩) 0 0), .inr ⟨df1, s, rest, t1, p, [], NS, rfl⟩, HH.out.nexted NS hN rds _, rfl, ?_⟩
    exact K6.out.sub (List.sublist_append_right _ _)
  · rw [if_neg hc1] at HT2
    go_wp2_with fail
    refine wp_region_quiet_tail 12 (by kernel_rfl) (by kernel_rfl) ?_
    simp only [List.take_succ_cons, List.take_zero, List.drop_succ_cons, List.drop_zero]
    repeat (first | go_big_quiet_step (fail) | quiet_step (fail))
    refine wpQuiet_nil ?_
    rintro _ ⟨nq, rfl⟩
    have ks := Wd.putL (K4.out.drewN nq) hs (.slice (some ⟨g, off + 6, none⟩) qs.length (cap - 1)) qs (HT2.out.fr0 ((Fr.refl [] W2).drewN nq))
    obtain ⟨W3, hW3⟩ : ∃ W3, (W2.drewN nq).setCell ⟨x.b, 5 + s, none⟩ (.slice (some ⟨g, off + 6, none⟩) qs.length (cap - 1)) = W3 := ⟨_, rfl⟩
    rw [hW3] at ks
    have K5 := Lib.hid ks
    clear ks K4 HT2 HT
    go_wp2_with fail
    clear hW3 c5 c13 c18 z5 z13 z18 lb r3 lP
    have b1 := Wd.wds K5.out
    have c13 : W3.cell? ⟨x.b, 13 + s, none⟩ = some (.int .i64 (x.sent s)) := by rw [b1.cell]; exact Wd.cS _ hs
    have c18 : W3.cell? ⟨x.b, 18, none⟩ = some (.int .i64 x.told) := b1.cell 18
    have z13 := b1.frz (13 + s)
    have z18 := b1.frz 18
    have lb := b1.lt
    have r3 : W3.cell? ⟨P, 3, none⟩ = some (.int .i64 p.f3) := (K5.out.blk 0 rfl).cell 3
    have lP := (K5.out.blk 0 rfl).lt
    clear b1
    refine wp_region_quiet_tail 14 (by kernel_rfl) (by kernel_rfl) ?_
    simp only [List.take_succ_cons, List.take_zero, List.drop_succ_cons, List.drop_zero]
    repeat (first | go_big_quiet_step (fail) | quiet_step (fail))
    refine wpQuiet_nil ?_
    rintro _ ⟨nq, rfl⟩
    have ks := Wd.put1 (y := { x with V := upd x.V s (.slice (some ⟨g, off + 6, none⟩) qs.length (cap - 1)), L := upd x.L s qs, sent := upd x.sent s (x.sent s + p.f3) }) (K5.out.drewN nq) (13 + s) (.int .i64 (x.sent s + p.f3)) rfl (Wd.sS _ hs _) (fun _ => rfl)
    obtain ⟨W4, hW4⟩ : ∃ W4, (W3.drewN nq).setCell ⟨x.b, 13 + s, none⟩ (.int .i64 (x.sent s + p.f3)) = W4 := ⟨_, rfl⟩
    have kt := Wd.put1 (y := { x with V := upd x.V s (.slice (some ⟨g, off + 6, none⟩) qs.length (cap - 1)), L := upd x.L s qs, sent := upd x.sent s (x.sent s + p.f3), told := x.told + 1 }) ks 18 (.int .i64 (x.told + 1)) rfl rfl (fun _ => rfl)
    have K6 := Lib.hid kt
    clear ks kt K5 hW4
    go_wp2
    go_ret
    have NS := NS.out
    refine ⟨rfl, x.nexted df1 s rest (if t1 then 0 else x.Q s) p qs rds (.slice (some ⟨g, off + 6, none⟩) qs.length (cap - 1)), .inr ⟨df1, s, rest, t1, p, qs, NS, rfl⟩, HH.out.nexted NS hN rds _, rfl, ?_⟩
    exact K6.out.sub (List.sublist_append_right _ _)
end Go.Proofs.Yteojodcdehkejaa
/- append of whatever slice, nil too. -/
namespace Go.Proofs.Yteojodcdehkejaa
open Go Go.RowKit

section
variable {P : Program} (w : World)
/-- append of nothing: the slice stays -/
theorem run_append_none_S (t ty e : TypeId) (i : TypeInfo) (size : Nat) (ht : P.underlying t = some (.slice e)) (hi : P.info? e = some i)
    (hsize : i.size = size)
    (v : Value) (n : Nat) (xs : List Value) (S : List Nat) (hown : OwnS w e size v n xs S) :
    (Builtin.append_ #[t, t] ty #[v, .slice none 0 0]).run P w = .ok v w := by
  subst hsize
  rcases hown.2 with ⟨rfl, rfl, rfl⟩ | ⟨g, cap, cur, rfl, rfl, hg, hnc, hcm, hcs, htake⟩
  · simp [Builtin.append_, run_underlying ht, sizeOf, typeInfo, hi, Builtin.lenOf, Builtin.firstCells]
  · simp [Builtin.append_, run_underlying ht, sizeOf, typeInfo, hi, Builtin.lenOf, Builtin.firstCells, hnc, storeCells]

/-- append of whatever slice onto an owned one -/
theorem wpList_append_any {ops : Array Oper} {rest : List Oper} {o : Oper} {a : Act} {Q : Exit → Act → World → Prop} (hgd : o.guard = none) (s x : Operand) (t : TypeId)
    (ho : o.op = .call { callee := .builtin .append, args := #[s, x], argTypes := #[t, t] })
    (e : TypeId) (i : TypeInfo) (z : Value) (size bytes : Nat) (ht : P.underlying t = some (.slice e)) (hi : P.info? e = some i) (hz : i.zero = some z)
    (hsize : i.size = size) (hby : i.bytes = bytes) (hzs : z.cells.size = size)
    (v : Value) (n : Nat) (xs : List Value) (S : List Nat) (hs : a.eval s = v) (hown : OwnS w e size v n xs S)
    (src : Value) (m : Nat) (news : List Value) (hx : a.eval x = src) (hl : news.length = m * size) (h1 : ∀ u ∈ news, u.oneCell' = true)
    (hsrc : (src = .slice none 0 0 ∧ m = 0) ∨ ∃ ad c, src = .slice (some ad) m c ∧ ∀ j u, news[j]? = some u → w.cell? (ad.add j) = some u)
    (h63 : n + m ≤ maxLen) (hbytes : (n + m) * bytes ≤ 140737488355328)
    (h : ∀ v' w' S', OwnS w' e size v' (n + m) (xs ++ news) S' → Gr w S S' → Fr S w w' → wpList P ops Q rest (a.put o.dst v') w') : wpList P ops Q (o :: rest) a w := by
  rcases hsrc with ⟨hs0, hm0⟩ | ⟨ad, c, hs1, hnews⟩
  · subst hm0
    obtain rfl : news = [] := List.eq_nil_of_length_eq_zero (by simpa using hl)
    refine wpList_plain hgd fun K hK => ?_
    have hr := run_append_none_S (P := P) w t o.type e i size ht hi hsize v n xs S hown
    unfold Oper.wp execOp
    simp only [ho, resolve, invoke, builtin, Sem.run_bind, Sem.run_pure, Result.andThen_ok, List.map_toArray, List.map_cons, List.map_nil, hs, hx, hs0, hr]
    exact hK _ _ (h v w S (by simpa using hown) (Gr.refl _ _) (Fr.refl _ _))
  · exact wpList_append_S w hgd s x t ho e i z size bytes ht hi hz hsize hby hzs v n xs S hs hown ad m c news (hx.trans hs1) hl hnews h1 h63 hbytes h
end
end Go.Proofs.Yteojodcdehkejaa
/- A move of the law's world: a packet comes. -/
namespace Go.Proofs.Yteojodcdehkejaa
open Go Go.RowKit
attribute [local go_sem] calmQ_normal wide_fn wide_depth Oper.semAt_some run_store_func

theorem run_append_of_none {P : Program} (w : World) (t ty e : TypeId) (i : TypeInfo) (size : Nat) (ht : P.underlying t = some (.slice e)) (hi : P.info? e = some i)
    (v : Value) (n : Nat) (xs : List Value) (S : List Nat) (hown : OwnS w e size v n xs S) (c : Nat) : (Builtin.append_ #[t, t] ty #[v, .slice none 0 c]).run P w = .ok v w := by
  rcases hown.2 with ⟨rfl, rfl, _⟩ | ⟨g, cap, cur, rfl, _, _, hnc, _⟩
  · simp [Builtin.append_, run_underlying ht, sizeOf, typeInfo, hi, Builtin.lenOf, Builtin.firstCells]
  · simp [Builtin.append_, run_underlying ht, sizeOf, typeInfo, hi, Builtin.lenOf, Builtin.firstCells, hnc, storeCells]
/-- append of a slice of packets that reads as ys -/
theorem wpList_append_row {w : World} {ops : Array Oper} {rest : List Oper} {o : Oper} {a : Act} {Q : Exit → Act → World → Prop} (hgd : o.guard = none) (s x : Operand)
    (ho : o.op = .call { callee := .builtin .append, args := #[s, x], argTypes := #[49, 49] })
    (v : Value) (n : Nat) (xs : List P6) (S : List Nat) (hs : a.eval s = v) (hown : OwnS w 34 6 v n (xs.flatMap encP6) S)
    (u : Value) (ys : List P6) (U : List Nat) (hx : a.eval x = u) (hr : RowS w u ys U) (h63 : n + ys.length ≤ 1000000)
    (h : ∀ v' w' S', OwnS w' 34 6 v' (n + ys.length) ((xs ++ ys).flatMap encP6) S' → Gr w S S' → Fr S w w' → wpList Try.prog ops Q rest (a.put o.dst v') w') : wpList Try.prog ops Q (o :: rest) a w := by
  obtain ⟨i0, hi, hz0, hz1, hz2⟩ := info_parts infop6
  obtain ⟨ad, c, rfl, hc, hcm⟩ := hr.val
  cases ad with
  | none =>
    have hy : ys = [] := by
      obtain ⟨_, a', cap', hv, _, _, h2⟩ := hr
      cases hv
      rcases h2 with h2 | ⟨g, off, t, cur, ha, _⟩
      · exact h2
      · cases ha
    subst hy
    refine wpList_plain hgd fun K hK => ?_
    have hrun := run_append_of_none w 49 o.type 34 i0 6 Try.underlying49 hi v n _ S hown c
    unfold Oper.wp execOp
    simp only [List.length_nil] at hx
    simp only [ho, resolve, invoke, builtin, Sem.run_bind, Sem.run_pure, Result.andThen_ok, List.map_toArray, List.map_cons, List.map_nil, hs, hx, hrun]
    exact hK _ _ (h v w S (by simpa using hown) (Gr.refl _ _) (Fr.refl _ _))
  | some ad =>
    refine wpList_append_S w hgd s x 49 ho 34 i0 (.agg #[.int .i64 0, .int .i64 0, .int .i64 0, .int .i64 0, .int .i64 0, .int .i64 0]) 6 48 Try.underlying49 hi hz0 hz1 hz2 rfl v n (xs.flatMap encP6) S hs hown ad ys.length c (ys.flatMap encP6) hx (flat6_len ys) ?_ (one_p6 ys) (by unfold maxLen; omega) (by omega) ?_
    · intro j u hu
      obtain ⟨_, a', cap', hv, _, _, h2⟩ := hr
      cases hv
      rcases h2 with rfl | ⟨g, off, t, cur, ha, _, hh, hcell⟩
      · simp at hu
      · cases ha
        rw [Addr.add_lit]
        have := hcell j u hu
        simp [World.cell?, hh, this]
    · intro v' w' S' h1 h2 h3
      exact h v' w' S' (by rw [List.flatMap_append]; exact h1) h2 h3

set_option maxRecDepth 100000 in
set_option maxHeartbeats 4000000 in
theorem mv0 {w : World} {x : Wd} {N : Nat} (h : Wf x N) (hN : N + 1 ≤ 1000000) (K : Holds w x.chunks) (kd fl sz : Int) (hk1 : kd ≠ 1) (hk2 : kd ≠ 2) (hk3 : kd ≠ 3) {f : Nat} (hf : f < 4) (he : bits .and .i64 fl 3 = (f : Int)) {z : Int} (hz : wrap64 (bits .and .i64 sz 1023 + 1) = z) (hz1 : 1 ≤ z) (hz2 : z ≤ 1024) :
    Calls Try.prog 17 #[.pointer (some ⟨x.b, 0, none⟩), .agg #[.int .i64 kd, .int .i64 fl, .int .i64 sz]] w (Moved (fun x' => x'.dat = (x.put f z [] [] (.slice none 0 0) []).dat) x N w) := by
  have k0 : Sep w (Chunks.bs x.chunks) _ (({ x with seq := x.seq + 1 } : Wd).wch ++ x.dr.chunks) := Wd.put1 (x := x) (y := { x with seq := x.seq + 1 }) (pre := []) (post := x.dr.chunks) (Sep.start K) 17 (.int .i64 (x.seq + 1)) rfl rfl (fun _ => rfl)
  have K0 := Lib.hid ((k0.alloc 45 [.int .i64 kd, .int .i64 fl, .int .i64 sz]).perm List.perm_append_comm)
  rw [World.size_setCell] at K0
  clear k0
  have HH := Lib.hid h
  have HZI : Hid (IntKind.i64.wrap (bits .and .i64 sz 1023 + 1) = z) := Lib.hid (by rw [IntKind.wrap_i64]; unfold wrap64 at hz; exact hz)
  have hB : Blk w x.b 52 x.cells := K.get (i := 0) rfl
  have c17 : w.cell? ⟨x.b, 17, none⟩ = some (.int .i64 x.seq) := hB.cell 17
  have z17 := hB.frz 17
  have lb := hB.lt
  have hs1 := h.sq.1
  have hs2 : x.seq ≤ 1000000 := by have := h.sq.2; omega
  have e1 : (kd == 1) = false := by rw [beq_eq_false_iff_ne]; exact hk1
  have e2 : (kd == 2) = false := by rw [beq_eq_false_iff_ne]; exact hk2
  have e3 : (kd == 3) = false := by rw [beq_eq_false_iff_ne]; exact hk3
  clear K h hB hk1 hk2 hk3 hz
  go_enter Try.func17, Try.ntmps17
  go_wp2_with fail
  obtain ⟨A, hA⟩ : ∃ A, w.heap.size = A := ⟨_, rfl⟩
  rw [hA] at K0
  obtain ⟨W0, hW0⟩ : ∃ W0, (w.setCell ⟨x.b, 17, none⟩ (.int .i64 (x.seq + 1))).alloc (.cells #[.int .i64 kd, .int .i64 fl, .int .i64 sz] 45) = W0 := ⟨_, rfl⟩
  rw [hA, hW0]
  have K1 : Hid (Sep w (Chunks.bs x.chunks) W0 ([Chunk.blk A 45 [.int .i64 kd, .int .i64 fl, .int .i64 sz]] ++ (({ x with seq := x.seq + 1 } : Wd).wch ++ x.dr.chunks))) := by rw [← hW0]; exact K0
  clear hW0 K0 hA lb c17 z17 e1 e2 e3
  have cells : ∀ X : World, Blk X x.b 52 ({ x with seq := x.seq + 1 } : Wd).cells → Blk X A 45 [.int .i64 kd, .int .i64 fl, .int .i64 sz] → X.cell? ⟨x.b, 17, none⟩ = some (.int .i64 (x.seq + 1)) ∧ X.cell? ⟨A, 2, none⟩ = some (.int .i64 sz) := fun X h1 h2 => ⟨h1.cell 17, h2.cell 2⟩
  have HC := Lib.hid cells
  clear cells
  have lb := (Wd.wds K1.out).lt
  have hz : IntKind.i64.wrap (bits .and .i64 sz 1023 + 1) = z := HZI.out
  refine wp_T [13] (fun X => X.cell? ⟨x.b, 17, none⟩ = some (.int .i64 (x.seq + 1)) ∧ X.cell? ⟨A, 2, none⟩ = some (.int .i64 sz)) (by kernel_rfl) (fun hC => ?_) (HC.out _ (Wd.wds K1.out.drew) (K1.out.drew.blk 0 rfl))
  refine wpAnyT_takeP' 0 (by kernel_rfl) (fun _ _ _ h => h) (by assumption) (by rfl) (fun w => by simp only [List.getD_cons_zero]; go_simp; try with_reducible rfl) ?_
  try simp only [List.getD_cons_zero, Act.put, List.setIfInBounds_toArray, List.set_cons_zero, List.set_cons_succ]
  refine wpAnyT_takeP' 1 (by kernel_rfl) (fun _ _ _ h => h) (by assumption) (by rfl) (fun w => by simp only [List.getD_cons_succ, List.getD_cons_zero]; go_simp; try with_reducible rfl) ?_
  try simp only [List.getD_cons_succ, List.getD_cons_zero, Act.put, List.setIfInBounds_toArray, List.set_cons_zero, List.set_cons_succ]
  refine wpAnyT_takeP' 3 (by kernel_rfl) (fun _ _ _ h => h) (by assumption) (by rfl) (fun w => by simp only [List.getD_cons_succ, List.getD_cons_zero]; go_simp; try with_reducible rfl) ?_
  try simp only [List.getD_cons_succ, List.getD_cons_zero, Act.put, List.setIfInBounds_toArray, List.set_cons_zero, List.set_cons_succ]
  refine wpAnyT_takeM' 4 (by kernel_rfl) (fun _ _ _ h => h) (by assumption) (by rfl) (fun w hSw => by simp only [List.getD_cons_succ, List.getD_cons_zero]; (try dsimp only at hSw); go_simp; try with_reducible rfl) ?_
  try simp only [List.getD_cons_succ, List.getD_cons_zero, Act.put, List.setIfInBounds_toArray, List.set_cons_zero, List.set_cons_succ]
  refine wpAnyT_takeP' 5 (by kernel_rfl) (fun _ _ _ h => h) (by assumption) (by rfl) (fun w => by simp only [List.getD_cons_succ, List.getD_cons_zero]; go_simp; try with_reducible rfl) ?_
  try simp only [List.getD_cons_succ, List.getD_cons_zero, Act.put, List.setIfInBounds_toArray, List.set_cons_zero, List.set_cons_succ]
  refine wpAnyT_takeP' 6 (by kernel_rfl) (fun _ _ _ h => h) (by assumption) (by rfl) (fun w => by simp only [List.getD_cons_succ, List.getD_cons_zero]; go_simp; try with_reducible rfl) ?_
  try simp only [List.getD_cons_succ, List.getD_cons_zero, Act.put, List.setIfInBounds_toArray, List.set_cons_zero, List.set_cons_succ]
  refine wpAnyT_takeP' 7 (by kernel_rfl) (fun _ _ _ h => h) (by assumption) (by rfl) (fun w => by simp only [List.getD_cons_succ, List.getD_cons_zero]; go_simp; try with_reducible rfl) ?_
  try simp only [List.getD_cons_succ, List.getD_cons_zero, Act.put, List.setIfInBounds_toArray, List.set_cons_zero, List.set_cons_succ]
  refine wpAnyT_takeP' 8 (by kernel_rfl) (fun _ _ _ h => h) (by assumption) (by rfl) (fun w => by simp only [List.getD_cons_succ, List.getD_cons_zero]; go_simp; try with_reducible rfl) ?_
  try simp only [List.getD_cons_succ, List.getD_cons_zero, Act.put, List.setIfInBounds_toArray, List.set_cons_zero, List.set_cons_succ]
  refine wpAnyT_takeP' 9 (by kernel_rfl) (fun _ _ _ h => h) (by assumption) (by rfl) (fun w => by simp only [List.getD_cons_succ, List.getD_cons_zero]; go_simp; try with_reducible rfl) ?_
  try simp only [List.getD_cons_succ, List.getD_cons_zero, Act.put, List.setIfInBounds_toArray, List.set_cons_zero, List.set_cons_succ]
  refine wpAnyT_takeM' 10 (by kernel_rfl) (fun _ _ _ h => h) (by assumption) (by rfl) (fun w hSw => by simp only [List.getD_cons_succ, List.getD_cons_zero]; (try dsimp only at hSw); go_simp; try with_reducible rfl) ?_
  try simp only [List.getD_cons_succ, List.getD_cons_zero, Act.put, List.setIfInBounds_toArray, List.set_cons_zero, List.set_cons_succ]
  refine wpAnyT_two' 2 12 (by kernel_rfl) (by rfl) (by rfl) ?two2 ?two12
  all_goals intro K hK
  all_goals simp only [List.getD_cons_succ, List.getD_cons_zero]
  · go_simp
    have hwh := whandle (g := x.G f) (Wd.wds K1.out.drew) hf (Wd.cG _ hf)
    refine hwh.mono ?_
    rintro er W1 ⟨rfl, f1⟩
    have K2 := Lib.hid (K1.out.drew.same f1)
    have hC2 := HC.out _ (Wd.wds K2.out) (K2.out.blk 0 rfl)
    clear f1 K1 hC lb hwh
    refine hK.out _ _ hC2 ?_
    clear hK
    have hC := hC2
    clear hC2
    try simp only [Act.put, List.setIfInBounds_toArray, List.set_cons_zero, List.set_cons_succ]
    refine wpAnyT_takeP' 11 (by kernel_rfl) (fun _ _ _ h => h) (by assumption) (by rfl) (fun w => by simp only [List.getD_cons_succ, List.getD_cons_zero]; go_simp; try with_reducible rfl) ?_
    try simp only [List.getD_cons_succ, List.getD_cons_zero, Act.put, List.setIfInBounds_toArray, List.set_cons_zero, List.set_cons_succ]
    refine wpAnyT_one' 12 (by kernel_rfl) (by rfl) (fun K hK => ?_)
    simp only [List.getD_cons_succ, List.getD_cons_zero]
    go_simp
    have K3 := Lib.hid ((K2.out.alloc 34 (encP6 zerop6)).perm List.perm_append_comm)
    have hC2 := HC.out _ (Wd.wds (pre := [_, _]) K3.out) (K3.out.blk 1 rfl)
    refine hK.out _ _ hC2 ?_
    clear hK hC hC2 K2 HC
    try simp only [Act.put, List.setIfInBounds_toArray, List.set_cons_zero, List.set_cons_succ]
    refine wpAnyT_last 13 rfl (by kernel_rfl) ?_
    simp only [List.drop_succ_cons, List.drop_zero]
    have BP : Blk _ W1.heap.size 34 (encP6 zerop6) := K3.out.blk 0 rfl
    obtain ⟨P, hP⟩ : ∃ P, W1.heap.size = P := ⟨_, rfl⟩
    rw [hP] at K3 BP ⊢
    clear hP
    refine wpList_store_S rfl _ (.tmp 13) (.tmp 234) rfl P 0 34 (encP6 zerop6) (encP6 (x.pkt f z)) ?h1 ?h2 BP (by kernel_rfl) (by simp [encP6]) (fun u hu => one_p6 [x.pkt f z] u (by simpa using hu)) ?_
    case h1 => rfl
    case h2 => (go_simp; first | done | rfl)
    intro W4 b6 f6 z6
    have K4 := Lib.hid (K3.out.call1' 0 rfl (Sep.of_one (c := Chunk.blk P 34 (encP6 (x.pkt f z))) f6 b6 (Gr.refl _ _)))
    have K4 : Hid (Sep w (Chunks.bs x.chunks) W4 ([Chunk.blk P 34 (encP6 (x.pkt f z)), Chunk.blk A 45 [.int .i64 kd, .int .i64 fl, .int .i64 sz]] ++ (({ x with seq := x.seq + 1 } : Wd).wch ++ x.dr.chunks))) := K4
    clear b6 f6 z6 BP K3 hz
    have b0 := Wd.wds K4.out
    have c19 : W4.cell? ⟨x.b, 19, none⟩ = some (.int .i64 x.most) := b0.cell 19
    have z19 := b0.frz 19
    have lb := b0.lt
    have r3 : W4.cell? ⟨P, 3, none⟩ = some (.int .i64 z) := (K4.out.blk 0 rfl).cell 3
    have lP := (K4.out.blk 0 rfl).lt
    clear b0
    go_wp2
    rw [onlyN_normal]
    go_wp2
    refine wp_region_quiet_tail 10 (by kernel_rfl) (by kernel_rfl) ?_
    simp only [List.take_succ_cons, List.take_zero, List.drop_succ_cons, List.drop_zero]
    repeat (first | go_big_quiet_step (fail) | quiet_step (fail))
    refine wpQuiet_nil ?_
    rintro _ ⟨nq, rfl⟩
    have ks := Wd.put1 (y := { x with seq := x.seq + 1, most := max x.most z }) (K4.out.drewN nq) 19 (.int .i64 (max x.most z)) rfl rfl (fun _ => rfl)
    obtain ⟨W5, hW5⟩ : ∃ W5, (W4.drewN nq).setCell ⟨x.b, 19, none⟩ (.int .i64 (max x.most z)) = W5 := ⟨_, rfl⟩
    have K5 : Hid (Sep w (Chunks.bs x.chunks) W5 ([Chunk.blk P 34 (encP6 (x.pkt f z)), Chunk.blk A 45 [.int .i64 kd, .int .i64 fl, .int .i64 sz]] ++ (({ x with seq := x.seq + 1, most := max x.most z } : Wd).wch ++ x.dr.chunks))) := by rw [← hW5]; exact Lib.hid ks
    clear ks K4
    have R5 := Lib.hid (Wd.rowf K5.out hf)
    have b0 := Wd.wds K5.out
    have c5 : W5.cell? ⟨x.b, 5 + f, none⟩ = some (x.V f) := by rw [b0.cell]; exact Wd.cV _ hf
    have ld := b0.lt
    clear b0
    have hln : 0 + (x.L f).length ≤ 1000000 := by have := HH.out.len f hf; omega
    go_wp2_with (at_builtin; refine wpList_append_row rfl (.tmp 245) (.tmp 251) rfl (.slice none 0 0) 0 [] [] rfl (OwnS.nil _ _ _) (x.V f) (x.L f) (x.S f) rfl R5.out hln ?_; intro v6 W6 S6 o60 g6 f6; have o6 : OwnS W6 34 6 v6 (x.L f).length ((x.L f).flatMap encP6) S6 := (by simpa using o60); clear o60; obtain ⟨va6, vc6, rfl⟩ := o6.val; have K6 := Lib.hid ((K5.out.call0 (Sep.of_one0 (c := Chunk.own 34 6 (.slice va6 (x.L f).length vc6) _ _ S6) f6 o6 g6)).perm List.perm_append_comm); clear o6 g6 f6)
    clear hW5 c5 lb R5 K5 ld c19 z19 r3 lP
    have box : ∀ X : World, Blk X P 34 (encP6 (x.pkt f z)) → X.cell? ⟨P, 0, none⟩ = some (.int .i64 f) ∧ X.cell? ⟨P, 1, none⟩ = some (.int .i64 (x.G f)) ∧ X.cell? ⟨P, 2, none⟩ = some (.int .i64 0) ∧ X.cell? ⟨P, 3, none⟩ = some (.int .i64 z) ∧ X.cell? ⟨P, 4, none⟩ = some (.int .i64 (x.seq + 1)) ∧ X.cell? ⟨P, 5, none⟩ = some (.int .i64 0) := fun X h => ⟨h.cell 0, h.cell 1, h.cell 2, h.cell 3, h.cell 4, h.cell 5⟩
    have HB := Lib.hid box
    clear box
    have hC0 := HB.out _ (K6.out.drew.blk 1 rfl)
    have lP := (K6.out.blk 1 rfl).lt
    refine wp_T [9] (fun X => X.cell? ⟨P, 0, none⟩ = some (.int .i64 f) ∧ X.cell? ⟨P, 1, none⟩ = some (.int .i64 (x.G f)) ∧ X.cell? ⟨P, 2, none⟩ = some (.int .i64 0) ∧ X.cell? ⟨P, 3, none⟩ = some (.int .i64 z) ∧ X.cell? ⟨P, 4, none⟩ = some (.int .i64 (x.seq + 1)) ∧ X.cell? ⟨P, 5, none⟩ = some (.int .i64 0)) (by kernel_rfl) (fun hC => ?_) hC0
    clear hC0
    have hfi : (f : Int) < 4 := by omega
    refine wpAnyT_takeP' 0 (by kernel_rfl) (fun _ _ _ h => h) (by assumption) (by rfl) (fun w => by simp only [List.getD_cons_zero]; go_simp; try with_reducible rfl) ?_
    try simp only [List.getD_cons_zero, Act.put, List.setIfInBounds_toArray, List.set_cons_zero, List.set_cons_succ]
    refine wpAnyT_takeP' 1 (by kernel_rfl) (fun _ _ _ h => h) (by assumption) (by rfl) (fun w => by simp only [List.getD_cons_succ, List.getD_cons_zero]; go_simp; try with_reducible rfl) ?_
    try simp only [List.getD_cons_succ, List.getD_cons_zero, Act.put, List.setIfInBounds_toArray, List.set_cons_zero, List.set_cons_succ]
    refine wpAnyT_takeP' 2 (by kernel_rfl) (fun _ _ _ h => h) (by assumption) (by rfl) (fun w => by simp only [List.getD_cons_succ, List.getD_cons_zero]; go_simp; try with_reducible rfl) ?_
    try simp only [List.getD_cons_succ, List.getD_cons_zero, Act.put, List.setIfInBounds_toArray, List.set_cons_zero, List.set_cons_succ]
    refine wpAnyT_takeM' 3 (by kernel_rfl) (fun _ _ _ h => h) (by assumption) (by rfl) (fun w hSw => by simp only [List.getD_cons_succ, List.getD_cons_zero]; (try dsimp only at hSw); go_simp; try with_reducible rfl) ?_
    try simp only [List.getD_cons_succ, List.getD_cons_zero, Act.put, List.setIfInBounds_toArray, List.set_cons_zero, List.set_cons_succ]
    refine wpAnyT_takeP' 6 (by kernel_rfl) (fun _ _ _ h => h) (by assumption) (by rfl) (fun w => by simp only [List.getD_cons_succ, List.getD_cons_zero]; go_simp; try with_reducible rfl) ?_
    try simp only [List.getD_cons_succ, List.getD_cons_zero, Act.put, List.setIfInBounds_toArray, List.set_cons_zero, List.set_cons_succ]
    refine wpAnyT_takeP' 7 (by kernel_rfl) (fun _ _ _ h => h) (by assumption) (by rfl) (fun w => by simp only [List.getD_cons_succ, List.getD_cons_zero]; go_simp; try with_reducible rfl) ?_
    try simp only [List.getD_cons_succ, List.getD_cons_zero, Act.put, List.setIfInBounds_toArray, List.set_cons_zero, List.set_cons_succ]
    refine wpAnyT_one' 4 (by kernel_rfl) (by rfl) (fun K hK => ?_)
    simp only [List.getD_cons_succ, List.getD_cons_zero]
    go_simp
    have K7 := Lib.hid ((K6.out.alloc 34 (encP6 (x.pkt f z))).drew)
    have BN := Lib.hid ((Blk.new W6 34 (encP6 (x.pkt f z))).drew)
    have hC2 := HB.out _ (K7.out.blk 1 rfl)
    refine hK.out _ _ hC2 ?_
    clear hK hC hC2
    try simp only [Act.put, List.setIfInBounds_toArray, List.set_cons_zero, List.set_cons_succ]
    obtain ⟨NB, hNB⟩ : ∃ NB, W6.heap.size = NB := ⟨_, rfl⟩
    rw [hNB] at BN K7 ⊢
    clear hNB
    obtain ⟨Z7, hZ7⟩ : ∃ Z7, (W6.alloc (.cells (encP6 (x.pkt f z)).toArray 34)).drew = Z7 := ⟨_, rfl⟩
    rw [hZ7] at BN K7
    have hZ7' : (W6.alloc (.cells #[.int .i64 f, .int .i64 (x.G f), .int .i64 0, .int .i64 z, .int .i64 (x.seq + 1), .int .i64 0] 34)).drew = Z7 := hZ7
    rw [hZ7']
    have O7 : OwnS Z7 34 6 (.slice va6 (x.L f).length vc6) (x.L f).length ((x.L f).flatMap encP6) S6 := K7.out.get (i := 0) rfl
    clear hZ7 hZ7' K6
    refine wpAnyT_one' 5 (by kernel_rfl) (by rfl) (fun K hK => ?_)
    simp only [List.getD_cons_succ, List.getD_cons_zero]
    obtain ⟨i0, hi, hzz0, hzz1, hzz2⟩ := info_parts infop6
    refine oper_append_S _ (.tmp 255) (.tmp 257) 49 rfl 34 i0 (.agg #[.int .i64 0, .int .i64 0, .int .i64 0, .int .i64 0, .int .i64 0, .int .i64 0]) 6 48 Try.underlying49 hi hzz0 hzz1 hzz2 rfl _ _ _ _ rfl O7 ⟨NB, 0, none⟩ 1 1 (encP6 (x.pkt f z)) rfl rfl BN.out.news (fun u hu => one_p6 [x.pkt f z] u (by simpa using hu)) (by unfold maxLen; omega) (by omega) ?_
    intro v8 W8 S8 o80 g8 f8
    have o8 : OwnS W8 34 6 v8 ((x.L f).length + 1) ((x.L f ++ [x.pkt f z]).flatMap encP6) S8 := by rw [List.flatMap_append]; simpa using o80
    have K8 := Lib.hid ((K7.out.call1' 0 rfl (Sep.of_one (c := Chunk.own 34 6 v8 _ _ S8) f8 o8 g8)).sub (List.sublist_append_left ([Chunk.own 34 6 v8 ((x.L f).length + 1) ((x.L f ++ [x.pkt f z]).flatMap encP6) S8] ++ ([Chunk.blk P 34 (encP6 (x.pkt f z)), Chunk.blk A 45 [.int .i64 kd, .int .i64 fl, .int .i64 sz]] ++ (({ x with seq := x.seq + 1, most := max x.most z } : Wd).wch ++ x.dr.chunks))) _))
    obtain ⟨va8, vc8, rfl⟩ := o8.val
    have hC2 := HB.out _ (K8.out.blk 1 rfl)
    refine hK.out _ _ hC2 ?_
    clear hK o80 o8 g8 f8 K7 O7 BN HB lP
    have K9 : Hid (Sep w (Chunks.bs x.chunks) W8 ((Chunk.own 34 6 (.slice va8 ((x.L f).length + 1) vc8) ((x.L f).length + 1) ((x.L f ++ [x.pkt f z]).flatMap encP6) S8 :: [Chunk.blk P 34 (encP6 (x.pkt f z)), Chunk.blk A 45 [.int .i64 kd, .int .i64 fl, .int .i64 sz]]) ++ (({ x with seq := x.seq + 1, most := max x.most z } : Wd).wch ++ x.dr.chunks))) := K8
    clear K8
    try simp only [Act.put, List.setIfInBounds_toArray, List.set_cons_zero, List.set_cons_succ]
    refine wpAnyT_takeP' 8 (by kernel_rfl) (fun _ _ _ h => h) (by assumption) (by rfl) (fun w => by simp only [List.getD_cons_succ, List.getD_cons_zero]; go_simp; try with_reducible rfl) ?_
    try simp only [List.getD_cons_succ, List.getD_cons_zero, Act.put, List.setIfInBounds_toArray, List.set_cons_zero, List.set_cons_succ]
    refine wpAnyT_last 9 rfl (by kernel_rfl) ?_
    simp only [List.drop_succ_cons, List.drop_zero]
    clear hC2
    have b0 := Wd.wds K9.out
    have c5 : W8.cell? ⟨x.b, 5 + f, none⟩ = some (x.V f) := by rw [b0.cell]; exact Wd.cV _ hf
    have z5 : W8.frozen? ⟨x.b, 5 + f, none⟩ = false := b0.frz (5 + f)
    have lb : x.b < W8.heap.size := b0.lt
    clear b0
    have ks := Wd.putNew K9.out hf
    obtain ⟨W9, hW9⟩ : ∃ W9, W8.setCell ⟨x.b, 5 + f, none⟩ (.slice va8 ((x.L f).length + 1) vc8) = W9 := ⟨_, rfl⟩
    have K10 : Hid (Sep w (Chunks.bs x.chunks) W9 ([Chunk.blk P 34 (encP6 (x.pkt f z)), Chunk.blk A 45 [.int .i64 kd, .int .i64 fl, .int .i64 sz]] ++ (({ x with seq := x.seq + 1, most := max x.most z, V := upd x.V f (.slice va8 ((x.L f).length + 1) vc8), L := upd x.L f (x.L f ++ [x.pkt f z]), S := upd x.S f S8 } : Wd).wch ++ x.dr.chunks))) := by rw [← hW9]; exact Lib.hid ks
    clear ks K9
    go_wp2
    rw [onlyN_normal]
    go_wp2_with fail
    clear hW9 c5 z5 lb
    have b0 := Wd.wds K10.out
    have c0 : W9.cell? ⟨x.b, 0, none⟩ = some (.pointer (some ⟨x.db, 0, none⟩)) := b0.cell 0
    have lb : x.b < W9.heap.size := b0.lt
    have BP : Blk W9 P 34 (encP6 (x.pkt f z)) := K10.out.blk 0 rfl
    have k0 : W9.cell? ⟨P, 0, none⟩ = some (.int .i64 f) := BP.cell 0
    have k1 : W9.cell? ⟨P, 1, none⟩ = some (.int .i64 (x.G f)) := BP.cell 1
    have k2 : W9.cell? ⟨P, 2, none⟩ = some (.int .i64 0) := BP.cell 2
    have k3 : W9.cell? ⟨P, 3, none⟩ = some (.int .i64 z) := BP.cell 3
    have k4 : W9.cell? ⟨P, 4, none⟩ = some (.int .i64 (x.seq + 1)) := BP.cell 4
    have k5 : W9.cell? ⟨P, 5, none⟩ = some (.int .i64 0) := BP.cell 5
    have lP := BP.lt
    clear b0 BP
    refine wp_region_quiet_tail 5 (by kernel_rfl) (by kernel_rfl) ?_
    simp only [List.take_succ_cons, List.take_zero, List.drop_succ_cons, List.drop_zero]
    repeat (first | go_big_quiet_step (fail) | quiet_step (fail))
    refine wpQuiet_nil ?_
    rintro _ ⟨nq, rfl⟩
    go_wp2_with fail
    refine (x_admit HH.out (K10.out.drewN nq).hs.right.right hf hz1 hz2).mono ?_
    rintro er W10 ⟨rfl, rds, ds, k11⟩
    have K11 := Lib.hid (Sep.outbox2 (K10.out.drewN nq) k11)
    clear k11 K10 k0 k1 k2 k3 k4 k5 c0 lb lP
    go_wp2
    go_ret
    refine ⟨rfl, x.put f z rds ds (.slice va8 ((x.L f).length + 1) vc8) S8, rfl, HH.out.put hf hz1 hz2 hN _ _ _ _, rfl, ?_⟩
    exact K11.out
  · go_simp
    have K2 := Lib.hid (((K1.out.alloc 34 (encP6 zerop6)).drew).perm List.perm_append_comm)
    have hC2 := HC.out _ (Wd.wds (pre := [_, _]) K2.out) (K2.out.blk 1 rfl)
    refine hK.out _ _ hC2 ?_
    clear hK hC lb
    have hC := hC2
    clear hC2
    try simp only [Act.put, List.setIfInBounds_toArray, List.set_cons_zero, List.set_cons_succ]
    refine wpAnyT_one' 2 (by kernel_rfl) (by rfl) (fun K hK => ?_)
    simp only [List.getD_cons_succ, List.getD_cons_zero]
    go_simp
    have hwh := whandle (g := x.G f) (Wd.wds (pre := [_, _]) K2.out) hf (Wd.cG _ hf)
    refine hwh.mono ?_
    rintro er W1 ⟨rfl, f1⟩
    have K3 := Lib.hid (K2.out.same f1)
    have hC2 := HC.out _ (Wd.wds (pre := [_, _]) K3.out) (K3.out.blk 1 rfl)
    refine hK.out _ _ hC2 ?_
    clear hK hC f1 K1 K2 HC hwh
    try simp only [Act.put, List.setIfInBounds_toArray, List.set_cons_zero, List.set_cons_succ]
    refine wpAnyT_takeP' 11 (by kernel_rfl) (fun _ _ _ h => h) (by assumption) (by rfl) (fun w => by simp only [List.getD_cons_succ, List.getD_cons_zero]; go_simp; try with_reducible rfl) ?_
    try simp only [List.getD_cons_succ, List.getD_cons_zero, Act.put, List.setIfInBounds_toArray, List.set_cons_zero, List.set_cons_succ]
    refine wpAnyT_last 13 rfl (by kernel_rfl) ?_
    simp only [List.drop_succ_cons, List.drop_zero]
    clear hC2
    have BP : Blk W1 W0.heap.size 34 (encP6 zerop6) := K3.out.blk 0 rfl
    obtain ⟨P, hP⟩ : ∃ P, W0.heap.size = P := ⟨_, rfl⟩
    rw [hP] at K3 BP ⊢
    clear hP
    refine wpList_store_S rfl _ (.tmp 13) (.tmp 234) rfl P 0 34 (encP6 zerop6) (encP6 (x.pkt f z)) ?h1 ?h2 BP (by kernel_rfl) (by simp [encP6]) (fun u hu => one_p6 [x.pkt f z] u (by simpa using hu)) ?_
    case h1 => rfl
    case h2 => (go_simp; first | done | rfl)
    intro W4 b6 f6 z6
    have K4 := Lib.hid (K3.out.call1' 0 rfl (Sep.of_one (c := Chunk.blk P 34 (encP6 (x.pkt f z))) f6 b6 (Gr.refl _ _)))
    have K4 : Hid (Sep w (Chunks.bs x.chunks) W4 ([Chunk.blk P 34 (encP6 (x.pkt f z)), Chunk.blk A 45 [.int .i64 kd, .int .i64 fl, .int .i64 sz]] ++ (({ x with seq := x.seq + 1 } : Wd).wch ++ x.dr.chunks))) := K4
    clear b6 f6 z6 BP K3 hz
    have b0 := Wd.wds K4.out
    have c19 : W4.cell? ⟨x.b, 19, none⟩ = some (.int .i64 x.most) := b0.cell 19
    have z19 := b0.frz 19
    have lb := b0.lt
    have r3 : W4.cell? ⟨P, 3, none⟩ = some (.int .i64 z) := (K4.out.blk 0 rfl).cell 3
    have lP := (K4.out.blk 0 rfl).lt
    clear b0
    go_wp2
    rw [onlyN_normal]
    go_wp2
    refine wp_region_quiet_tail 10 (by kernel_rfl) (by kernel_rfl) ?_
    simp only [List.take_succ_cons, List.take_zero, List.drop_succ_cons, List.drop_zero]
    repeat (first | go_big_quiet_step (fail) | quiet_step (fail))
    refine wpQuiet_nil ?_
    rintro _ ⟨nq, rfl⟩
    have ks := Wd.put1 (y := { x with seq := x.seq + 1, most := max x.most z }) (K4.out.drewN nq) 19 (.int .i64 (max x.most z)) rfl rfl (fun _ => rfl)
    obtain ⟨W5, hW5⟩ : ∃ W5, (W4.drewN nq).setCell ⟨x.b, 19, none⟩ (.int .i64 (max x.most z)) = W5 := ⟨_, rfl⟩
    have K5 : Hid (Sep w (Chunks.bs x.chunks) W5 ([Chunk.blk P 34 (encP6 (x.pkt f z)), Chunk.blk A 45 [.int .i64 kd, .int .i64 fl, .int .i64 sz]] ++ (({ x with seq := x.seq + 1, most := max x.most z } : Wd).wch ++ x.dr.chunks))) := by rw [← hW5]; exact Lib.hid ks
    clear ks K4
    have R5 := Lib.hid (Wd.rowf K5.out hf)
    have b0 := Wd.wds K5.out
    have c5 : W5.cell? ⟨x.b, 5 + f, none⟩ = some (x.V f) := by rw [b0.cell]; exact Wd.cV _ hf
    have ld := b0.lt
    clear b0
    have hln : 0 + (x.L f).length ≤ 1000000 := by have := HH.out.len f hf; omega
    go_wp2_with (at_builtin; refine wpList_append_row rfl (.tmp 245) (.tmp 251) rfl (.slice none 0 0) 0 [] [] rfl (OwnS.nil _ _ _) (x.V f) (x.L f) (x.S f) rfl R5.out hln ?_; intro v6 W6 S6 o60 g6 f6; have o6 : OwnS W6 34 6 v6 (x.L f).length ((x.L f).flatMap encP6) S6 := (by simpa using o60); clear o60; obtain ⟨va6, vc6, rfl⟩ := o6.val; have K6 := Lib.hid ((K5.out.call0 (Sep.of_one0 (c := Chunk.own 34 6 (.slice va6 (x.L f).length vc6) _ _ S6) f6 o6 g6)).perm List.perm_append_comm); clear o6 g6 f6)
    clear hW5 c5 lb R5 K5 ld c19 z19 r3 lP
    have box : ∀ X : World, Blk X P 34 (encP6 (x.pkt f z)) → X.cell? ⟨P, 0, none⟩ = some (.int .i64 f) ∧ X.cell? ⟨P, 1, none⟩ = some (.int .i64 (x.G f)) ∧ X.cell? ⟨P, 2, none⟩ = some (.int .i64 0) ∧ X.cell? ⟨P, 3, none⟩ = some (.int .i64 z) ∧ X.cell? ⟨P, 4, none⟩ = some (.int .i64 (x.seq + 1)) ∧ X.cell? ⟨P, 5, none⟩ = some (.int .i64 0) := fun X h => ⟨h.cell 0, h.cell 1, h.cell 2, h.cell 3, h.cell 4, h.cell 5⟩
    have HB := Lib.hid box
    clear box
    have hC0 := HB.out _ (K6.out.drew.blk 1 rfl)
    have lP := (K6.out.blk 1 rfl).lt
    refine wp_T [9] (fun X => X.cell? ⟨P, 0, none⟩ = some (.int .i64 f) ∧ X.cell? ⟨P, 1, none⟩ = some (.int .i64 (x.G f)) ∧ X.cell? ⟨P, 2, none⟩ = some (.int .i64 0) ∧ X.cell? ⟨P, 3, none⟩ = some (.int .i64 z) ∧ X.cell? ⟨P, 4, none⟩ = some (.int .i64 (x.seq + 1)) ∧ X.cell? ⟨P, 5, none⟩ = some (.int .i64 0)) (by kernel_rfl) (fun hC => ?_) hC0
    clear hC0
    have hfi : (f : Int) < 4 := by omega
    refine wpAnyT_takeP' 0 (by kernel_rfl) (fun _ _ _ h => h) (by assumption) (by rfl) (fun w => by simp only [List.getD_cons_zero]; go_simp; try with_reducible rfl) ?_
    try simp only [List.getD_cons_zero, Act.put, List.setIfInBounds_toArray, List.set_cons_zero, List.set_cons_succ]
    refine wpAnyT_takeP' 1 (by kernel_rfl) (fun _ _ _ h => h) (by assumption) (by rfl) (fun w => by simp only [List.getD_cons_succ, List.getD_cons_zero]; go_simp; try with_reducible rfl) ?_
    try simp only [List.getD_cons_succ, List.getD_cons_zero, Act.put, List.setIfInBounds_toArray, List.set_cons_zero, List.set_cons_succ]
    refine wpAnyT_takeP' 2 (by kernel_rfl) (fun _ _ _ h => h) (by assumption) (by rfl) (fun w => by simp only [List.getD_cons_succ, List.getD_cons_zero]; go_simp; try with_reducible rfl) ?_
    try simp only [List.getD_cons_succ, List.getD_cons_zero, Act.put, List.setIfInBounds_toArray, List.set_cons_zero, List.set_cons_succ]
    refine wpAnyT_takeM' 3 (by kernel_rfl) (fun _ _ _ h => h) (by assumption) (by rfl) (fun w hSw => by simp only [List.getD_cons_succ, List.getD_cons_zero]; (try dsimp only at hSw); go_simp; try with_reducible rfl) ?_
    try simp only [List.getD_cons_succ, List.getD_cons_zero, Act.put, List.setIfInBounds_toArray, List.set_cons_zero, List.set_cons_succ]
    refine wpAnyT_takeP' 6 (by kernel_rfl) (fun _ _ _ h => h) (by assumption) (by rfl) (fun w => by simp only [List.getD_cons_succ, List.getD_cons_zero]; go_simp; try with_reducible rfl) ?_
    try simp only [List.getD_cons_succ, List.getD_cons_zero, Act.put, List.setIfInBounds_toArray, List.set_cons_zero, List.set_cons_succ]
    refine wpAnyT_takeP' 7 (by kernel_rfl) (fun _ _ _ h => h) (by assumption) (by rfl) (fun w => by simp only [List.getD_cons_succ, List.getD_cons_zero]; go_simp; try with_reducible rfl) ?_
    try simp only [List.getD_cons_succ, List.getD_cons_zero, Act.put, List.setIfInBounds_toArray, List.set_cons_zero, List.set_cons_succ]
    refine wpAnyT_one' 4 (by kernel_rfl) (by rfl) (fun K hK => ?_)
    simp only [List.getD_cons_succ, List.getD_cons_zero]
    go_simp
    have K7 := Lib.hid ((K6.out.alloc 34 (encP6 (x.pkt f z))).drew)
    have BN := Lib.hid ((Blk.new W6 34 (encP6 (x.pkt f z))).drew)
    have hC2 := HB.out _ (K7.out.blk 1 rfl)
    refine hK.out _ _ hC2 ?_
    clear hK hC hC2
    try simp only [Act.put, List.setIfInBounds_toArray, List.set_cons_zero, List.set_cons_succ]
    obtain ⟨NB, hNB⟩ : ∃ NB, W6.heap.size = NB := ⟨_, rfl⟩
    rw [hNB] at BN K7 ⊢
    clear hNB
    obtain ⟨Z7, hZ7⟩ : ∃ Z7, (W6.alloc (.cells (encP6 (x.pkt f z)).toArray 34)).drew = Z7 := ⟨_, rfl⟩
    rw [hZ7] at BN K7
    have hZ7' : (W6.alloc (.cells #[.int .i64 f, .int .i64 (x.G f), .int .i64 0, .int .i64 z, .int .i64 (x.seq + 1), .int .i64 0] 34)).drew = Z7 := hZ7
    rw [hZ7']
    have O7 : OwnS Z7 34 6 (.slice va6 (x.L f).length vc6) (x.L f).length ((x.L f).flatMap encP6) S6 := K7.out.get (i := 0) rfl
    clear hZ7 hZ7' K6
    refine wpAnyT_one' 5 (by kernel_rfl) (by rfl) (fun K hK => ?_)
    simp only [List.getD_cons_succ, List.getD_cons_zero]
    obtain ⟨i0, hi, hzz0, hzz1, hzz2⟩ := info_parts infop6
    refine oper_append_S _ (.tmp 255) (.tmp 257) 49 rfl 34 i0 (.agg #[.int .i64 0, .int .i64 0, .int .i64 0, .int .i64 0, .int .i64 0, .int .i64 0]) 6 48 Try.underlying49 hi hzz0 hzz1 hzz2 rfl _ _ _ _ rfl O7 ⟨NB, 0, none⟩ 1 1 (encP6 (x.pkt f z)) rfl rfl BN.out.news (fun u hu => one_p6 [x.pkt f z] u (by simpa using hu)) (by unfold maxLen; omega) (by omega) ?_
    intro v8 W8 S8 o80 g8 f8
    have o8 : OwnS W8 34 6 v8 ((x.L f).length + 1) ((x.L f ++ [x.pkt f z]).flatMap encP6) S8 := by rw [List.flatMap_append]; simpa using o80
    have K8 := Lib.hid ((K7.out.call1' 0 rfl (Sep.of_one (c := Chunk.own 34 6 v8 _ _ S8) f8 o8 g8)).sub (List.sublist_append_left ([Chunk.own 34 6 v8 ((x.L f).length + 1) ((x.L f ++ [x.pkt f z]).flatMap encP6) S8] ++ ([Chunk.blk P 34 (encP6 (x.pkt f z)), Chunk.blk A 45 [.int .i64 kd, .int .i64 fl, .int .i64 sz]] ++ (({ x with seq := x.seq + 1, most := max x.most z } : Wd).wch ++ x.dr.chunks))) _))
    obtain ⟨va8, vc8, rfl⟩ := o8.val
    have hC2 := HB.out _ (K8.out.blk 1 rfl)
    refine hK.out _ _ hC2 ?_
    clear hK o80 o8 g8 f8 K7 O7 BN HB lP
    have K9 : Hid (Sep w (Chunks.bs x.chunks) W8 ((Chunk.own 34 6 (.slice va8 ((x.L f).length + 1) vc8) ((x.L f).length + 1) ((x.L f ++ [x.pkt f z]).flatMap encP6) S8 :: [Chunk.blk P 34 (encP6 (x.pkt f z)), Chunk.blk A 45 [.int .i64 kd, .int .i64 fl, .int .i64 sz]]) ++ (({ x with seq := x.seq + 1, most := max x.most z } : Wd).wch ++ x.dr.chunks))) := K8
    clear K8
    try simp only [Act.put, List.setIfInBounds_toArray, List.set_cons_zero, List.set_cons_succ]
    refine wpAnyT_takeP' 8 (by kernel_rfl) (fun _ _ _ h => h) (by assumption) (by rfl) (fun w => by simp only [List.getD_cons_succ, List.getD_cons_zero]; go_simp; try with_reducible rfl) ?_
    try simp only [List.getD_cons_succ, List.getD_cons_zero, Act.put, List.setIfInBounds_toArray, List.set_cons_zero, List.set_cons_succ]
    refine wpAnyT_last 9 rfl (by kernel_rfl) ?_
    simp only [List.drop_succ_cons, List.drop_zero]
    clear hC2
    have b0 := Wd.wds K9.out
    have c5 : W8.cell? ⟨x.b, 5 + f, none⟩ = some (x.V f) := by rw [b0.cell]; exact Wd.cV _ hf
    have z5 : W8.frozen? ⟨x.b, 5 + f, none⟩ = false := b0.frz (5 + f)
    have lb : x.b < W8.heap.size := b0.lt
    clear b0
    have ks := Wd.putNew K9.out hf
    obtain ⟨W9, hW9⟩ : ∃ W9, W8.setCell ⟨x.b, 5 + f, none⟩ (.slice va8 ((x.L f).length + 1) vc8) = W9 := ⟨_, rfl⟩
    have K10 : Hid (Sep w (Chunks.bs x.chunks) W9 ([Chunk.blk P 34 (encP6 (x.pkt f z)), Chunk.blk A 45 [.int .i64 kd, .int .i64 fl, .int .i64 sz]] ++ (({ x with seq := x.seq + 1, most := max x.most z, V := upd x.V f (.slice va8 ((x.L f).length + 1) vc8), L := upd x.L f (x.L f ++ [x.pkt f z]), S := upd x.S f S8 } : Wd).wch ++ x.dr.chunks))) := by rw [← hW9]; exact Lib.hid ks
    clear ks K9
    go_wp2
    rw [onlyN_normal]
    go_wp2_with fail
    clear hW9 c5 z5 lb
    have b0 := Wd.wds K10.out
    have c0 : W9.cell? ⟨x.b, 0, none⟩ = some (.pointer (some ⟨x.db, 0, none⟩)) := b0.cell 0
    have lb : x.b < W9.heap.size := b0.lt
    have BP : Blk W9 P 34 (encP6 (x.pkt f z)) := K10.out.blk 0 rfl
    have k0 : W9.cell? ⟨P, 0, none⟩ = some (.int .i64 f) := BP.cell 0
    have k1 : W9.cell? ⟨P, 1, none⟩ = some (.int .i64 (x.G f)) := BP.cell 1
    have k2 : W9.cell? ⟨P, 2, none⟩ = some (.int .i64 0) := BP.cell 2
    have k3 : W9.cell? ⟨P, 3, none⟩ = some (.int .i64 z) := BP.cell 3
    have k4 : W9.cell? ⟨P, 4, none⟩ = some (.int .i64 (x.seq + 1)) := BP.cell 4
    have k5 : W9.cell? ⟨P, 5, none⟩ = some (.int .i64 0) := BP.cell 5
    have lP := BP.lt
    clear b0 BP
    refine wp_region_quiet_tail 5 (by kernel_rfl) (by kernel_rfl) ?_
    simp only [List.take_succ_cons, List.take_zero, List.drop_succ_cons, List.drop_zero]
    repeat (first | go_big_quiet_step (fail) | quiet_step (fail))
    refine wpQuiet_nil ?_
    rintro _ ⟨nq, rfl⟩
    go_wp2_with fail
    refine (x_admit HH.out (K10.out.drewN nq).hs.right.right hf hz1 hz2).mono ?_
    rintro er W10 ⟨rfl, rds, ds, k11⟩
    have K11 := Lib.hid (Sep.outbox2 (K10.out.drewN nq) k11)
    clear k11 K10 k0 k1 k2 k3 k4 k5 c0 lb lP
    go_wp2
    go_ret
    refine ⟨rfl, x.put f z rds ds (.slice va8 ((x.L f).length + 1) vc8) S8, rfl, HH.out.put hf hz1 hz2 hN _ _ _ _, rfl, ?_⟩
    exact K11.out
end Go.Proofs.Yteojodcdehkejaa
/- The moves of the law's world, all kinds. -/
namespace Go.Proofs.Yteojodcdehkejaa
open Go Go.RowKit

def MvR (kd fl sz : Int) (x x' : Wd) : Prop :=
  ∃ f : Nat, f < 4 ∧ bits .and .i64 fl 3 = (f : Int) ∧ ((kd = 1 ∧ NxR x x') ∨ (kd = 2 ∧ EvR x x' f) ∨ (kd = 3 ∧ x'.dat = (x.anew f).dat) ∨
    ((kd ≠ 1 ∧ kd ≠ 2 ∧ kd ≠ 3) ∧ ∃ z : Int, wrap64 (bits .and .i64 sz 1023 + 1) = z ∧ 1 ≤ z ∧ z ≤ 1024 ∧ x'.dat = (x.put f z [] [] (.slice none 0 0) []).dat))
theorem Moved.imp {R R' : Wd → Prop} {x : Wd} {N : Nat} {w w' : World} {e : Ending} (h : Moved R x N w e w') (hR : ∀ x', R x' → R' x') : Moved R' x N w e w' := by
  obtain ⟨he, x', h1, h2, h3, h4⟩ := h
  exact ⟨he, x', hR x' h1, h2, h3, h4⟩
theorem mv {w : World} {x : Wd} {N : Nat} (h : Wf x N) (hN : N + 1 ≤ 1000000) (K : Holds w x.chunks) (kd fl sz : Int) :
    Calls Try.prog 17 #[.pointer (some ⟨x.b, 0, none⟩), .agg #[.int .i64 kd, .int .i64 fl, .int .i64 sz]] w (Moved (MvR kd fl sz x) x N w) := by
  obtain ⟨f, he, hf⟩ := and_range fl 3 (by omega)
  have hf4 : f < 4 := by omega
  by_cases h1 : kd = 1
  · subst h1
    by_cases hr : x.ring = []
    · exact (mv1_no h hN K fl sz hf4 he hr).mono fun e w' hm => hm.imp fun x' hx => ⟨f, hf4, he, .inl ⟨rfl, hx⟩⟩
    · exact (mv1_yes h hN K fl sz hf4 he hr).mono fun e w' hm => hm.imp fun x' hx => ⟨f, hf4, he, .inl ⟨rfl, hx⟩⟩
  · by_cases h2 : kd = 2
    · subst h2
      exact (mv2 h hN K fl sz hf4 he).mono fun e w' hm => hm.imp fun x' hx => ⟨f, hf4, he, .inr (.inl ⟨rfl, hx⟩)⟩
    · by_cases h3 : kd = 3
      · subst h3
        exact (mv3 h hN K fl sz hf4 he).mono fun e w' hm => hm.imp fun x' hx => ⟨f, hf4, he, .inr (.inr (.inl ⟨rfl, hx⟩))⟩
      · obtain ⟨z, hz, hz1, hz2⟩ := and_up sz 1023 (by omega)
        exact (mv0 h hN K kd fl sz h1 h2 h3 hf4 he (z := z) hz (by omega) (by omega)).mono fun e w' hm => hm.imp fun x' hx => ⟨f, hf4, he, .inr (.inr (.inr ⟨⟨h1, h2, h3⟩, z, hz, by omega, by omega, hx⟩))⟩
end Go.Proofs.Yteojodcdehkejaa
/- The law's world of four flows: open. -/
namespace Go.Proofs.Yteojodcdehkejaa
open Go Go.RowKit
attribute [local go_sem] calmQ_normal wide_fn wide_depth Oper.semAt_some run_store_func

/-- a world whose first j flows are open, nothing queued -/
def Wd.fresh (b db : Nat) (fv : Value) (fS : List Nat) (rb : Nat) (j : Nat) (Q : Nat → Int) (G : Nat → Int) (B R : Nat → Nat) : Wd :=
  { b := b, db := db, fv := fv, fS := fS, rb := rb, rds := [], B := B, R := R, DS := fun _ => [], sl := List.range j, ring := [], turn := false, seq := 0, Q := Q, G := G, df := fun _ => 0, sent := fun _ => 0, L := fun _ => [], V := fun _ => .slice none 0 0, S := fun _ => [], told := 0, most := 0, bf := fun _ => 0 }
theorem fresh_wf {b db : Nat} {fv : Value} {fS : List Nat} {rb : Nat} {Q G : Nat → Int} {B R : Nat → Nat} (hQ : ∀ f, f < 4 → 1 ≤ Q f ∧ Q f ≤ 1000) (hG : ∀ f, f < 4 → G f = 1) : Wf (Wd.fresh b db fv fS rb 4 Q G B R) 0 := by
  refine { sl := ?_, nd := ?_, mem := fun s => ?_, turn := fun e => ?_, q := hQ, d0 := fun s _ => ?_, dn := fun s _ _ => rfl, dh := fun s hs => ?_, ds := fun s hs => ?_, pk := fun s _ p hp => ?_, mo := ?_, len := fun s _ => ?_, sq := ?_, tl := ?_, g := fun s hs => ?_, se := fun s _ => ?_, N := ?_ }
  · exact List.Perm.refl _
  · exact List.nodup_nil
  · show s ∈ [] ↔ s < 4 ∧ ([] : List P6) ≠ []
    simp
  · cases e
  · exact Int.le_refl _
  · cases hs.1
  · cases hs
  · cases hp
  · exact ⟨Int.le_refl _, by show (0 : Int) ≤ _; omega⟩
  · exact Nat.le_refl _
  · exact ⟨Int.le_refl _, by show (0 : Int) ≤ _; omega⟩
  · exact ⟨Int.le_refl _, by show (0 : Int) ≤ _; omega⟩
  · have := hG s hs
    show 1 ≤ G s ∧ G s ≤ _
    omega
  · exact ⟨Int.le_refl _, by show (0 : Int) ≤ _; omega⟩
  · omega
theorem perm_open {α : Type} (a b r0 r1 r2 r3 : α) (D : List α) : (([a] ++ D) ++ [b] ++ [r0, r1, r2, r3]).Perm ([a] ++ ([b, r0, r1, r2, r3] ++ D)) := by
  classical
  rw [List.perm_iff_count]
  intro x
  simp only [List.count_append, List.count_cons, List.count_nil]
  omega
theorem rows_nil (w : World) : Sep w [] w [Chunk.row (.slice none 0 0) [] [], Chunk.row (.slice none 0 0) [] [], Chunk.row (.slice none 0 0) [] [], Chunk.row (.slice none 0 0) [] []] := by
  refine ⟨Fr.refl _ _, ⟨fun c hc => ?_, ?_⟩, fun b hb => ?_⟩
  · have : c = Chunk.row (.slice none 0 0) [] [] := by simpa using hc
    subst this
    exact RowS.nil w
  · have : ∀ c d : Chunk, c = Chunk.row (.slice none 0 0) [] [] → ∀ b, b ∈ c.bs → b ∉ d.bs := fun c d e b hb => by subst e; cases hb
    have h2 := this _ (Chunk.row (.slice none 0 0) [] []) rfl
    simp only [List.pairwise_cons, List.mem_cons, List.not_mem_nil, or_false]
    refine ⟨?_, ?_, ?_, ?_, List.Pairwise.nil⟩ <;> (intro d hd b hb; cases hb)
  · simp [Chunks.bs, Chunk.row] at hb
/-- a quantum -/
theorem quant (q : Int) : ∃ r : Nat, bits .and .i64 q 1099511627775 = (r : Int) ∧ r ≤ 1099511627775 := and_range q 1099511627775 (by omega)
theorem fresh_dr {b db : Nat} {fv : Value} {fS : List Nat} {rb j : Nat} {Q G : Nat → Int} {B R : Nat → Nat} (q : Int) : (Wd.fresh b db fv fS rb j Q G B R).dr = (Wd.fresh b db fv fS rb j (upd Q j q) (upd G j 1) B R).dr := by
  refine Dr.ext' rfl rfl rfl ?_ rfl rfl rfl rfl rfl rfl rfl
  show (List.range j).map _ = (List.range j).map _
  refine List.map_congr_left fun s hs => ?_
  have : s ≠ j := by have := List.mem_range.1 hs; omega
  simp only [Wd.fl, Wd.fresh, upd_ne _ _ this]
theorem fresh_join {w : World} {b db : Nat} {fv : Value} {fS : List Nat} {rb j : Nat} {Q G : Nat → Int} {B R : Nat → Nat} {q : Int} (hj : j < 4) (hq : 1 ≤ q ∧ q ≤ 1000) (hw : Holds w (Wd.fresh b db fv fS rb j (upd Q j q) (upd G j 1) B R).dr.chunks) (a2 a3 a4 a5 a6 a7 : Value) (t : Int) :
    Calls Try.prog 12 #[.pointer (some ⟨db, 0, none⟩), .agg #[.int .i64 j, .int .i64 1], .agg #[.int .i64 1, .int .i64 q, a2, a3, a4, a5, a6, a7], .int .i64 t] w fun e w' => e = .returned (.int .i64 0) ∧
      ∃ fv' fS' b' r', Sep w (Chunks.bs (Wd.fresh b db fv fS rb j (upd Q j q) (upd G j 1) B R).dr.chunks) w' (Wd.fresh b db fv' fS' rb (j + 1) (upd Q j q) (upd G j 1) (upd B j b') (upd R j r')).dr.chunks := by
  refine (djoin hw j 1 1 q a2 a3 a4 a5 a6 a7 t (fun k g hg e => ?_) ?_).mono ?_
  · obtain ⟨s, hs, rfl⟩ := List.mem_map.1 (show g ∈ (List.range j).map _ from List.mem_of_getElem? hg)
    have := List.mem_range.1 hs
    have e' : (s : Int) = j := e
    omega
  · show ((List.range j).map _).length ≤ _
    simp; omega
  · rintro e w' ⟨he, fv', fS', b', r', hs⟩
    refine ⟨he, fv', fS', b', r', ?_⟩
    refine (congrArg (fun d => Sep w (Chunks.bs (Wd.fresh b db fv fS rb j (upd Q j q) (upd G j 1) B R).dr.chunks) w' (Dr.chunks d)) ?_).mp hs
    refine Dr.ext' rfl rfl rfl ?_ rfl rfl rfl rfl rfl rfl rfl
    show (List.range j).map _ ++ [_] = (List.range (j + 1)).map _
    rw [List.range_succ, List.map_append]
    congr 1
    · refine List.map_congr_left fun s hs => ?_
      have : s ≠ j := by have := List.mem_range.1 hs; omega
      simp only [Wd.fl, Wd.fresh, upd_ne _ _ this]
    · have hc : clampQ q = q := by unfold clampQ; rw [if_neg (by omega), if_neg (by omega)]
      simp only [List.map_cons, List.map_nil, Wd.fl, Wd.fresh, Fl.new, upd_self, hc, bytes_nil]
set_option maxRecDepth 100000 in
set_option maxHeartbeats 4000000 in
theorem open_ok (w : World) (q0 q1 q2 q3 : Int) :
    Calls Try.prog 16 #[.agg #[.int .i64 q0, .int .i64 q1, .int .i64 q2, .int .i64 q3]] w fun e w' => ∃ x : Wd, e = .returned (.pointer (some ⟨x.b, 0, none⟩)) ∧ Wf x 0 ∧ (∀ s, x.L s = [] ∧ x.sent s = 0) ∧ x.most = 0 ∧ Sep w [] w' x.chunks := by
  have qs : ∀ f : Nat, f < 4 → ∃ q : Int, [Value.int .i64 q0, .int .i64 q1, .int .i64 q2, .int .i64 q3][f]? = some (.int .i64 q) := fun f hf =>
    four (P := fun f => ∃ q : Int, [Value.int .i64 q0, .int .i64 q1, .int .i64 q2, .int .i64 q3][f]? = some (.int .i64 q)) ⟨_, rfl⟩ ⟨_, rfl⟩ ⟨_, rfl⟩ ⟨_, rfl⟩ hf
  have QS := Lib.hid qs
  clear qs
  go_enter Try.func16, Try.ntmps16
  go_wp2_with fail
  refine (dnew _).mono ?_
  rintro er w1 ⟨db, rb, rfl, k1⟩
  have k2 := ((Sep.start (Holds.nil w)).alloc 40 [.int .i64 q0, .int .i64 q1, .int .i64 q2, .int .i64 q3]).call0 k1
  have k3 := (k2.alloc 52 (Wd.fresh w1.heap.size db (.slice none 0 0) [] rb 0 (fun _ => 0) (fun _ => 0) (fun _ => 0) (fun _ => 0)).cells)
  have K4 := Lib.hid ((k3.call0 (rows_nil _)).perm (perm_open _ _ _ _ _ _ _))
  clear k1 k2 k3
  obtain ⟨A, hA⟩ : ∃ A, w.heap.size = A := ⟨_, rfl⟩
  obtain ⟨WB, hWB⟩ : ∃ WB, w1.heap.size = WB := ⟨_, rfl⟩
  go_wp2_with fail
  rw [hA, hWB] at K4
  obtain ⟨W0, hW0⟩ : ∃ W0, w1.alloc (.cells (Wd.fresh WB db (.slice none 0 0) [] rb 0 (fun _ => 0) (fun _ => 0) (fun _ => 0) (fun _ => 0)).cells.toArray 52) = W0 := ⟨_, rfl⟩
  rw [hW0] at K4
  clear hA hWB
  have K0 : Hid (Sep w [] W0 ([Chunk.blk A 40 [.int .i64 q0, .int .i64 q1, .int .i64 q2, .int .i64 q3]] ++ ((Wd.fresh WB db (.slice none 0 0) [] rb 0 (fun _ => 0) (fun _ => 0) (fun _ => 0) (fun _ => 0)).wch ++ (Wd.fresh WB db (.slice none 0 0) [] rb 0 (fun _ => 0) (fun _ => 0) (fun _ => 0) (fun _ => 0)).dr.chunks))) := K4
  clear K4
  have hW0' : w1.alloc (.cells #[.pointer (some ⟨db, 0, none⟩), .int .i64 0, .int .i64 0, .int .i64 0, .int .i64 0, .slice none 0 0, .slice none 0 0, .slice none 0 0, .slice none 0 0, .int .i64 0, .int .i64 0, .int .i64 0, .int .i64 0, .int .i64 0, .int .i64 0, .int .i64 0, .int .i64 0, .int .i64 0, .int .i64 0, .int .i64 0, .int .i64 0, .int .i64 0, .int .i64 0, .int .i64 0] 52) = W0 := hW0
  rw [hW0']
  clear hW0 hW0'
  go_loopg [4] 5 (fun k i wr => ∃ j : Nat, k + j = 5 ∧ j ≤ 4 ∧ i = .int .i64 j ∧ ∃ fv fS Q G B R, (∀ f, f < j → (1 ≤ Q f ∧ Q f ≤ 1000) ∧ G f = 1) ∧
    Sep w [] wr ([Chunk.blk A 40 [.int .i64 q0, .int .i64 q1, .int .i64 q2, .int .i64 q3]] ++ ((Wd.fresh WB db fv fS rb j Q G B R).wch ++ (Wd.fresh WB db fv fS rb j Q G B R).dr.chunks)))
  case atStart => exact ⟨0, by omega, by omega, rfl, _, _, _, _, _, _, fun f hf => by omega, K0.out⟩
  case round =>
    obtain ⟨j, hk, hj, rfl, fv, fS, Q, G, B, R, hqg, ks⟩ := hrel
    have HQG := Lib.hid hqg
    have K := Lib.hid ks
    clear hqg ks
    by_cases hjn : j < 4
    · obtain ⟨q, hq⟩ := QS.out j hjn
      obtain ⟨r, hr, hr1⟩ := quant q
      have b0 := Wd.wds K.out
      have a0 : Blk wr A 40 [.int .i64 q0, .int .i64 q1, .int .i64 q2, .int .i64 q3] := K.out.blk 0 rfl
      have cq : wr.cell? ⟨A, j, none⟩ = some (.int .i64 q) := by rw [a0.cell]; exact hq
      have c1 : wr.cell? ⟨WB, 1 + j, none⟩ = some (.int .i64 (Q j)) := by have := b0.cell (1 + j); rw [Wd.cQ _ hjn] at this; exact this
      have z1 : wr.frozen? ⟨WB, 1 + j, none⟩ = false := b0.frz (1 + j)
      have c9 : wr.cell? ⟨WB, 9 + j, none⟩ = some (.int .i64 (G j)) := by have := b0.cell (9 + j); rw [Wd.cG _ hjn] at this; exact this
      have z9 : wr.frozen? ⟨WB, 9 + j, none⟩ = false := b0.frz (9 + j)
      have lb : WB < wr.heap.size := b0.lt
      have la := a0.lt
      have hji : (j : Int) < 4 := by omega
      clear b0 a0 hq
      by_cases hq0 : q < 0
      · go_wp2_with fail
        refine wp_region_quiet_tail 11 (by kernel_rfl) (by kernel_rfl) ?_
        simp only [List.take_succ_cons, List.take_zero, List.drop_succ_cons, List.drop_zero]
        repeat (first | go_big_quiet_step (fail) | quiet_step (fail))
        refine wpQuiet_nil ?_
        rintro _ ⟨nq, rfl⟩
        have k1 := Wd.put1 (y := Wd.fresh WB db fv fS rb j (upd Q j (↑r % 1000 + 1)) G B R) (K.out.drewN nq) (1 + j) (.int .i64 (↑r % 1000 + 1)) rfl (four (P := fun f => (Wd.fresh WB db fv fS rb j Q G B R).cells.set (1 + f) (.int .i64 (↑r % 1000 + 1)) = (Wd.fresh WB db fv fS rb j (upd Q f (↑r % 1000 + 1)) G B R).cells) rfl rfl rfl rfl hjn) (fun _ => rfl)
        have k2 := Wd.put1 (y := Wd.fresh WB db fv fS rb j (upd Q j 1) G B R) k1 (1 + j) (.int .i64 1) rfl (by rw [← upd_upd Q j (↑r % 1000 + 1) 1]; exact four (P := fun f => (Wd.fresh WB db fv fS rb j (upd Q j (↑r % 1000 + 1)) G B R).cells.set (1 + f) (.int .i64 1) = (Wd.fresh WB db fv fS rb j (upd (upd Q j (↑r % 1000 + 1)) f 1) G B R).cells) rfl rfl rfl rfl hjn) (fun _ => rfl)
        have k3 := Wd.put1 (y := Wd.fresh WB db fv fS rb j (upd Q j 1) (upd G j 1) B R) k2 (9 + j) (.int .i64 1) rfl (Wd.sG _ hjn 1) (fun _ => rfl)
        obtain ⟨W2, hW2⟩ : ∃ W2, ((((wr.drewN nq).setCell ⟨WB, 1 + j, none⟩ (.int .i64 (↑r % 1000 + 1))).setCell ⟨WB, 1 + j, none⟩ (.int .i64 1)).setCell ⟨WB, 9 + j, none⟩ (.int .i64 1)) = W2 := ⟨_, rfl⟩
        have K2 : Hid (Sep w [] W2 ([Chunk.blk A 40 [.int .i64 q0, .int .i64 q1, .int .i64 q2, .int .i64 q3]] ++ ((Wd.fresh WB db fv fS rb j (upd Q j 1) (upd G j 1) B R).wch ++ (Wd.fresh WB db fv fS rb j Q G B R).dr.chunks))) := by rw [← hW2]; exact Lib.hid k3
        clear k1 k2 k3 K
        go_wp2_with fail
        clear hW2 c1 z1 c9 z9 lb la cq
        have hqv : (1 : Int) ≤ 1 ∧ (1 : Int) ≤ 1000 := by omega
        have edr : (Wd.fresh WB db fv fS rb j Q G B R).dr = (Wd.fresh WB db fv fS rb j (upd Q j 1) (upd G j 1) B R).dr := fresh_dr 1
        rw [edr] at K2
        have cells : ∀ X : World, Blk X WB 52 (Wd.fresh WB db fv fS rb j (upd Q j 1) (upd G j 1) B R).cells → X.cell? ⟨WB, 0, none⟩ = some (.pointer (some ⟨db, 0, none⟩)) ∧ X.cell? ⟨WB, 1 + j, none⟩ = some (.int .i64 1) := fun X hX => by
          have h2 : X.cell? ⟨WB, 1 + j, none⟩ = some (.int .i64 (upd Q j 1 j)) := by rw [hX.cell]; exact Wd.cQ _ hjn
          rw [upd_self] at h2
          exact ⟨hX.cell 0, h2⟩
        have HC := Lib.hid cells
        clear cells edr
        have lb : WB < W2.heap.size := (Wd.wds K2.out).lt
        have hC0 := HC.out _ (Wd.wds K2.out.drew)
        refine wp_T [14] (fun X => X.cell? ⟨WB, 0, none⟩ = some (.pointer (some ⟨db, 0, none⟩)) ∧ X.cell? ⟨WB, 1 + j, none⟩ = some (.int .i64 1)) (by kernel_rfl) (fun hC => ?_) hC0
        clear hC0
        refine wpAnyT_takeP' 0 (by kernel_rfl) (fun _ _ _ h => h) (by assumption) (by rfl) (fun w => by simp only [List.getD_cons_zero]; go_simp; try with_reducible rfl) ?_
        try simp only [List.getD_cons_zero, Act.put, List.setIfInBounds_toArray, List.set_cons_zero, List.set_cons_succ]
        refine wpAnyT_takeP' 1 (by kernel_rfl) (fun _ _ _ h => h) (by assumption) (by rfl) (fun w => by simp only [List.getD_cons_succ, List.getD_cons_zero]; go_simp; try with_reducible rfl) ?_
        try simp only [List.getD_cons_succ, List.getD_cons_zero, Act.put, List.setIfInBounds_toArray, List.set_cons_zero, List.set_cons_succ]
        refine wpAnyT_takeP' 2 (by kernel_rfl) (fun _ _ _ h => h) (by assumption) (by rfl) (fun w => by simp only [List.getD_cons_succ, List.getD_cons_zero]; go_simp; try with_reducible rfl) ?_
        try simp only [List.getD_cons_succ, List.getD_cons_zero, Act.put, List.setIfInBounds_toArray, List.set_cons_zero, List.set_cons_succ]
        refine wpAnyT_takeC' 3 (by kernel_rfl) (fun _ _ _ h => h) (by assumption) (by rfl) (fun w hSw => by simp only [List.getD_cons_succ, List.getD_cons_zero]; (try dsimp only at hSw); go_simp; try with_reducible rfl) ?_
        try simp only [List.getD_cons_succ, List.getD_cons_zero, Act.put, List.setIfInBounds_toArray, List.set_cons_zero, List.set_cons_succ]
        refine wpAnyT_takeP' 4 (by kernel_rfl) (fun _ _ _ h => h) (by assumption) (by rfl) (fun w => by simp only [List.getD_cons_succ, List.getD_cons_zero]; go_simp; try with_reducible rfl) ?_
        try simp only [List.getD_cons_succ, List.getD_cons_zero, Act.put, List.setIfInBounds_toArray, List.set_cons_zero, List.set_cons_succ]
        refine wpAnyT_takeP' 5 (by kernel_rfl) (fun _ _ _ h => h) (by assumption) (by rfl) (fun w => by simp only [List.getD_cons_succ, List.getD_cons_zero]; go_simp; try with_reducible rfl) ?_
        try simp only [List.getD_cons_succ, List.getD_cons_zero, Act.put, List.setIfInBounds_toArray, List.set_cons_zero, List.set_cons_succ]
        refine wpAnyT_takeP' 7 (by kernel_rfl) (fun _ _ _ h => h) (by assumption) (by rfl) (fun w => by simp only [List.getD_cons_succ, List.getD_cons_zero]; go_simp; try with_reducible rfl) ?_
        try simp only [List.getD_cons_succ, List.getD_cons_zero, Act.put, List.setIfInBounds_toArray, List.set_cons_zero, List.set_cons_succ]
        refine wpAnyT_takeP' 8 (by kernel_rfl) (fun _ _ _ h => h) (by assumption) (by rfl) (fun w => by simp only [List.getD_cons_succ, List.getD_cons_zero]; go_simp; try with_reducible rfl) ?_
        try simp only [List.getD_cons_succ, List.getD_cons_zero, Act.put, List.setIfInBounds_toArray, List.set_cons_zero, List.set_cons_succ]
        refine wpAnyT_takeP' 9 (by kernel_rfl) (fun _ _ _ h => h) (by assumption) (by rfl) (fun w => by simp only [List.getD_cons_succ, List.getD_cons_zero]; go_simp; try with_reducible rfl) ?_
        try simp only [List.getD_cons_succ, List.getD_cons_zero, Act.put, List.setIfInBounds_toArray, List.set_cons_zero, List.set_cons_succ]
        refine wpAnyT_takeP' 10 (by kernel_rfl) (fun _ _ _ h => h) (by assumption) (by rfl) (fun w => by simp only [List.getD_cons_succ, List.getD_cons_zero]; go_simp; try with_reducible rfl) ?_
        try simp only [List.getD_cons_succ, List.getD_cons_zero, Act.put, List.setIfInBounds_toArray, List.set_cons_zero, List.set_cons_succ]
        refine wpAnyT_takeP' 11 (by kernel_rfl) (fun _ _ _ h => h) (by assumption) (by rfl) (fun w => by simp only [List.getD_cons_succ, List.getD_cons_zero]; go_simp; try with_reducible rfl) ?_
        try simp only [List.getD_cons_succ, List.getD_cons_zero, Act.put, List.setIfInBounds_toArray, List.set_cons_zero, List.set_cons_succ]
        refine wpAnyT_takeM' 12 (by kernel_rfl) (fun _ _ _ h => h) (by assumption) (by rfl) (fun w hSw => by simp only [List.getD_cons_succ, List.getD_cons_zero]; (try dsimp only at hSw); go_simp; try with_reducible rfl) ?_
        try simp only [List.getD_cons_succ, List.getD_cons_zero, Act.put, List.setIfInBounds_toArray, List.set_cons_zero, List.set_cons_succ]
        refine wpAnyT_takeP' 13 (by kernel_rfl) (fun _ _ _ h => h) (by assumption) (by rfl) (fun w => by simp only [List.getD_cons_succ, List.getD_cons_zero]; go_simp; try with_reducible rfl) ?_
        try simp only [List.getD_cons_succ, List.getD_cons_zero, Act.put, List.setIfInBounds_toArray, List.set_cons_zero, List.set_cons_succ]
        refine wpAnyT_one' 6 (by kernel_rfl) (by rfl) (fun K hK => ?_)
        simp only [List.getD_cons_succ, List.getD_cons_zero]
        go_simp
        have hwh := whandle (g := 1) (Wd.wds K2.out.drew) hjn (by rw [Wd.cG _ hjn]; show some (Value.int .i64 (upd G j 1 j)) = _; rw [upd_self])
        refine hwh.mono ?_
        rintro er W3 ⟨rfl, f1⟩
        have K3 := Lib.hid (K2.out.drew.same f1)
        have hC2 := HC.out _ (Wd.wds K3.out)
        refine hK.out _ _ hC2 ?_
        clear hK lb hC f1 K2 hwh HC
        try simp only [Act.put, List.setIfInBounds_toArray, List.set_cons_zero, List.set_cons_succ]
        refine wpAnyT_last 14 rfl (by kernel_rfl) ?_
        simp only [List.drop_succ_cons, List.drop_zero]
        clear hC2
        go_wp2_with fail
        refine (fresh_join hjn hqv K3.out.hs.right.right _ _ _ _ _ _ 0).mono ?_
        rintro er W4 ⟨rfl, fv', fS', b, r', k4⟩
        have K4 := Lib.hid (Sep.call_pre K3.out k4)
        clear k4 K3
        go_wp2
        rw [onlyN_normal]
        go_wp2
        go_roundg (gk - 1)
        case measure => omega
        case rel =>
          refine ⟨j + 1, by omega, by omega, by go_num, fv', fS', upd Q j 1, upd G j 1, upd B j b, upd R j r', fun f hf => ?_, K4.out⟩
          by_cases e : f = j
          · subst e; rw [upd_self, upd_self]; exact ⟨hqv, rfl⟩
          · rw [upd_ne _ _ e, upd_ne _ _ e]; exact HQG.out f (by omega)
      · go_wp2_with fail
        refine wp_region_quiet_tail 11 (by kernel_rfl) (by kernel_rfl) ?_
        simp only [List.take_succ_cons, List.take_zero, List.drop_succ_cons, List.drop_zero]
        repeat (first | go_big_quiet_step (fail) | quiet_step (fail))
        refine wpQuiet_nil ?_
        rintro _ ⟨nq, rfl⟩
        have k1 := Wd.put1 (y := Wd.fresh WB db fv fS rb j (upd Q j (↑r % 1000 + 1)) G B R) (K.out.drewN nq) (1 + j) (.int .i64 (↑r % 1000 + 1)) rfl (four (P := fun f => (Wd.fresh WB db fv fS rb j Q G B R).cells.set (1 + f) (.int .i64 (↑r % 1000 + 1)) = (Wd.fresh WB db fv fS rb j (upd Q f (↑r % 1000 + 1)) G B R).cells) rfl rfl rfl rfl hjn) (fun _ => rfl)
        have k3 := Wd.put1 (y := Wd.fresh WB db fv fS rb j (upd Q j (↑r % 1000 + 1)) (upd G j 1) B R) k1 (9 + j) (.int .i64 1) rfl (Wd.sG _ hjn 1) (fun _ => rfl)
        obtain ⟨W2, hW2⟩ : ∃ W2, (((wr.drewN nq).setCell ⟨WB, 1 + j, none⟩ (.int .i64 (↑r % 1000 + 1))).setCell ⟨WB, 9 + j, none⟩ (.int .i64 1)) = W2 := ⟨_, rfl⟩
        have K2 : Hid (Sep w [] W2 ([Chunk.blk A 40 [.int .i64 q0, .int .i64 q1, .int .i64 q2, .int .i64 q3]] ++ ((Wd.fresh WB db fv fS rb j (upd Q j (↑r % 1000 + 1)) (upd G j 1) B R).wch ++ (Wd.fresh WB db fv fS rb j Q G B R).dr.chunks))) := by rw [← hW2]; exact Lib.hid k3
        clear k1 k3 K
        go_wp2_with fail
        clear hW2 c1 z1 c9 z9 lb la cq
        have hqv : 1 ≤ ((r : Int) % 1000 + 1) ∧ ((r : Int) % 1000 + 1) ≤ 1000 := by omega
        obtain ⟨qv, hqq⟩ : ∃ qv, (r : Int) % 1000 + 1 = qv := ⟨_, rfl⟩
        rw [hqq] at K2 hqv
        have edr : (Wd.fresh WB db fv fS rb j Q G B R).dr = (Wd.fresh WB db fv fS rb j (upd Q j qv) (upd G j 1) B R).dr := fresh_dr qv
        rw [edr] at K2
        have cells : ∀ X : World, Blk X WB 52 (Wd.fresh WB db fv fS rb j (upd Q j qv) (upd G j 1) B R).cells → X.cell? ⟨WB, 0, none⟩ = some (.pointer (some ⟨db, 0, none⟩)) ∧ X.cell? ⟨WB, 1 + j, none⟩ = some (.int .i64 qv) := fun X hX => by
          have h2 : X.cell? ⟨WB, 1 + j, none⟩ = some (.int .i64 (upd Q j qv j)) := by rw [hX.cell]; exact Wd.cQ _ hjn
          rw [upd_self] at h2
          exact ⟨hX.cell 0, h2⟩
        have HC := Lib.hid cells
        clear cells edr
        have lb : WB < W2.heap.size := (Wd.wds K2.out).lt
        have hC0 := HC.out _ (Wd.wds K2.out.drew)
        refine wp_T [14] (fun X => X.cell? ⟨WB, 0, none⟩ = some (.pointer (some ⟨db, 0, none⟩)) ∧ X.cell? ⟨WB, 1 + j, none⟩ = some (.int .i64 qv)) (by kernel_rfl) (fun hC => ?_) hC0
        clear hC0
        refine wpAnyT_takeP' 0 (by kernel_rfl) (fun _ _ _ h => h) (by assumption) (by rfl) (fun w => by simp only [List.getD_cons_zero]; go_simp; try with_reducible rfl) ?_
        try simp only [List.getD_cons_zero, Act.put, List.setIfInBounds_toArray, List.set_cons_zero, List.set_cons_succ]
        refine wpAnyT_takeP' 1 (by kernel_rfl) (fun _ _ _ h => h) (by assumption) (by rfl) (fun w => by simp only [List.getD_cons_succ, List.getD_cons_zero]; go_simp; try with_reducible rfl) ?_
        try simp only [List.getD_cons_succ, List.getD_cons_zero, Act.put, List.setIfInBounds_toArray, List.set_cons_zero, List.set_cons_succ]
        refine wpAnyT_takeP' 2 (by kernel_rfl) (fun _ _ _ h => h) (by assumption) (by rfl) (fun w => by simp only [List.getD_cons_succ, List.getD_cons_zero]; go_simp; try with_reducible rfl) ?_
        try simp only [List.getD_cons_succ, List.getD_cons_zero, Act.put, List.setIfInBounds_toArray, List.set_cons_zero, List.set_cons_succ]
        refine wpAnyT_takeC' 3 (by kernel_rfl) (fun _ _ _ h => h) (by assumption) (by rfl) (fun w hSw => by simp only [List.getD_cons_succ, List.getD_cons_zero]; (try dsimp only at hSw); go_simp; try with_reducible rfl) ?_
        try simp only [List.getD_cons_succ, List.getD_cons_zero, Act.put, List.setIfInBounds_toArray, List.set_cons_zero, List.set_cons_succ]
        refine wpAnyT_takeP' 4 (by kernel_rfl) (fun _ _ _ h => h) (by assumption) (by rfl) (fun w => by simp only [List.getD_cons_succ, List.getD_cons_zero]; go_simp; try with_reducible rfl) ?_
        try simp only [List.getD_cons_succ, List.getD_cons_zero, Act.put, List.setIfInBounds_toArray, List.set_cons_zero, List.set_cons_succ]
        refine wpAnyT_takeP' 5 (by kernel_rfl) (fun _ _ _ h => h) (by assumption) (by rfl) (fun w => by simp only [List.getD_cons_succ, List.getD_cons_zero]; go_simp; try with_reducible rfl) ?_
        try simp only [List.getD_cons_succ, List.getD_cons_zero, Act.put, List.setIfInBounds_toArray, List.set_cons_zero, List.set_cons_succ]
        refine wpAnyT_takeP' 7 (by kernel_rfl) (fun _ _ _ h => h) (by assumption) (by rfl) (fun w => by simp only [List.getD_cons_succ, List.getD_cons_zero]; go_simp; try with_reducible rfl) ?_
        try simp only [List.getD_cons_succ, List.getD_cons_zero, Act.put, List.setIfInBounds_toArray, List.set_cons_zero, List.set_cons_succ]
        refine wpAnyT_takeP' 8 (by kernel_rfl) (fun _ _ _ h => h) (by assumption) (by rfl) (fun w => by simp only [List.getD_cons_succ, List.getD_cons_zero]; go_simp; try with_reducible rfl) ?_
        try simp only [List.getD_cons_succ, List.getD_cons_zero, Act.put, List.setIfInBounds_toArray, List.set_cons_zero, List.set_cons_succ]
        refine wpAnyT_takeP' 9 (by kernel_rfl) (fun _ _ _ h => h) (by assumption) (by rfl) (fun w => by simp only [List.getD_cons_succ, List.getD_cons_zero]; go_simp; try with_reducible rfl) ?_
        try simp only [List.getD_cons_succ, List.getD_cons_zero, Act.put, List.setIfInBounds_toArray, List.set_cons_zero, List.set_cons_succ]
        refine wpAnyT_takeP' 10 (by kernel_rfl) (fun _ _ _ h => h) (by assumption) (by rfl) (fun w => by simp only [List.getD_cons_succ, List.getD_cons_zero]; go_simp; try with_reducible rfl) ?_
        try simp only [List.getD_cons_succ, List.getD_cons_zero, Act.put, List.setIfInBounds_toArray, List.set_cons_zero, List.set_cons_succ]
        refine wpAnyT_takeP' 11 (by kernel_rfl) (fun _ _ _ h => h) (by assumption) (by rfl) (fun w => by simp only [List.getD_cons_succ, List.getD_cons_zero]; go_simp; try with_reducible rfl) ?_
        try simp only [List.getD_cons_succ, List.getD_cons_zero, Act.put, List.setIfInBounds_toArray, List.set_cons_zero, List.set_cons_succ]
        refine wpAnyT_takeM' 12 (by kernel_rfl) (fun _ _ _ h => h) (by assumption) (by rfl) (fun w hSw => by simp only [List.getD_cons_succ, List.getD_cons_zero]; (try dsimp only at hSw); go_simp; try with_reducible rfl) ?_
        try simp only [List.getD_cons_succ, List.getD_cons_zero, Act.put, List.setIfInBounds_toArray, List.set_cons_zero, List.set_cons_succ]
        refine wpAnyT_takeP' 13 (by kernel_rfl) (fun _ _ _ h => h) (by assumption) (by rfl) (fun w => by simp only [List.getD_cons_succ, List.getD_cons_zero]; go_simp; try with_reducible rfl) ?_
        try simp only [List.getD_cons_succ, List.getD_cons_zero, Act.put, List.setIfInBounds_toArray, List.set_cons_zero, List.set_cons_succ]
        refine wpAnyT_one' 6 (by kernel_rfl) (by rfl) (fun K hK => ?_)
        simp only [List.getD_cons_succ, List.getD_cons_zero]
        go_simp
        have hwh := whandle (g := 1) (Wd.wds K2.out.drew) hjn (by rw [Wd.cG _ hjn]; show some (Value.int .i64 (upd G j 1 j)) = _; rw [upd_self])
        refine hwh.mono ?_
        rintro er W3 ⟨rfl, f1⟩
        have K3 := Lib.hid (K2.out.drew.same f1)
        have hC2 := HC.out _ (Wd.wds K3.out)
        refine hK.out _ _ hC2 ?_
        clear hK lb hC f1 K2 hwh HC
        try simp only [Act.put, List.setIfInBounds_toArray, List.set_cons_zero, List.set_cons_succ]
        refine wpAnyT_last 14 rfl (by kernel_rfl) ?_
        simp only [List.drop_succ_cons, List.drop_zero]
        clear hC2
        go_wp2_with fail
        refine (fresh_join hjn hqv K3.out.hs.right.right _ _ _ _ _ _ 0).mono ?_
        rintro er W4 ⟨rfl, fv', fS', b, r', k4⟩
        have K4 := Lib.hid (Sep.call_pre K3.out k4)
        clear k4 K3
        go_wp2
        rw [onlyN_normal]
        go_wp2
        go_roundg (gk - 1)
        case measure => omega
        case rel =>
          refine ⟨j + 1, by omega, by omega, by go_num, fv', fS', upd Q j qv, upd G j 1, upd B j b, upd R j r', fun f hf => ?_, K4.out⟩
          by_cases e : f = j
          · subst e; rw [upd_self, upd_self]; exact ⟨hqv, rfl⟩
          · rw [upd_ne _ _ e, upd_ne _ _ e]; exact HQG.out f (by omega)
    · obtain rfl : j = 4 := by omega
      go_wp2
      go_ret
      have H := HQG.out
      exact ⟨Wd.fresh WB db fv fS rb 4 Q G B R, rfl, fresh_wf (fun f hf => (H f hf).1) (fun f hf => (H f hf).2), fun s => ⟨rfl, rfl⟩, rfl, K.out.sub (List.sublist_append_right _ _)⟩
end Go.Proofs.Yteojodcdehkejaa
