/- A struct stored into a block, in one step. -/
import Derived.Test.YteojodcdehkejaaMA1
import Derived.Laws.CopyRow
import Derived.Test.YteojodcdehkejaaMA3
import Derived.RangeFuncLeaves
import Derived.Test.YteojodcdehkejaaMA2
import Derived.Test.YteojodcdehkejaaChecked
set_option linter.unusedVariables false
namespace Go.Proofs.Yteojodcdehkejaa
open Go Go.RowKit

section
variable {P : Program} (w : World)
theorem run_storeAt_S (ty : TypeId) (g off : Nat) (t : TypeId) (cs vs : List Value) (hg : Blk w g t cs) (hi : (P.info? ty).map (·.size) = some vs.length) (hfit : off + vs.length ≤ cs.length) (h1 : ∀ v ∈ vs, v.oneCell' = true) :
    ∃ w', (Instr.storeAt ty (.pointer (some ⟨g, off, none⟩)) (.agg vs.toArray)).run P w = .ok () w' ∧ Blk w' g t (cs.take off ++ vs ++ cs.drop (off + vs.length)) ∧ Fr [g] w w' ∧ w'.heap.size = w.heap.size := by
  have hst := run_storeCells_at (P := P) g off t vs 0 cs.toArray w hg (by simp; omega) h1
  simp only [Nat.add_zero] at hst
  refine ⟨_, ?_, setRow_heap w g cs.toArray _ t _ hg, ⟨rfl, rfl, rfl, by simp [World.setRow], fun k hk hn => setRow_other w g k _ (fun e => hn (by simp [e]))⟩, by simp [World.setRow]⟩
  cases hq : P.info? ty with
  | none => simp [hq] at hi
  | some i =>
    have hs : vs.length = i.size := by simp [hq] at hi; omega
    simp only [Instr.storeAt, Instr.sureAddr, Sem.run_bind, Sem.run_pure, Result.andThen_ok]
    simp [storeVar, sizeOf, typeInfo, hq, Value.cells, hs, hst]

theorem wpList_store_S {w : World} {ops : Array Oper} {rest : List Oper} {o : Oper} {a : Act} {Q : Exit → Act → World → Prop} (hgd : o.guard = none) (ty : TypeId) (x y : Operand) (ho : o.op = .store ty x y)
    (g off : Nat) (t : TypeId) (cs vs : List Value) (hx : a.eval x = .pointer (some ⟨g, off, none⟩)) (hy : a.eval y = .agg vs.toArray) (hg : Blk w g t cs) (hi : (P.info? ty).map (·.size) = some vs.length) (hfit : off + vs.length ≤ cs.length) (h1 : ∀ v ∈ vs, v.oneCell' = true)
    (h : ∀ w', Blk w' g t (cs.take off ++ vs ++ cs.drop (off + vs.length)) → Fr [g] w w' → w'.heap.size = w.heap.size → wpList P ops Q rest (a.put o.dst undef) w') : wpList P ops Q (o :: rest) a w := by
  refine wpList_plain hgd fun K hK => ?_
  obtain ⟨w', hr, h2, h3, h4⟩ := run_storeAt_S (P := P) w ty g off t cs vs hg hi hfit h1
  unfold Oper.wp execOp
  simp only [ho, hx, hy, Sem.run_bind, Sem.run_pure, Result.andThen_ok, hr]
  exact hK _ _ (h w' h2 h3 h4)
theorem wpListIn_store_S {F : Fence} {k : Nat} {w : World} {ops : Array Oper} {rest : List Oper} {o : Oper} {a : Act} {Q : Exit → Act → World → Prop} (hgd : o.guard = none) (ty : TypeId) (x y : Operand) (ho : o.op = .store ty x y)
    (g off : Nat) (t : TypeId) (cs vs : List Value) (hx : a.eval x = .pointer (some ⟨g, off, none⟩)) (hy : a.eval y = .agg vs.toArray) (hg : Blk w g t cs) (hi : (P.info? ty).map (·.size) = some vs.length) (hfit : off + vs.length ≤ cs.length) (h1 : ∀ v ∈ vs, v.oneCell' = true)
    (h : ∀ w', Blk w' g t (cs.take off ++ vs ++ cs.drop (off + vs.length)) → Fr [g] w w' → w'.heap.size = w.heap.size → wpListIn F k P ops Q rest (a.put o.dst undef) w') : wpListIn F k P ops Q (o :: rest) a w := by
  refine wpListIn_plain hgd fun K hK => ?_
  obtain ⟨w', hr, h2, h3, h4⟩ := run_storeAt_S (P := P) w ty g off t cs vs hg hi hfit h1
  unfold Oper.wpIn
  refine ⟨?_, ?_⟩
  · simp [Oper.about, ho]
  · rw [Oper.semAt_plain F _ _ (by rw [ho]; intro c hc'; cases hc')]
    simp [execOp, ho, hx, hy, hr, Result.andThen]
    exact hK _ _ (h w' h2 h3 h4)
end
end Go.Proofs.Yteojodcdehkejaa
/- Rings of things of several cells (api.Packet): the iterator, the list, what makes room, what is pushed. -/
namespace Go.Proofs.Yteojodcdehkejaa
open Go Go.RowKit
attribute [local go_sem] calmQ_normal wide_fn wide_depth Oper.semAt_some

/-- the things with their places, as the iterator hands them out -/
def entp6 (q : P6 × Nat) : Array Value := #[.int .i64 q.2, .agg #[.int .i64 q.1.f0, .int .i64 q.1.f1, .int .i64 q.1.f2, .int .i64 q.1.f3, .int .i64 q.1.f4, .int .i64 q.1.f5]]

set_option maxHeartbeats 400000 in
theorem all_p6 (w : World) (r : Nat) :
    Calls Try.prog 101 #[.pointer (some ⟨r, 0, none⟩)] w fun e w' => e = .returned (.func (.func 106) #[] #[.pointer (some ⟨w.heap.size, 0, none⟩)]) ∧ w' = w.alloc (.cells #[.pointer (some ⟨r, 0, none⟩)] 93) := by
  go_enter Try.func101, Try.ntmps101
  go_wp2
  go_ret
  exact ⟨rfl, rfl⟩

set_option maxHeartbeats 1000000 in
set_option maxRecDepth 100000 in
theorem seq_p6 {w : World} {r B : Nat} {ds : List Nat} {xs : List P6} (h : Rgp6 w r ds xs) (hB : w.cell? ⟨B, 0, none⟩ = some (.pointer (some ⟨r, 0, none⟩))) :
    SeqF Try.prog 106 #[.pointer (some ⟨B, 0, none⟩)] entp6 xs.zipIdx w := by
  intro l I Ix S W hW hS hI hIx hY h0
  have hBW := (hW.cell (p := ⟨B, 0, none⟩) (World.block_lt_of_cell? _ _ hB) (by simp)).trans hB
  have hRW := h.fr hW (by simp)
  refine callsIn_wide.1 (callsIn_of_wp (n := 0) (F := Fence.wide) Try.func106 rfl trivial ?_ rfl)
  simp only [Try.ntmps106, List.size_toArray, List.length_cons, List.length_nil, Nat.reduceAdd, Nat.reduceSub, Array.replicate_succ, Array.replicate_zero, List.push_toArray, List.append_toArray, List.nil_append, List.cons_append]
  have hcall := Lib.hid (wideIn (0 - 1) (held_p6 hRW))
  gi_wp2_with (gi_at_call 107; refine (hcall.out).mono ?_; rintro e w' ⟨v, S0, rfl, hown, hg0, hf0⟩; obtain ⟨vao, vcap, rfl⟩ := hown.val)
  have hz0 := hf0.size
  have hlen : xs.length ≤ 1073741824 := by
    obtain ⟨L, head, sv, hb, hL, hrest⟩ := hRW
    rcases hrest with ⟨_, _, rfl, _⟩ | ⟨d, cs, _, _, _, _, hc⟩
    · simp
    · have := hc.room; omega
  have hYY := Lib.hid hY
  have hII := Lib.hid hI
  have hS00 := Lib.hid hS
  clear hcall hBW hRW hW hIx hY hI hB h hS
  gi_loopw [8] (fun i wr => ∃ k : Nat, k ≤ xs.length ∧ i = .int .i64 k ∧ ∃ S1, I S1 (xs.zipIdx.take k) wr ∧ Gr w' S S1 ∧ Fr S W wr ∧ w'.heap.size ≤ wr.heap.size ∧ OwnS wr 34 6 (.slice vao xs.length vcap) xs.length (xs.flatMap encP6) S0)
    (fun i _ => xs.length - (intOf i).toNat)
  case atStart => exact ⟨0, Nat.zero_le _, rfl, S, by simpa using hII.out S [] W w' [] h0 hf0 (by simp), Gr.refl _ _, hf0.mono (by simp), Nat.le_refl _, hown⟩
  case round =>
    obtain ⟨k, hk, rfl, S1, hi, hg, hf, hz, hown1⟩ := hrel
    by_cases hlt : k < xs.length
    · obtain ⟨g, cap, hv, rfl⟩ := hown1.head (by omega)
      cases hv
      have hgx : xs.zipIdx = xs.zipIdx.take k ++ (xs[k], k) :: xs.zipIdx.drop (k + 1) := by
        have : xs.zipIdx[k]? = some (xs[k], k) := by simp [hlt]
        obtain ⟨hk1, hk2⟩ := List.getElem?_eq_some_iff.1 this
        rw [← hk2, ← List.drop_eq_getElem_cons hk1, List.take_append_drop]
      have hiA := hII.out S1 _ wr _ [] hi ((Fr.refl [] wr).alloc (.cells #[.int .i64 xs[k].f0, .int .i64 xs[k].f1, .int .i64 xs[k].f2, .int .i64 xs[k].f3, .int .i64 xs[k].f4, .int .i64 xs[k].f5] 34)) (by simp)
      obtain ⟨fn, tmps, assign, body, hy, hR⟩ := hYY.out (xs.zipIdx.take k) (xs[k], k) _ S1 (wr.alloc (.cells #[.int .i64 xs[k].f0, .int .i64 xs[k].f1, .int .i64 xs[k].f2, .int .i64 xs[k].f3, .int .i64 xs[k].f4, .int .i64 xs[k].f5] 34)) hgx (by simp; omega) (hg.size hz0) (hf.alloc _) hiA
      dsimp only [entp6] at hy
      have hkey : ∀ j, j < 6 → wr.cell? ⟨g, k * 6 + j, none⟩ = (encP6 xs[k])[j]? := fun j hj => by
        rw [hown1.cellAt (k * 6 + j) (by have := Nat.mul_le_mul_right 6 (show k + 1 ≤ xs.length by omega); omega)]
        exact flatMap_at enc_len_p6 (xs := xs) (i := k) (x := xs[k]) (by simp [hlt]) hj
      obtain ⟨k0, k1, k2, k3, k4, k5⟩ : wr.cell? ⟨g, k * 6, none⟩ = some (.int .i64 xs[k].f0) ∧ wr.cell? ⟨g, k * 6 + 1, none⟩ = some (.int .i64 xs[k].f1) ∧ wr.cell? ⟨g, k * 6 + 2, none⟩ = some (.int .i64 xs[k].f2) ∧ wr.cell? ⟨g, k * 6 + 3, none⟩ = some (.int .i64 xs[k].f3) ∧ wr.cell? ⟨g, k * 6 + 4, none⟩ = some (.int .i64 xs[k].f4) ∧ wr.cell? ⟨g, k * 6 + 5, none⟩ = some (.int .i64 xs[k].f5) := ⟨hkey 0 (by decide), hkey 1 (by decide), hkey 2 (by decide), hkey 3 (by decide), hkey 4 (by decide), hkey 5 (by decide)⟩
      clear hkey
      have hgS : g ∉ S1 := fun hm => by
        have h1 := hown.lt g (by simp)
        rcases hg g hm with h | h
        · have := hS00.out g h
          rcases hg0 g (by simp) with h2 | h2
          · cases h2
          · omega
        · omega
      have HR := Lib.hid hR
      have HX := Lib.hid hgx
      clear hR hgx hown
      gi_wp2
      refine HR.out.mono ?_
      rintro e W3 ⟨S', hg3, hf3, ⟨rfl, hi3⟩ | ⟨rfl, hi3⟩⟩
      · have hz3 := hf3.size
        have ho3 := (hown1.alloc (.cells #[.int .i64 xs[k].f0, .int .i64 xs[k].f1, .int .i64 xs[k].f2, .int .i64 xs[k].f3, .int .i64 xs[k].f4, .int .i64 xs[k].f5] 34)).fr hf3 (by simpa using hgS)
        simp only [World.size_alloc] at hz3
        gi_wp2
        go_roundw
        case rel => exact ⟨k + 1, by omega, by simp, S', by rw [List.take_add_one, show xs.zipIdx[k]? = some (xs[k], k) from by simp [hlt]]; exact hi3, hg.trans (by simp; omega) hg3, (hf.alloc _).trans (hg.size hz0) hf3, by omega, ho3⟩
        case measure => simp [intOf]; omega
      · gi_wp2
        refine bodyPost_ret (results_none rfl _ _ _) rfl ?_
        exact ⟨⟨_, rfl⟩, S', (hg.size hz0).trans (hf.alloc _).size hg3, (hf.alloc _).trans (hg.size hz0) hf3, .inr ⟨_, _, _, HX.out, hi3⟩⟩
    · obtain rfl : k = xs.length := by omega
      gi_wp2
      go_end0
      exact ⟨⟨_, rfl⟩, S1, hg.size hz0, hf, .inl (by rw [List.take_of_length_le (by simp)] at hi; exact hi)⟩

set_option maxHeartbeats 400000 in
theorem clip_p6 {w : World} {v : Value} {n : Nat} {ys : List Value} {S : List Nat} (h : OwnS w 34 6 v n ys S) (hn : n ≤ 1073741824) :
    Calls Try.prog 51 #[v] w fun e w' => ∃ v', e = .returned v' ∧ OwnS w 34 6 v' n ys S ∧ w' = w := by
  obtain ⟨hl, ⟨rfl, rfl, rfl⟩ | ⟨g, cap, cur, rfl, rfl, hg, hnc, hcm, hcs, ht⟩⟩ := h
  · go_enter Try.func51, Try.ntmps51
    go_wp2
    go_ret
    exact ⟨_, rfl, ⟨hl, .inl ⟨rfl, rfl, rfl⟩⟩, rfl⟩
  · have H : Hid (OwnS w 34 6 (.slice (some ⟨g, 0, none⟩) n n) n ys [g]) := ⟨hl, .inr ⟨g, n, cur, rfl, rfl, hg, Nat.le_refl _, by omega, by omega, ht⟩⟩
    clear hg hl ht hcs hcm
    go_enter Try.func51, Try.ntmps51
    go_wp2
    go_ret
    exact ⟨_, rfl, H.out, rfl⟩

theorem ownS_snoc_p6 {w : World} {v : Value} {pre : List (P6 × Nat)} {x : P6 × Nat} {S : List Nat} (h : OwnS w 34 6 v (pre.length + 1) ((pre.map (·.1)).flatMap encP6 ++ encP6 x.1) S) :
    OwnS w 34 6 v (pre ++ [x]).length (((pre ++ [x]).map (·.1)).flatMap encP6) S := by
  simpa using h

set_option maxHeartbeats 1000000 in
set_option maxRecDepth 100000 in
theorem list_p6 {w : World} {r : Nat} {ds : List Nat} {xs : List P6} (h : Rgp6 w r ds xs) :
    Calls Try.prog 82 #[.pointer (some ⟨r, 0, none⟩)] w fun e w' => ∃ v S, e = .returned v ∧ OwnS w' 34 6 v xs.length (xs.flatMap encP6) S ∧ Gr w [] S ∧ Fr [] w w' := by
  obtain ⟨i0, hi, hz0, hz1, hz2⟩ := info_parts infop6
  have hlen : xs.length ≤ 1073741824 := by
    obtain ⟨L, head, sv, hb, hL, hrest⟩ := h
    rcases hrest with ⟨_, _, rfl, _⟩ | ⟨d, cs, _, _, _, _, hc⟩
    · simp
    · have := hc.room; omega
  refine callsIn_wide.1 (callsIn_of_wp_marks (n := 0) (F := Fence.wide) Try.func82 rfl trivial ?_ rfl)
  simp only [Try.ntmps82, List.size_toArray, List.length_cons, List.length_nil, Nat.reduceAdd, Nat.reduceSub, Array.replicate_succ, Array.replicate_zero, List.push_toArray, List.append_toArray, List.nil_append, List.cons_append]
  gi_wp2_with (gi_at_call 101; refine (wideIn _ (all_p6 _ r)).mono ?_; rintro e w' ⟨rfl, rfl⟩)
  have hseq : SeqF Try.prog 106 #[.pointer (some ⟨w.heap.size + 1, 0, none⟩)] entp6 xs.zipIdx ((w.alloc (.cells #[.slice none 0 0] 49)).alloc (.cells #[.pointer (some ⟨r, 0, none⟩)] 93)) :=
    seq_p6 ((h.alloc _).alloc _) (by simpa only [World.size_alloc, List.getElem?_cons_zero] using (Blk.new (w.alloc (.cells #[.slice none 0 0] 49)) 93 [.pointer (some ⟨r, 0, none⟩)]).cell 0)
  have hB0 : Blk ((w.alloc (.cells #[.slice none 0 0] 49)).alloc (.cells #[.pointer (some ⟨r, 0, none⟩)] 93)) w.heap.size 49 [.slice none 0 0] := (Blk.new w 49 [.slice none 0 0]).alloc _
  have hfw : Fr [] w ((w.alloc (.cells #[.slice none 0 0] 49)).alloc (.cells #[.pointer (some ⟨r, 0, none⟩)] 93)) := ((Fr.refl [] w).alloc _).alloc _
  have hzw : ((w.alloc (.cells #[.slice none 0 0] 49)).alloc (.cells #[.pointer (some ⟨r, 0, none⟩)] 93)).heap.size = w.heap.size + 2 := by simp
  clear h
  have hlocI : Loc (w.heap.size + 2) (fun S (pre : List (P6 × Nat)) W => ∃ v S1, S = w.heap.size :: S1 ∧ w.heap.size ∉ S1 ∧ Blk W w.heap.size 49 [v] ∧ OwnS W 34 6 v pre.length ((pre.map (·.1)).flatMap encP6) S1) := by
    intro S pre A B T ⟨v, S1, hS, hn, hb, ho⟩ f ht
    subst hS
    exact ⟨v, S1, rfl, hn, hb.fr f (fun hm => (ht _ hm).2 (by simp)), ho.fr f (fun b hb hm => (ht _ hm).2 (by simp [hb]))⟩
  obtain ⟨w1, hw1⟩ : ∃ w1, (w.alloc (.cells #[.slice none 0 0] 49)).alloc (.cells #[.pointer (some ⟨r, 0, none⟩)] 93) = w1 := ⟨_, rfl⟩
  rw [hw1] at hseq hB0 hfw hzw ⊢
  clear hw1
  obtain ⟨asg, hasg⟩ : ∃ asg : (P6 × Nat) → Nat → Act, asg = fun x b => { tmps := #[.pointer (some ⟨r, 0, none⟩), undef, .slice none 0 0, .pointer (some ⟨w.heap.size, 0, none⟩), undef, .pointer (some ⟨b, 0, none⟩), .pointer (some ⟨r, 0, none⟩), .func (.func 106) #[] #[.pointer (some ⟨w.heap.size + 1, 0, none⟩)], .int .i64 x.2, .agg #[.int .i64 x.1.f0, .int .i64 x.1.f1, .int .i64 x.1.f2, .int .i64 x.1.f3, .int .i64 x.1.f4, .int .i64 x.1.f5], undef, undef, undef, undef, undef, undef], defers := [] } := ⟨_, rfl⟩
  refine wp_rangeF (gf := 106) (lb := #[.pointer (some ⟨w.heap.size + 1, 0, none⟩)]) rfl (enters_of Try.func106 (by kernel_rfl) rfl) hseq (fun _ => rfl)
    (fun S (pre : List (P6 × Nat)) W => ∃ v S1, S = w.heap.size :: S1 ∧ w.heap.size ∉ S1 ∧ Blk W w.heap.size 49 [v] ∧ OwnS W 34 6 v pre.length ((pre.map (·.1)).flatMap encP6) S1)
    (fun _ _ _ _ => False) [w.heap.size] (by simp; omega) (by rw [hzw]; exact hlocI) (fun _ _ _ _ _ _ h _ _ => h) ⟨_, [], rfl, by simp, hB0, OwnS.nil _ _ _⟩
    (fun x a' S pre W => ∃ b v S1, S = w.heap.size :: b :: S1 ∧ w.heap.size ∉ S1 ∧ b ∉ S1 ∧ w.heap.size ≠ b ∧ a' = asg x b ∧ Blk W b 34 (encP6 x.1) ∧ Blk W w.heap.size 49 [v] ∧ OwnS W 34 6 v pre.length ((pre.map (·.1)).flatMap encP6) S1)
    ?ax ?assign ?body ?done ?stop
  case ax =>
    intro x a' S pre A B T ⟨b, v, S1, hS, hn, hnb, hne, ha, hbx, hb, ho⟩ f ht
    subst hS
    exact ⟨b, v, S1, rfl, hn, hnb, hne, ha, hbx.fr f (fun hm => (ht _ hm).2 (by simp)), hb.fr f (fun hm => (ht _ hm).2 (by simp)), ho.fr f (fun b hb hm => (ht _ hm).2 (by simp [hb]))⟩
  case assign =>
    rintro l pre x post S1 W hx hz hg hf hl hnl hr ⟨v, S2, rfl, hnS, hb, ho⟩
    simp only [entp6]
    have hlo := ho.lt
    have hlb := hb.lt
    have hfin : ∃ S', Gr W (w.heap.size :: S2) S' ∧ Fr (w.heap.size :: S2) W (W.alloc (.cells #[.int .i64 x.1.f0, .int .i64 x.1.f1, .int .i64 x.1.f2, .int .i64 x.1.f3, .int .i64 x.1.f4, .int .i64 x.1.f5] 34)) ∧ ∃ b v S1, S' = w.heap.size :: b :: S1 ∧ w.heap.size ∉ S1 ∧ b ∉ S1 ∧ w.heap.size ≠ b ∧ asg x W.heap.size = asg x b ∧ Blk (W.alloc (.cells #[.int .i64 x.1.f0, .int .i64 x.1.f1, .int .i64 x.1.f2, .int .i64 x.1.f3, .int .i64 x.1.f4, .int .i64 x.1.f5] 34)) b 34 (encP6 x.1) ∧ Blk (W.alloc (.cells #[.int .i64 x.1.f0, .int .i64 x.1.f1, .int .i64 x.1.f2, .int .i64 x.1.f3, .int .i64 x.1.f4, .int .i64 x.1.f5] 34)) w.heap.size 49 [v] ∧ OwnS (W.alloc (.cells #[.int .i64 x.1.f0, .int .i64 x.1.f1, .int .i64 x.1.f2, .int .i64 x.1.f3, .int .i64 x.1.f4, .int .i64 x.1.f5] 34)) 34 6 v pre.length ((pre.map (·.1)).flatMap encP6) S1 := by
      refine ⟨w.heap.size :: W.heap.size :: S2, fun b hb' => ?_, (Fr.refl _ _).alloc _, W.heap.size, v, S2, rfl, hnS, fun hm => by have := hlo _ hm; omega, by omega, rfl, Blk.new W 34 (encP6 x.1), hb.alloc _, ho.alloc _⟩
      simp only [List.mem_cons] at hb'
      rcases hb' with h | h | h
      · exact .inl (by simp [h])
      · exact .inr (by omega)
      · exact .inl (by simp [h])
    rw [hasg] at hfin
    have HF := Lib.hid hfin
    have HA := Lib.hid hasg
    clear hfin hb ho hr hf hg hasg
    gi_wp2
    rw [HA.out]
    exact HF.out
  case body =>
    rintro l pre x post a' S1 W hx hz hg hf hl hnl hr ⟨b, v, S2, rfl, hnS, hnb, hne, rfl, hbx, hb, ho⟩
    obtain ⟨k0, k1, k2, k3, k4, k5⟩ : W.cell? ⟨b, 0, none⟩ = some (.int .i64 x.1.f0) ∧ W.cell? ⟨b, 1, none⟩ = some (.int .i64 x.1.f1) ∧ W.cell? ⟨b, 2, none⟩ = some (.int .i64 x.1.f2) ∧ W.cell? ⟨b, 3, none⟩ = some (.int .i64 x.1.f3) ∧ W.cell? ⟨b, 4, none⟩ = some (.int .i64 x.1.f4) ∧ W.cell? ⟨b, 5, none⟩ = some (.int .i64 x.1.f5) := ⟨hbx.cell 0, hbx.cell 1, hbx.cell 2, hbx.cell 3, hbx.cell 4, hbx.cell 5⟩
    have hltb := hbx.lt
    rw [hasg]
    have hpl : pre.length < xs.length := by
      have := congrArg List.length hx
      simp at this
      omega
    have hc0 : W.cell? ⟨w.heap.size, 0, none⟩ = some v := by simpa using hb.cell 0
    have hf0 := hb.frz 0
    have hlt := hb.lt
    have HX := Lib.hid hx
    clear hx hr
    gi_wp2_with (gi_at_builtin; refine wpListIn_append_S _ rfl (.tmp 10) (.tmp 12) 49 rfl 34 i0 (.agg #[.int .i64 0, .int .i64 0, .int .i64 0, .int .i64 0, .int .i64 0, .int .i64 0]) 6 48 Try.underlying49 hi hz0 hz1 hz2 rfl _ _ _ _ rfl ((ho.alloc _ : OwnS (W.alloc _) _ _ _ _ _ _)) ⟨W.heap.size, 0, none⟩ 1 1 (encP6 x.1) rfl rfl (Blk.new W 34 (encP6 x.1)).news ?c2 ?c3 ?c4 ?_)
    case c2 => intro u hu; exact one_p6 [x.1] u (by simpa using hu)
    case c3 => unfold maxLen; omega
    case c4 => omega
    intro v' w2 S' hown' hgr' hfr'
    obtain ⟨g', cap', hv', hS'⟩ := hown'.head (by omega)
    have hfa : Fr [] W (W.alloc (.cells #[.int .i64 x.1.f0, .int .i64 x.1.f1, .int .i64 x.1.f2, .int .i64 x.1.f3, .int .i64 x.1.f4, .int .i64 x.1.f5] 34)) := (Fr.refl _ _).alloc _
    have hbA : Blk w2 w.heap.size 49 [v] := (hb.alloc _).fr hfr' hnS
    have hca : w2.cell? ⟨w.heap.size, 0, none⟩ = some v := by simpa using hbA.cell 0
    have hfza := hbA.frz 0
    have hsz2 := hfr'.size
    have hlt2 := hbA.lt
    have hbset := hbA.set 0 v'
    have hnS' : w.heap.size ∉ S' := hgr'.notMem (by simp; omega) hnS
    have hfin : postF (fun S (pre : List (P6 × Nat)) W => ∃ v S1, S = w.heap.size :: S1 ∧ w.heap.size ∉ S1 ∧ Blk W w.heap.size 49 [v] ∧ OwnS W 34 6 v pre.length ((pre.map (·.1)).flatMap encP6) S1) (fun _ _ _ _ => False) (w.heap.size :: b :: S2) (pre ++ [x]) W .normal ⟨#[], []⟩ (w2.setCell ⟨w.heap.size, 0, none⟩ v') := by
      refine ⟨w.heap.size :: S', Gr.mono (Gr.cons w.heap.size (hgr'.size (by simp))) (by intro y hy; simp at hy ⊢; rcases hy with hy | hy <;> simp [hy]), ?_, v', S', rfl, hnS', by simpa using hbset, ?_⟩
      · exact ((hfa.mono (T := w.heap.size :: b :: S2) (by simp)).trans (Gr.of_sub (by simp)) (hfr'.mono (T := w.heap.size :: b :: S2) (by intro b hb; simp [hb]))).setCell _ (.inl (by simp))
      · exact ownS_snoc_p6 (hown'.fr ((Fr.refl [w.heap.size] w2).setCell v' (.inl (by simp))) (by intro y hy hm; simp at hm; subst hm; exact hnS' hy))
    have HF := Lib.hid hfin
    clear hfin hbset hown' hgr' hfr' hbA ho hb
    subst hv'
    gi_wp2
    exact HF.out
  case stop => intro _ _ _ _ _ _ _ _ _ _ _ _ h _; exact h.elim
  case done =>
    rintro D S' W hD hDS hg hf ⟨v, S1, rfl, hnS, hb, ho⟩ hK
    have hc0 : W.cell? ⟨w.heap.size, 0, none⟩ = some v := by simpa using hb.cell 0
    rw [show (xs.zipIdx.map (·.1)) = xs from by simp, List.length_zipIdx] at ho
    have HO := Lib.hid ho
    have HKK := Lib.hid hK
    clear ho hK
    gi_wp2_with (gi_at_call 51; refine (wideIn _ (clip_p6 HO.out hlen)).mono ?_; rintro e w' ⟨v', rfl, ho', rfl⟩)
    refine ⟨by simp, .inl ⟨_, _, rfl, run_takeDeferred HKK.out, ?_⟩⟩
    refine ⟨_, results_tmp rfl _ _ _, v', S1, rfl, ho'.fr ((Fr.refl [D] _).putObj _ (.inl (by simp))) (by intro b hb hm; simp at hm; subst hm; exact hDS (by simp [hb])), ?_, ?_⟩
    · intro b hb
      rcases hg b (by simp [hb]) with h | h
      · simp at h; right; omega
      · right; omega
    · exact (hfw.trans (fun b hb => by simp at hb; right; omega) hf).putObj _ (.inr (by omega))

/-! ### what makes room -/
set_option maxHeartbeats 400000 in
theorem wider_no_p6 {w : World} {r d L head : Nat} {xs : List P6} (h : Rcp6 w r d L head xs) (hn : xs.length < L) :
    Calls Try.prog 71 #[.pointer (some ⟨r, 0, none⟩)] w fun e w' => e = .returned (.tuple #[]) ∧ ∃ n, w' = w.drewN n := by
  obtain ⟨cs, hb, hL, hd, hbd, hc⟩ := h
  have h0 := hb.cell 0
  have h2 := hb.cell 2
  simp at h0 h2
  clear hb hbd hc
  go_enter Try.func71, Try.ntmps71
  go_wp2
  go_quiet (fail)
  go_wp2
  refine bodyPost_ret (results_none rfl _ _ _) rfl ?_
  exact ⟨rfl, _, rfl⟩
set_option maxRecDepth 100000 in
set_option maxHeartbeats 1000000 in
theorem wider_yes_p6 {w : World} {r : Nat} {ds : List Nat} {xs : List P6} (h : Rgp6 w r ds xs) (hn : ∀ d L head, ds = [d] → Rcp6 w r d L head xs → L ≤ xs.length) (hx : xs.length ≤ 268435456) :
    Calls Try.prog 71 #[.pointer (some ⟨r, 0, none⟩)] w fun e w' => e = .returned (.tuple #[]) ∧ ∃ d, Rcp6 w' r d (2 * xs.length + 4) 0 xs ∧ w.heap.size ≤ d ∧ Fr [r] w w' := by
  obtain ⟨i0, hi, hz0, hz1, hz2⟩ := info_parts infop6
  have H := Lib.hid h
  obtain ⟨L, head, sv, hb, hL, hrest⟩ := h
  have h0 := hb.cell 0
  have h1 := hb.cell 1
  have h2 := hb.cell 2
  simp at h0 h1 h2
  have hrw := hb.lt
  obtain ⟨ao, hsv, hLn⟩ : ∃ ao, sv = .slice ao L L ∧ L ≤ xs.length := by
    rcases hrest with ⟨rfl, _, rfl, _, rfl⟩ | ⟨d, cs, rfl, hd, rfl, hbd, hc⟩
    · exact ⟨_, rfl, by simp⟩
    · exact ⟨_, rfl, hn d L head rfl ⟨cs, hb, hL, hd, hbd, hc⟩⟩
  subst hsv
  clear hb hrest hn
  go_enter Try.func71, Try.ntmps71
  go_wp2
  go_quiet (fail)
  go_wp2_with (at_make; refine wpList_make_S _ rfl _ _ 49 rfl 34 i0 (.agg #[.int .i64 0, .int .i64 0, .int .i64 0, .int .i64 0, .int .i64 0, .int .i64 0]) 6 48 Try.underlying49 hi hz0 hz1 hz2 .i64 .i64 _ _ (2 * xs.length + 4) rfl rfl (by simp) (by simp) (by omega) (by omega) ?_; intro w1 zs hbz hzl hf1 hs1 _)
  have hf1' : Fr [] w w1 := ((Fr.refl [] w).drewN nq).trans' hf1
  have hbz' : Blk w1 w.heap.size 34 zs := hbz
  have hs1' : w1.heap.size = w.heap.size + 1 := hs1
  clear hf1 hbz hs1
  refine (list_p6 (H.out.fr hf1' (by simp))).mono ?_
  rintro e w2 ⟨v, S, rfl, hov, hgv, hf2⟩
  have hbz2 : Blk w2 w.heap.size 34 zs := hbz'.fr hf2 (by simp)
  have HZ := Lib.hid hzl
  have HO := Lib.hid hov
  have HB := Lib.hid hbz2
  clear hzl hov hbz2 hbz'
  go_wp2_with (with_reducible refine wpList_copy_S _ rfl (.tmp 20) (.tmp 22) 49 49 rfl 34 i0 6 Try.underlying49 hi hz1 w.heap.size (2 * xs.length + 4) (2 * xs.length + 4) 34 zs rfl HB.out v xs.length (xs.flatMap encP6) S rfl HO.out ?c1 ?c2 ?c3 ?_)
  case c1 => omega
  case c2 => have := HZ.out; omega
  case c3 => exact one_p6 xs
  intro w3 cs3 hb3 hl3 ht3 hf3
  have HL3 := Lib.hid hl3
  have HT3 := Lib.hid ht3
  clear hl3 ht3
  have hf12 : Fr [] w w2 := hf1'.trans' hf2
  have hf13 : Fr [w.heap.size] w w3 := (hf12.mono (by simp)).trans' hf3
  have hf13' : Fr [] w w3 := hf13.mono' (fun b hb => by simp at hb; right; omega)
  obtain ⟨L', head', sv', hbr, hL', _⟩ := H.out
  have hbr3 : Blk w3 r 134 [sv', .int .i64 head', .int .i64 xs.length] := hbr.fr hf13' (by simp)
  have h30 := hbr3.cell 0
  have h31 := hbr3.cell 1
  simp at h30 h31
  have f30 := hbr3.frz 0
  have f31 := hbr3.frz 1
  have hset := (hbr3.set 0 (.slice (some ⟨w.heap.size, 0, none⟩) (2 * xs.length + 4) (2 * xs.length + 4))).set 1 (.int .i64 0)
  have hb3' := ((hb3.other (p := ⟨r, 0, none⟩) (.slice (some ⟨w.heap.size, 0, none⟩) (2 * xs.length + 4) (2 * xs.length + 4)) (by show w.heap.size ≠ r; omega)).other (p := ⟨r, 1, none⟩) (.int .i64 0) (by show w.heap.size ≠ r; omega))
  have hfin : Rcp6 ((w3.setCell ⟨r, 0, none⟩ (.slice (some ⟨w.heap.size, 0, none⟩) (2 * xs.length + 4) (2 * xs.length + 4))).setCell ⟨r, 1, none⟩ (.int .i64 0)) r w.heap.size (2 * xs.length + 4) 0 xs := by
    refine ⟨_, by simpa using hset, by omega, by omega, hb3', Cyc.straight (by omega) (by omega) ?_ enc_len_p6 ?_⟩
    · rw [HL3.out, HZ.out]
    · simpa using HT3.out
  have hfr : Fr [r] w ((w3.setCell ⟨r, 0, none⟩ (.slice (some ⟨w.heap.size, 0, none⟩) (2 * xs.length + 4) (2 * xs.length + 4))).setCell ⟨r, 1, none⟩ (.int .i64 0)) :=
    ((hf13'.mono (by simp)).setCell _ (.inl (by simp))).setCell _ (.inl (by simp))
  have HF : Hid (Rcp6 ((w3.setCell ⟨r, 0, none⟩ (.slice (some ⟨w.heap.size, 0, none⟩) (2 * xs.length + 4) (2 * xs.length + 4))).setCell ⟨r, 1, none⟩ (.int .i64 0)) r w.heap.size (2 * xs.length + 4) 0 xs ∧ Fr [r] w ((w3.setCell ⟨r, 0, none⟩ (.slice (some ⟨w.heap.size, 0, none⟩) (2 * xs.length + 4) (2 * xs.length + 4))).setCell ⟨r, 1, none⟩ (.int .i64 0))) := ⟨hfin, hfr⟩
  clear hfin hfr hset hb3' hbr3 hbr hf13 hf13' hf12 hf3 hb3 hf2 hf1'
  go_wp2
  go_end0
  exact ⟨rfl, _, HF.out.1, Nat.le_refl _, HF.out.2⟩
theorem wider_p6 {w : World} {r : Nat} {ds : List Nat} {xs : List P6} (h : Rgp6 w r ds xs) (hx : xs.length ≤ 268435456) :
    Calls Try.prog 71 #[.pointer (some ⟨r, 0, none⟩)] w fun e w' => e = .returned (.tuple #[]) ∧ ∃ d L head, Rcp6 w' r d L head xs ∧ xs.length < L ∧ Fr [r] w w' ∧ Gr w ds [d] := by
  by_cases hr : ∃ d L head, ds = [d] ∧ Rcp6 w r d L head xs ∧ xs.length < L
  · obtain ⟨d, L, head, rfl, hc, hl⟩ := hr
    refine (wider_no_p6 hc hl).mono ?_
    rintro e w' ⟨he, n, rfl⟩
    exact ⟨he, d, L, head, hc, hl, (Fr.refl _ _).drewN n, Gr.refl _ _⟩
  · refine (wider_yes_p6 h (fun d L head hd hc => ?_) hx).mono ?_
    · rcases Nat.lt_or_ge xs.length L with h' | h'
      · exact absurd ⟨d, L, head, hd, hc, h'⟩ hr
      · exact h'
    · rintro e w' ⟨he, d, hc, hd, hf⟩
      exact ⟨he, d, _, _, hc, by omega, hf, fun b hb => by simp at hb; subst hb; exact .inr hd⟩

set_option maxRecDepth 100000 in
set_option maxHeartbeats 8000000 in
theorem pushB_p6 {w : World} {r : Nat} {ds : List Nat} {xs : List P6} (h : Rgp6 w r ds xs) (hx : xs.length ≤ 268435456) (v : P6) :
    Calls Try.prog 39 #[.pointer (some ⟨r, 0, none⟩), (.agg #[.int .i64 v.f0, .int .i64 v.f1, .int .i64 v.f2, .int .i64 v.f3, .int .i64 v.f4, .int .i64 v.f5])] w fun e w' => e = .returned (.tuple #[]) ∧ ∃ ds', Rgp6 w' r ds' (xs ++ [v]) ∧ Fr (r :: ds) w w' ∧ Gr w ds ds' := by
  have hrl := h.lt r (by simp)
  have hcall := Lib.hid (fun o => wider_p6 (h.alloc o) hx)
  clear h
  go_enter Try.func39, Try.ntmps39
  go_wp2_with fail
  refine (hcall.out _).mono ?_
  rintro e w1 ⟨rfl, d, L, head, ⟨cs, hb, hL, hd, hbd, hc⟩, hroom, hf1', hg1'⟩
  have hbx : Blk w1 w.heap.size 34 (encP6 v) := (Blk.new w 34 (encP6 v)).fr hf1' (by simp; omega)
  have hf1 : Fr [r] w w1 := ((Fr.refl [r] w).alloc _).trans' hf1'
  have hg1 : Gr w ds [d] := hg1'.size (by simp)
  obtain ⟨b0, b1, b2, b3, b4, b5⟩ : w1.cell? ⟨w.heap.size, 0, none⟩ = some (.int .i64 v.f0) ∧ w1.cell? ⟨w.heap.size, 1, none⟩ = some (.int .i64 v.f1) ∧ w1.cell? ⟨w.heap.size, 2, none⟩ = some (.int .i64 v.f2) ∧ w1.cell? ⟨w.heap.size, 3, none⟩ = some (.int .i64 v.f3) ∧ w1.cell? ⟨w.heap.size, 4, none⟩ = some (.int .i64 v.f4) ∧ w1.cell? ⟨w.heap.size, 5, none⟩ = some (.int .i64 v.f5) := ⟨hbx.cell 0, hbx.cell 1, hbx.cell 2, hbx.cell 3, hbx.cell 4, hbx.cell 5⟩
  clear hf1' hg1'
  have h0 := hb.cell 0
  have h1 := hb.cell 1
  have h2 := hb.cell 2
  simp at h0 h1 h2
  have f2 := hb.frz 2
  have hhd := hc.headL
  obtain ⟨m, hm⟩ : ∃ m, Hid (m = (head + xs.length) % L) := ⟨_, Lib.hid rfl⟩
  have hml : m < L := by rw [hm.out]; exact Nat.mod_lt _ (by omega)
  have hmc : m * 6 + 6 ≤ cs.length := place_in hml hc.len
  have HBD := Lib.hid hbd
  have HBB := Lib.hid hb
  have HC := Lib.hid hc
  have HF1 := Lib.hid hf1
  have HG := Lib.hid hg1
  have hrd : r ∉ [d] := by simpa using Ne.symm hd
  clear hg1 hf1 hb hbd hc hcall hbx
  go_wp2
  refine wp_region_quiet_tail 12 (by kernel_rfl) (by kernel_rfl) ?_
  simp only [List.take_succ_cons, List.take_zero, List.drop_succ_cons, List.drop_zero]
  repeat (first | go_big_quiet_step ((go_at_call 72; exact Calls.quiet_of (place_p6 m r L head xs.length _ _ (by omega) hL hhd (by omega) hm h0 h1))) | quiet_step ((go_at_call 72; exact Calls.quiet_of (place_p6 m r L head xs.length _ _ (by omega) hL hhd (by omega) hm h0 h1))))
  refine wpQuiet_nil ?_
  rintro _ ⟨nq, rfl⟩
  refine wpList_store_S rfl _ _ _ rfl d (m * 6) 34 cs (encP6 v) rfl rfl (HBD.out.drewN nq) (by kernel_rfl) (by simpa [encP6] using hmc) (fun u hu => one_p6 [v] u (by simpa using hu)) ?_
  intro w2 b2 f2 z2
  have hr2 := (HBB.out.drewN nq).fr f2 hrd
  have g2 := hr2.cell 2
  simp only [List.getElem?_cons_zero, List.getElem?_cons_succ] at g2
  have q2 := hr2.frz 2
  have hfin : Rcp6 (w2.setCell ⟨r, 2, none⟩ (.int .i64 (xs.length + 1 : Int))) r d L head (xs ++ [v]) ∧ Fr (r :: ds) w (w2.setCell ⟨r, 2, none⟩ (.int .i64 (xs.length + 1 : Int))) := by
    refine ⟨⟨_, ?_, hL, hd, b2.other (p := ⟨r, 2, none⟩) _ hd, ?_⟩, ?_⟩
    · simpa using hr2.set 2 (.int .i64 (xs.length + 1 : Int))
    · have := HC.out.back hroom (Splice.row (ys := encP6 v) rfl (by rw [← hm.out]; exact hmc))
      rw [← hm.out] at this
      exact this
    · have f3 : Fr [r, d] w1 (w2.setCell ⟨r, 2, none⟩ (.int .i64 (xs.length + 1 : Int))) := ((((Fr.refl [r, d] w1).drewN nq).trans' (f2.mono (by simp)))).setCell _ (.inl (by simp))
      exact (HF1.out.mono (T := r :: ds) (by simp)).trans (Gr.cons r HG.out) f3
  have HF := Lib.hid hfin
  clear hfin hr2 b2 f2
  go_wp2
  go_end0
  exact ⟨rfl, _, HF.out.1.at, HF.out.2, HG.out⟩

end Go.Proofs.Yteojodcdehkejaa
/- Memory in pieces: chunks of blocks that lie apart, each with what it holds; a call changes its own chunks and leaves the others. -/
namespace Go.Proofs.Yteojodcdehkejaa
open Go Go.RowKit

/-- A piece of memory: its blocks, and what they hold. -/
structure Chunk where
  bs : List Nat
  ok : World → Prop
  kept : ∀ {w w' : World}, ok w → (∀ b, b ∈ bs → w'.heap[b]? = w.heap[b]?) → ok w'
  lt : ∀ {w : World}, ok w → ∀ b, b ∈ bs → b < w.heap.size

/-- a block of cells -/
def Chunk.blk (b : Nat) (t : TypeId) (vs : List Value) : Chunk where
  bs := [b]
  ok w := Blk w b t vs
  kept h hk := (hk b (by simp)).trans h
  lt h x hx := by simp at hx; subst hx; exact Blk.lt h
/-- an owned row -/
def Chunk.own (e sz : Nat) (v : Value) (n : Nat) (xs : List Value) (S : List Nat) : Chunk where
  bs := S
  ok w := OwnS w e sz v n xs S
  kept h hk := OwnS.kept h hk
  lt h := OwnS.lt h
/-- the mark of a loop over a function -/
def Chunk.mark (D : Nat) : Chunk where
  bs := [D]
  ok w := w.heap[D]? = some (.deferred (some []))
  kept h hk := (hk D (by simp)).trans h
  lt h x hx := by simp at hx; subst hx; exact (Array.getElem?_eq_some_iff.1 h).1
theorem Chunk.blk_bs (b : Nat) (t : TypeId) (vs : List Value) : (Chunk.blk b t vs).bs = [b] := rfl
theorem Chunk.own_bs (e sz : Nat) (v : Value) (n : Nat) (xs : List Value) (S : List Nat) : (Chunk.own e sz v n xs S).bs = S := rfl
theorem Chunk.mark_bs (D : Nat) : (Chunk.mark D).bs = [D] := rfl

def Chunks.bs (cs : List Chunk) : List Nat := cs.flatMap Chunk.bs
theorem Chunks.mem_bs {cs : List Chunk} {b : Nat} : b ∈ Chunks.bs cs ↔ ∃ c, c ∈ cs ∧ b ∈ c.bs := List.mem_flatMap

/-- they hold, and lie apart -/
structure Holds (w : World) (cs : List Chunk) : Prop where
  ok : ∀ c, c ∈ cs → c.ok w
  ap : cs.Pairwise (fun c d => ∀ b, b ∈ c.bs → b ∉ d.bs)

/-- .. and of what was there in w0, none but the blocks of S0 has turned; the chunks' blocks are of S0 or new. -/
structure Sep (w0 : World) (S0 : List Nat) (w : World) (cs : List Chunk) : Prop where
  fr : Fr S0 w0 w
  hs : Holds w cs
  gr : Gr w0 S0 (Chunks.bs cs)

section
variable {w0 w w' w'' : World} {S0 S T : List Nat} {cs cs' ds news : List Chunk} {c c' d d' : Chunk}

theorem Holds.get (h : Holds w cs) {i : Nat} (hi : cs[i]? = some c) : c.ok w := h.ok c (List.mem_of_getElem? hi)
theorem Holds.lt (h : Holds w cs) : ∀ b, b ∈ Chunks.bs cs → b < w.heap.size := fun b hb => by
  obtain ⟨c, hc, hb⟩ := Chunks.mem_bs.1 hb
  exact c.lt (h.ok c hc) b hb
theorem Holds.kept (h : Holds w cs) (hk : ∀ b, b ∈ Chunks.bs cs → w'.heap[b]? = w.heap[b]?) : Holds w' cs :=
  ⟨fun c hc => c.kept (h.ok c hc) (fun b hb => hk b (Chunks.mem_bs.2 ⟨c, hc, hb⟩)), h.ap⟩
theorem Holds.fr' (h : Holds w cs) (f : Fr S w w') (hn : ∀ b, b ∈ Chunks.bs cs → b ∉ S) : Holds w' cs := h.kept fun b hb => f.block b (h.lt b hb) (hn b hb)
theorem Holds.apart (h : Holds w cs) {i j : Nat} (hij : i ≠ j) (hi : cs[i]? = some c) (hj : cs[j]? = some d) : ∀ b, b ∈ c.bs → b ∉ d.bs := by
  intro b hb hd
  obtain ⟨hil, rfl⟩ := List.getElem?_eq_some_iff.1 hi
  obtain ⟨hjl, rfl⟩ := List.getElem?_eq_some_iff.1 hj
  rcases Nat.lt_or_gt_of_ne hij with hlt | hgt
  · exact List.pairwise_iff_getElem.1 h.ap i j hil hjl hlt b hb hd
  · exact List.pairwise_iff_getElem.1 h.ap j i hjl hil hgt b hd hb
theorem Holds.sub (h : Holds w cs) (hs : cs'.Sublist cs) : Holds w cs' := ⟨fun c hc => h.ok c (hs.subset hc), h.ap.sublist hs⟩
theorem Holds.perm (h : Holds w cs) (hp : cs.Perm cs') : Holds w cs' :=
  ⟨fun c hc => h.ok c (hp.mem_iff.2 hc), (hp.pairwise_iff (fun hab x hx hx' => hab x hx' hx)).1 h.ap⟩
theorem Holds.nil (w : World) : Holds w [] := ⟨(fun _ h => by cases h), List.Pairwise.nil⟩
theorem Holds.app (h : Holds w cs) (k : Holds w ds) (hd : ∀ b, b ∈ Chunks.bs cs → b ∉ Chunks.bs ds) : Holds w (cs ++ ds) :=
  ⟨fun c hc => (List.mem_append.1 hc).elim (h.ok c) (k.ok c), List.pairwise_append.2 ⟨h.ap, k.ap, fun c hc d hd' b hb hb' => hd b (Chunks.mem_bs.2 ⟨c, hc, hb⟩) (Chunks.mem_bs.2 ⟨d, hd', hb'⟩)⟩⟩
theorem Holds.left (h : Holds w (cs ++ ds)) : Holds w cs := h.sub (List.sublist_append_left _ _)
theorem Holds.right (h : Holds w (cs ++ ds)) : Holds w ds := h.sub (List.sublist_append_right _ _)
theorem Holds.cross (h : Holds w (cs ++ ds)) : ∀ b, b ∈ Chunks.bs cs → b ∉ Chunks.bs ds := fun b hb hb' => by
  obtain ⟨c, hc, h1⟩ := Chunks.mem_bs.1 hb
  obtain ⟨d, hd, h2⟩ := Chunks.mem_bs.1 hb'
  exact (List.pairwise_append.1 h.ap).2.2 c hc d hd b h1 h2
theorem Chunks.bs_app (cs ds : List Chunk) : Chunks.bs (cs ++ ds) = Chunks.bs cs ++ Chunks.bs ds := by simp [Chunks.bs]
theorem Chunks.bs_cons (c : Chunk) (ds : List Chunk) : Chunks.bs (c :: ds) = c.bs ++ Chunks.bs ds := by simp [Chunks.bs]
theorem Chunks.bs_nil : Chunks.bs [] = [] := rfl
theorem Holds.one (h : c.ok w) : Holds w [c] := ⟨fun d hd => by simp at hd; subst hd; exact h, by simp⟩

theorem Sep.start (h : Holds w cs) : Sep w (Chunks.bs cs) w cs := ⟨Fr.refl _ _, h, Gr.refl _ _⟩
theorem Sep.start1 (h : c.ok w) : Sep w c.bs w [c] := ⟨Fr.refl _ _, Holds.one h, by rw [Chunks.bs_cons, Chunks.bs_nil, List.append_nil]; exact Gr.refl _ _⟩
theorem Sep.get (h : Sep w0 S0 w cs) {i : Nat} (hi : cs[i]? = some c) : c.ok w := h.hs.get hi
theorem Sep.blk (h : Sep w0 S0 w cs) (i : Nat) {b : Nat} {t : TypeId} {vs : List Value} (hi : cs[i]? = some (Chunk.blk b t vs)) : Blk w b t vs := h.hs.get hi
theorem Sep.own (h : Sep w0 S0 w cs) (i : Nat) {e sz : Nat} {v : Value} {n : Nat} {xs : List Value} {S : List Nat} (hi : cs[i]? = some (Chunk.own e sz v n xs S)) : OwnS w e sz v n xs S := h.hs.get hi
theorem Sep.sub (h : Sep w0 S0 w cs) (hs : cs'.Sublist cs) : Sep w0 S0 w cs' :=
  ⟨h.fr, h.hs.sub hs, fun b hb => by obtain ⟨c, hc, hb⟩ := Chunks.mem_bs.1 hb; exact h.gr b (Chunks.mem_bs.2 ⟨c, hs.subset hc, hb⟩)⟩
theorem Sep.perm (h : Sep w0 S0 w cs) (hp : cs.Perm cs') : Sep w0 S0 w cs' :=
  ⟨h.fr, h.hs.perm hp, fun b hb => by obtain ⟨c, hc, hb⟩ := Chunks.mem_bs.1 hb; exact h.gr b (Chunks.mem_bs.2 ⟨c, hp.mem_iff.2 hc, hb⟩)⟩
theorem Sep.bne (h : Sep w0 S0 w cs) (i j : Nat) (hij : i ≠ j) {b b' : Nat} {t t' : TypeId} {vs vs' : List Value} (hi : cs[i]? = some (Chunk.blk b t vs)) (hj : cs[j]? = some (Chunk.blk b' t' vs')) : b ≠ b' :=
  fun e => h.hs.apart hij hi hj b (by simp [Chunk.blk]) (by simp [Chunk.blk, e])

/-- The frame rule: what a call did with some chunks, beside the others. -/
theorem Sep.frame (h : Sep w0 S0 w (cs ++ ds)) (k : Sep w (Chunks.bs cs) w' cs') : Sep w0 S0 w' (cs' ++ ds) := by
  have hlt := h.hs.right.lt
  refine ⟨h.fr.trans (fun b hb => h.gr b (by rw [Chunks.bs_app]; simp [hb])) k.fr, k.hs.app (h.hs.right.fr' k.fr (fun b hb hc => h.hs.cross b hc hb)) (fun b hb hd => ?_), fun b hb => ?_⟩
  · rcases k.gr b hb with h1 | h1
    · exact h.hs.cross b h1 hd
    · have := hlt b hd; omega
  · rw [Chunks.bs_app] at hb
    rcases List.mem_append.1 hb with hb | hb
    · rcases k.gr b hb with h1 | h1
      · exact h.gr b (by rw [Chunks.bs_app]; simp [h1])
      · exact .inr (Nat.le_trans h.fr.size h1)
    · exact h.gr b (by rw [Chunks.bs_app]; simp [hb])

theorem perm_set {α : Type} {l : List α} {i : Nat} {c : α} (hi : l[i]? = some c) (c' : α) : (c' :: l.eraseIdx i).Perm (l.set i c') := by
  induction l generalizing i with
  | nil => simp at hi
  | cons a l ih =>
    cases i with
    | zero => simp
    | succ i =>
      simp only [List.getElem?_cons_succ] at hi
      simp only [List.eraseIdx_cons_succ, List.set_cons_succ]
      exact (List.Perm.swap a c' _).trans ((ih hi).cons a)
theorem perm_get {α : Type} {l : List α} {i : Nat} {c : α} (hi : l[i]? = some c) : l.Perm (c :: l.eraseIdx i) := by
  have := perm_set hi c
  rw [show l.set i c = l from by
    obtain ⟨hil, rfl⟩ := List.getElem?_eq_some_iff.1 hi
    simp] at this
  exact this.symm
/-- a call that changes one chunk and makes others -/
theorem Sep.call1 (h : Sep w0 S0 w cs) (i : Nat) (hi : cs[i]? = some c) (k : Sep w c.bs w' (c' :: news)) : Sep w0 S0 w' (cs.set i c' ++ news) := by
  have h1 := h.perm (perm_get hi)
  have h2 := Sep.frame (cs := [c]) (ds := cs.eraseIdx i) (by simpa using h1) (by rw [Chunks.bs_cons, Chunks.bs_nil, List.append_nil]; exact k)
  refine h2.perm ?_
  rw [List.cons_append]
  refine (List.Perm.cons _ List.perm_append_comm).trans ?_
  rw [← List.cons_append]
  exact (perm_set hi c').append_right news
theorem Sep.call1' (h : Sep w0 S0 w cs) (i : Nat) (hi : cs[i]? = some c) (k : Sep w c.bs w' [c']) : Sep w0 S0 w' (cs.set i c') := by simpa using h.call1 i hi k
/-- a call that makes chunks alone -/
theorem Sep.call0 (h : Sep w0 S0 w cs) (k : Sep w [] w' news) : Sep w0 S0 w' (cs ++ news) :=
  (Sep.frame (cs := []) (ds := cs) h k).perm List.perm_append_comm
/-- a call that changes two -/
theorem Sep.call2 (h : Sep w0 S0 w cs) (i j : Nat) (hij : i ≠ j) (hi : cs[i]? = some c) (hj : cs[j]? = some d) (k : Sep w (c.bs ++ d.bs) w' (c' :: d' :: news)) : Sep w0 S0 w' ((cs.set i c').set j d' ++ news) := by
  have hj' : (cs.set i c)[j]? = some d := by rw [List.getElem?_set_ne hij]; exact hj
  have p1 : cs.Perm (c :: cs.eraseIdx i) := perm_get hi
  have hj2 : (c' :: cs.eraseIdx i).Perm (cs.set i c') := perm_set hi c'
  have hj3 : (cs.set i c')[j]? = some d := by rw [List.getElem?_set_ne hij]; exact hj
  have p2 : (cs.set i c').Perm (d :: (cs.set i c').eraseIdx j) := perm_get hj3
  -- the rest: both struck
  obtain ⟨rest, hr⟩ : ∃ rest, (cs.eraseIdx i).Perm (d :: rest) := by
    have : d ∈ cs.eraseIdx i := by
      rw [List.mem_eraseIdx_iff_getElem?]
      exact ⟨j, fun e => hij e.symm, hj⟩
    obtain ⟨k, hk⟩ := List.getElem?_of_mem this
    exact ⟨_, perm_get hk⟩
  have pA : cs.Perm ([c, d] ++ rest) := p1.trans (hr.cons c)
  have pB : ((cs.set i c').set j d').Perm ([c', d'] ++ rest) := by
    have e1 : (d :: (cs.set i c').eraseIdx j).Perm (d :: (c' :: rest)) := p2.symm.trans (hj2.symm.trans ((hr.cons c').trans (List.Perm.swap d c' rest)))
    have e2 : ((cs.set i c').eraseIdx j).Perm (c' :: rest) := List.Perm.cons_inv e1
    exact (perm_set hj3 d').symm.trans ((e2.cons d').trans (List.Perm.swap c' d' rest))
  have h2 := Sep.frame (cs := [c, d]) (ds := rest) (h.perm pA) (by rw [Chunks.bs_cons, Chunks.bs_cons, Chunks.bs_nil, List.append_nil]; exact k)
  refine h2.perm ?_
  refine List.Perm.trans ?_ (pB.symm.append_right news)
  simp only [List.cons_append, List.nil_append]
  exact (List.perm_append_comm.cons d').cons c'
/-- a call that changes those in the middle, and makes others -/
theorem Sep.mid {a b b' c : List Chunk} (h : Sep w0 S0 w (a ++ (b ++ c))) (k : Sep w (Chunks.bs b) w' (b' ++ news)) : Sep w0 S0 w' (a ++ (b' ++ c) ++ news) := by
  have p1 : (a ++ (b ++ c)).Perm (b ++ (a ++ c)) := by
    rw [← List.append_assoc, ← List.append_assoc]
    exact List.perm_append_comm.append_right c
  refine (Sep.frame (h.perm p1) k).perm ?_
  have p2 : (b' ++ (a ++ c)).Perm (a ++ (b' ++ c)) := by
    rw [← List.append_assoc, ← List.append_assoc]
    exact List.perm_append_comm.append_right c
  refine List.Perm.trans ?_ (p2.append_right news)
  rw [List.append_assoc, List.append_assoc]
  exact List.Perm.append_left b' List.perm_append_comm
theorem Sep.next (h : Sep w0 S0 w cs) (k : Sep w (Chunks.bs cs) w' cs') : Sep w0 S0 w' cs' := by
  have := Sep.frame (cs := cs) (ds := []) (by simpa using h) k
  simpa using this
/-- chunks that are looked at no more may turn -/
theorem Sep.gone (h : Sep w0 S0 w (cs ++ ds)) (f : Fr S w w') (hS : ∀ b, b ∈ S → b ∈ Chunks.bs ds) : Sep w0 S0 w' cs := by
  have := Sep.frame (cs := ds) (ds := cs) (cs' := []) (h.perm List.perm_append_comm) ⟨f.mono hS, Holds.nil _, Gr.nil _ _⟩
  simpa using this
/-- nothing of what was there has turned -/
theorem Sep.same (h : Sep w0 S0 w cs) (f : Fr [] w w') : Sep w0 S0 w' cs := by
  have := h.call0 (news := []) ⟨f, Holds.nil _, Gr.nil _ _⟩
  simpa using this
theorem Sep.sim (h : Sep w0 S0 w cs) (s : Sim w w') : Sep w0 S0 w' cs := h.same ((Fr.refl [] w).sim s)
theorem Sep.drewN (h : Sep w0 S0 w cs) (n : Nat) : Sep w0 S0 (w.drewN n) cs := h.same ((Fr.refl [] w).drewN n)
theorem Sep.drew (h : Sep w0 S0 w cs) : Sep w0 S0 w.drew cs := h.same (Fr.refl [] w).drew
theorem Sep.allocJ (h : Sep w0 S0 w cs) (o : Obj) : Sep w0 S0 (w.alloc o) cs := h.same ((Fr.refl [] w).alloc o)
theorem Sep.alloc (h : Sep w0 S0 w cs) (t : TypeId) (vs : List Value) : Sep w0 S0 (w.alloc (.cells vs.toArray t)) (cs ++ [Chunk.blk w.heap.size t vs]) :=
  h.call0 ⟨(Fr.refl [] w).alloc _, Holds.one (Blk.new w t vs), fun b hb => by simp [Chunks.bs, Chunk.blk] at hb; subst hb; exact .inr (Nat.le_refl _)⟩
theorem Sep.set (h : Sep w0 S0 w cs) (i : Nat) {b : Nat} {t : TypeId} {vs : List Value} (hi : cs[i]? = some (Chunk.blk b t vs)) (o : Nat) (v : Value) : Sep w0 S0 (w.setCell ⟨b, o, none⟩ v) (cs.set i (Chunk.blk b t (vs.set o v))) :=
  h.call1' i hi ⟨(Fr.refl _ w).setCell v (.inl (by simp [Chunk.blk])), Holds.one ((h.blk i hi).set o v), by simp [Chunks.bs, Chunk.blk]; exact Gr.refl _ _⟩
/-- a chunk said anew, of the same blocks -/
theorem Sep.re (h : Sep w0 S0 w cs) (i : Nat) (hi : cs[i]? = some c) (hb : c'.bs = c.bs) (hc : c'.ok w) : Sep w0 S0 w (cs.set i c') :=
  h.call1' i hi ⟨Fr.refl _ _, Holds.one hc, by rw [Chunks.bs_cons, Chunks.bs_nil, List.append_nil, hb]; exact Gr.refl _ _⟩
/-- .. and the whole at the end -/
theorem Sep.take (h : Sep w0 S0 w cs) (n : Nat) : Sep w0 S0 w (cs.take n) := h.sub (List.take_sublist _ _)
theorem Sep.cellOf (h : Sep w0 S0 w cs) (i : Nat) {b : Nat} {t : TypeId} {vs : List Value} (hi : cs[i]? = some (Chunk.blk b t vs)) (o : Nat) {v : Value} (hv : vs[o]? = some v) : w.cell? ⟨b, o, none⟩ = some v := ((h.blk i hi).cell o).trans hv
theorem Sep.of_one {S : List Nat} (f : Fr S w w') (hk : c.ok w') (g : Gr w S c.bs) : Sep w S w' [c] := ⟨f, Holds.one hk, by rw [Chunks.bs_cons, Chunks.bs_nil, List.append_nil]; exact g⟩
theorem Sep.of_one0 (f : Fr [] w w') (hk : c.ok w') (g : Gr w [] c.bs) : Sep w [] w' [c] := Sep.of_one f hk g
theorem Sep.of_same {S : List Nat} (f : Fr S w w') (hk : c.ok w') (hS : S = c.bs) : Sep w c.bs w' [c] := by subst hS; exact Sep.of_one f hk (Gr.refl _ _)

/-- one of many chunks: all of a list -/
def Chunk.all (cs : List Chunk) : Chunk where
  bs := Chunks.bs cs
  ok w := Holds w cs
  kept h hk := Holds.kept h hk
  lt h := Holds.lt h
theorem Sep.open (h : Sep w0 S0 w (Chunk.all ds :: cs)) : Sep w0 S0 w (ds ++ cs) := by
  refine Sep.frame (cs := [Chunk.all ds]) (ds := cs) h ?_
  have hd : Holds w ds := h.hs.ok (Chunk.all ds) (by simp)
  have := Sep.start hd
  rw [Chunks.bs_cons, Chunks.bs_nil, List.append_nil]
  exact this
theorem Sep.shut (h : Sep w0 S0 w (ds ++ cs)) : Sep w0 S0 w (Chunk.all ds :: cs) := by
  refine Sep.frame (cs := ds) (cs' := [Chunk.all ds]) h ?_
  exact Sep.of_one (Fr.refl _ _) (show Holds w ds from h.hs.left) (Gr.refl _ _)

/-- those of the numbers of a list, in its order -/
theorem Sep.pick (h : Sep w0 S0 w cs) (is : List Nat) (hn : is.Nodup) : Sep w0 S0 w (is.filterMap (fun i => cs[i]?)) := by
  refine ⟨h.fr, ⟨fun c hc => ?_, ?_⟩, fun b hb => ?_⟩
  · obtain ⟨i, _, hi⟩ := List.mem_filterMap.1 hc
    exact h.hs.get hi
  · exact List.Pairwise.filterMap (R := fun i j => i ≠ j) (fun i => cs[i]?) (fun i j hij c hc d hd => h.hs.apart hij hc hd) hn
  · obtain ⟨c, hc, hb⟩ := Chunks.mem_bs.1 hb
    obtain ⟨i, _, hi⟩ := List.mem_filterMap.1 hc
    exact h.gr b (Chunks.mem_bs.2 ⟨c, List.mem_of_getElem? hi, hb⟩)
/-- what an invariant of a range over a function may say -/
theorem loc_holds {β : Type} {n₀ : Nat} (φ : β → List Chunk → Prop) : ∀ S (s : β) A B T, (∃ cs, S = Chunks.bs cs ∧ Holds A cs ∧ φ s cs) → Fr T A B → (∀ b, b ∈ T → n₀ ≤ b ∧ b ∉ S) → ∃ cs, S = Chunks.bs cs ∧ Holds B cs ∧ φ s cs := by
  rintro S s A B T ⟨cs, rfl, h, hp⟩ f ht
  exact ⟨cs, rfl, h.fr' f (fun b hb hm => (ht b hm).2 hb), hp⟩
end
/-- a range over a function has ended: its chunks, and its mark -/
theorem Sep.ranged {w w' : World} {S S' : List Nat} {cs : List Chunk} {D : Nat} (f : Fr S w w') (g : Gr w S S') (hb : S' = Chunks.bs cs) (h : Holds w' cs) (hD : w.heap.size ≤ D) (hn : D ∉ S') (hm : w'.heap[D]? = some (.deferred (some []))) : Sep w S w' (cs ++ [Chunk.mark D]) := by
  subst hb
  refine ⟨f, h.app (Holds.one hm) (fun b hb hm => by simp [Chunks.bs, Chunk.mark] at hm; subst hm; exact hn hb), fun b hb => ?_⟩
  rw [Chunks.bs_app] at hb
  rcases List.mem_append.1 hb with hb | hb
  · exact g b hb
  · simp [Chunks.bs, Chunk.mark] at hb; subst hb; exact .inr hD
/-- a frame meets a pattern whose free slots are told by a function -/
theorem meet_frame {R : (Nat → Value) → List Deferred → Prop} {G : (Nat → Value) → Array Value} {l : List Value} {d : List Deferred} (hR : R (fun i => l.getD i undef) d) (hG : l.toArray = G (fun i => l.getD i undef)) :
    ∃ (u : Nat → Value) (dfs : List Deferred), R u dfs ∧ (⟨l.toArray, d⟩ : Act) = ⟨G u, dfs⟩ := ⟨_, d, hR, by rw [hG]⟩
/-- the walk stops here -/
structure Stop (p : Prop) : Prop where
  out : p
theorem stop_block (n : Nat) {s : Code} {F : Fence} {rm : Nat} {P : Program} {Q : Exit → Act → World → Prop} {a : Act} {w : World} (h : Stop ((Code.block n s).wpIn F rm P Q a w)) : (Code.block n s).wpIn F rm P Q a w := h.out
theorem stop_at (n : Nat) {ops : Array Oper} {dr : Bool} {s : Code} {F : Fence} {rm : Nat} {P : Program} {Q : Exit → Act → World → Prop} {a : Act} {w : World} (h : Stop (((Code.region n ops dr).seq s).wpIn F rm P Q a w)) : ((Code.region n ops dr).seq s).wpIn F rm P Q a w := h.out
theorem stop_cond (n : Nat) {s t : Code} {F : Fence} {rm : Nat} {P : Program} {Q : Exit → Act → World → Prop} {a : Act} {w : World} (h : Stop ((Code.cond (.tmp n) s t).wpIn F rm P Q a w)) : (Code.cond (.tmp n) s t).wpIn F rm P Q a w := h.out
/-- a frame whose ranges over functions have left their marks -/
theorem leaves_marks' {P : Program} {fn : Func} {tmps : Array Value} {R : Ending → World → Prop} : ∀ (Ds : List Nat) (W : World), Ds.Nodup → (∀ D, D ∈ Ds → W.heap[D]? = some (.deferred (some []))) →
    (∀ W', Fr Ds W W' → LeavesInM Fence.wide 0 P fn tmps R [] .returning W') → LeavesInM Fence.wide 0 P fn tmps R (Ds.map (fun D => { target := .collected D, args := #[] })) .returning W
  | [], W, _, _, h => h W (Fr.refl _ _)
  | D :: Ds, W, hn, hm, h => by
    have hn' := List.nodup_cons.1 hn
    have f1 : Fr [D] W (W.putObj D (.deferred none)) := (Fr.refl _ _).putObj _ (.inl (by simp))
    refine ⟨by simp, .inl ⟨D, _, rfl, run_takeDeferred (hm D (by simp)), ?_⟩⟩
    refine leaves_marks' Ds _ hn'.2 (fun D' hD' => ?_) (fun W' f => h W' ((f1.mono (by simp)).trans' (f.mono (fun b hb => by simp [hb]))))
    have hl := (Array.getElem?_eq_some_iff.1 (hm D' (by simp [hD']))).1
    exact (f1.block D' hl (fun hm => by simp at hm; subst hm; exact hn'.1 hD')).trans (hm D' (by simp [hD']))
/-- the marks of a frame -/
def Chunk.marks (Ds : List Nat) : Chunk := Chunk.all (Ds.map Chunk.mark)
theorem marks_ok {w : World} {Ds : List Nat} (h : (Chunk.marks Ds).ok w) : Ds.Nodup ∧ ∀ D, D ∈ Ds → w.heap[D]? = some (.deferred (some [])) := by
  obtain ⟨h1, h2⟩ : Holds w (Ds.map Chunk.mark) := h
  refine ⟨?_, fun D hD => h1 (Chunk.mark D) (List.mem_map.2 ⟨D, hD, rfl⟩)⟩
  rw [List.pairwise_map] at h2
  exact List.Pairwise.imp (fun {a b} hab e => hab a (by simp [Chunk.mark]) (by simp [Chunk.mark, e])) h2
theorem marks_bs (Ds : List Nat) : (Chunk.marks Ds).bs = Ds := by
  show Chunks.bs (Ds.map Chunk.mark) = Ds
  induction Ds with
  | nil => rfl
  | cons D Ds ih => rw [List.map_cons, Chunks.bs_cons, ih]; rfl
theorem marks_nil (w : World) : (Chunk.marks []).ok w := Holds.nil w
theorem marks_cons {w : World} {Ds : List Nat} {D : Nat} (h : (Chunk.marks Ds).ok w) (hd : w.heap[D]? = some (.deferred (some []))) (hn : D ∉ Ds) : (Chunk.marks (D :: Ds)).ok w := by
  refine Holds.app (cs := [Chunk.mark D]) (Holds.one hd) h (fun b hb hm => ?_)
  rw [show Chunks.bs (Ds.map Chunk.mark) = Ds from marks_bs Ds] at hm
  simp [Chunks.bs, Chunk.mark] at hb
  subst hb
  exact hn hm
theorem Sep.marks_push {w0 w : World} {S0 : List Nat} {cs : List Chunk} {D : Nat} {Ds : List Nat} (h : Sep w0 S0 w (Chunk.mark D :: Chunk.marks Ds :: cs)) : Sep w0 S0 w (Chunk.marks (D :: Ds) :: cs) := by
  refine Sep.frame (cs := [Chunk.mark D, Chunk.marks Ds]) (ds := cs) (cs' := [Chunk.marks (D :: Ds)]) h (Sep.of_one (Fr.refl _ _) (marks_cons (h.get (i := 1) rfl) (h.get (i := 0) rfl) (fun hm => ?_)) ?_)
  · exact h.hs.apart (i := 0) (j := 1) (by decide) rfl rfl D (by simp [Chunk.mark]) (by rw [marks_bs]; exact hm)
  · rw [marks_bs, Chunks.bs_cons, Chunks.bs_cons, marks_bs, Chunks.bs_nil]
    exact Gr.of_sub (by simp [Chunk.mark])
end Go.Proofs.Yteojodcdehkejaa
/- A ring as a piece of memory. -/
namespace Go.Proofs.Yteojodcdehkejaa
open Go Go.RowKit

def Chunk.ring {α : Type} (TR E sz : Nat) (enc : α → List Value) (r : Nat) (ds : List Nat) (xs : List α) : Chunk where
  bs := r :: ds
  ok w := RingAt TR E sz enc w r ds xs
  kept h hk := RingAt.kept h hk
  lt h := RingAt.lt h
theorem Sep.ring {α : Type} {TR E sz : Nat} {enc : α → List Value} {w0 w : World} {S0 : List Nat} {cs : List Chunk} (h : Sep w0 S0 w cs) (i : Nat) {r : Nat} {ds : List Nat} {xs : List α} (hi : cs[i]? = some (Chunk.ring TR E sz enc r ds xs)) : RingAt TR E sz enc w r ds xs := h.hs.get hi
/-- a ring that a call has turned -/
theorem Sep.ring1 {α : Type} {TR E sz : Nat} {enc : α → List Value} {w0 w w' : World} {S0 : List Nat} {cs : List Chunk} (h : Sep w0 S0 w cs) (i : Nat) {r : Nat} {ds ds' : List Nat} {xs ys : List α} (hi : cs[i]? = some (Chunk.ring TR E sz enc r ds xs))
    (k : RingAt TR E sz enc w' r ds' ys) (f : Fr (r :: ds) w w') (g : Gr w ds ds') : Sep w0 S0 w' (cs.set i (Chunk.ring TR E sz enc r ds' ys)) :=
  h.call1' i hi (Sep.of_one (c := Chunk.ring TR E sz enc r ds' ys) f k (Gr.cons r g))
end Go.Proofs.Yteojodcdehkejaa
/- Rings of things of several cells (api.Packet): what reads them and what takes things out. -/
namespace Go.Proofs.Yteojodcdehkejaa
open Go Go.RowKit
attribute [local go_sem] calmQ_normal wide_fn wide_depth Oper.semAt_some

/-- a thing as a value -/
abbrev aggp6 (x : P6) : Value := .agg #[.int .i64 x.f0, .int .i64 x.f1, .int .i64 x.f2, .int .i64 x.f3, .int .i64 x.f4, .int .i64 x.f5]
def zerop6 : P6 := ⟨0, 0, 0, 0, 0, 0⟩
theorem len_p6 {w : World} {r : Nat} {ds : List Nat} {xs : List P6} (h : Rgp6 w r ds xs) :
    Calls Try.prog 37 #[.pointer (some ⟨r, 0, none⟩)] w fun e w' => e = .returned (.int .i64 xs.length) ∧ w' = w := by
  obtain ⟨L, head, sv, hb, hL, h⟩ := h
  have h2 := hb.cell 2
  simp at h2
  go_enter Try.func37, Try.ntmps37
  go_wp2
  go_ret
  exact ⟨rfl, rfl⟩

set_option maxRecDepth 100000 in
set_option maxHeartbeats 1000000 in
theorem at_yes_p6 {w : World} {r : Nat} {ds : List Nat} {xs : List P6} (h : Rgp6 w r ds xs) {i : Nat} {x : P6} (hx : xs[i]? = some x) :
    Calls Try.prog 76 #[.pointer (some ⟨r, 0, none⟩), .int .i64 i] w fun e w' => e = .returned (.tuple #[aggp6 x, .bool true]) ∧ Fr [] w w' := by
  have hi := some_lt hx
  obtain ⟨d, L, head, rfl, cs, hb, hL, hd, hbd, hc⟩ := h.conc (by omega)
  have h0 := hb.cell 0
  have h1 := hb.cell 1
  have h2 := hb.cell 2
  simp at h0 h1 h2
  have hhd := hc.headL
  have hro := hc.room
  obtain ⟨m, hm⟩ : ∃ m, Hid (m = (head + i) % L) := ⟨_, Lib.hid rfl⟩
  have hml : m < L := by rw [hm.out]; exact Nat.mod_lt _ (by omega)
  obtain ⟨c0, c1, c2, c3, c4, c5⟩ := hc.cells_p6 hx hm hbd
  have hrw := hb.lt
  have hdw := hbd.lt
  have hk1 : decide ((i : Int) < 0) = false := by simp
  have hk2 : decide (xs.length ≤ i) = false := by simp; omega
  have hA0 : (w.alloc (.cells #[.int .i64 0, .int .i64 0, .int .i64 0, .int .i64 0, .int .i64 0, .int .i64 0] 34)).cell? ⟨r, 0, none⟩ = some (.slice (some ⟨d, 0, none⟩) L L) := (((Fr.refl [] w).alloc _).cell hrw (by simp)).trans h0
  have hA1 : (w.alloc (.cells #[.int .i64 0, .int .i64 0, .int .i64 0, .int .i64 0, .int .i64 0, .int .i64 0] 34)).cell? ⟨r, 1, none⟩ = some (.int .i64 head) := (((Fr.refl [] w).alloc _).cell hrw (by simp)).trans h1
  have hA0 := Lib.hid hA0
  have hA1 := Lib.hid hA1
  clear hb hbd hc h
  go_enter Try.func76, Try.ntmps76
  go_wp2
  refine wp_region_quiet_tail 9 (by kernel_rfl) (by kernel_rfl) ?_
  simp only [List.take_succ_cons, List.take_zero, List.drop_succ_cons, List.drop_zero]
  repeat (first | go_big_quiet_step ((go_at_call 72; exact Calls.quiet_of (place_p6 m r L head i _ _ (by omega) hL hhd (by omega) hm hA0.out hA1.out))) | quiet_step ((go_at_call 72; exact Calls.quiet_of (place_p6 m r L head i _ _ (by omega) hL hhd (by omega) hm hA0.out hA1.out))))
  refine wpQuiet_nil ?_
  rintro _ ⟨nq, rfl⟩
  refine wpList_store_S rfl _ _ _ rfl w.heap.size 0 34 (encP6 zerop6) (encP6 x) rfl rfl ((Blk.new w 34 (encP6 zerop6)).drewN nq) (by kernel_rfl) (by simp [encP6]) (fun u hu => one_p6 [x] u (by simpa using hu)) ?_
  intro w2 b2 f2 z2
  have y0 : w2.cell? ⟨w.heap.size, 0, none⟩ = some (.int .i64 x.f0) := b2.cell 0
  have y1 : w2.cell? ⟨w.heap.size, 1, none⟩ = some (.int .i64 x.f1) := b2.cell 1
  have y2 : w2.cell? ⟨w.heap.size, 2, none⟩ = some (.int .i64 x.f2) := b2.cell 2
  have y3 : w2.cell? ⟨w.heap.size, 3, none⟩ = some (.int .i64 x.f3) := b2.cell 3
  have y4 : w2.cell? ⟨w.heap.size, 4, none⟩ = some (.int .i64 x.f4) := b2.cell 4
  have y5 : w2.cell? ⟨w.heap.size, 5, none⟩ = some (.int .i64 x.f5) := b2.cell 5
  have HF : Hid (Fr [] w w2) := ((((Fr.refl [w.heap.size] w).alloc _).drewN nq).trans' f2).mono' (fun b hb => by simp at hb; right; omega)
  clear b2 f2 z2
  go_wp2
  exact bodyPost_ret (v := .tuple #[aggp6 x, .bool true]) (by simp [results, Try.results76, go_sem, y0, y1, y2, y3, y4, y5]) rfl ⟨rfl, HF.out⟩
theorem at_yesZ_p6 {w : World} {r : Nat} {ds : List Nat} {xs : List P6} (h : Rgp6 w r ds xs) {i : Int} {x : P6} (hi : 0 ≤ i) (hx : xs[i.toNat]? = some x) :
    Calls Try.prog 76 #[.pointer (some ⟨r, 0, none⟩), .int .i64 i] w fun e w' => e = .returned (.tuple #[aggp6 x, .bool true]) ∧ Fr [] w w' := by
  obtain ⟨k, rfl⟩ := Int.eq_ofNat_of_zero_le hi
  exact at_yes_p6 h (by simpa using hx)

set_option maxRecDepth 100000 in
set_option maxHeartbeats 1000000 in
theorem at_no_p6 {w : World} {r : Nat} {ds : List Nat} {xs : List P6} (h : Rgp6 w r ds xs) (i : Int) (hi : i < 0 ∨ (xs.length : Int) ≤ i) :
    Calls Try.prog 76 #[.pointer (some ⟨r, 0, none⟩), .int .i64 i] w fun e w' => e = .returned (.tuple #[aggp6 zerop6, .bool false]) ∧ Fr [] w w' := by
  obtain ⟨L, head, sv, hb, hL, hrest⟩ := h
  have h2 := hb.cell 2
  simp at h2
  have hrw := hb.lt
  clear hb hrest
  by_cases h0 : i < 0
  · have hk1 : decide (i < 0) = true := by simpa using h0
    clear hi
    go_enter Try.func76, Try.ntmps76
    go_wp2
    exact bodyPost_ret (v := .tuple #[aggp6 zerop6, .bool false]) (by simp [results, Try.results76, go_sem, zerop6]) rfl ⟨rfl, by (repeat (first | assumption | exact Fr.refl _ _ | refine Fr.alloc ?_ _ | refine Fr.drewN ?_ _ | refine Fr.drew ?_ | (refine Fr.setCell ?_ _ (by simp))))⟩
  · have hk1 : decide (i < 0) = false := by simpa using h0
    have hk2 : decide ((xs.length : Int) ≤ i) = true := by simp; omega
    have hk3 : (xs.length : Int) ≤ i := by omega
    clear hi
    go_enter Try.func76, Try.ntmps76
    go_wp2
    exact bodyPost_ret (v := .tuple #[aggp6 zerop6, .bool false]) (by simp [results, Try.results76, go_sem, zerop6]) rfl ⟨rfl, by (repeat (first | assumption | exact Fr.refl _ _ | refine Fr.alloc ?_ _ | refine Fr.drewN ?_ _ | refine Fr.drew ?_ | (refine Fr.setCell ?_ _ (by simp))))⟩

set_option maxRecDepth 100000 in
set_option maxHeartbeats 1000000 in
theorem front_p6 {w : World} {r : Nat} {ds : List Nat} {x : P6} {xs : List P6} (h : Rgp6 w r ds (x :: xs)) :
    Calls Try.prog 54 #[.pointer (some ⟨r, 0, none⟩)] w fun e w' => e = .returned (.tuple #[aggp6 x, .bool true]) ∧ Fr [] w w' := by
  have hcall := Lib.hid (fun X (f : Fr [] w X) => at_yesZ_p6 (h.fr f (by simp)) (i := 0) (x := x) (by omega) (by simp))
  clear h
  go_enter Try.func54, Try.ntmps54
  go_wp2_with fail
  refine (hcall.out _ ((Fr.refl [] w).alloc _)).mono ?_
  rintro e w1 ⟨rfl, f1⟩
  have B1 := (Blk.new w 34 (encP6 zerop6)).fr f1 (by simp)
  have F1 : Hid (Fr [] w w1) := ((Fr.refl [] w).alloc _).trans' f1
  have hl1 := B1.lt
  clear f1
  go_wp2_with (with_reducible refine wpList_store_S rfl _ (.tmp 2) (.tmp 6) rfl w.heap.size 0 34 (encP6 zerop6) (encP6 x) rfl rfl B1 (by kernel_rfl) (by simp [encP6]) (fun u hu => one_p6 [x] u (by simpa using hu)) ?_; intro w2 b2 f2 z2; have HB2 := Lib.hid b2; have HF2 := Lib.hid f2; clear b2 f2 z2)
  have y0 : w2.cell? ⟨w.heap.size, 0, none⟩ = some (.int .i64 x.f0) := HB2.out.cell 0
  have y1 : w2.cell? ⟨w.heap.size, 1, none⟩ = some (.int .i64 x.f1) := HB2.out.cell 1
  have y2 : w2.cell? ⟨w.heap.size, 2, none⟩ = some (.int .i64 x.f2) := HB2.out.cell 2
  have y3 : w2.cell? ⟨w.heap.size, 3, none⟩ = some (.int .i64 x.f3) := HB2.out.cell 3
  have y4 : w2.cell? ⟨w.heap.size, 4, none⟩ = some (.int .i64 x.f4) := HB2.out.cell 4
  have y5 : w2.cell? ⟨w.heap.size, 5, none⟩ = some (.int .i64 x.f5) := HB2.out.cell 5
  exact bodyPost_ret (v := .tuple #[aggp6 x, .bool true]) (by simp [results, Try.results54, go_sem, y0, y1, y2, y3, y4, y5]) rfl ⟨rfl, F1.out.trans (fun b hb => by simp at hb; right; omega) HF2.out⟩
set_option maxRecDepth 100000 in
set_option maxHeartbeats 1000000 in
theorem front_no_p6 {w : World} {r : Nat} {ds : List Nat} (h : Rgp6 w r ds []) :
    Calls Try.prog 54 #[.pointer (some ⟨r, 0, none⟩)] w fun e w' => e = .returned (.tuple #[aggp6 zerop6, .bool false]) ∧ Fr [] w w' := by
  have hcall := Lib.hid (fun X (f : Fr [] w X) => at_no_p6 (h.fr f (by simp)) 0 (by simp))
  clear h
  go_enter Try.func54, Try.ntmps54
  go_wp2_with fail
  refine (hcall.out _ ((Fr.refl [] w).alloc _)).mono ?_
  rintro e w1 ⟨rfl, f1⟩
  have B1 := (Blk.new w 34 (encP6 zerop6)).fr f1 (by simp)
  have F1 : Hid (Fr [] w w1) := ((Fr.refl [] w).alloc _).trans' f1
  have hl1 := B1.lt
  clear f1
  go_wp2_with (with_reducible refine wpList_store_S rfl _ (.tmp 2) (.tmp 6) rfl w.heap.size 0 34 (encP6 zerop6) (encP6 zerop6) rfl rfl B1 (by kernel_rfl) (by simp [encP6]) (fun u hu => one_p6 [zerop6] u (by simpa using hu)) ?_; intro w2 b2 f2 z2; have HB2 := Lib.hid b2; have HF2 := Lib.hid f2; clear b2 f2 z2)
  have y0 : w2.cell? ⟨w.heap.size, 0, none⟩ = some (.int .i64 zerop6.f0) := HB2.out.cell 0
  have y1 : w2.cell? ⟨w.heap.size, 1, none⟩ = some (.int .i64 zerop6.f1) := HB2.out.cell 1
  have y2 : w2.cell? ⟨w.heap.size, 2, none⟩ = some (.int .i64 zerop6.f2) := HB2.out.cell 2
  have y3 : w2.cell? ⟨w.heap.size, 3, none⟩ = some (.int .i64 zerop6.f3) := HB2.out.cell 3
  have y4 : w2.cell? ⟨w.heap.size, 4, none⟩ = some (.int .i64 zerop6.f4) := HB2.out.cell 4
  have y5 : w2.cell? ⟨w.heap.size, 5, none⟩ = some (.int .i64 zerop6.f5) := HB2.out.cell 5
  exact bodyPost_ret (v := .tuple #[aggp6 zerop6, .bool false]) (by simp [results, Try.results54, go_sem, y0, y1, y2, y3, y4, y5]) rfl ⟨rfl, F1.out.trans (fun b hb => by simp at hb; right; omega) HF2.out⟩
theorem Cyc.lens_p6 {L head : Nat} {cs : List Value} {xs : List P6} (h : Cyc L head 6 encP6 cs xs) {m : Nat} (hm : m < L) : m * 6 + (encP6 zerop6).length ≤ cs.length := by
  have := place_in (sz := 6) hm h.len
  simpa [encP6] using this
theorem ring_room_p6 {w : World} {r : Nat} {ds : List Nat} {xs : List P6} (h : Rgp6 w r ds xs) : xs.length ≤ 1073741824 := by
  obtain ⟨L, head, sv, hb, hL, hrest⟩ := h
  rcases hrest with ⟨_, _, rfl, _⟩ | ⟨d, cs, _, _, _, _, hc⟩
  · simp
  · have := hc.room; omega
set_option maxRecDepth 100000 in
set_option maxHeartbeats 1000000 in
theorem back_p6 {w : World} {r : Nat} {ds : List Nat} {x : P6} {xs : List P6} (h : Rgp6 w r ds (xs ++ [x])) :
    Calls Try.prog 78 #[.pointer (some ⟨r, 0, none⟩)] w fun e w' => e = .returned (.tuple #[aggp6 x, .bool true]) ∧ Fr [] w w' := by
  have hcall := Lib.hid (fun X (f : Fr [] w X) => at_yesZ_p6 (h.fr f (by simp)) (i := xs.length) (x := x) (by omega) (by simp))
  have hro := ring_room_p6 h
  obtain ⟨L, head, sv, hb, hL, hrest⟩ := h
  have h2 := hb.cell 2
  simp at h2
  have hrl := hb.lt
  clear hb hrest
  simp at hro
  go_enter Try.func78, Try.ntmps78
  go_wp2_with fail
  refine (hcall.out _ ((Fr.refl [] w).alloc _)).mono ?_
  rintro e w1 ⟨rfl, f1⟩
  have B1 := (Blk.new w 34 (encP6 zerop6)).fr f1 (by simp)
  have F1 : Hid (Fr [] w w1) := ((Fr.refl [] w).alloc _).trans' f1
  have hl1 := B1.lt
  clear f1
  go_wp2_with (with_reducible refine wpList_store_S rfl _ (.tmp 2) (.tmp 11) rfl w.heap.size 0 34 (encP6 zerop6) (encP6 x) rfl rfl B1 (by kernel_rfl) (by simp [encP6]) (fun u hu => one_p6 [x] u (by simpa using hu)) ?_; intro w2 b2 f2 z2; have HB2 := Lib.hid b2; have HF2 := Lib.hid f2; clear b2 f2 z2)
  have y0 : w2.cell? ⟨w.heap.size, 0, none⟩ = some (.int .i64 x.f0) := HB2.out.cell 0
  have y1 : w2.cell? ⟨w.heap.size, 1, none⟩ = some (.int .i64 x.f1) := HB2.out.cell 1
  have y2 : w2.cell? ⟨w.heap.size, 2, none⟩ = some (.int .i64 x.f2) := HB2.out.cell 2
  have y3 : w2.cell? ⟨w.heap.size, 3, none⟩ = some (.int .i64 x.f3) := HB2.out.cell 3
  have y4 : w2.cell? ⟨w.heap.size, 4, none⟩ = some (.int .i64 x.f4) := HB2.out.cell 4
  have y5 : w2.cell? ⟨w.heap.size, 5, none⟩ = some (.int .i64 x.f5) := HB2.out.cell 5
  exact bodyPost_ret (v := .tuple #[aggp6 x, .bool true]) (by simp [results, Try.results78, go_sem, y0, y1, y2, y3, y4, y5]) rfl ⟨rfl, F1.out.trans (fun b hb => by simp at hb; right; omega) HF2.out⟩
set_option maxRecDepth 100000 in
set_option maxHeartbeats 1000000 in
theorem back_no_p6 {w : World} {r : Nat} {ds : List Nat} (h : Rgp6 w r ds []) :
    Calls Try.prog 78 #[.pointer (some ⟨r, 0, none⟩)] w fun e w' => e = .returned (.tuple #[aggp6 zerop6, .bool false]) ∧ Fr [] w w' := by
  have hcall := Lib.hid (fun X (f : Fr [] w X) => at_no_p6 (h.fr f (by simp)) (-1) (by simp))
  obtain ⟨L, head, sv, hb, hL, hrest⟩ := h
  have h2 := hb.cell 2
  simp at h2
  have hrl := hb.lt
  clear hb hrest
  go_enter Try.func78, Try.ntmps78
  go_wp2_with fail
  refine (hcall.out _ ((Fr.refl [] w).alloc _)).mono ?_
  rintro e w1 ⟨rfl, f1⟩
  have B1 := (Blk.new w 34 (encP6 zerop6)).fr f1 (by simp)
  have F1 : Hid (Fr [] w w1) := ((Fr.refl [] w).alloc _).trans' f1
  have hl1 := B1.lt
  clear f1
  go_wp2_with (with_reducible refine wpList_store_S rfl _ (.tmp 2) (.tmp 11) rfl w.heap.size 0 34 (encP6 zerop6) (encP6 zerop6) rfl rfl B1 (by kernel_rfl) (by simp [encP6]) (fun u hu => one_p6 [zerop6] u (by simpa using hu)) ?_; intro w2 b2 f2 z2; have HB2 := Lib.hid b2; have HF2 := Lib.hid f2; clear b2 f2 z2)
  have y0 : w2.cell? ⟨w.heap.size, 0, none⟩ = some (.int .i64 zerop6.f0) := HB2.out.cell 0
  have y1 : w2.cell? ⟨w.heap.size, 1, none⟩ = some (.int .i64 zerop6.f1) := HB2.out.cell 1
  have y2 : w2.cell? ⟨w.heap.size, 2, none⟩ = some (.int .i64 zerop6.f2) := HB2.out.cell 2
  have y3 : w2.cell? ⟨w.heap.size, 3, none⟩ = some (.int .i64 zerop6.f3) := HB2.out.cell 3
  have y4 : w2.cell? ⟨w.heap.size, 4, none⟩ = some (.int .i64 zerop6.f4) := HB2.out.cell 4
  have y5 : w2.cell? ⟨w.heap.size, 5, none⟩ = some (.int .i64 zerop6.f5) := HB2.out.cell 5
  exact bodyPost_ret (v := .tuple #[aggp6 zerop6, .bool false]) (by simp [results, Try.results78, go_sem, y0, y1, y2, y3, y4, y5]) rfl ⟨rfl, F1.out.trans (fun b hb => by simp at hb; right; omega) HF2.out⟩

set_option maxRecDepth 100000 in
set_option maxHeartbeats 1000000 in
theorem set_yes_p6 {w : World} {r : Nat} {ds : List Nat} {xs : List P6} (h : Rgp6 w r ds xs) {i : Nat} (hi : i < xs.length) (u : P6) :
    Calls Try.prog 99 #[.pointer (some ⟨r, 0, none⟩), .int .i64 i, aggp6 u] w fun e w' => e = .returned (.bool true) ∧ Rgp6 w' r ds (xs.set i u) ∧ Fr ds w w' := by
  obtain ⟨d, L, head, rfl, cs, hb, hL, hd, hbd, hc⟩ := h.conc (by omega)
  have h0 := hb.cell 0
  have h1 := hb.cell 1
  have h2 := hb.cell 2
  simp at h0 h1 h2
  have hhd := hc.headL
  have hro := hc.room
  obtain ⟨m, hm⟩ : ∃ m, Hid (m = (head + i) % L) := ⟨_, Lib.hid rfl⟩
  have hml : m < L := by rw [hm.out]; exact Nat.mod_lt _ (by omega)
  have hmc := hc.lens_p6 hml
  have hrw := hb.lt
  have hdw := hbd.lt
  have hk1 : decide ((i : Int) < 0) = false := by simp
  have hk2 : decide (xs.length ≤ i) = false := by simp; omega
  have f1 : Fr [] w (w.alloc (.cells #[.int .i64 u.f0, .int .i64 u.f1, .int .i64 u.f2, .int .i64 u.f3, .int .i64 u.f4, .int .i64 u.f5] 34)) := (Fr.refl [] w).alloc _
  have hA0 := Lib.hid ((f1.cell (p := ⟨r, 0, none⟩) hrw (by simp)).trans h0)
  have hA1 := Lib.hid ((f1.cell (p := ⟨r, 1, none⟩) hrw (by simp)).trans h1)
  have HB := Lib.hid hb
  have HBD := Lib.hid hbd
  have HC := Lib.hid hc
  have hrd : r ∉ [d] := by simpa using Ne.symm hd
  clear hb hbd hc h f1
  go_enter Try.func99, Try.ntmps99
  go_wp2
  refine wp_region_quiet_tail 9 (by kernel_rfl) (by kernel_rfl) ?_
  simp only [List.take_succ_cons, List.take_zero, List.drop_succ_cons, List.drop_zero]
  repeat (first | go_big_quiet_step ((go_at_call 72; exact Calls.quiet_of (place_p6 m r L head i _ _ (by omega) hL hhd (by omega) hm hA0.out hA1.out))) | quiet_step ((go_at_call 72; exact Calls.quiet_of (place_p6 m r L head i _ _ (by omega) hL hhd (by omega) hm hA0.out hA1.out))))
  refine wpQuiet_nil ?_
  rintro _ ⟨nq, rfl⟩
  refine wpList_store_S rfl _ _ _ rfl d (m * 6) 34 cs (encP6 u) rfl rfl ((HBD.out.alloc _).drewN nq) (by kernel_rfl) hmc (fun v hv => one_p6 [u] v (by simpa using hv)) ?_
  intro w2 b2 f2 z2
  have hr2 := ((HB.out.alloc _).drewN nq).fr f2 hrd
  have F : Fr [d] w w2 := (((Fr.refl [d] w).alloc _).drewN nq).trans' f2
  have hfin : Hid (Rcp6 w2 r d L head (xs.set i u) ∧ Fr [d] w w2) := by
    refine ⟨⟨_, ?_, hL, hd, b2, ?_⟩, F⟩
    · simpa using hr2
    · have := HC.out.set hi (y := u) (Splice.row (ys := encP6 u) rfl (by rw [← hm.out]; exact hmc))
      rw [← hm.out] at this
      exact this
  clear hr2 b2 f2 F
  go_wp2
  go_ret
  exact ⟨rfl, hfin.out.1.at, hfin.out.2⟩
theorem set_yesZ_p6 {w : World} {r : Nat} {ds : List Nat} {xs : List P6} (h : Rgp6 w r ds xs) {i : Int} (hi : 0 ≤ i) (hl : i.toNat < xs.length) (u : P6) :
    Calls Try.prog 99 #[.pointer (some ⟨r, 0, none⟩), .int .i64 i, aggp6 u] w fun e w' => e = .returned (.bool true) ∧ Rgp6 w' r ds (xs.set i.toNat u) ∧ Fr ds w w' := by
  obtain ⟨k, rfl⟩ := Int.eq_ofNat_of_zero_le hi
  exact set_yes_p6 h (by simpa using hl) u

set_option maxRecDepth 100000 in
set_option maxHeartbeats 2000000 in
theorem popF_p6 {w : World} {r : Nat} {ds : List Nat} {x : P6} {xs : List P6} (h : Rgp6 w r ds (x :: xs)) :
    Calls Try.prog 41 #[.pointer (some ⟨r, 0, none⟩)] w fun e w' => e = .returned (.tuple #[aggp6 x, .bool true]) ∧ Rgp6 w' r ds xs ∧ Fr (r :: ds) w w' := by
  have hcall := Lib.hid (fun X (f : Fr [] w X) => at_yesZ_p6 (h.fr f (by simp)) (i := 0) (x := x) (by omega) (by simp))
  obtain ⟨d, L, head, rfl, cs, hb, hL, hd, hbd, hc⟩ := h.conc (by simp)
  have hhd := hc.headL
  have hro := hc.room
  simp at hro
  have hmc := hc.lens_p6 hhd
  obtain ⟨m, hm⟩ : ∃ m, Hid (m = (head + 1) % L) := ⟨_, Lib.hid rfl⟩
  have hm' : Hid (m = (head + (1 : Int).toNat) % L) := hm
  have HC := Lib.hid hc
  have K0 : Hid (Sep w [r, d] w [Chunk.blk r 134 [.slice (some ⟨d, 0, none⟩) L L, .int .i64 head, .int .i64 (xs.length + 1 : Int)], Chunk.blk d 34 cs]) := by
    have hb' : Blk w r 134 [.slice (some ⟨d, 0, none⟩) L L, .int .i64 head, .int .i64 (xs.length + 1 : Int)] := by simpa using hb
    exact Sep.start ((Holds.one (c := Chunk.blk _ _ _) hb').app (ds := [Chunk.blk _ _ _]) (Holds.one hbd) (fun b h1 h2 => by simp [Chunks.bs, Chunk.blk] at h1 h2; omega))
  clear hb hbd hc h
  go_enter Try.func41, Try.ntmps41
  go_wp2_with fail
  refine (hcall.out _ ((Fr.refl [] w).alloc _)).mono ?_
  rintro e w1 ⟨rfl, f1⟩
  have K1 := Lib.hid ((K0.out.alloc 34 (encP6 zerop6)).same f1)
  have K2 := Lib.hid ((K1.out.alloc 34 (encP6 x)).alloc 34 (encP6 zerop6))
  rw [World.size_alloc] at K2
  have c0 := K1.out.cellOf 0 rfl 0 rfl
  have c1 := K1.out.cellOf 0 rfl 1 rfl
  have l1 := (K1.out.blk 0 rfl).lt
  have l2 := (K1.out.blk 1 rfl).lt
  have l3 := (K1.out.blk 2 rfl).lt
  clear f1
  go_wp2
  refine wp_region_quiet_tail 10 (by kernel_rfl) (by kernel_rfl) ?_
  simp only [List.take_succ_cons, List.take_zero, List.drop_succ_cons, List.drop_zero]
  repeat (first | go_big_quiet_step (fail) | quiet_step (fail))
  refine wpQuiet_nil ?_
  rintro _ ⟨nq, rfl⟩
  refine wpList_store_S rfl _ _ _ rfl d (head * 6) 34 cs (encP6 zerop6) rfl rfl ((K2.out.drewN nq).blk 1 rfl) (by kernel_rfl) hmc (fun v hv => one_p6 [zerop6] v (by simpa using hv)) ?_
  intro w2 b2 f2 z2
  obtain ⟨vb, hvb⟩ : ∃ vb, w1.heap.size = vb := ⟨_, rfl⟩
  have K3 := Lib.hid ((K2.out.drewN nq).call1' 1 rfl (Sep.of_one (c := Chunk.blk d 34 _) f2 b2 (Gr.refl _ _)))
  rw [hvb] at K3 ⊢
  have d0 := K3.out.cellOf 0 rfl 0 rfl
  have d1 := K3.out.cellOf 0 rfl 1 rfl
  have d2 := K3.out.cellOf 0 rfl 2 rfl
  have q1 := (K3.out.blk 0 rfl).frz 1
  have q2 := (K3.out.blk 0 rfl).frz 2
  have v0 : w2.cell? ⟨vb, 0, none⟩ = some (.int .i64 x.f0) := (K3.out.blk 3 rfl).cell 0
  have v1 : w2.cell? ⟨vb, 1, none⟩ = some (.int .i64 x.f1) := (K3.out.blk 3 rfl).cell 1
  have v2 : w2.cell? ⟨vb, 2, none⟩ = some (.int .i64 x.f2) := (K3.out.blk 3 rfl).cell 2
  have v3 : w2.cell? ⟨vb, 3, none⟩ = some (.int .i64 x.f3) := (K3.out.blk 3 rfl).cell 3
  have v4 : w2.cell? ⟨vb, 4, none⟩ = some (.int .i64 x.f4) := (K3.out.blk 3 rfl).cell 4
  have v5 : w2.cell? ⟨vb, 5, none⟩ = some (.int .i64 x.f5) := (K3.out.blk 3 rfl).cell 5
  have n1 : r ≠ vb := K3.out.bne 0 3 (by decide) rfl rfl
  have n2 : vb ≠ r := Ne.symm n1
  have D0 := Lib.hid d0
  have D1 := Lib.hid d1
  clear b2 f2 z2 hvb K2 K1 c0 c1 l1 l2
  go_wp2_with fail
  refine (place_Z_p6 m r L head _ _ _ (by omega) hL hhd (by omega) (by omega) hm' (by exact D0.out) (by exact D1.out)).mono ?_
  rintro e w' ⟨rfl, nn, rfl⟩
  have K4 := Lib.hid (((K3.out.drewN nn).set 0 rfl 1 (.int .i64 m)).set 0 rfl 2 (.int .i64 xs.length))
  clear D0 D1
  have BR : Blk (((w2.drewN nn).setCell ⟨r, 1, none⟩ (.int .i64 m)).setCell ⟨r, 2, none⟩ (.int .i64 xs.length)) w.heap.size 34 (encP6 zerop6) := K4.out.blk 2 rfl
  go_wp2_with (refine wpList_store_S rfl _ (.tmp 2) (.tmp 35) rfl w.heap.size 0 34 (encP6 zerop6) (encP6 x) rfl rfl BR (by kernel_rfl) (by simp [encP6]) (fun u hu => one_p6 [x] u (by simpa using hu)) ?_; intro w5 b5 f5 z5; have K5 := Lib.hid (K4.out.call1' 2 rfl (Sep.of_one (c := Chunk.blk w.heap.size 34 _) f5 b5 (Gr.refl _ _))); clear b5 f5 z5)
  have y0 : w5.cell? ⟨w.heap.size, 0, none⟩ = some (.int .i64 x.f0) := (K5.out.blk 2 rfl).cell 0
  have y1 : w5.cell? ⟨w.heap.size, 1, none⟩ = some (.int .i64 x.f1) := (K5.out.blk 2 rfl).cell 1
  have y2 : w5.cell? ⟨w.heap.size, 2, none⟩ = some (.int .i64 x.f2) := (K5.out.blk 2 rfl).cell 2
  have y3 : w5.cell? ⟨w.heap.size, 3, none⟩ = some (.int .i64 x.f3) := (K5.out.blk 2 rfl).cell 3
  have y4 : w5.cell? ⟨w.heap.size, 4, none⟩ = some (.int .i64 x.f4) := (K5.out.blk 2 rfl).cell 4
  have y5 : w5.cell? ⟨w.heap.size, 5, none⟩ = some (.int .i64 x.f5) := (K5.out.blk 2 rfl).cell 5
  have hfin : Rcp6 w5 r d L m xs ∧ Fr (r :: [d]) w w5 := by
    refine ⟨⟨_, K5.out.blk 0 rfl, hL, hd, K5.out.blk 1 rfl, ?_⟩, K5.out.fr⟩
    have := HC.out.popF (Splice.row (cs := cs) (ys := encP6 zerop6) (sz := 6) rfl (by exact hmc))
    rw [← hm.out] at this
    exact this
  exact bodyPost_ret (v := .tuple #[aggp6 x, .bool true]) (by simp [results, Try.results41, go_sem, y0, y1, y2, y3, y4, y5]) rfl ⟨rfl, hfin.1.at, hfin.2⟩

abbrev CRingp6 (r : Nat) (ds : List Nat) (xs : List P6) : Chunk := Chunk.ring 134 34 6 encP6 r ds xs
set_option maxRecDepth 100000 in
set_option maxHeartbeats 2000000 in
theorem popB_p6 {w : World} {r : Nat} {ds : List Nat} {x : P6} {xs : List P6} (h : Rgp6 w r ds (xs ++ [x])) :
    Calls Try.prog 79 #[.pointer (some ⟨r, 0, none⟩)] w fun e w' => e = .returned (.tuple #[aggp6 x, .bool true]) ∧ Rgp6 w' r ds xs ∧ Fr (r :: ds) w w' := by
  have hcall := Lib.hid (fun X (f : Fr [] w X) => at_yesZ_p6 (h.fr f (by simp)) (i := xs.length) (x := x) (by omega) (by simp))
  have hlen : xs.length ≤ 1073741824 := by have := ring_room_p6 h; simp at this; omega
  have K0 : Hid (Sep w (r :: ds) w [CRingp6 r ds (xs ++ [x])]) := Sep.start1 (c := CRingp6 r ds (xs ++ [x])) h
  obtain ⟨L, head, sv, hb, hL, hrest⟩ := h
  have h2 := hb.cell 2
  simp at h2
  have hrl := hb.lt
  clear hb hrest
  go_enter Try.func79, Try.ntmps79
  go_wp2_with fail
  refine (hcall.out _ ((Fr.refl [] w).alloc _)).mono ?_
  rintro e w1 ⟨rfl, f1⟩
  have K1 := Lib.hid ((K0.out.alloc 34 (encP6 zerop6)).same f1)
  have K2 := Lib.hid ((K1.out.alloc 34 (encP6 x)).alloc 34 (encP6 zerop6))
  rw [World.size_alloc] at K2
  obtain ⟨L1, head1, sv1, hb1, _⟩ := K1.out.ring 0 rfl
  have c2 := hb1.cell 2
  simp at c2
  have l1 := hb1.lt
  clear f1 hb1
  go_wp2
  refine wp_region_quiet_tail 7 (by kernel_rfl) (by kernel_rfl) ?_
  simp only [List.take_succ_cons, List.take_zero, List.drop_succ_cons, List.drop_zero]
  repeat (first | go_big_quiet_step (fail) | quiet_step (fail))
  refine wpQuiet_nil ?_
  rintro _ ⟨nq, rfl⟩
  go_wp2_with fail
  refine (set_yesZ_p6 ((K2.out.drewN nq).ring 0 rfl) (i := xs.length) (by omega) (by simp) zerop6).mono ?_
  rintro e w3 ⟨rfl, hr3, f3⟩
  rw [show (xs ++ [x]).set (Int.toNat (xs.length : Int)) zerop6 = xs ++ [zerop6] from by simp] at hr3
  obtain ⟨vb, hvb⟩ : ∃ vb, w1.heap.size = vb := ⟨_, rfl⟩
  have K3 := Lib.hid ((K2.out.drewN nq).ring1 0 rfl hr3 (f3.mono (by simp +contextual)) (Gr.refl _ _))
  rw [hvb] at K3 ⊢
  obtain ⟨d, L3, head3, hds, cs, hb, hL3, hd, hbd, hc⟩ := Rgp6.conc hr3 (by simp)
  subst hds
  have d2 := hb.cell 2
  simp at d2
  have q2 := hb.frz 2
  have hro := hc.room
  simp at hro
  have K4 : Hid (Sep w [r, d] (w3.setCell ⟨r, 2, none⟩ (.int .i64 xs.length)) [CRingp6 r [d] xs, Chunk.blk w.heap.size 34 (encP6 zerop6), Chunk.blk vb 34 (encP6 x), Chunk.blk (vb + 1) 34 (encP6 zerop6)]) := by
    refine Lib.hid (K3.out.ring1 0 rfl (ds' := [d]) (ys := xs) (Rcp6.at (L := L3) (head := head3) ⟨cs, by simpa using hb.set 2 (.int .i64 xs.length), hL3, hd, hbd.other _ hd, ?_⟩) ((Fr.refl _ _).setCell _ (.inl (by simp))) (Gr.refl _ _))
    exact hc.popB (ys := cs.drop ((head3 + xs.length) % L3 * 6)) ⟨rfl, fun j _ => by rw [List.getElem?_drop], fun _ _ => rfl⟩
  have v0 : w3.cell? ⟨vb, 0, none⟩ = some (.int .i64 x.f0) := (K3.out.blk 2 rfl).cell 0
  have v1 : w3.cell? ⟨vb, 1, none⟩ = some (.int .i64 x.f1) := (K3.out.blk 2 rfl).cell 1
  have v2 : w3.cell? ⟨vb, 2, none⟩ = some (.int .i64 x.f2) := (K3.out.blk 2 rfl).cell 2
  have v3 : w3.cell? ⟨vb, 3, none⟩ = some (.int .i64 x.f3) := (K3.out.blk 2 rfl).cell 3
  have v4 : w3.cell? ⟨vb, 4, none⟩ = some (.int .i64 x.f4) := (K3.out.blk 2 rfl).cell 4
  have v5 : w3.cell? ⟨vb, 5, none⟩ = some (.int .i64 x.f5) := (K3.out.blk 2 rfl).cell 5
  have n1 : r ≠ vb := fun e => K3.out.hs.apart (i := 0) (j := 2) (by decide) rfl rfl r (by simp [Chunk.ring]) (by simp [Chunk.blk, e])
  have n2 : vb ≠ r := Ne.symm n1
  have BR : Blk (w3.setCell ⟨r, 2, none⟩ (.int .i64 xs.length)) w.heap.size 34 (encP6 zerop6) := K4.out.blk 1 rfl
  clear hb hbd hc hr3 f3 K3 K2 K1 hvb c2 l1
  go_wp2_with (refine wpList_store_S rfl _ (.tmp 2) (.tmp 33) rfl w.heap.size 0 34 (encP6 zerop6) (encP6 x) rfl rfl BR (by kernel_rfl) (by simp [encP6]) (fun u hu => one_p6 [x] u (by simpa using hu)) ?_; intro w5 b5 f5 z5; have K5 := Lib.hid (K4.out.call1' 1 rfl (Sep.of_one (c := Chunk.blk w.heap.size 34 _) f5 b5 (Gr.refl _ _))); clear b5 f5 z5)
  have y0 : w5.cell? ⟨w.heap.size, 0, none⟩ = some (.int .i64 x.f0) := (K5.out.blk 1 rfl).cell 0
  have y1 : w5.cell? ⟨w.heap.size, 1, none⟩ = some (.int .i64 x.f1) := (K5.out.blk 1 rfl).cell 1
  have y2 : w5.cell? ⟨w.heap.size, 2, none⟩ = some (.int .i64 x.f2) := (K5.out.blk 1 rfl).cell 2
  have y3 : w5.cell? ⟨w.heap.size, 3, none⟩ = some (.int .i64 x.f3) := (K5.out.blk 1 rfl).cell 3
  have y4 : w5.cell? ⟨w.heap.size, 4, none⟩ = some (.int .i64 x.f4) := (K5.out.blk 1 rfl).cell 4
  have y5 : w5.cell? ⟨w.heap.size, 5, none⟩ = some (.int .i64 x.f5) := (K5.out.blk 1 rfl).cell 5
  exact bodyPost_ret (v := .tuple #[aggp6 x, .bool true]) (by simp [results, Try.results79, go_sem, y0, y1, y2, y3, y4, y5]) rfl ⟨rfl, K5.out.ring 0 rfl, K5.out.fr⟩
end Go.Proofs.Yteojodcdehkejaa
/- Rings of *millrace/drr.flow: the contracts of their functions, first part. -/
namespace Go.Proofs.Yteojodcdehkejaa
open Go Go.RowKit

def encQ (x : (Option Nat)) : List Value := [ptrV x]
abbrev Rgq : World → Nat → List Nat → List (Option Nat) → Prop := RingAt 132 89 1 encQ
/-- a ring that has room -/
def Rcq (w : World) (r d L head : Nat) (xs : List (Option Nat)) : Prop :=
  ∃ cs, Blk w r 132 [.slice (some ⟨d, 0, none⟩) L L, .int .i64 head, .int .i64 xs.length] ∧ L ≤ 1073741824 ∧ d ≠ r ∧ Blk w d 89 cs ∧ Cyc L head 1 encQ cs xs
theorem Rcq.at {w : World} {r d L head : Nat} {xs : List (Option Nat)} (h : Rcq w r d L head xs) : Rgq w r [d] xs := by
  obtain ⟨cs, hb, hL, hd, hbd, hc⟩ := h
  exact ⟨L, head, _, hb, hL, .inr ⟨d, cs, rfl, hd, rfl, hbd, hc⟩⟩
theorem Rgq.conc {w : World} {r : Nat} {ds : List Nat} {xs : List (Option Nat)} (h : Rgq w r ds xs) (hn : 0 < xs.length) : ∃ d L head, ds = [d] ∧ Rcq w r d L head xs := by
  obtain ⟨L, head, sv, hb, hL, h⟩ := h
  rcases h with ⟨_, _, rfl, _⟩ | ⟨d, cs, rfl, hd, rfl, hbd, hc⟩
  · simp at hn
  · exact ⟨d, L, head, rfl, cs, hb, hL, hd, hbd, hc⟩
theorem infoq : (Try.prog.info? 89).map (fun i => (i.zero, i.size, i.bytes)) = some (some (ptrV none), 1, 8) := by kernel_rfl

set_option maxHeartbeats 400000 in
theorem place_q (m r L head i : Nat) (ao : Option Addr) (w : World) (hl : 0 < L) (hlm : L ≤ 1073741824) (hh : head < L) (hi : i ≤ L) (hm : Hid (m = (head + i) % L))
   (h0 : w.cell? ⟨r, 0, none⟩ = some (.slice ao L L)) (h1 : w.cell? ⟨r, 1, none⟩ = some (.int .i64 head)) :
   Calls Try.prog 70 #[.pointer (some ⟨r, 0, none⟩), .int .i64 i] w fun e w' => e = .returned (.int .i64 (m : Nat)) ∧ ∃ n, w' = w.drewN n := by
  rw [hm.out]
  clear hm
  go_enter Try.func70, Try.ntmps70
  go_wp2
  go_quiet (fail)
  go_wp2
  go_ret
  exact ⟨by simp, _, rfl⟩

theorem len_q {w : World} {r : Nat} {ds : List Nat} {xs : List (Option Nat)} (h : Rgq w r ds xs) :
    Calls Try.prog 73 #[.pointer (some ⟨r, 0, none⟩)] w fun e w' => e = .returned (.int .i64 xs.length) ∧ w' = w := by
  obtain ⟨L, head, sv, hb, hL, h⟩ := h
  have h2 := hb.cell 2
  simp at h2
  go_enter Try.func73, Try.ntmps73
  go_wp2
  go_ret
  exact ⟨rfl, rfl⟩

set_option maxHeartbeats 400000 in
theorem at_conc_q (m r d L head n i : Nat) (v : (Option Nat)) (w : World) (hl : 0 < L) (hlm : L ≤ 1073741824) (hh : head < L) (hi : i < n) (hn : n ≤ L) (hm : Hid (m = (head + i) % L)) (hml : m < L)
   (h0 : w.cell? ⟨r, 0, none⟩ = some (.slice (some ⟨d, 0, none⟩) L L)) (h1 : w.cell? ⟨r, 1, none⟩ = some (.int .i64 head)) (h2 : w.cell? ⟨r, 2, none⟩ = some (.int .i64 n))
   (hc : w.cell? ⟨d, m, none⟩ = some (ptrV v)) :
  Calls Try.prog 85 #[.pointer (some ⟨r, 0, none⟩), .int .i64 i] w fun e w' => e = .returned (.tuple #[ptrV v, .bool true]) ∧ ∃ n, w' = w.drewN n := by
  go_enter Try.func85, Try.ntmps85
  go_wp2
  go_quiet ((go_at_call 70; exact Calls.quiet_of (place_q m r L head i _ _ hl hlm hh (by omega) hm h0 h1)))
  go_wp2
  go_ret2
  exact ⟨rfl, _, rfl⟩
theorem at_yes_q {w : World} {r : Nat} {ds : List Nat} {xs : List (Option Nat)} (h : Rgq w r ds xs) {i : Nat} {x : (Option Nat)} (hx : xs[i]? = some x) :
    Calls Try.prog 85 #[.pointer (some ⟨r, 0, none⟩), .int .i64 i] w fun e w' => e = .returned (.tuple #[ptrV x, .bool true]) ∧ ∃ n, w' = w.drewN n := by
  have hi := some_lt hx
  obtain ⟨d, L, head, rfl, cs, hb, hL, hd, hbd, hc⟩ := h.conc (by omega)
  have hr := hc.room
  have h0 := hb.cell 0
  have h1 := hb.cell 1
  have h2 := hb.cell 2
  have hx' := hc.at_ i x hx 0 (by decide)
  have hcc := hbd.cell ((head + i) % L)
  simp at h0 h1 h2
  simp [encQ] at hx'
  exact at_conc_q _ r d L head xs.length i x w (by omega) hL hc.headL hi hr (Lib.hid rfl) (Nat.mod_lt _ (by omega)) h0 h1 h2 (by rw [hcc, hx'])
set_option maxHeartbeats 400000 in
theorem at_no_q {w : World} {r : Nat} {ds : List Nat} {xs : List (Option Nat)} (h : Rgq w r ds xs) (i : Int) (hi : i < 0 ∨ (xs.length : Int) ≤ i) :
    Calls Try.prog 85 #[.pointer (some ⟨r, 0, none⟩), .int .i64 i] w fun e w' => e = .returned (.tuple #[ptrV none, .bool false]) ∧ w' = w := by
  obtain ⟨L, head, sv, hb, hL, h⟩ := h
  have h2 := hb.cell 2
  simp at h2
  by_cases hneg : i < 0
  · clear hi
    go_enter Try.func85, Try.ntmps85
    go_wp2
    go_ret2
    exact ⟨rfl, rfl⟩
  · have hge : (xs.length : Int) ≤ i := by omega
    have hneg' : 0 ≤ i := by omega
    clear hi hneg
    go_enter Try.func85, Try.ntmps85
    go_wp2
    go_ret2
    exact ⟨rfl, rfl⟩

set_option maxHeartbeats 400000 in
theorem set_conc_q (m r d L head n i : Nat) (v u : (Option Nat)) (w : World) (hl : 0 < L) (hlm : L ≤ 1073741824) (hh : head < L) (hi : i < n) (hn : n ≤ L) (hm : Hid (m = (head + i) % L)) (hml : m < L)
   (h0 : w.cell? ⟨r, 0, none⟩ = some (.slice (some ⟨d, 0, none⟩) L L)) (h1 : w.cell? ⟨r, 1, none⟩ = some (.int .i64 head)) (h2 : w.cell? ⟨r, 2, none⟩ = some (.int .i64 n))
   (hc : w.cell? ⟨d, m, none⟩ = some (ptrV v)) (hf : w.frozen? ⟨d, m, none⟩ = false) :
  Calls Try.prog 97 #[.pointer (some ⟨r, 0, none⟩), .int .i64 i, ptrV u] w fun e w' => e = .returned (.bool true) ∧ ∃ n, w' = (w.setCell ⟨d, m, none⟩ (ptrV u)).drewN n := by
  go_enter Try.func97, Try.ntmps97
  go_wp2
  refine wp_region_quiet_tail 9 (by kernel_rfl) (by kernel_rfl) ?_
  simp only [List.take_succ_cons, List.take_zero, List.drop_succ_cons, List.drop_zero]
  repeat (first | go_big_quiet_step ((go_at_call 70; exact Calls.quiet_of (place_q m r L head i _ _ hl hlm hh (by omega) hm h0 h1))) | quiet_step ((go_at_call 70; exact Calls.quiet_of (place_q m r L head i _ _ hl hlm hh (by omega) hm h0 h1))))
  refine wpQuiet_nil ?_
  rintro _ ⟨nq, rfl⟩
  go_wp2
  go_ret
  exact ⟨rfl, _, rfl⟩
theorem set_yes_q {w : World} {r : Nat} {ds : List Nat} {xs : List (Option Nat)} (h : Rgq w r ds xs) {i : Nat} (hi : i < xs.length) (u : (Option Nat)) :
    Calls Try.prog 97 #[.pointer (some ⟨r, 0, none⟩), .int .i64 i, ptrV u] w fun e w' => e = .returned (.bool true) ∧ Rgq w' r ds (xs.set i u) ∧ Fr ds w w' := by
  obtain ⟨d, L, head, rfl, cs, hb, hL, hd, hbd, hc⟩ := h.conc (by omega)
  have hr := hc.room
  have h0 := hb.cell 0
  have h1 := hb.cell 1
  have h2 := hb.cell 2
  have hx' := hc.at_ i xs[i] (by simp [hi]) 0 (by decide)
  have hcc := hbd.cell ((head + i) % L)
  simp at h0 h1 h2
  simp [encQ] at hx'
  refine (set_conc_q _ r d L head xs.length i xs[i] u w (by omega) hL hc.headL hi hr (Lib.hid rfl) (Nat.mod_lt _ (by omega)) h0 h1 h2 (by rw [hcc, hx']) (hbd.frz _)).mono ?_
  rintro e w' ⟨he, n, rfl⟩
  refine ⟨he, (Rcq.at ⟨cs.set ((head + i) % L) (ptrV u), ?_, hL, hd, (hbd.set _ _).drewN n, hc.set hi ?_⟩), ((Fr.refl [d] w).setCell _ (.inl (by simp))).drewN n⟩
  · rw [List.length_set]; exact (hb.other _ (by exact Ne.symm hd)).drewN n
  · exact Splice.one (by rw [hc.len]; have := Nat.mod_lt (head + i) (show 0 < L by omega); omega) _
set_option maxHeartbeats 400000 in
theorem set_no_q {w : World} {r : Nat} {ds : List Nat} {xs : List (Option Nat)} (h : Rgq w r ds xs) (i : Int) (u : (Option Nat)) (hi : i < 0 ∨ (xs.length : Int) ≤ i) :
    Calls Try.prog 97 #[.pointer (some ⟨r, 0, none⟩), .int .i64 i, ptrV u] w fun e w' => e = .returned (.bool false) ∧ w' = w := by
  obtain ⟨L, head, sv, hb, hL, h⟩ := h
  have h2 := hb.cell 2
  simp at h2
  by_cases hneg : i < 0
  · clear hi
    go_enter Try.func97, Try.ntmps97
    go_wp2
    go_ret
    exact ⟨rfl, rfl⟩
  · have hge : (xs.length : Int) ≤ i := by omega
    have hneg' : 0 ≤ i := by omega
    clear hi hneg
    go_enter Try.func97, Try.ntmps97
    go_wp2
    go_ret
    exact ⟨rfl, rfl⟩

set_option maxHeartbeats 400000 in
theorem new_q (w : World) :
    Calls Try.prog 33 #[] w fun e w' => e = .returned (.pointer (some ⟨w.heap.size, 0, none⟩)) ∧ Rgq w' w.heap.size [] [] ∧ Fr [] w w' ∧ w'.heap.size = w.heap.size + 1 := by
  go_enter Try.func33, Try.ntmps33
  go_wp2
  go_ret
  exact ⟨rfl, ⟨0, 0, .slice none 0 0, Blk.new _ _ _, by omega, .inl ⟨rfl, rfl, rfl, rfl, rfl⟩⟩, (Fr.refl [] w).alloc _, by simp⟩
end Go.Proofs.Yteojodcdehkejaa
/- Rings of *millrace/drr.flow: the contracts of their functions, second part: the copy, the iterator, the list. -/
namespace Go.Proofs.Yteojodcdehkejaa
open Go Go.RowKit
attribute [local go_sem] calmQ_normal wide_fn wide_depth Oper.semAt_some

theorem enc_len_q (x : (Option Nat)) : (encQ x).length = 1 := rfl
theorem take_snoc_q {xs : List (Option Nat)} {j : Nat} {x : (Option Nat)} (hx : xs[j]? = some x) : (xs.take (j + 1)).flatMap encQ = (xs.take j).flatMap encQ ++ [ptrV x] := by
  rw [List.take_add_one, hx]
  simp [encQ]

set_option maxHeartbeats 1000000 in
theorem held_q {w : World} {r : Nat} {ds : List Nat} {xs : List (Option Nat)} (h : Rgq w r ds xs) :
    Calls Try.prog 84 #[.pointer (some ⟨r, 0, none⟩)] w fun e w' => ∃ v S, e = .returned v ∧ OwnS w' 89 1 v xs.length (xs.flatMap encQ) S ∧ Gr w [] S ∧ Fr [] w w' := by
  obtain ⟨i0, hi, hz0, hz1, hz2⟩ := info_parts infoq
  have hrw : r < w.heap.size := h.lt r (by simp)
  have H := Lib.hid h
  obtain ⟨L, head, sv, hb, hL, hrest⟩ := h
  have hrl : xs.length ≤ 1073741824 := by
    rcases hrest with ⟨_, _, rfl, _⟩ | ⟨d, cs, _, _, _, _, hc⟩
    · simp
    · have := hc.room; omega
  have h2 := hb.cell 2
  simp at h2
  clear hb hrest
  go_enter Try.func84, Try.ntmps84
  go_wp2
  go_loopg [3, 9] xs.length (fun k v i wr => ∃ j : Nat, k + j = xs.length ∧ i = .int .i64 j ∧ ∃ S, OwnS wr 89 1 v j ((xs.take j).flatMap encQ) S ∧ Gr w [] S ∧ Fr [] w wr)
  case atStart => exact ⟨0, by omega, rfl, [], by simpa using OwnS.nil w _ _, Gr.nil _ _, Fr.refl _ _⟩
  case round =>
    obtain ⟨j, hk, rfl, S, hown, hgr, hfr⟩ := hrel
    by_cases hj : j < xs.length
    · have hR : Rgq wr r ds xs := H.out.fr hfr (by simp)
      obtain ⟨d, L, head, hds, cs, hb, hL', hd, hbd, hc⟩ := hR.conc (by omega)
      have hro := hc.room
      have hhd := hc.headL
      have h0 := hb.cell 0
      have h1 := hb.cell 1
      have h2 := hb.cell 2
      obtain ⟨x, hx⟩ : ∃ x, xs[j]? = some x := ⟨xs[j], by simp [hj]⟩
      have hx' := hc.at_ j x hx 0 (by decide)
      have hcc := hbd.cell ((head + j) % L)
      have hml : (head + j) % L < L := Nat.mod_lt _ (by omega)
      simp at h0 h1 h2
      simp [encQ] at hx'
      rw [hx'] at hcc
      have hxx := Lib.hid hx
      clear hx hx' hb hbd hc hR hds
      obtain ⟨m, hm⟩ : ∃ m, Hid (m = (head + j) % L) := ⟨_, Lib.hid rfl⟩
      rw [← hm.out] at hcc hml
      have hsz := hfr.size
      have hrwr : r < wr.heap.size := by omega
      go_wp2
      refine wp_region_mix 10 [0] [1, 2, 3, 4, 5, 6, 7, 8, 9] (by kernel_rfl) (by kernel_rfl) ?_
      simp only [List.cons_append, List.nil_append, List.map_cons, List.map_nil, getD_toArray_list, List.getD_cons_succ, List.getD_cons_zero, List.drop_succ_cons, List.drop_zero]
      repeat (first | go_big_quiet_step ((go_at_call 70; exact Calls.quiet_of (place_q m r L head j _ _ (by omega) hL' hhd (by omega) hm h0 h1))) | quiet_step ((go_at_call 70; exact Calls.quiet_of (place_q m r L head j _ _ (by omega) hL' hhd (by omega) hm h0 h1))))
      refine wpQuiet_nil ?_
      rintro _ ⟨nq, rfl⟩
      go_wp2_with (at_builtin; refine wpList_append_S _ rfl (.tmp 12) (.tmp 22) 90 rfl 89 i0 (ptrV none) 1 8 Try.underlying90 hi hz0 hz1 hz2 rfl _ _ _ _ rfl ((hown.alloc _ : OwnS ((wr.drewN nq).alloc _) _ _ _ _ _ _)) ⟨wr.heap.size, 0, none⟩ 1 1 [ptrV x] rfl rfl ?c1 ?c2 ?c3 ?c4 ?_)
      case c1 => intro k u hk; match k, hk with | 0, hk => simp at hk; subst hk; simpa [Addr.add] using ((Blk.new (wr.drewN nq) 89 [ptrV x]).cell 0)
      case c2 => intro u hu; simp at hu; subst hu; rfl
      case c3 => unfold maxLen; omega
      case c4 => omega
      intro v' w1 S' hown' hgr' hfr'
      go_wp2
      rw [calmQ_normal]
      go_wp2
      go_roundg (gk - 1)
      case measure => omega
      case rel =>
        have f1 : Fr [] wr ((wr.drewN nq).alloc (.cells #[ptrV x] 89)) := ((Fr.refl [] wr).drewN nq).alloc _
        refine ⟨j + 1, by omega, by go_num, S', by rw [take_snoc_q hxx.out]; exact hown', hgr.trans (by simp; omega) hgr', ?_⟩
        exact (hfr.trans' f1).trans hgr hfr'
    · go_wp2
      obtain rfl : j = xs.length := by omega
      go_ret
      exact ⟨_, S, rfl, by simpa using hown, hgr, hfr⟩

/-- the things with their places, as the iterator hands them out -/
def entq (q : (Option Nat) × Nat) : Array Value := #[.int .i64 q.2, ptrV q.1]

set_option maxHeartbeats 400000 in
theorem all_q (w : World) (r : Nat) :
    Calls Try.prog 46 #[.pointer (some ⟨r, 0, none⟩)] w fun e w' => e = .returned (.func (.func 83) #[] #[.pointer (some ⟨w.heap.size, 0, none⟩)]) ∧ w' = w.alloc (.cells #[.pointer (some ⟨r, 0, none⟩)] 87) := by
  go_enter Try.func46, Try.ntmps46
  go_wp2
  go_ret
  exact ⟨rfl, rfl⟩

set_option maxHeartbeats 1000000 in
set_option maxRecDepth 100000 in
theorem seq_q {w : World} {r B : Nat} {ds : List Nat} {xs : List (Option Nat)} (h : Rgq w r ds xs) (hB : w.cell? ⟨B, 0, none⟩ = some (.pointer (some ⟨r, 0, none⟩))) :
    SeqF Try.prog 83 #[.pointer (some ⟨B, 0, none⟩)] entq xs.zipIdx w := by
  intro l I Ix S W hW hS hI hIx hY h0
  have hBW := (hW.cell (p := ⟨B, 0, none⟩) (World.block_lt_of_cell? _ _ hB) (by simp)).trans hB
  have hRW := h.fr hW (by simp)
  refine callsIn_wide.1 (callsIn_of_wp (n := 0) (F := Fence.wide) Try.func83 rfl trivial ?_ rfl)
  simp only [Try.ntmps83, List.size_toArray, List.length_cons, List.length_nil, Nat.reduceAdd, Nat.reduceSub, Array.replicate_succ, Array.replicate_zero, List.push_toArray, List.append_toArray, List.nil_append, List.cons_append]
  have hcall := Lib.hid (wideIn (0 - 1) (held_q hRW))
  gi_wp2_with (gi_at_call 84; refine (hcall.out).mono ?_; rintro e w' ⟨v, S0, rfl, hown, hg0, hf0⟩; obtain ⟨vao, vcap, rfl⟩ := hown.val)
  have hz0 := hf0.size
  have hlen : xs.length ≤ 1073741824 := by
    obtain ⟨L, head, sv, hb, hL, hrest⟩ := hRW
    rcases hrest with ⟨_, _, rfl, _⟩ | ⟨d, cs, _, _, _, _, hc⟩
    · simp
    · have := hc.room; omega
  have hYY := Lib.hid hY
  have hII := Lib.hid hI
  have hS00 := Lib.hid hS
  clear hcall hBW hRW hW hIx hY hI hB h hS
  gi_loopw [8] (fun i wr => ∃ k : Nat, k ≤ xs.length ∧ i = .int .i64 k ∧ ∃ S1, I S1 (xs.zipIdx.take k) wr ∧ Gr w' S S1 ∧ Fr S W wr ∧ w'.heap.size ≤ wr.heap.size ∧ OwnS wr 89 1 (.slice vao xs.length vcap) xs.length (xs.flatMap encQ) S0)
    (fun i _ => xs.length - (intOf i).toNat)
  case atStart => exact ⟨0, Nat.zero_le _, rfl, S, by simpa using hII.out S [] W w' [] h0 hf0 (by simp), Gr.refl _ _, hf0.mono (by simp), Nat.le_refl _, hown⟩
  case round =>
    obtain ⟨k, hk, rfl, S1, hi, hg, hf, hz, hown1⟩ := hrel
    by_cases hlt : k < xs.length
    · obtain ⟨g, cap, hv, rfl⟩ := hown1.head (by omega)
      cases hv
      have hgx : xs.zipIdx = xs.zipIdx.take k ++ (xs[k], k) :: xs.zipIdx.drop (k + 1) := by
        have : xs.zipIdx[k]? = some (xs[k], k) := by simp [hlt]
        obtain ⟨hk1, hk2⟩ := List.getElem?_eq_some_iff.1 this
        rw [← hk2, ← List.drop_eq_getElem_cons hk1, List.take_append_drop]
      obtain ⟨fn, tmps, assign, body, hy, hR⟩ := hYY.out (xs.zipIdx.take k) (xs[k], k) _ S1 wr hgx (by omega) (hg.size hz0) hf hi
      dsimp only [entq] at hy
      have hcx : wr.cell? ⟨g, k, none⟩ = some (ptrV xs[k]) := by
        have := hown1.cellAt k (by omega)
        rw [this]
        have := flatMap_at enc_len_q (xs := xs) (i := k) (x := xs[k]) (by simp [hlt]) (j := 0) (by decide)
        simpa [encQ] using this
      have hgS : g ∉ S1 := fun hm => by
        have h1 := hown.lt g (by simp)
        rcases hg g hm with h | h
        · have := hS00.out g h
          rcases hg0 g (by simp) with h2 | h2
          · cases h2
          · omega
        · omega
      have HR := Lib.hid hR
      have HX := Lib.hid hgx
      clear hR hgx hown
      gi_wp2
      refine HR.out.mono ?_
      rintro e W3 ⟨S', hg3, hf3, ⟨rfl, hi3⟩ | ⟨rfl, hi3⟩⟩
      · have hz3 := hf3.size
        have ho3 := hown1.fr hf3 (by simpa using hgS)
        gi_wp2
        go_roundw
        case rel => exact ⟨k + 1, by omega, by simp, S', by rw [List.take_add_one, show xs.zipIdx[k]? = some (xs[k], k) from by simp [hlt]]; exact hi3, hg.trans hz hg3, hf.trans (hg.size hz0) hf3, by omega, ho3⟩
        case measure => simp [intOf]; omega
      · gi_wp2
        refine bodyPost_ret (results_none rfl _ _ _) rfl ?_
        exact ⟨⟨_, rfl⟩, S', (hg.size hz0).trans hf.size hg3, hf.trans (hg.size hz0) hf3, .inr ⟨_, _, _, HX.out, hi3⟩⟩
    · obtain rfl : k = xs.length := by omega
      gi_wp2
      go_end0
      exact ⟨⟨_, rfl⟩, S1, hg.size hz0, hf, .inl (by rw [List.take_of_length_le (by simp)] at hi; exact hi)⟩
end Go.Proofs.Yteojodcdehkejaa
/- Rings of *millrace/drr.flow: the contracts of their functions, third part: the list, what makes room, and what changes the ring. -/
namespace Go.Proofs.Yteojodcdehkejaa
open Go Go.RowKit
attribute [local go_sem] calmQ_normal wide_fn wide_depth Oper.semAt_some

set_option maxHeartbeats 400000 in
theorem clip_q {w : World} {v : Value} {n : Nat} {ys : List Value} {S : List Nat} (h : OwnS w 89 1 v n ys S) (hn : n ≤ 1073741824) :
    Calls Try.prog 105 #[v] w fun e w' => ∃ v', e = .returned v' ∧ OwnS w 89 1 v' n ys S ∧ w' = w := by
  obtain ⟨hl, ⟨rfl, rfl, rfl⟩ | ⟨g, cap, cur, rfl, rfl, hg, hnc, hcm, hcs, ht⟩⟩ := h
  · go_enter Try.func105, Try.ntmps105
    go_wp2
    go_ret
    exact ⟨_, rfl, ⟨hl, .inl ⟨rfl, rfl, rfl⟩⟩, rfl⟩
  · have H : Hid (OwnS w 89 1 (.slice (some ⟨g, 0, none⟩) n n) n ys [g]) := ⟨hl, .inr ⟨g, n, cur, rfl, rfl, hg, Nat.le_refl _, by omega, by omega, ht⟩⟩
    clear hg hl ht hcs hcm
    go_enter Try.func105, Try.ntmps105
    go_wp2
    go_ret
    exact ⟨_, rfl, H.out, rfl⟩

theorem ownS_snoc_q {w : World} {v : Value} {pre : List ((Option Nat) × Nat)} {x : (Option Nat) × Nat} {S : List Nat} (h : OwnS w 89 1 v (pre.length + 1) ((pre.map (·.1)).flatMap encQ ++ [ptrV x.1]) S) :
    OwnS w 89 1 v (pre ++ [x]).length (((pre ++ [x]).map (·.1)).flatMap encQ) S := by
  simpa [encQ] using h

set_option maxHeartbeats 1000000 in
set_option maxRecDepth 100000 in
theorem list_q {w : World} {r : Nat} {ds : List Nat} {xs : List (Option Nat)} (h : Rgq w r ds xs) :
    Calls Try.prog 95 #[.pointer (some ⟨r, 0, none⟩)] w fun e w' => ∃ v S, e = .returned v ∧ OwnS w' 89 1 v xs.length (xs.flatMap encQ) S ∧ Gr w [] S ∧ Fr [] w w' := by
  obtain ⟨i0, hi, hz0, hz1, hz2⟩ := info_parts infoq
  have hlen : xs.length ≤ 1073741824 := by
    obtain ⟨L, head, sv, hb, hL, hrest⟩ := h
    rcases hrest with ⟨_, _, rfl, _⟩ | ⟨d, cs, _, _, _, _, hc⟩
    · simp
    · have := hc.room; omega
  refine callsIn_wide.1 (callsIn_of_wp_marks (n := 0) (F := Fence.wide) Try.func95 rfl trivial ?_ rfl)
  simp only [Try.ntmps95, List.size_toArray, List.length_cons, List.length_nil, Nat.reduceAdd, Nat.reduceSub, Array.replicate_succ, Array.replicate_zero, List.push_toArray, List.append_toArray, List.nil_append, List.cons_append]
  gi_wp2_with (gi_at_call 46; refine (wideIn _ (all_q _ r)).mono ?_; rintro e w' ⟨rfl, rfl⟩)
  have hseq : SeqF Try.prog 83 #[.pointer (some ⟨w.heap.size + 1, 0, none⟩)] entq xs.zipIdx ((w.alloc (.cells #[.slice none 0 0] 90)).alloc (.cells #[.pointer (some ⟨r, 0, none⟩)] 87)) :=
    seq_q ((h.alloc _).alloc _) (by simpa only [World.size_alloc, List.getElem?_cons_zero] using (Blk.new (w.alloc (.cells #[.slice none 0 0] 90)) 87 [.pointer (some ⟨r, 0, none⟩)]).cell 0)
  have hB0 : Blk ((w.alloc (.cells #[.slice none 0 0] 90)).alloc (.cells #[.pointer (some ⟨r, 0, none⟩)] 87)) w.heap.size 90 [.slice none 0 0] := (Blk.new w 90 [.slice none 0 0]).alloc _
  have hfw : Fr [] w ((w.alloc (.cells #[.slice none 0 0] 90)).alloc (.cells #[.pointer (some ⟨r, 0, none⟩)] 87)) := ((Fr.refl [] w).alloc _).alloc _
  have hzw : ((w.alloc (.cells #[.slice none 0 0] 90)).alloc (.cells #[.pointer (some ⟨r, 0, none⟩)] 87)).heap.size = w.heap.size + 2 := by simp
  clear h
  have hlocI : Loc (w.heap.size + 2) (fun S (pre : List ((Option Nat) × Nat)) W => ∃ v S1, S = w.heap.size :: S1 ∧ w.heap.size ∉ S1 ∧ Blk W w.heap.size 90 [v] ∧ OwnS W 89 1 v pre.length ((pre.map (·.1)).flatMap encQ) S1) := by
    intro S pre A B T ⟨v, S1, hS, hn, hb, ho⟩ f ht
    subst hS
    exact ⟨v, S1, rfl, hn, hb.fr f (fun hm => (ht _ hm).2 (by simp)), ho.fr f (fun b hb hm => (ht _ hm).2 (by simp [hb]))⟩
  obtain ⟨w1, hw1⟩ : ∃ w1, (w.alloc (.cells #[.slice none 0 0] 90)).alloc (.cells #[.pointer (some ⟨r, 0, none⟩)] 87) = w1 := ⟨_, rfl⟩
  rw [hw1] at hseq hB0 hfw hzw ⊢
  clear hw1
  refine wp_rangeF1 (gf := 83) (lb := #[.pointer (some ⟨w.heap.size + 1, 0, none⟩)]) rfl (enters_of Try.func83 (by kernel_rfl) rfl) hseq (fun _ => rfl)
    (fun S (pre : List ((Option Nat) × Nat)) W => ∃ v S1, S = w.heap.size :: S1 ∧ w.heap.size ∉ S1 ∧ Blk W w.heap.size 90 [v] ∧ OwnS W 89 1 v pre.length ((pre.map (·.1)).flatMap encQ) S1)
    (fun _ _ _ _ => False) [w.heap.size] (by simp; omega) (by rw [hzw]; exact hlocI) (fun _ _ _ _ _ _ h _ _ => h) ⟨_, [], rfl, by simp, hB0, OwnS.nil _ _ _⟩
    ?asg ?assign ?body ?done ?stop
  case assign =>
    intro l x W K hK
    simp only [entq]
    gi_wp2
    exact hK
  case body =>
    rintro l pre x post S1 W hx hz hg hf hl hnl hr ⟨v, S2, rfl, hnS, hb, ho⟩
    have hpl : pre.length < xs.length := by
      have := congrArg List.length hx
      simp at this
      omega
    have hc0 : W.cell? ⟨w.heap.size, 0, none⟩ = some v := by simpa using hb.cell 0
    have hf0 := hb.frz 0
    have hlt := hb.lt
    have HX := Lib.hid hx
    clear hx hr
    gi_wp2_with (gi_at_builtin; refine wpListIn_append_S _ rfl (.tmp 10) (.tmp 12) 90 rfl 89 i0 (ptrV none) 1 8 Try.underlying90 hi hz0 hz1 hz2 rfl _ _ _ _ rfl ((ho.alloc _ : OwnS (W.alloc _) _ _ _ _ _ _)) ⟨W.heap.size, 0, none⟩ 1 1 [ptrV x.1] rfl rfl ?c1 ?c2 ?c3 ?c4 ?_)
    case c1 => intro k u hk; match k, hk with | 0, hk => simp at hk; subst hk; simp [Addr.add]
    case c2 => intro u hu; simp at hu; subst hu; rfl
    case c3 => unfold maxLen; omega
    case c4 => omega
    intro v' w2 S' hown' hgr' hfr'
    obtain ⟨g', cap', hv', hS'⟩ := hown'.head (by omega)
    have hfa : Fr [] W (W.alloc (.cells #[ptrV x.1] 89)) := (Fr.refl _ _).alloc _
    have hbA : Blk w2 w.heap.size 90 [v] := (hb.alloc _).fr hfr' hnS
    have hca : w2.cell? ⟨w.heap.size, 0, none⟩ = some v := by simpa using hbA.cell 0
    have hfza := hbA.frz 0
    have hsz2 := hfr'.size
    have hlt2 := hbA.lt
    have hbset := hbA.set 0 v'
    have hnS' : w.heap.size ∉ S' := hgr'.notMem (by simp; omega) hnS
    have hfin : postF (fun S (pre : List ((Option Nat) × Nat)) W => ∃ v S1, S = w.heap.size :: S1 ∧ w.heap.size ∉ S1 ∧ Blk W w.heap.size 90 [v] ∧ OwnS W 89 1 v pre.length ((pre.map (·.1)).flatMap encQ) S1) (fun _ _ _ _ => False) (w.heap.size :: S2) (pre ++ [x]) W .normal ⟨#[], []⟩ (w2.setCell ⟨w.heap.size, 0, none⟩ v') := by
      refine ⟨w.heap.size :: S', Gr.cons _ (hgr'.size (by simp)), ?_, v', S', rfl, hnS', by simpa using hbset, ?_⟩
      · exact ((hfa.mono (T := w.heap.size :: S2) (by simp)).trans (Gr.of_sub (by simp)) (hfr'.mono (T := w.heap.size :: S2) (by intro b hb; simp [hb]))).setCell _ (.inl (by simp))
      · exact ownS_snoc_q (hown'.fr ((Fr.refl [w.heap.size] w2).setCell v' (.inl (by simp))) (by intro b hb hm; simp at hm; subst hm; exact hnS' hb))
    have HF := Lib.hid hfin
    clear hfin hbset hown' hgr' hfr' hbA ho hb
    subst hv'
    gi_wp2
    exact HF.out
  case stop => intro _ _ _ _ _ _ _ _ _ _ _ _ h _; exact h.elim
  case done =>
    rintro D S' W hD hDS hg hf ⟨v, S1, rfl, hnS, hb, ho⟩ hK
    have hc0 : W.cell? ⟨w.heap.size, 0, none⟩ = some v := by simpa using hb.cell 0
    rw [show (xs.zipIdx.map (·.1)) = xs from by simp, List.length_zipIdx] at ho
    have HO := Lib.hid ho
    have HKK := Lib.hid hK
    clear ho hK
    gi_wp2_with (gi_at_call 105; refine (wideIn _ (clip_q HO.out hlen)).mono ?_; rintro e w' ⟨v', rfl, ho', rfl⟩)
    refine ⟨by simp, .inl ⟨_, _, rfl, run_takeDeferred HKK.out, ?_⟩⟩
    refine ⟨_, results_tmp rfl _ _ _, v', S1, rfl, ho'.fr ((Fr.refl [D] _).putObj _ (.inl (by simp))) (by intro b hb hm; simp at hm; subst hm; exact hDS (by simp [hb])), ?_, ?_⟩
    · intro b hb
      rcases hg b (by simp [hb]) with h | h
      · simp at h; right; omega
      · right; omega
    · exact (hfw.trans (fun b hb => by simp at hb; right; omega) hf).putObj _ (.inr (by omega))

/-! ### what makes room -/
set_option maxHeartbeats 400000 in
theorem wider_no_q {w : World} {r d L head : Nat} {xs : List (Option Nat)} (h : Rcq w r d L head xs) (hn : xs.length < L) :
    Calls Try.prog 69 #[.pointer (some ⟨r, 0, none⟩)] w fun e w' => e = .returned (.tuple #[]) ∧ ∃ n, w' = w.drewN n := by
  obtain ⟨cs, hb, hL, hd, hbd, hc⟩ := h
  have h0 := hb.cell 0
  have h2 := hb.cell 2
  simp at h0 h2
  clear hb hbd hc
  go_enter Try.func69, Try.ntmps69
  go_wp2
  go_quiet (fail)
  go_wp2
  refine bodyPost_ret (results_none rfl _ _ _) rfl ?_
  exact ⟨rfl, _, rfl⟩
set_option maxRecDepth 100000 in
set_option maxHeartbeats 1000000 in
theorem wider_yes_q {w : World} {r : Nat} {ds : List Nat} {xs : List (Option Nat)} (h : Rgq w r ds xs) (hn : ∀ d L head, ds = [d] → Rcq w r d L head xs → L ≤ xs.length) (hx : xs.length ≤ 268435456) :
    Calls Try.prog 69 #[.pointer (some ⟨r, 0, none⟩)] w fun e w' => e = .returned (.tuple #[]) ∧ ∃ d, Rcq w' r d (2 * xs.length + 4) 0 xs ∧ w.heap.size ≤ d ∧ Fr [r] w w' := by
  obtain ⟨i0, hi, hz0, hz1, hz2⟩ := info_parts infoq
  have H := Lib.hid h
  obtain ⟨L, head, sv, hb, hL, hrest⟩ := h
  have h0 := hb.cell 0
  have h1 := hb.cell 1
  have h2 := hb.cell 2
  simp at h0 h1 h2
  have hrw := hb.lt
  obtain ⟨ao, hsv, hLn⟩ : ∃ ao, sv = .slice ao L L ∧ L ≤ xs.length := by
    rcases hrest with ⟨rfl, _, rfl, _, rfl⟩ | ⟨d, cs, rfl, hd, rfl, hbd, hc⟩
    · exact ⟨_, rfl, by simp⟩
    · exact ⟨_, rfl, hn d L head rfl ⟨cs, hb, hL, hd, hbd, hc⟩⟩
  subst hsv
  clear hb hrest hn
  go_enter Try.func69, Try.ntmps69
  go_wp2
  go_quiet (fail)
  go_wp2_with (at_make; refine wpList_make_S _ rfl _ _ 90 rfl 89 i0 (ptrV none) 1 8 Try.underlying90 hi hz0 hz1 hz2 .i64 .i64 _ _ (2 * xs.length + 4) rfl rfl (by simp) (by simp) (by omega) (by omega) ?_; intro w1 zs hbz hzl hf1 hs1 _)
  have hf1' : Fr [] w w1 := ((Fr.refl [] w).drewN nq).trans' hf1
  have hbz' : Blk w1 w.heap.size 89 zs := hbz
  have hs1' : w1.heap.size = w.heap.size + 1 := hs1
  clear hf1 hbz hs1
  refine (list_q (H.out.fr hf1' (by simp))).mono ?_
  rintro e w2 ⟨v, S, rfl, hov, hgv, hf2⟩
  have hbz2 : Blk w2 w.heap.size 89 zs := hbz'.fr hf2 (by simp)
  have HZ := Lib.hid hzl
  have HO := Lib.hid hov
  have HB := Lib.hid hbz2
  clear hzl hov hbz2 hbz'
  go_wp2_with (with_reducible refine wpList_copy_S _ rfl (.tmp 20) (.tmp 22) 90 90 rfl 89 i0 1 Try.underlying90 hi hz1 w.heap.size (2 * xs.length + 4) (2 * xs.length + 4) 89 zs rfl HB.out v xs.length (xs.flatMap encQ) S rfl HO.out ?c1 ?c2 ?c3 ?_)
  case c1 => omega
  case c2 => have := HZ.out; omega
  case c3 => intro u hu; simp [encQ] at hu; obtain ⟨x, _, rfl⟩ := hu; rfl
  intro w3 cs3 hb3 hl3 ht3 hf3
  have HL3 := Lib.hid hl3
  have HT3 := Lib.hid ht3
  clear hl3 ht3
  have hf12 : Fr [] w w2 := hf1'.trans' hf2
  have hf13 : Fr [w.heap.size] w w3 := (hf12.mono (by simp)).trans' hf3
  have hf13' : Fr [] w w3 := hf13.mono' (fun b hb => by simp at hb; right; omega)
  obtain ⟨L', head', sv', hbr, hL', _⟩ := H.out
  have hbr3 : Blk w3 r 132 [sv', .int .i64 head', .int .i64 xs.length] := hbr.fr hf13' (by simp)
  have h30 := hbr3.cell 0
  have h31 := hbr3.cell 1
  simp at h30 h31
  have f30 := hbr3.frz 0
  have f31 := hbr3.frz 1
  have hset := (hbr3.set 0 (.slice (some ⟨w.heap.size, 0, none⟩) (2 * xs.length + 4) (2 * xs.length + 4))).set 1 (.int .i64 0)
  have hb3' := ((hb3.other (p := ⟨r, 0, none⟩) (.slice (some ⟨w.heap.size, 0, none⟩) (2 * xs.length + 4) (2 * xs.length + 4)) (by show w.heap.size ≠ r; omega)).other (p := ⟨r, 1, none⟩) (.int .i64 0) (by show w.heap.size ≠ r; omega))
  have hfin : Rcq ((w3.setCell ⟨r, 0, none⟩ (.slice (some ⟨w.heap.size, 0, none⟩) (2 * xs.length + 4) (2 * xs.length + 4))).setCell ⟨r, 1, none⟩ (.int .i64 0)) r w.heap.size (2 * xs.length + 4) 0 xs := by
    refine ⟨_, by simpa using hset, by omega, by omega, hb3', Cyc.straight (by omega) (by omega) ?_ enc_len_q ?_⟩
    · rw [HL3.out, HZ.out]
    · simpa using HT3.out
  have hfr : Fr [r] w ((w3.setCell ⟨r, 0, none⟩ (.slice (some ⟨w.heap.size, 0, none⟩) (2 * xs.length + 4) (2 * xs.length + 4))).setCell ⟨r, 1, none⟩ (.int .i64 0)) :=
    ((hf13'.mono (by simp)).setCell _ (.inl (by simp))).setCell _ (.inl (by simp))
  have HF : Hid (Rcq ((w3.setCell ⟨r, 0, none⟩ (.slice (some ⟨w.heap.size, 0, none⟩) (2 * xs.length + 4) (2 * xs.length + 4))).setCell ⟨r, 1, none⟩ (.int .i64 0)) r w.heap.size (2 * xs.length + 4) 0 xs ∧ Fr [r] w ((w3.setCell ⟨r, 0, none⟩ (.slice (some ⟨w.heap.size, 0, none⟩) (2 * xs.length + 4) (2 * xs.length + 4))).setCell ⟨r, 1, none⟩ (.int .i64 0))) := ⟨hfin, hfr⟩
  clear hfin hfr hset hb3' hbr3 hbr hf13 hf13' hf12 hf3 hb3 hf2 hf1'
  go_wp2
  go_end0
  exact ⟨rfl, _, HF.out.1, Nat.le_refl _, HF.out.2⟩
theorem wider_q {w : World} {r : Nat} {ds : List Nat} {xs : List (Option Nat)} (h : Rgq w r ds xs) (hx : xs.length ≤ 268435456) :
    Calls Try.prog 69 #[.pointer (some ⟨r, 0, none⟩)] w fun e w' => e = .returned (.tuple #[]) ∧ ∃ d L head, Rcq w' r d L head xs ∧ xs.length < L ∧ Fr [r] w w' ∧ Gr w ds [d] := by
  by_cases hr : ∃ d L head, ds = [d] ∧ Rcq w r d L head xs ∧ xs.length < L
  · obtain ⟨d, L, head, rfl, hc, hl⟩ := hr
    refine (wider_no_q hc hl).mono ?_
    rintro e w' ⟨he, n, rfl⟩
    exact ⟨he, d, L, head, hc, hl, (Fr.refl _ _).drewN n, Gr.refl _ _⟩
  · refine (wider_yes_q h (fun d L head hd hc => ?_) hx).mono ?_
    · rcases Nat.lt_or_ge xs.length L with h' | h'
      · exact absurd ⟨d, L, head, hd, hc, h'⟩ hr
      · exact h'
    · rintro e w' ⟨he, d, hc, hd, hf⟩
      exact ⟨he, d, _, _, hc, by omega, hf, fun b hb => by simp at hb; subst hb; exact .inr hd⟩
end Go.Proofs.Yteojodcdehkejaa
/- Rings of *millrace/drr.flow: the contracts of their functions, fourth part: what changes the ring. -/
namespace Go.Proofs.Yteojodcdehkejaa
open Go Go.RowKit
attribute [local go_sem] calmQ_normal wide_fn wide_depth Oper.semAt_some

set_option maxRecDepth 100000 in
set_option maxHeartbeats 1000000 in
theorem pushB_q {w : World} {r : Nat} {ds : List Nat} {xs : List (Option Nat)} (h : Rgq w r ds xs) (hx : xs.length ≤ 268435456) (v : (Option Nat)) :
    Calls Try.prog 38 #[.pointer (some ⟨r, 0, none⟩), ptrV v] w fun e w' => e = .returned (.tuple #[]) ∧ ∃ ds', Rgq w' r ds' (xs ++ [v]) ∧ Fr (r :: ds) w w' ∧ Gr w ds ds' := by
  have hcall := Lib.hid (wider_q h hx)
  clear h
  go_enter Try.func38, Try.ntmps38
  go_wp2_with fail
  refine hcall.out.mono ?_
  rintro e w1 ⟨rfl, d, L, head, ⟨cs, hb, hL, hd, hbd, hc⟩, hroom, hf1, hg1⟩
  have h0 := hb.cell 0
  have h1 := hb.cell 1
  have h2 := hb.cell 2
  simp at h0 h1 h2
  have f2 := hb.frz 2
  have hhd := hc.headL
  obtain ⟨m, hm⟩ : ∃ m, Hid (m = (head + xs.length) % L) := ⟨_, Lib.hid rfl⟩
  have hml : m < L := by rw [hm.out]; exact Nat.mod_lt _ (by omega)
  have hmc : m < cs.length := by rw [hc.len]; omega
  obtain ⟨u, hu⟩ : ∃ u, w1.cell? ⟨d, m, none⟩ = some u := ⟨cs[m], by rw [hbd.cell]; simp [hmc]⟩
  have fd := hbd.frz m
  have s1 := Splice.one hmc (ptrV v)
  rw [hm.out] at s1
  have hfin : ∀ nq : Nat, Rcq (((w1.setCell ⟨d, m, none⟩ (ptrV v)).setCell ⟨r, 2, none⟩ (.int .i64 (xs.length + 1 : Int))).drewN nq) r d L head (xs ++ [v]) ∧ Fr (r :: ds) w (((w1.setCell ⟨d, m, none⟩ (ptrV v)).setCell ⟨r, 2, none⟩ (.int .i64 (xs.length + 1 : Int))).drewN nq) := fun nq => by
    refine ⟨⟨cs.set m (ptrV v), ?_, hL, hd, ?_, ?_⟩, ?_⟩
    · have := ((hb.other (p := ⟨d, m, none⟩) (ptrV v) (Ne.symm hd)).set 2 (.int .i64 (xs.length + 1 : Int))).drewN nq
      simpa using this
    · exact ((hbd.set m (ptrV v)).other (p := ⟨r, 2, none⟩) _ hd).drewN nq
    · rw [hm.out]; exact hc.back hroom s1
    · have f1 : Fr [r, d] w1 (((w1.setCell ⟨d, m, none⟩ (ptrV v)).setCell ⟨r, 2, none⟩ (.int .i64 (xs.length + 1 : Int))).drewN nq) := (((Fr.refl [r, d] w1).setCell _ (.inl (by simp))).setCell _ (.inl (by simp))).drewN nq
      exact (hf1.mono (T := r :: ds) (by simp)).trans (Gr.cons r hg1) f1
  have HF := Lib.hid hfin
  have HG := Lib.hid hg1
  clear hfin hg1 hf1 s1 hb hbd hc hcall
  go_wp2
  refine wp_region_quiet_tail 12 (by kernel_rfl) (by kernel_rfl) ?_
  simp only [List.take_succ_cons, List.take_zero, List.drop_succ_cons, List.drop_zero]
  repeat (first | go_big_quiet_step ((go_at_call 70; exact Calls.quiet_of (place_q m r L head xs.length _ _ (by omega) hL hhd (by omega) hm h0 h1))) | quiet_step ((go_at_call 70; exact Calls.quiet_of (place_q m r L head xs.length _ _ (by omega) hL hhd (by omega) hm h0 h1))))
  refine wpQuiet_nil ?_
  rintro _ ⟨nq, rfl⟩
  go_wp2
  go_end0
  exact ⟨rfl, _, (HF.out _).1.at, (HF.out _).2, HG.out⟩

theorem at_yesZ_q {w : World} {r : Nat} {ds : List Nat} {xs : List (Option Nat)} (h : Rgq w r ds xs) {i : Int} {x : (Option Nat)} (hi : 0 ≤ i) (hx : xs[i.toNat]? = some x) :
    Calls Try.prog 85 #[.pointer (some ⟨r, 0, none⟩), .int .i64 i] w fun e w' => e = .returned (.tuple #[ptrV x, .bool true]) ∧ ∃ n, w' = w.drewN n := by
  obtain ⟨k, rfl⟩ := Int.eq_ofNat_of_zero_le hi
  exact at_yes_q h (by simpa using hx)
theorem set_yesZ_q {w : World} {r : Nat} {ds : List Nat} {xs : List (Option Nat)} (h : Rgq w r ds xs) {i : Int} (hi : 0 ≤ i) (hl : i.toNat < xs.length) (u : (Option Nat)) :
    Calls Try.prog 97 #[.pointer (some ⟨r, 0, none⟩), .int .i64 i, ptrV u] w fun e w' => e = .returned (.bool true) ∧ Rgq w' r ds (xs.set i.toNat u) ∧ Fr ds w w' := by
  obtain ⟨k, rfl⟩ := Int.eq_ofNat_of_zero_le hi
  exact set_yes_q h (by simpa using hl) u
theorem place_Z_q (m : Nat) (r L head : Nat) (i : Int) (ao : Option Addr) (w : World) (hl : 0 < L) (hlm : L ≤ 1073741824) (hh : head < L) (hi0 : 0 ≤ i) (hi : i ≤ L) (hm : Hid (m = (head + i.toNat) % L))
   (h0 : w.cell? ⟨r, 0, none⟩ = some (.slice ao L L)) (h1 : w.cell? ⟨r, 1, none⟩ = some (.int .i64 head)) :
   Calls Try.prog 70 #[.pointer (some ⟨r, 0, none⟩), .int .i64 i] w fun e w' => e = .returned (.int .i64 (m : Nat)) ∧ ∃ n, w' = w.drewN n := by
  obtain ⟨k, rfl⟩ := Int.eq_ofNat_of_zero_le hi0
  exact place_q m r L head k ao w hl hlm hh (by omega) (by simpa using hm) h0 h1

set_option maxRecDepth 100000 in
set_option maxHeartbeats 1000000 in
theorem popF_no_q {w : World} {r : Nat} {ds : List Nat} (h : Rgq w r ds []) :
    Calls Try.prog 96 #[.pointer (some ⟨r, 0, none⟩)] w fun e w' => e = .returned (.tuple #[ptrV none, .bool false]) ∧ w' = w := by
  have hcall := Lib.hid (at_no_q h 0 (by simp))
  clear h
  go_enter Try.func96, Try.ntmps96
  go_wp2_with (go_at_call 85; refine hcall.out.mono ?_; rintro e w' ⟨rfl, rfl⟩)
  go_ret2
  exact ⟨rfl, rfl⟩

set_option maxRecDepth 100000 in
set_option maxHeartbeats 1000000 in
theorem popF_q {w : World} {r : Nat} {ds : List Nat} {x : (Option Nat)} {xs : List (Option Nat)} (h : Rgq w r ds (x :: xs)) :
    Calls Try.prog 96 #[.pointer (some ⟨r, 0, none⟩)] w fun e w' => e = .returned (.tuple #[ptrV x, .bool true]) ∧ Rgq w' r ds xs ∧ Fr (r :: ds) w w' := by
  have hcall := Lib.hid (at_yesZ_q h (i := 0) (x := x) (by omega) (by simp))
  obtain ⟨d, L, head, rfl, cs, hb, hL, hd, hbd, hc⟩ := h.conc (by simp)
  have h0 := hb.cell 0
  have h1 := hb.cell 1
  have h2 := hb.cell 2
  simp at h0 h1 h2
  have f1 := hb.frz 1
  have f2 := hb.frz 2
  have hhd := hc.headL
  have hro := hc.room
  simp at hro
  have hmc : head < cs.length := by rw [hc.len]; omega
  obtain ⟨u, hu⟩ : ∃ u, w.cell? ⟨d, head, none⟩ = some u := ⟨cs[head], by rw [hbd.cell]; simp [hmc]⟩
  have fd := hbd.frz head
  have s1 := Splice.one hmc (ptrV none)
  obtain ⟨m, hm⟩ : ∃ m, Hid (m = (head + 1) % L) := ⟨_, Lib.hid rfl⟩
  have hm' : Hid (m = (head + (1 : Int).toNat) % L) := hm
  have hfin : ∀ n2 : Nat, Rcq ((((w.setCell ⟨d, head, none⟩ (ptrV none)).setCell ⟨r, 1, none⟩ (.int .i64 m)).setCell ⟨r, 2, none⟩ (.int .i64 xs.length)).drewN n2) r d L m xs ∧ Fr [r, d] w ((((w.setCell ⟨d, head, none⟩ (ptrV none)).setCell ⟨r, 1, none⟩ (.int .i64 m)).setCell ⟨r, 2, none⟩ (.int .i64 xs.length)).drewN n2) := fun n2 => by
    refine ⟨⟨cs.set head (ptrV none), ?_, hL, hd, ?_, ?_⟩, (((((Fr.refl [r, d] w).setCell _ (.inl (by simp))).setCell _ (.inl (by simp))).setCell _ (.inl (by simp))).drewN n2)⟩
    · have := ((((hb.other (p := ⟨d, head, none⟩) (ptrV none) (Ne.symm hd)).set 1 (.int .i64 m)).set 2 (.int .i64 xs.length))).drewN n2
      simpa using this
    · exact (((hbd.set head (ptrV none)).other (p := ⟨r, 1, none⟩) _ hd).other (p := ⟨r, 2, none⟩) _ hd).drewN n2
    · rw [hm.out]; exact hc.popF s1
  have hb2 := hb.other (p := ⟨d, head, none⟩) (ptrV none) (Ne.symm hd)
  have h20 := hb2.cell 0
  have h21 := hb2.cell 1
  simp only [List.getElem?_cons_zero, List.getElem?_cons_succ] at h20 h21
  have H20 := Lib.hid h20
  have H21 := Lib.hid h21
  have HF := Lib.hid hfin
  have hdr : r ≠ d := Ne.symm hd
  clear hfin s1 hb hbd hc h h20 h21 hb2
  go_enter Try.func96, Try.ntmps96
  go_wp2_with (go_at_call 85; refine hcall.out.mono ?_; rintro e w' ⟨rfl, n1, rfl⟩)
  refine wp_region_quiet_tail 10 (by kernel_rfl) (by kernel_rfl) ?_
  simp only [List.take_succ_cons, List.take_zero, List.drop_succ_cons, List.drop_zero]
  repeat (first | go_big_quiet_step (fail) | quiet_step (fail))
  refine wpQuiet_nil ?_
  rintro _ ⟨nq, rfl⟩
  go_wp2_with fail
  refine (place_Z_q m r L head _ _ _ (by omega) hL hhd (by omega) (by omega) hm' (by exact H20.out) (by exact H21.out)).mono ?_
  rintro e w' ⟨rfl, n2, rfl⟩
  go_wp2
  go_ret2
  exact ⟨rfl, (HF.out 0).1.at.sim ⟨rfl, rfl, rfl, rfl⟩, (HF.out 0).2.sim ⟨rfl, rfl, rfl, rfl⟩⟩

set_option maxRecDepth 100000 in
set_option maxHeartbeats 1000000 in
theorem popB_no_q {w : World} {r : Nat} {ds : List Nat} (h : Rgq w r ds []) :
    Calls Try.prog 98 #[.pointer (some ⟨r, 0, none⟩)] w fun e w' => e = .returned (.tuple #[ptrV none, .bool false]) ∧ w' = w := by
  have hcall := Lib.hid (at_no_q h (-1) (by simp))
  obtain ⟨L, head, sv, hb, hL, hrest⟩ := h
  have h2 := hb.cell 2
  simp at h2
  clear hb hrest
  go_enter Try.func98, Try.ntmps98
  go_wp2_with (go_at_call 85; refine hcall.out.mono ?_; rintro e w' ⟨rfl, rfl⟩)
  go_ret2
  exact ⟨rfl, rfl⟩

set_option maxRecDepth 100000 in
set_option maxHeartbeats 1000000 in
theorem popB_q {w : World} {r : Nat} {ds : List Nat} {x : (Option Nat)} {xs : List (Option Nat)} (h : Rgq w r ds (xs ++ [x])) :
    Calls Try.prog 98 #[.pointer (some ⟨r, 0, none⟩)] w fun e w' => e = .returned (.tuple #[ptrV x, .bool true]) ∧ Rgq w' r ds xs ∧ Fr (r :: ds) w w' := by
  have hcall := Lib.hid (at_yesZ_q h (i := xs.length) (x := x) (by omega) (by simp))
  have hcall2 := Lib.hid (fun n => set_yesZ_q (h.drewN n) (i := xs.length) (by omega) (by simp) none)
  have hlen : xs.length ≤ 1073741824 := by
    obtain ⟨d, L, head, rfl, cs, hb, hL, hd, hbd, hc⟩ := h.conc (by simp)
    have := hc.room
    simp at this
    omega
  obtain ⟨L, head, sv, hb, hL, hrest⟩ := h
  have h2 := hb.cell 2
  simp at h2
  clear hb hrest
  go_enter Try.func98, Try.ntmps98
  go_wp2_with (go_at_call 85; refine hcall.out.mono ?_; rintro e w' ⟨rfl, n1, rfl⟩)
  refine (hcall2.out n1).mono ?_
  rintro e w1 ⟨rfl, hr1, hf1⟩
  obtain ⟨d, L1, head1, rfl, cs, hb, hL1, hd, hbd, hc⟩ := hr1.conc (by simp)
  have h12 := hb.cell 2
  simp at h12
  have f12 := hb.frz 2
  have hset := hb.set 2 (.int .i64 xs.length)
  have hro := hc.room
  have hhd := hc.headL
  simp at hro
  have hfin : Rcq (w1.setCell ⟨r, 2, none⟩ (.int .i64 xs.length)) r d L1 head1 xs ∧ Fr [r, d] w (w1.setCell ⟨r, 2, none⟩ (.int .i64 xs.length)) := by
    refine ⟨⟨cs, by simpa using hset, hL1, hd, hbd.other _ hd, ?_⟩, ((((Fr.refl [r, d] w).drewN n1).trans' (hf1.mono (by simp))).setCell _ (.inl (by simp)))⟩
    have e : (xs ++ [x]).set (Int.toNat xs.length) none = xs ++ [none] := by simp
    rw [e] at hc
    exact hc.popB (ys := cs.drop ((head1 + xs.length) % L1 * 1)) ⟨rfl, fun j _ => by rw [List.getElem?_drop], fun _ _ => rfl⟩
  have HF := Lib.hid hfin
  clear hfin hset hb hbd hc hr1 hf1 hcall hcall2
  go_wp2
  go_ret2
  exact ⟨rfl, HF.out.1.at, HF.out.2⟩
end Go.Proofs.Yteojodcdehkejaa
/- A list, turned. -/
namespace Go.Proofs.Yteojodcdehkejaa

/-- the list turned by k places -/
def rot {β : Type} (xs : List β) (k : Nat) : List β := xs.drop k ++ xs.take k
end Go.Proofs.Yteojodcdehkejaa
/- Rings of *millrace/drr.flow: the contracts of their functions, fifth part: Take, Turn. -/
namespace Go.Proofs.Yteojodcdehkejaa
open Go Go.RowKit
attribute [local go_sem] calmQ_normal wide_fn wide_depth Oper.semAt_some

set_option maxRecDepth 100000 in
set_option maxHeartbeats 1000000 in
theorem take_no_q {w : World} {r : Nat} {ds : List Nat} {xs : List (Option Nat)} (h : Rgq w r ds xs) (i : Int) (hi : i < 0 ∨ (xs.length : Int) ≤ i) :
    Calls Try.prog 77 #[.pointer (some ⟨r, 0, none⟩), .int .i64 i] w fun e w' => e = .returned (.tuple #[ptrV none, .bool false]) ∧ w' = w := by
  have hcall := Lib.hid (at_no_q h i hi)
  clear h hi
  go_enter Try.func77, Try.ntmps77
  go_wp2_with (go_at_call 85; refine hcall.out.mono ?_; rintro e w' ⟨rfl, rfl⟩)
  go_ret2
  exact ⟨rfl, rfl⟩

theorem shift_len_q (xs : List (Option Nat)) (i j : Nat) (hij : i ≤ j) (hj : j < xs.length) : ((xs.eraseIdx i).take j ++ xs.drop j).length = xs.length := by
  rw [List.length_append, List.length_take, List.length_drop, List.length_eraseIdx]
  split <;> omega
theorem shift_at_q (xs : List (Option Nat)) (i j : Nat) (hij : i ≤ j) (hj : j + 1 < xs.length) : ((xs.eraseIdx i).take j ++ xs.drop j)[j + 1]? = some xs[j + 1] := by
  have hl : ((xs.eraseIdx i).take j).length = j := by
    rw [List.length_take, List.length_eraseIdx]
    split <;> omega
  rw [List.getElem?_append_right (by omega), hl, List.getElem?_drop]
  simp [hj]
theorem shift_set_q (xs : List (Option Nat)) (i j : Nat) (hij : i ≤ j) (hj : j + 1 < xs.length) : ((xs.eraseIdx i).take j ++ xs.drop j).set j xs[j + 1] = (xs.eraseIdx i).take (j + 1) ++ xs.drop (j + 1) := by
  have hl : ((xs.eraseIdx i).take j).length = j := by
    rw [List.length_take, List.length_eraseIdx]
    split <;> omega
  rw [List.set_append_right _ _ (by omega), hl, Nat.sub_self, List.drop_eq_getElem_cons (show j < xs.length by omega), List.set_cons_zero]
  have e : (xs.eraseIdx i)[j]? = some xs[j + 1] := by
    rw [List.getElem?_eraseIdx_of_ge hij]; simp [hj]
  rw [List.take_add_one, e]
  simp
theorem shift_end_q (xs : List (Option Nat)) (i j : Nat) (hi : i < xs.length) (hj : j + 1 = xs.length) : (xs.eraseIdx i).take j ++ xs.drop j = xs.eraseIdx i ++ [xs[j]] := by
  rw [List.take_of_length_le (by rw [List.length_eraseIdx]; split <;> omega), List.drop_eq_getElem_cons (by omega), List.drop_of_length_le (by omega)]

set_option maxRecDepth 100000 in
set_option maxHeartbeats 1000000 in
theorem take_q {w : World} {r : Nat} {ds : List Nat} {xs : List (Option Nat)} (h : Rgq w r ds xs) {i : Nat} {x : (Option Nat)} (hx : xs[i]? = some x) :
    Calls Try.prog 77 #[.pointer (some ⟨r, 0, none⟩), .int .i64 i] w fun e w' => e = .returned (.tuple #[ptrV x, .bool true]) ∧ Rgq w' r ds (xs.eraseIdx i) ∧ Fr (r :: ds) w w' := by
  have hil := some_lt hx
  have hcall := Lib.hid (at_yes_q h hx)
  have hlen : xs.length ≤ 1073741824 := by
    obtain ⟨d, L, head, rfl, cs, hb, hL, hd, hbd, hc⟩ := h.conc (by omega)
    have := hc.room
    omega
  have hcs := Lib.hid (shift_len_q xs i)
  have hat := Lib.hid (shift_at_q xs i)
  have hst := Lib.hid (shift_set_q xs i)
  have hen := Lib.hid (shift_end_q xs i)
  have HX := Lib.hid hx
  have H := Lib.hid h
  clear h hx
  go_enter Try.func77, Try.ntmps77
  go_wp2_with (go_at_call 85; refine hcall.out.mono ?_; rintro e w' ⟨rfl, n1, rfl⟩)
  go_loopg [1] xs.length (fun k iv wr => ∃ j : Nat, k + j = xs.length + i ∧ iv = .int .i64 j ∧ i ≤ j ∧ j < xs.length ∧ Rgq wr r ds ((xs.eraseIdx i).take j ++ xs.drop j) ∧ Fr (r :: ds) w wr)
  case atStart =>
    refine ⟨i, by omega, rfl, Nat.le_refl _, hil, ?_, (Fr.refl _ _).drewN n1⟩
    rw [show (xs.eraseIdx i).take i = xs.take i from by rw [List.eraseIdx_eq_take_drop_succ, List.take_append_of_le_length (by simp; omega), List.take_take, Nat.min_self], List.take_append_drop]
    exact H.out.drewN n1
  case round =>
    obtain ⟨j, hk, rfl, hij, hjl, hR, hF⟩ := hrel
    have h2 : wr.cell? ⟨r, 2, none⟩ = some (.int .i64 xs.length) := by
      obtain ⟨L, head, sv, hb, _, _⟩ := hR
      have := hb.cell 2
      rw [hcs.out j hij hjl] at this
      simpa using this
    have HR := Lib.hid hR
    have HFF := Lib.hid hF
    clear hR hF
    by_cases hj1 : j + 1 < xs.length
    · have hc1 := Lib.hid (at_yesZ_q HR.out (i := (j : Int) + 1) (x := xs[j + 1]) (by omega) (by rw [show ((j : Int) + 1).toNat = j + 1 from by omega]; exact hat.out j hij hj1))
      have hc2 := Lib.hid (fun n => set_yesZ_q (HR.out.drewN n) (i := (j : Int)) (by omega) (by rw [hcs.out j hij hjl]; simpa using hjl) xs[j + 1])
      go_wp2_with (go_at_call 85; refine hc1.out.mono ?_; rintro e w' ⟨rfl, n2, rfl⟩)
      refine (hc2.out n2).mono ?_
      rintro e w1 ⟨rfl, hr1, hf1⟩
      have HR1 := Lib.hid hr1
      have HF1 := Lib.hid hf1
      clear hr1 hf1 h2
      go_wp2
      go_roundg (gk - 1)
      case measure => omega
      case rel =>
        refine ⟨j + 1, by omega, by go_num, by omega, hj1, ?_, ?_⟩
        · rw [← hst.out j hij hj1]
          simpa using HR1.out
        · exact (HFF.out.drewN n2).trans' (HF1.out.mono (fun b hb => List.mem_cons_of_mem _ hb))
    · have hc1 := Lib.hid (popB_q (by rw [← hen.out j hil (by omega)]; exact HR.out))
      go_wp2_with (go_at_call 98; refine hc1.out.mono ?_; rintro e w1 ⟨rfl, hr1, hf1⟩)
      go_ret2
      exact ⟨rfl, hr1, HFF.out.trans' hf1⟩

theorem rot_pop_q (xs : List (Option Nat)) (j : Nat) (hj : j < xs.length) : rot xs j = xs[j] :: (xs.drop (j + 1) ++ xs.take j) := by
  unfold rot
  rw [List.drop_eq_getElem_cons hj, List.cons_append]
theorem rot_push_q (xs : List (Option Nat)) (j : Nat) (hj : j < xs.length) : (xs.drop (j + 1) ++ xs.take j) ++ [xs[j]] = rot xs (j + 1) := by
  unfold rot
  rw [List.take_succ_eq_append_getElem hj, List.append_assoc]
theorem rot_len_q (xs : List (Option Nat)) (j : Nat) (hj : j ≤ xs.length) : (rot xs j).length = xs.length := by
  unfold rot; simp; omega

set_option maxRecDepth 100000 in
set_option maxHeartbeats 1000000 in
theorem turn_no_q {w : World} {r : Nat} {ds : List Nat} (h : Rgq w r ds []) (i : Int) :
    Calls Try.prog 75 #[.pointer (some ⟨r, 0, none⟩), .int .i64 i] w fun e w' => e = .returned (.tuple #[]) ∧ w' = w := by
  obtain ⟨L, head, sv, hb, hL, hrest⟩ := h
  have h2 := hb.cell 2
  simp at h2
  clear hb hrest
  go_enter Try.func75, Try.ntmps75
  go_wp2
  refine bodyPost_ret (results_none rfl _ _ _) rfl ?_
  exact ⟨rfl, rfl⟩

theorem tmod_neg {n L : Int} (hL : 0 < L) (h : n.tmod L < 0) : n.tmod L + L = n % L := by
  have h1 := Int.tmod_eq_emod (a := n) (b := L)
  have h2 := Int.emod_nonneg n (show L ≠ 0 by omega)
  have h3 := Int.emod_lt_of_pos n hL
  rw [h1] at h ⊢
  split at h <;> split <;> omega
theorem tmod_pos {n L : Int} (hL : 0 < L) (h : ¬ n.tmod L < 0) : n.tmod L = n % L := by
  have h1 := Int.tmod_eq_emod (a := n) (b := L)
  have h2 := Int.emod_nonneg n (show L ≠ 0 by omega)
  have h3 := Int.emod_lt_of_pos n hL
  rw [h1] at h ⊢
  split at h <;> split <;> omega

set_option maxRecDepth 100000 in
set_option maxHeartbeats 1000000 in
theorem turn_q {w : World} {r : Nat} {ds : List Nat} {xs : List (Option Nat)} (h : Rgq w r ds xs) (hn : 0 < xs.length) (hx : xs.length ≤ 268435456) (i : Int) :
    Calls Try.prog 75 #[.pointer (some ⟨r, 0, none⟩), .int .i64 i] w fun e w' => e = .returned (.tuple #[]) ∧ ∃ ds', Rgq w' r ds' (rot xs (i % xs.length).toNat) ∧ Fr (r :: ds) w w' ∧ Gr w ds ds' := by
  have H := Lib.hid h
  obtain ⟨L, head, sv, hb, hL, hrest⟩ := h
  have h2 := hb.cell 2
  simp at h2
  clear hb hrest
  have hn0 : ((xs.length : Int) == 0) = false := by rw [beq_eq_false_iff_ne]; omega
  have hpop := Lib.hid (rot_pop_q xs)
  have hpush := Lib.hid (rot_push_q xs)
  have htb : -(xs.length : Int) ≤ i.tmod xs.length ∧ i.tmod xs.length < xs.length := by
    have h1 := Int.tmod_eq_emod (a := i) (b := xs.length)
    have h2 := Int.emod_nonneg i (show (xs.length : Int) ≠ 0 by omega)
    have h3 := Int.emod_lt_of_pos i (show (0 : Int) < xs.length by omega)
    rw [h1]; split <;> omega
  obtain ⟨htb1, htb2⟩ := htb
  obtain ⟨k, hk⟩ : ∃ k : Nat, Hid (k = (i % xs.length).toNat) := ⟨_, Lib.hid rfl⟩
  have hkl : k ≤ xs.length := by
    rw [hk.out]
    have h3 := Int.emod_lt_of_pos i (show (0 : Int) < xs.length by omega)
    omega
  have hkk : ((i % xs.length : Int)) = k := by
    rw [hk.out]
    have h2 := Int.emod_nonneg i (show (xs.length : Int) ≠ 0 by omega)
    omega
  have HN : Hid (i.tmod xs.length < 0 → i.tmod xs.length + xs.length = k) := fun h => by rw [tmod_neg (by omega) h]; exact hkk
  have HP : Hid (0 ≤ i.tmod xs.length → i.tmod xs.length = k) := fun h => by rw [tmod_pos (by omega) (by omega)]; exact hkk
  clear hkk
  go_enter Try.func75, Try.ntmps75
  go_wp2_with fail
  all_goals (
    first
      | (have hb : i.tmod xs.length < 0 := by omega
         rw [HN.out hb, show decide (i.tmod xs.length < 0) = true from decide_eq_true hb]
         clear hb)
      | (have hb : 0 ≤ i.tmod xs.length := by omega
         rw [HP.out hb, show decide ((k : Int) < 0) = false from decide_eq_false (by omega)]
         clear hb)
    clear htb1 htb2 HN HP
    go_loopg [26] k (fun g jv wr => ∃ j : Nat, g + j = k ∧ jv = .int .i64 j ∧ ∃ ds', Rgq wr r ds' (rot xs j) ∧ Fr (r :: ds) w wr ∧ Gr w ds ds')
    case atStart => exact ⟨0, by omega, rfl, ds, by simpa [rot] using H.out, Fr.refl _ _, Gr.refl _ _⟩
    case round =>
      obtain ⟨j, hg, rfl, ds', hR, hF, hG⟩ := hrel
      by_cases hj : j < k
      · have hjl : j < xs.length := by omega
        have hc1 := Lib.hid (popF_q (by rw [← hpop.out j hjl]; exact hR))
        have HF := Lib.hid hF
        have HG := Lib.hid hG
        clear hR hF hG
        go_wp2_with (go_at_call 96; refine hc1.out.mono ?_; rintro e w1 ⟨rfl, hr1, hf1⟩)
        have hc2 := Lib.hid (pushB_q hr1 (by simp; omega) xs[j])
        have HF1 := Lib.hid hf1
        clear hr1 hf1 hc1
        refine hc2.out.mono ?_
        rintro e w2 ⟨rfl, ds2, hr2, hf2, hg2⟩
        have HR2 := Lib.hid hr2
        have HF2 := Lib.hid hf2
        have HG2 := Lib.hid hg2
        clear hr2 hf2 hg2 hc2
        go_wp2
        go_roundg (gk - 1)
        case measure => omega
        case rel =>
          have g1 : Gr w (r :: ds) (r :: ds') := Gr.cons r HG.out
          have f1 : Fr (r :: ds) w w1 := HF.out.trans g1 HF1.out
          refine ⟨j + 1, by omega, by go_num, ds2, by rw [← hpush.out j hjl]; exact HR2.out, f1.trans g1 HF2.out, HG.out.trans f1.size HG2.out⟩
      · obtain rfl : j = k := by omega
        go_wp2
        go_end0
        exact ⟨rfl, ds', by rw [← hk.out]; exact hR, hF, hG⟩)
end Go.Proofs.Yteojodcdehkejaa
