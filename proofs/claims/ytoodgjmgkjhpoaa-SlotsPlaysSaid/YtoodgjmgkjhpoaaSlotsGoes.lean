/- The statements' goes: a range over all against the reference's list. -/
import Derived.Test.YtoodgjmgkjhpoaaSlotsAll
import Derived.Test.YtoodgjmgkjhpoaaHeldIn
namespace Go.Proofs.Ytoodgjmgkjhpoaa
open Go Go.RowKit
attribute [local go_sem] calmQ_normal wide_fn wide_depth Oper.semAt_some

theorem flat3_cells {X : World} {g : Nat} {xs : List P3} {n cap : Nat} {S : List Nat} (ho : OwnS X 104 3 (.slice (some ⟨g, 0, none⟩) n cap) n (xs.flatMap encP3) S) {k : Nat} {x : P3} (hx : xs[k]? = some x) (hk : k < n) :
    X.cell? ⟨g, k * 3, none⟩ = some (.int .i64 x.f0) ∧ X.cell? ⟨g, k * 3 + 1, none⟩ = some (.int .i64 x.f1) ∧ X.cell? ⟨g, k * 3 + 2, none⟩ = some (.int .i64 x.f2) := by
  have key : ∀ j, j < 3 → X.cell? ⟨g, k * 3 + j, none⟩ = (encP3 x)[j]? := fun j hj => by
    rw [ho.cellAt (k * 3 + j) (by omega)]
    exact flatMap_at (sz := 3) (fun _ => rfl) hx hj
  exact ⟨key 0 (by decide), key 1 (by decide), key 2 (by decide)⟩

set_option maxHeartbeats 4000000 in
set_option maxRecDepth 100000 in
theorem goes_ok {w : World} {b d last cnt : Nat} {L : List (Slot Int)} (h : Sli w b d last L cnt) {v : Value} {n : Nat} {S0 : List Nat} (hn : n = (heldTo L L.length).length) (ho : OwnS w 104 3 v n ((heldTo L L.length).flatMap encP3) S0) (stop : Int) :
    Calls Try.prog 60 #[.pointer (some ⟨b, 0, none⟩), v, .int .i64 stop] w fun e w' => e = .returned (.bool true) ∧ Fr [] w w' := by
  have hnb : n ≤ 65536 := by rw [hn]; have := heldTo_len L L.length; have := h.room; omega
  obtain ⟨vao, vcap, rfl⟩ := ho.val
  refine callsIn_wide.1 (callsIn_of_wp_marks (n := 0) (F := Fence.wide) Try.func60 rfl trivial ?_ rfl)
  simp only [Try.ntmps60, List.size_toArray, List.length_cons, List.length_nil, Nat.reduceAdd, Nat.reduceSub, Array.replicate_succ, Array.replicate_zero, List.push_toArray, List.append_toArray, List.nil_append, List.cons_append]
  have hall := Lib.hid (fun X => wideIn (0 - 1) (sall X b))
  have H := Lib.hid h
  have HO := Lib.hid ho
  have HN := Lib.hid hn
  clear h ho hn
  gi_wp2_with (gi_at_call 50; refine (hall.out _).mono ?_; rintro e w' ⟨rfl, rfl⟩)
  obtain ⟨W, hW⟩ : ∃ W, ((((w.alloc (.cells #[.slice vao n vcap] 101)).alloc (.cells #[.int .i64 stop] 3)).alloc (.cells #[.bool false] 4)).alloc (.cells #[.int .i64 0] 3)).alloc (.cells #[.pointer (some ⟨b, 0, none⟩)] 23) = W := ⟨_, rfl⟩
  have hfW : Fr [] w W := by rw [← hW]; exact (((((Fr.refl _ _).alloc _).alloc _).alloc _).alloc _).alloc _
  have hzW : W.heap.size = w.heap.size + 5 := by rw [← hW]; simp
  obtain ⟨A, hA⟩ : ∃ A, w.heap.size = A := ⟨_, rfl⟩
  have b0 : Blk W A 101 [.slice vao n vcap] := by rw [← hW, ← hA]; exact ((((Blk.new w _ [_]).alloc _).alloc _).alloc _).alloc _
  have b1 : Blk W (A + 1) 3 [.int .i64 stop] := by rw [← hW, ← hA]; simpa using (((Blk.new (w.alloc (.cells #[.slice vao n vcap] 101)) 3 [.int .i64 stop]).alloc _).alloc _).alloc _
  have b2 : Blk W (A + 1 + 1) 4 [.bool false] := by rw [← hW, ← hA]; simpa using ((Blk.new ((w.alloc (.cells #[.slice vao n vcap] 101)).alloc (.cells #[.int .i64 stop] 3)) 4 [.bool false]).alloc _).alloc _
  have b3 : Blk W (A + 1 + 1 + 1) 3 [.int .i64 (0 : Nat)] := by rw [← hW, ← hA]; simpa using (Blk.new (((w.alloc (.cells #[.slice vao n vcap] 101)).alloc (.cells #[.int .i64 stop] 3)).alloc (.cells #[.bool false] 4)) 3 [.int .i64 0]).alloc _
  have b4 : Blk W (A + 1 + 1 + 1 + 1) 23 [.pointer (some ⟨b, 0, none⟩)] := by rw [← hW, ← hA]; simpa using Blk.new ((((w.alloc (.cells #[.slice vao n vcap] 101)).alloc (.cells #[.int .i64 stop] 3)).alloc (.cells #[.bool false] 4)).alloc (.cells #[.int .i64 0] 3)) 23 [.pointer (some ⟨b, 0, none⟩)]
  have hseq := sseq (H.out.fr hfW (by simp)) (B := A + 1 + 1 + 1 + 1) (b4.cell 0)
  have ho := Lib.hid (HO.out.fr hfW (by simp))
  have hA0 := HO.out.lt
  have hSA : ∀ x, x ∈ S0 → x < A := by rw [← hA]; exact hA0
  rw [hA] at hzW
  rw [hW, hA]
  clear hW H HO hall hA0 b4
  obtain ⟨asg, hasg⟩ : ∃ asg : P3 → Nat → Act, asg = fun x bb => { tmps := #[.pointer (some ⟨b, 0, none⟩), .slice vao n vcap, .int .i64 stop, undef, .pointer (some ⟨A, 0, none⟩), .pointer (some ⟨A + 1, 0, none⟩), .pointer (some ⟨A + 1 + 1, 0, none⟩), .pointer (some ⟨A + 1 + 1 + 1, 0, none⟩), .pointer (some ⟨bb, 0, none⟩), .int .i64 x.f2, .pointer (some ⟨b, 0, none⟩),
      .func (.func 80) #[] #[.pointer (some ⟨A + 1 + 1 + 1 + 1, 0, none⟩)], .agg #[.int .i64 x.f0, .int .i64 x.f1], .int .i64 x.f2, undef, undef, undef, undef, undef, undef, undef, undef, undef, undef, undef, undef, undef, undef, undef, undef, undef, undef, undef, undef, undef, undef, undef, undef, undef, undef, undef, undef, undef, undef, undef], defers := [] } := ⟨_, rfl⟩
  obtain ⟨J, hJ⟩ : ∃ J : List Nat → List P3 → World → Prop, Hid (J = fun S1 pre X => S1 = [A + 1 + 1, A + 1 + 1 + 1] ∧ (∃ q, Blk X (A + 1 + 1) 4 [q]) ∧ Blk X (A + 1 + 1 + 1) 3 [.int .i64 (pre.length : Nat)]) := ⟨_, Lib.hid rfl⟩
  obtain ⟨JX, hJX⟩ : ∃ JX : Code → List Nat → List P3 → World → Prop, Hid (JX = fun c S1 pre X => S1 = [A + 1 + 1, A + 1 + 1 + 1] ∧ c = .ret ∧ Blk X (A + 1 + 1) 4 [.bool true]) := ⟨_, Lib.hid rfl⟩
  have locJ : Loc W.heap.size J := by
    rw [hJ.out]
    intro S1 pre X Y T ⟨hS, ⟨q, hq⟩, hb⟩ f ht
    subst hS
    exact ⟨rfl, ⟨q, hq.fr f (fun hm => (ht _ hm).2 (by simp))⟩, hb.fr f (fun hm => (ht _ hm).2 (by simp))⟩
  have locX : ∀ c : Code, Loc W.heap.size (JX c) := by
    rw [hJX.out]
    intro c S1 pre X Y T ⟨hS, hc, hb⟩ f ht
    subst hS
    exact ⟨rfl, hc, hb.fr f (fun hm => (ht _ hm).2 (by simp))⟩
  refine wp_rangeF (gf := 80) (lb := #[.pointer (some ⟨A + 1 + 1 + 1 + 1, 0, none⟩)]) rfl (enters_of Try.func80 (by kernel_rfl) rfl) hseq (fun _ => rfl)
    J JX [A + 1 + 1, A + 1 + 1 + 1] (by simp; omega) locJ locX (by rw [hJ.out]; exact ⟨rfl, ⟨_, b2⟩, b3⟩)
    (fun x a' S1 pre X => ∃ bb, S1 = [bb, A + 1 + 1, A + 1 + 1 + 1] ∧ A + 5 ≤ bb ∧ a' = asg x bb ∧ Blk X bb 32 [.int .i64 x.f0, .int .i64 x.f1] ∧ J [A + 1 + 1, A + 1 + 1 + 1] pre X)
    ?ax ?assign ?body ?done ?stop
  case ax =>
    intro x a' S1 pre X Y T ⟨bb, hS1, hlb, ha, hbx, hj⟩ f ht
    subst hS1
    exact ⟨bb, rfl, hlb, ha, hbx.fr f (fun hm => (ht _ hm).2 (by simp)), locJ _ _ _ _ T hj f (fun y hy => ⟨(ht y hy).1, fun hm => (ht y hy).2 (by simp at hm ⊢; omega)⟩)⟩
  case assign =>
    rintro l2 pre x post S1 X hx hz hg hf hl hnl hr hj
    have hS1 : S1 = [A + 1 + 1, A + 1 + 1 + 1] := by rw [hJ.out] at hj; exact hj.1
    subst hS1
    simp only [entH]
    have hfin : ∃ S', Gr X [A + 1 + 1, A + 1 + 1 + 1] S' ∧ Fr [A + 1 + 1, A + 1 + 1 + 1] X (X.alloc (.cells #[.int .i64 x.f0, .int .i64 x.f1] 32)) ∧ ∃ bb, S' = [bb, A + 1 + 1, A + 1 + 1 + 1] ∧ A + 5 ≤ bb ∧ asg x X.heap.size = asg x bb ∧ Blk (X.alloc (.cells #[.int .i64 x.f0, .int .i64 x.f1] 32)) bb 32 [.int .i64 x.f0, .int .i64 x.f1] ∧ J [A + 1 + 1, A + 1 + 1 + 1] pre (X.alloc (.cells #[.int .i64 x.f0, .int .i64 x.f1] 32)) := by
      refine ⟨[X.heap.size, A + 1 + 1, A + 1 + 1 + 1], fun y hy => ?_, (Fr.refl _ _).alloc _, X.heap.size, rfl, by omega, rfl, Blk.new X 32 [.int .i64 x.f0, .int .i64 x.f1], locJ.alloc _ hj⟩
      simp only [List.mem_cons, List.not_mem_nil, or_false] at hy ⊢
      rcases hy with h | h | h
      · exact .inr (by omega)
      · exact .inl (.inl h)
      · exact .inl (.inr h)
    rw [hasg] at hfin
    have HF := Lib.hid hfin
    have HA := Lib.hid hasg
    clear hfin hj hr hf hg hasg
    gi_wp2
    rw [HA.out]
    exact HF.out
  case body =>
    rintro l2 pre x post a' S1 X hx hz hg hf hl hnl hr ⟨bb, rfl, hlb, rfl, hbx, hj⟩
    rw [hJ.out] at hj
    obtain ⟨_, ⟨q, hq⟩, hn3⟩ := hj
    have hf2 : Fr [A + 1 + 1, A + 1 + 1 + 1] W X := hf
    have hpl : pre.length < n := by
      have := congrArg List.length hx
      rw [← HN.out] at this
      simp at this
      omega
    have hxs : (heldTo L L.length)[pre.length]? = some x := by rw [hx]; simp
    obtain ⟨g, cap, hv, rfl⟩ := ho.out.head (by omega)
    cases hv
    have hoX := ho.out.fr hf2 (by intro y hy; have := hSA y hy; simp; omega)
    obtain ⟨c0, c1, c2⟩ := flat3_cells hoX hxs hpl
    have hgl := hoX.lt g (by simp)
    have hga := hSA g (by simp)
    have hX := Lib.hid hxs
    have e0 := (b0.fr hf2 (by simp; omega)).cell 0
    have e1 := (b1.fr hf2 (by simp; try omega)).cell 0
    have e2 := hn3.cell 0
    have e3 := hbx.cell 0
    have e4 := hbx.cell 1
    have q2 := hq.frz 0
    have q3 := hn3.frz 0
    have hq0 := hq.cell 0
    simp only [List.getElem?_cons_zero, List.getElem?_cons_succ] at e0 e1 e2 e3 e4 hq0
    have hlx := hbx.lt
    have hnx := hn3.lt
    rw [hasg]
    have HNN := Lib.hid hn3
    have HQQ := Lib.hid hq
    have hk1 : decide (n ≤ pre.length) = false := by simp; omega
    clear hx hr hbx hn3 hq hoX hxs b0 b1 b2 b3 hseq locJ locX hg hf
    gi_wp2
    refine wpIn_head_tail 21 (by kernel_rfl) (by kernel_rfl) (by kernel_rfl) ?_
    simp only [List.take_succ_cons, List.take_zero, List.drop_succ_cons, List.drop_zero]
    repeat (first | go_big_quiet_step (fail) | quiet_step (fail))
    refine wpQuiet_nil ?_
    rintro _ ⟨nq, rfl⟩
    go_wp2
    try rw [onlyN_normal]
    have hq4 : Fr [A + 1 + 1, A + 1 + 1 + 1] X ((X.drewN nq).setCell ⟨A + 1 + 1 + 1, 0, none⟩ (.int .i64 ((pre.length : Int) + 1))) := ((Fr.refl _ _).drewN nq).setCell _ (.inl (by simp))
    have hn4 : Blk ((X.drewN nq).setCell ⟨A + 1 + 1 + 1, 0, none⟩ (.int .i64 ((pre.length : Int) + 1))) (A + 1 + 1 + 1) 3 [.int .i64 ((pre ++ [x]).length : Nat)] := by
      have := (HNN.out.drewN nq).set 0 (.int .i64 ((pre.length : Int) + 1))
      simpa using this
    have hb4 : Blk ((X.drewN nq).setCell ⟨A + 1 + 1 + 1, 0, none⟩ (.int .i64 ((pre.length : Int) + 1))) (A + 1 + 1) 4 [q] := (HQQ.out.drewN nq).other (p := ⟨A + 1 + 1 + 1, 0, none⟩) _ (by simp)
    have hsub : Gr X [bb, A + 1 + 1, A + 1 + 1 + 1] [A + 1 + 1, A + 1 + 1 + 1] := Gr.of_sub (by simp +contextual)
    have Hq4 := Lib.hid hq4
    have Hn4 := Lib.hid hn4
    have Hb4 := Lib.hid hb4
    have Hsub := Lib.hid hsub
    clear hq4 hn4 hb4 hsub
    cases hst : ((pre.length : Int) + 1 == stop) with
    | true =>
      gi_wp2
      exact ⟨[A + 1 + 1, A + 1 + 1 + 1], Hsub.out, (Hq4.out.mono (by simp +contextual)).setCell _ (.inl (by simp)), by rw [hJX.out]; exact ⟨rfl, rfl, by simpa using Hb4.out.set 0 (.bool true)⟩⟩
    | false =>
      gi_wp2
      exact ⟨[A + 1 + 1, A + 1 + 1 + 1], Hsub.out, Hq4.out.mono (by simp +contextual), by rw [hJ.out]; exact ⟨rfl, ⟨q, Hb4.out⟩, Hn4.out⟩⟩
  case done =>
    rintro D S' X hD hDS hg hf hj hK
    rw [hJ.out, ← HN.out] at hj
    obtain ⟨rfl, ⟨q, hq⟩, hn3⟩ := hj
    have e0 := (b0.fr hf (by simp; try omega)).cell 0
    have e2 := hn3.cell 0
    have q2 := hq.frz 0
    have hq0 := hq.cell 0
    simp only [List.getElem?_cons_zero] at e0 e2 hq0
    have hlq := hq.lt
    have HKK := Lib.hid hK
    have HQQ := Lib.hid hq
    have HF := Lib.hid hf
    have hk1 : ((n : Int) == (n : Int)) = true := by simp
    clear hK hq hf hg hn3 b0 b1 b2 b3 hseq locJ locX
    gi_wp2
    have hK' : (X.setCell ⟨A + 1 + 1, 0, none⟩ (.bool true)).heap[D]? = some (.deferred (some [])) := (Below.heap_setCell X _ _ D (by simp; omega)).trans HKK.out
    have hr : (X.setCell ⟨A + 1 + 1, 0, none⟩ (.bool true)).cell? ⟨A + 1 + 1, 0, none⟩ = some (.bool true) := by
      simpa using (HQQ.out.set 0 (.bool true)).cell 0
    refine ⟨by simp, .inl ⟨_, _, rfl, run_takeDeferred hK', ?_⟩⟩
    have hr2 : ((X.setCell ⟨A + 1 + 1, 0, none⟩ (.bool true)).putObj D (.deferred none)).cell? ⟨A + 1 + 1, 0, none⟩ = some (.bool true) :=
      ((Fr.refl [D] _).putObj _ (.inl (by simp))).cell (p := ⟨A + 1 + 1, 0, none⟩) (by simpa using hlq) (by simp; omega) |>.trans hr
    refine ⟨.bool true, by simp [results, Try.results60, go_sem, hr2], rfl, ?_⟩
    exact ((hfW.trans (fun y hy => by simp at hy; right; omega) HF.out).setCell _ (.inr (by simp; omega))).putObj _ (.inr (by omega))
  case stop =>
    rintro D c S' pre x post X hD hDS hg hf hx hj hK
    rw [hJX.out] at hj
    obtain ⟨rfl, rfl, hq⟩ := hj
    have hlq := hq.lt
    have HKK := Lib.hid hK
    have HQQ := Lib.hid hq
    have HF := Lib.hid hf
    clear hK hq hf hg hx b0 b1 b2 b3 hseq locJ locX
    gi_wp2
    have hr : X.cell? ⟨A + 1 + 1, 0, none⟩ = some (.bool true) := by simpa using HQQ.out.cell 0
    refine ⟨by simp, .inl ⟨_, _, rfl, run_takeDeferred HKK.out, ?_⟩⟩
    have hr2 : (X.putObj D (.deferred none)).cell? ⟨A + 1 + 1, 0, none⟩ = some (.bool true) :=
      ((Fr.refl [D] _).putObj _ (.inl (by simp))).cell (p := ⟨A + 1 + 1, 0, none⟩) (by simpa using hlq) (by simp; omega) |>.trans hr
    refine ⟨.bool true, by simp [results, Try.results60, go_sem, hr2], rfl, ?_⟩
    exact (hfW.trans (fun y hy => by simp at hy; right; omega) HF.out).putObj _ (.inr (by omega))
end Go.Proofs.Ytoodgjmgkjhpoaa
