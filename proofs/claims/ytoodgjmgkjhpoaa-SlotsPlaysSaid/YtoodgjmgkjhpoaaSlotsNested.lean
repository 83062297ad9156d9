/- The statements' nested: a range within a range of one answer. -/
import Derived.Test.YtoodgjmgkjhpoaaSlotsGoes
namespace Go.Proofs.Ytoodgjmgkjhpoaa
open Go Go.RowKit
attribute [local go_sem] calmQ_normal wide_fn wide_depth Oper.semAt_some run_store_func

set_option maxHeartbeats 4000000 in
set_option maxRecDepth 100000 in
theorem nested_ok {w : World} {b d last cnt : Nat} {L : List (Slot Int)} (h : Sli w b d last L cnt) {v : Value} {n : Nat} {S0 : List Nat} (hn : n = (heldTo L L.length).length) (ho : OwnS w 104 3 v n ((heldTo L L.length).flatMap encP3) S0) :
    Calls Try.prog 57 #[.pointer (some ⟨b, 0, none⟩), v] w fun e w' => e = .returned (.bool true) ∧ Fr [] w w' := by
  have hnb : n ≤ 65536 := by rw [hn]; have := heldTo_len L L.length; have := h.room; omega
  obtain ⟨vao, vcap, rfl⟩ := ho.val
  refine callsIn_wide.1 (callsIn_of_wp_marks (n := 0) (F := Fence.wide) Try.func57 rfl trivial ?_ rfl)
  simp only [Try.ntmps57, List.size_toArray, List.length_cons, List.length_nil, Nat.reduceAdd, Nat.reduceSub, Array.replicate_succ, Array.replicate_zero, List.push_toArray, List.append_toArray, List.nil_append, List.cons_append]
  have hall := Lib.hid (fun X => wideIn (0 - 1) (sall X b))
  have H := Lib.hid h
  have HO := Lib.hid ho
  have HN := Lib.hid hn
  clear h ho hn
  gi_wp2_with (gi_at_call 50; refine (hall.out _).mono ?_; rintro e w' ⟨rfl, rfl⟩)
  obtain ⟨W, hW⟩ : ∃ W, ((((w.alloc (.cells #[.slice vao n vcap] 101)).alloc (.cells #[.bool false] 4)).alloc (.cells #[.pointer (some ⟨b, 0, none⟩)] 23)).alloc (.cells #[.func (.func 80) #[] #[.pointer (some ⟨w.heap.size + 1 + 1, 0, none⟩)]] 87)).alloc (.cells #[.int .i64 0] 3) = W := ⟨_, rfl⟩
  have hfW : Fr [] w W := by rw [← hW]; exact (((((Fr.refl _ _).alloc _).alloc _).alloc _).alloc _).alloc _
  have hzW : W.heap.size = w.heap.size + 5 := by rw [← hW]; simp
  obtain ⟨A, hA⟩ : ∃ A, w.heap.size = A := ⟨_, rfl⟩
  have b0 : Blk W A 101 [.slice vao n vcap] := by rw [← hW, ← hA]; exact ((((Blk.new w _ [_]).alloc _).alloc _).alloc _).alloc _
  have b1 : Blk W (A + 1) 4 [.bool false] := by rw [← hW, ← hA]; simpa using (((Blk.new (w.alloc (.cells #[.slice vao n vcap] 101)) 4 [.bool false]).alloc _).alloc _).alloc _
  have b2 : Blk W (A + 1 + 1) 23 [.pointer (some ⟨b, 0, none⟩)] := by rw [← hW, ← hA]; simpa using ((Blk.new ((w.alloc (.cells #[.slice vao n vcap] 101)).alloc (.cells #[.bool false] 4)) 23 [.pointer (some ⟨b, 0, none⟩)]).alloc _).alloc _
  have b3 : Blk W (A + 1 + 1 + 1) 87 [.func (.func 80) #[] #[.pointer (some ⟨A + 1 + 1, 0, none⟩)]] := by rw [← hW, ← hA]; simpa using (Blk.new (((w.alloc (.cells #[.slice vao n vcap] 101)).alloc (.cells #[.bool false] 4)).alloc (.cells #[.pointer (some ⟨b, 0, none⟩)] 23)) 87 [.func (.func 80) #[] #[.pointer (some ⟨w.heap.size + 1 + 1, 0, none⟩)]]).alloc _
  have b4 : Blk W (A + 1 + 1 + 1 + 1) 3 [.int .i64 (0 : Nat)] := by rw [← hW, ← hA]; simpa using Blk.new ((((w.alloc (.cells #[.slice vao n vcap] 101)).alloc (.cells #[.bool false] 4)).alloc (.cells #[.pointer (some ⟨b, 0, none⟩)] 23)).alloc (.cells #[.func (.func 80) #[] #[.pointer (some ⟨w.heap.size + 1 + 1, 0, none⟩)]] 87)) 3 [.int .i64 0]
  have hbl := H.out.hb.lt
  have hdl := H.out.hd.lt
  have hs := Lib.hid (H.out.fr hfW (by simp))
  have hseq := sseq hs.out (B := A + 1 + 1) (b2.cell 0)
  have ho := Lib.hid (HO.out.fr hfW (by simp))
  have hA0 := HO.out.lt
  have hSA : ∀ x, x ∈ S0 → x < A := by rw [← hA]; exact hA0
  rw [hA] at hzW hbl hdl
  rw [hW, hA]
  clear hW H HO hall hA0
  obtain ⟨asg, hasg⟩ : ∃ asg : P3 → Act, Hid (asg = fun x => { tmps := #[.pointer (some ⟨b, 0, none⟩), .slice vao n vcap, undef, .pointer (some ⟨A, 0, none⟩), .pointer (some ⟨A + 1, 0, none⟩), .pointer (some ⟨A + 1 + 1 + 1, 0, none⟩), .pointer (some ⟨A + 1 + 1 + 1 + 1, 0, none⟩), undef, undef, undef, .pointer (some ⟨b, 0, none⟩),
      .func (.func 80) #[] #[.pointer (some ⟨A + 1 + 1, 0, none⟩)], .func (.func 80) #[] #[.pointer (some ⟨A + 1 + 1, 0, none⟩)], .agg #[.int .i64 x.f0, .int .i64 x.f1], .int .i64 x.f2, undef, undef, undef, undef, undef, undef, undef, undef, undef, undef, undef, undef, undef, undef, undef, undef, undef, undef, undef, undef, undef, undef, undef, undef, undef, undef, undef, undef, undef, undef, undef, undef, undef, undef, undef, undef, undef, undef, undef], defers := [] }) := ⟨_, Lib.hid rfl⟩
  obtain ⟨J, hJ⟩ : ∃ J : List Nat → List P3 → World → Prop, Hid (J = fun S1 pre X => S1 = [A + 1, A + 1 + 1 + 1 + 1] ∧ (∃ q, Blk X (A + 1) 4 [q]) ∧ Blk X (A + 1 + 1 + 1 + 1) 3 [.int .i64 (pre.length : Nat)]) := ⟨_, Lib.hid rfl⟩
  obtain ⟨JX, hJX⟩ : ∃ JX : Code → List Nat → List P3 → World → Prop, Hid (JX = fun c S1 pre X => S1 = [A + 1, A + 1 + 1 + 1 + 1] ∧ c = .ret ∧ Blk X (A + 1) 4 [.bool true]) := ⟨_, Lib.hid rfl⟩
  have locJ : Loc W.heap.size J := by
    rw [hJ.out]
    intro S1 pre X Y T ⟨hS, ⟨q, hq⟩, hb⟩ f ht
    subst hS
    exact ⟨rfl, ⟨q, hq.fr f (fun hm => (ht _ hm).2 (by simp))⟩, hb.fr f (fun hm => (ht _ hm).2 (by simp))⟩
  have locX : ∀ c : Code, Loc W.heap.size (JX c) := by
    rw [hJX.out]
    intro c S1 pre X Y T ⟨hS, hc, hb⟩ f ht
    subst hS
    exact ⟨rfl, hc, hb.fr f (fun hm => (ht _ hm).2 (by simp))⟩
  refine wp_rangeF1 (gf := 80) (lb := #[.pointer (some ⟨A + 1 + 1, 0, none⟩)]) rfl (enters_of Try.func80 (by kernel_rfl) rfl) hseq (fun _ => rfl)
    J JX [A + 1, A + 1 + 1 + 1 + 1] (by simp; omega) locJ locX (by rw [hJ.out]; exact ⟨rfl, ⟨_, b1⟩, b4⟩) asg ?assign ?body ?done ?stop
  case assign =>
    intro l x X K hK
    simp only [entH]
    rw [hasg.out] at hK
    gi_wp2
    exact hK
  case body =>
    rintro l2 pre x post S1 X hx hz hg hf hl hnl hr hj
    rw [hJ.out] at hj
    obtain ⟨rfl, ⟨q, hq⟩, hn3⟩ := hj
    obtain ⟨r2, hr2⟩ := hr
    have hsX := Lib.hid (hs.out.fr hf (by intro y hy; simp at hy ⊢; omega))
    have hoX := Lib.hid (ho.out.fr hf (by intro y hy; have := hSA y hy; simp; omega))
    have hb3 := b3.fr hf (by simp; try omega)
    have hb2 := b2.fr hf (by simp; try omega)
    have hb0 := Lib.hid (b0.fr hf (by simp; try omega))
    have e3 := hb3.cell 0
    simp only [List.getElem?_cons_zero] at e3
    have hl3 := hb3.lt
    rw [hasg.out]
    have HQ := Lib.hid hq
    have HN3 := Lib.hid hn3
    have HX := Lib.hid hx
    have HB2 := Lib.hid hb2
    have HR2 := Lib.hid hr2
    clear hx hq hn3 hb2 hb3 hr2 hseq locJ locX b0 b1 b2 b3 b4 hf hg
    gi_wp2
    obtain ⟨Y, hY⟩ : ∃ Y, X.alloc (.cells #[.int .i64 0] 3) = Y := ⟨_, rfl⟩
    have hfY : Fr [] X Y := by rw [← hY]; exact (Fr.refl _ _).alloc _
    have hzY : Y.heap.size = X.heap.size + 1 := by rw [← hY]; simp
    have hrecY : Y.heap[l2]? = some (.loop r2) := (hfY.block l2 (Array.getElem?_eq_some_iff.1 HR2.out).1 (by simp)).trans HR2.out
    obtain ⟨kb, hkb⟩ : ∃ kb, X.heap.size = kb := ⟨_, rfl⟩
    have bk : Blk Y kb 3 [.int .i64 (0 : Nat)] := by rw [← hY, ← hkb]; exact Blk.new X 3 [.int .i64 0]
    have hseqY := sseq (hsX.out.fr hfY (by simp)) (B := A + 1 + 1) ((HB2.out.fr hfY (by simp)).cell 0)
    have hoY := Lib.hid (hoX.out.fr hfY (by simp))
    have hb0Y := Lib.hid (hb0.out.fr hfY (by simp))
    have hlY2 : A + 5 ≤ kb := by omega
    rw [hkb] at hzY
    rw [hY, hkb]
    clear hY
    obtain ⟨asg2, hasg2⟩ : ∃ asg2 : P3 → Nat → Act, Hid (asg2 = fun y hh => { tmps := #[.pointer (some ⟨b, 0, none⟩), .slice vao n vcap, undef, .pointer (some ⟨A, 0, none⟩), .pointer (some ⟨A + 1, 0, none⟩), .pointer (some ⟨A + 1 + 1 + 1, 0, none⟩), .pointer (some ⟨A + 1 + 1 + 1 + 1, 0, none⟩), .pointer (some ⟨kb, 0, none⟩), .pointer (some ⟨hh, 0, none⟩), .int .i64 y.f2, .pointer (some ⟨b, 0, none⟩),
        .func (.func 80) #[] #[.pointer (some ⟨A + 1 + 1, 0, none⟩)], .func (.func 80) #[] #[.pointer (some ⟨A + 1 + 1, 0, none⟩)], .agg #[.int .i64 x.f0, .int .i64 x.f1], .int .i64 x.f2, .func (.func 80) #[] #[.pointer (some ⟨A + 1 + 1, 0, none⟩)], .agg #[.int .i64 y.f0, .int .i64 y.f1], .int .i64 y.f2, undef, undef, undef, undef, undef, undef, undef, undef, undef, undef, undef, undef, undef, undef, undef, undef, undef, undef, undef, undef, undef, undef, undef, undef, undef, undef, undef, undef, undef, undef, undef, undef, undef, undef, undef, undef], defers := [] }) := ⟨_, Lib.hid rfl⟩
    obtain ⟨J2, hJ2⟩ : ∃ J2 : List Nat → List P3 → World → Prop, Hid (J2 = fun S1 pre X => S1 = [kb] ∧ Blk X kb 3 [.int .i64 (pre.length : Nat)]) := ⟨_, Lib.hid rfl⟩
    have locJ2 : Loc Y.heap.size J2 := by
      rw [hJ2.out]
      intro S1 pre X Y T ⟨hS, hb⟩ f ht
      subst hS
      exact ⟨rfl, hb.fr f (fun hm => (ht _ hm).2 (by simp))⟩
    refine wp_rangeF_in hrecY (gf := 80) (lb := #[.pointer (some ⟨A + 1 + 1, 0, none⟩)]) rfl (enters_of Try.func80 (by kernel_rfl) rfl) hseqY (fun _ => rfl)
      J2 (fun _ _ _ _ => False) [kb] (by simp; omega) locJ2 (fun _ _ _ _ _ _ h _ _ => h) (by rw [hJ2.out]; exact ⟨rfl, bk⟩)
      (fun y a' S1 pre Z => ∃ hh, S1 = [hh, kb] ∧ kb < hh ∧ a' = asg2 y hh ∧ Blk Z hh 32 [.int .i64 y.f0, .int .i64 y.f1] ∧ J2 [kb] pre Z)
      ?ax2 ?assign2 ?body2 ?done2 ?stop2
    case ax2 =>
      intro y a' S1 pre2 Z Z2 T ⟨hh, hS1, hlh, ha, hbx, hj⟩ f ht
      subst hS1
      exact ⟨hh, rfl, hlh, ha, hbx.fr f (fun hm => (ht _ hm).2 (by simp)), locJ2 _ _ _ _ T hj f (fun y hy => ⟨(ht y hy).1, fun hm => (ht y hy).2 (by simp at hm ⊢; omega)⟩)⟩
    case assign2 =>
      rintro l3 pre2 y post2 S1 Z hx hz hg hf hl hnl hr hj
      have hS1 : S1 = [kb] := by rw [hJ2.out] at hj; exact hj.1
      subst hS1
      simp only [entH]
      have hfin : ∃ S', Gr Z [kb] S' ∧ Fr [kb] Z (Z.alloc (.cells #[.int .i64 y.f0, .int .i64 y.f1] 32)) ∧ ∃ hh, S' = [hh, kb] ∧ kb < hh ∧ asg2 y Z.heap.size = asg2 y hh ∧ Blk (Z.alloc (.cells #[.int .i64 y.f0, .int .i64 y.f1] 32)) hh 32 [.int .i64 y.f0, .int .i64 y.f1] ∧ J2 [kb] pre2 (Z.alloc (.cells #[.int .i64 y.f0, .int .i64 y.f1] 32)) := by
        refine ⟨[Z.heap.size, kb], fun q hq => ?_, (Fr.refl _ _).alloc _, Z.heap.size, rfl, by omega, rfl, Blk.new Z 32 [.int .i64 y.f0, .int .i64 y.f1], locJ2.alloc _ hj⟩
        simp only [List.mem_cons, List.not_mem_nil, or_false] at hq ⊢
        rcases hq with h | h
        · exact .inr (by omega)
        · exact .inl h
      rw [hasg2.out] at hfin
      have HF := Lib.hid hfin
      clear hfin hj hr hf hg
      gi_wp2
      rw [hasg2.out]
      exact HF.out
    case body2 =>
      rintro l3 pre2 y post2 a' S1 Z hx hz hg hf hl hnl hr ⟨hh, rfl, hlh, rfl, hbx, hj⟩
      rw [hJ2.out] at hj
      obtain ⟨_, hk3⟩ := hj
      have hf2 : Fr [kb] Y Z := hf
      have hpl : pre2.length < n := by
        have := congrArg List.length hx
        rw [← HN.out] at this
        simp at this
        omega
      have hxs : (heldTo L L.length)[pre2.length]? = some y := by rw [hx]; simp
      obtain ⟨g, cap, hv, rfl⟩ := hoY.out.head (by omega)
      cases hv
      have hoZ := hoY.out.fr hf2 (by intro q hq; have := hSA q hq; simp; omega)
      obtain ⟨c0, c1, c2⟩ := flat3_cells hoZ hxs hpl
      have hgl := hoZ.lt g (by simp)
      have hga := hSA g (by simp)
      have e0 := (hb0Y.out.fr hf2 (by simp; omega)).cell 0
      have e2 := hk3.cell 0
      have e3 := hbx.cell 0
      have e4 := hbx.cell 1
      have q3 := hk3.frz 0
      simp only [List.getElem?_cons_zero, List.getElem?_cons_succ] at e0 e2 e3 e4
      have hlx := hbx.lt
      have hnx := hk3.lt
      rw [hasg2.out]
      have HNN := Lib.hid hk3
      have hk1 : decide (n ≤ pre2.length) = false := by simp; omega
      clear hx hr hbx hk3 hoZ hxs hseqY locJ2 hg hf hf2 bk hfY
      gi_wp2
      refine wpIn_head_tail 21 (by kernel_rfl) (by kernel_rfl) (by kernel_rfl) ?_
      simp only [List.take_succ_cons, List.take_zero, List.drop_succ_cons, List.drop_zero]
      repeat (first | go_big_quiet_step (fail) | quiet_step (fail))
      refine wpQuiet_nil ?_
      rintro _ ⟨nq, rfl⟩
      go_wp2
      try rw [onlyN_normal]
      have hq4 : Fr [hh, kb] Z ((Z.drewN nq).setCell ⟨kb, 0, none⟩ (.int .i64 ((pre2.length : Int) + 1))) := ((Fr.refl _ _).drewN nq).setCell _ (.inl (by simp))
      have hn4 : Blk ((Z.drewN nq).setCell ⟨kb, 0, none⟩ (.int .i64 ((pre2.length : Int) + 1))) kb 3 [.int .i64 ((pre2 ++ [y]).length : Nat)] := by
        have := (HNN.out.drewN nq).set 0 (.int .i64 ((pre2.length : Int) + 1))
        simpa using this
      have hfin : Hid (∃ S', Gr Z [hh, kb] S' ∧ Fr [hh, kb] Z ((Z.drewN nq).setCell ⟨kb, 0, none⟩ (.int .i64 ((pre2.length : Int) + 1))) ∧ J2 S' (pre2 ++ [y]) ((Z.drewN nq).setCell ⟨kb, 0, none⟩ (.int .i64 ((pre2.length : Int) + 1)))) :=
        ⟨[kb], Gr.of_sub (by simp), hq4, by rw [hJ2.out]; exact ⟨rfl, hn4⟩⟩
      clear hq4 hn4
      gi_wp2
      exact hfin.out
    case stop2 => intro _ _ _ _ _ _ _ _ _ h; exact h.elim
    case done2 =>
      rintro S' Z hg2 hf2 hj2
      rw [hJ2.out, ← HN.out] at hj2
      obtain ⟨rfl, hk3⟩ := hj2
      have hfZ : Fr [A + 1, A + 1 + 1 + 1 + 1] X Z := (hfY.mono (by simp)).trans (fun y hy => by simp at hy; right; omega) hf2
      have hb1Z := HQ.out.fr (hfY.trans (fun y hy => by simp at hy; right; omega) hf2) (by simp)
      have hb4Z := HN3.out.fr (hfY.trans (fun y hy => by simp at hy; right; omega) hf2) (by simp)
      have e0 := (hb0Y.out.fr hf2 (by simp; omega)).cell 0
      have e1 := hk3.cell 0
      have e2 := hb4Z.cell 0
      have e4 := hb1Z.cell 0
      have q1 := hb1Z.frz 0
      have q2 := hb4Z.frz 0
      simp only [List.getElem?_cons_zero] at e0 e1 e2 e4
      have hz4 := hb4Z.lt
      have hz1 := hb1Z.lt
      have hq4 := Lib.hid (hfZ.setCell (p := ⟨A + 1 + 1 + 1 + 1, 0, none⟩) (.int .i64 ((pre.length : Int) + 1)) (.inl (by simp)))
      have hn4 : Hid (Blk (Z.setCell ⟨A + 1 + 1 + 1 + 1, 0, none⟩ (.int .i64 ((pre.length : Int) + 1))) (A + 1 + 1 + 1 + 1) 3 [.int .i64 ((pre ++ [x]).length : Nat)]) := by
        refine Lib.hid ?_
        have := hb4Z.set 0 (.int .i64 ((pre.length : Int) + 1))
        simpa using this
      have hb4 : Hid (Blk (Z.setCell ⟨A + 1 + 1 + 1 + 1, 0, none⟩ (.int .i64 ((pre.length : Int) + 1))) (A + 1) 4 [q]) := hb1Z.other (p := ⟨A + 1 + 1 + 1 + 1, 0, none⟩) _ (by simp)
      have hpl : pre.length < n := by
        have := congrArg List.length HX.out
        rw [← HN.out] at this
        simp at this
        omega
      clear hb1Z hb4Z hfZ hf2 hk3 bk hseqY locJ2 hfY hg2
      cases hst : ((pre.length : Int) + 1 == 3) with
      | true =>
        gi_wp2
        exact ⟨[A + 1, A + 1 + 1 + 1 + 1], Gr.refl _ _, hq4.out.setCell _ (.inl (by simp)), by rw [hJX.out]; exact ⟨rfl, rfl, by simpa using hb4.out.set 0 (.bool true)⟩⟩
      | false =>
        gi_wp2
        exact ⟨[A + 1, A + 1 + 1 + 1 + 1], Gr.refl _ _, hq4.out, by rw [hJ.out]; exact ⟨rfl, ⟨q, hb4.out⟩, hn4.out⟩⟩
  case done =>
    rintro D S' X hD hDS hg hf hj hK
    rw [hJ.out, ← HN.out] at hj
    obtain ⟨rfl, ⟨q, hq⟩, hn3⟩ := hj
    have e0 := (b0.fr hf (by simp; try omega)).cell 0
    have e2 := hn3.cell 0
    have q2 := hq.frz 0
    have hq0 := hq.cell 0
    simp only [List.getElem?_cons_zero] at e0 e2 hq0
    have hlq := hq.lt
    have HKK := Lib.hid hK
    have HQQ := Lib.hid hq
    have HF := Lib.hid hf
    have hk1 : ((n : Int) == (n : Int)) = true := by simp
    clear hK hq hf hg hn3 b0 b1 b2 b3 b4 hseq locJ locX
    gi_wp2
    have hK' : (X.setCell ⟨A + 1, 0, none⟩ (.bool true)).heap[D]? = some (.deferred (some [])) := (Below.heap_setCell X _ _ D (by simp; omega)).trans HKK.out
    have hr : (X.setCell ⟨A + 1, 0, none⟩ (.bool true)).cell? ⟨A + 1, 0, none⟩ = some (.bool true) := by
      simpa using (HQQ.out.set 0 (.bool true)).cell 0
    refine ⟨by simp, .inl ⟨_, _, rfl, run_takeDeferred hK', ?_⟩⟩
    have hr2 : ((X.setCell ⟨A + 1, 0, none⟩ (.bool true)).putObj D (.deferred none)).cell? ⟨A + 1, 0, none⟩ = some (.bool true) :=
      ((Fr.refl [D] _).putObj _ (.inl (by simp))).cell (p := ⟨A + 1, 0, none⟩) (by simpa using hlq) (by simp; omega) |>.trans hr
    refine ⟨.bool true, by simp [results, Try.results57, go_sem, hr2], rfl, ?_⟩
    exact ((hfW.trans (fun y hy => by simp at hy; right; omega) HF.out).setCell _ (.inr (by simp; omega))).putObj _ (.inr (by omega))
  case stop =>
    rintro D c S' pre x post X hD hDS hg hf hx hj hK
    rw [hJX.out] at hj
    obtain ⟨rfl, rfl, hq⟩ := hj
    have hlq := hq.lt
    have HKK := Lib.hid hK
    have HQQ := Lib.hid hq
    have HF := Lib.hid hf
    clear hK hq hf hg hx b0 b1 b2 b3 b4 hseq locJ locX
    gi_wp2
    have hr : X.cell? ⟨A + 1, 0, none⟩ = some (.bool true) := by simpa using HQQ.out.cell 0
    refine ⟨by simp, .inl ⟨_, _, rfl, run_takeDeferred HKK.out, ?_⟩⟩
    have hr2 : (X.putObj D (.deferred none)).cell? ⟨A + 1, 0, none⟩ = some (.bool true) :=
      ((Fr.refl [D] _).putObj _ (.inl (by simp))).cell (p := ⟨A + 1, 0, none⟩) (by simpa using hlq) (by simp; omega) |>.trans hr
    refine ⟨.bool true, by simp [results, Try.results57, go_sem, hr2], rfl, ?_⟩
    exact (hfW.trans (fun y hy => by simp at hy; right; omega) HF.out).putObj _ (.inr (by omega))
end Go.Proofs.Ytoodgjmgkjhpoaa
