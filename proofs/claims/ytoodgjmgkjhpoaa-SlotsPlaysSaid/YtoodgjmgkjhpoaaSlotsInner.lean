/- The statements' inner: a range whose body changes both at its first thing. -/
import Derived.Test.YtoodgjmgkjhpoaaSlotsNested
import Derived.Test.YtoodgjmgkjhpoaaSlotsBoth
namespace Go.Proofs.Ytoodgjmgkjhpoaa
open Go Go.RowKit
attribute [local go_sem] calmQ_normal wide_fn wide_depth Oper.semAt_some run_store_func

/-- the program's slots and the reference's hold the same -/
structure Two (w : World) (b d last B e : Nat) (L : List (Slot Int)) : Prop where
  sl : Sli w b d last L (held L)
  rf : RefP w B e last L
  ap : ∀ x, x ∈ [b, d] → x ∉ [B, e]
theorem Two.fr {w w' : World} {b d last B e : Nat} {L : List (Slot Int)} (h : Two w b d last B e L) {S : List Nat} (f : Fr S w w') (hn : ∀ x, x ∈ [b, d, B, e] → x ∉ S) : Two w' b d last B e L :=
  ⟨h.sl.fr f (fun x hx => hn x (by simp at hx ⊢; omega)), h.rf.fr f (hn B (by simp)) (hn e (by simp)), h.ap⟩
theorem Two.lt {w : World} {b d last B e : Nat} {L : List (Slot Int)} (h : Two w b d last B e L) : ∀ x, x ∈ [b, d, B, e] → x < w.heap.size := by
  intro x hx
  have h1 := h.sl.hb.lt
  have h2 := h.sl.hd.lt
  have h3 := h.rf.hb.lt
  have h4 := h.rf.hd.lt
  simp at hx
  omega

/-- inner's boxes -/
structure IB (A b B : Nat) (k p x2 x3 V i g : Int) (X : World) : Prop where
  b0 : Blk X A 23 [.pointer (some ⟨b, 0, none⟩)]
  b1 : Blk X (A + 1) 93 [.pointer (some ⟨B, 0, none⟩)]
  b2 : Blk X (A + 1 + 1) 90 [.int .i64 k, .int .i64 p, .int .i64 x2, .int .i64 x3, .int .i64 V]
  b3 : Blk X (A + 1 + 1 + 1) 32 [.int .i64 i, .int .i64 g]
theorem IB.fr {A b B : Nat} {k p x2 x3 V i g : Int} {X Y : World} (h : IB A b B k p x2 x3 V i g X) {T : List Nat} (f : Fr T X Y) (ht : ∀ t, t ∈ T → t < A ∨ A + 4 ≤ t) : IB A b B k p x2 x3 V i g Y :=
  ⟨h.b0.fr f (fun hm => by have := ht _ hm; omega), h.b1.fr f (fun hm => by have := ht _ hm; omega), h.b2.fr f (fun hm => by have := ht _ hm; omega), h.b3.fr f (fun hm => by have := ht _ hm; omega)⟩
theorem IB.cells {A b B : Nat} {k p x2 x3 V i g : Int} {X : World} (h : IB A b B k p x2 x3 V i g X) :
    X.cell? ⟨A, 0, none⟩ = some (.pointer (some ⟨b, 0, none⟩)) ∧ X.cell? ⟨A + 1, 0, none⟩ = some (.pointer (some ⟨B, 0, none⟩)) ∧ X.cell? ⟨A + 1 + 1, 4, none⟩ = some (.int .i64 V) ∧ X.cell? ⟨A + 1 + 1 + 1, 0, none⟩ = some (.int .i64 i) ∧ X.cell? ⟨A + 1 + 1 + 1, 1, none⟩ = some (.int .i64 g) :=
  ⟨h.b0.cell 0, h.b1.cell 0, h.b2.cell 4, h.b3.cell 0, h.b3.cell 1⟩

set_option maxHeartbeats 4000000 in
set_option maxRecDepth 100000 in
theorem inner_ok {w : World} {b d last B e : Nat} {L : List (Slot Int)} (h : Two w b d last B e L) (k p x2 x3 V i g : Int) :
    Calls Try.prog 56 #[.pointer (some ⟨b, 0, none⟩), .pointer (some ⟨B, 0, none⟩), .agg #[.int .i64 k, .int .i64 p, .int .i64 x2, .int .i64 x3, .int .i64 V], .agg #[.int .i64 i, .int .i64 g]] w fun r w' => r = .returned (.bool true) ∧ ∃ L', Two w' b d last B e L' ∧ Fr [b, d, B, e] w w' := by
  have hlt := h.lt
  have r0 := h.rf.hb.cell 0
  have r1 := h.rf.hb.cell 1
  simp only [List.getElem?_cons_zero, List.getElem?_cons_succ] at r0 r1
  have hBl := h.rf.hb.lt
  have hB1 : B < w.heap.size + 1 := by omega
  have hB2 : B < w.heap.size + 1 + 1 := by omega
  have hB3 : B < w.heap.size + 1 + 1 + 1 := by omega
  have hB4 : B < w.heap.size + 1 + 1 + 1 + 1 := by omega
  have hall := Lib.hid (fun X (f : Fr [] w X) => wideIn (0 - 1) (rall ((h.rf.at).fr f (by simp)) last))
  have hsall := Lib.hid (fun X => wideIn (0 - 1) (sall X b))
  have H := Lib.hid h
  clear h
  refine callsIn_wide.1 (callsIn_of_wp_marks (n := 0) (F := Fence.wide) Try.func56 rfl trivial ?_ rfl)
  simp only [Try.ntmps56, List.size_toArray, List.length_cons, List.length_nil, Nat.reduceAdd, Nat.reduceSub, Array.replicate_succ, Array.replicate_zero, List.push_toArray, List.append_toArray, List.nil_append, List.cons_append]
  gi_wp2_with fail
  obtain ⟨W0, hW0⟩ : ∃ W0, ((((w.alloc (.cells #[.pointer (some ⟨b, 0, none⟩)] 23)).alloc (.cells #[.pointer (some ⟨B, 0, none⟩)] 93)).alloc (.cells #[.int .i64 k, .int .i64 p, .int .i64 x2, .int .i64 x3, .int .i64 V] 90)).alloc (.cells #[.int .i64 i, .int .i64 g] 32)).alloc (.cells #[.bool false] 4) = W0 := ⟨_, rfl⟩
  have hfW0 : Fr [] w W0 := by rw [← hW0]; exact (((((Fr.refl _ _).alloc _).alloc _).alloc _).alloc _).alloc _
  have hzW0 : W0.heap.size = w.heap.size + 5 := by rw [← hW0]; simp
  obtain ⟨A, hA⟩ : ∃ A, w.heap.size = A := ⟨_, rfl⟩
  have b0 : Blk W0 A 23 [.pointer (some ⟨b, 0, none⟩)] := by rw [← hW0, ← hA]; exact ((((Blk.new w _ [_]).alloc _).alloc _).alloc _).alloc _
  have b1 : Blk W0 (A + 1) 93 [.pointer (some ⟨B, 0, none⟩)] := by rw [← hW0, ← hA]; simpa using (((Blk.new (w.alloc (.cells #[.pointer (some ⟨b, 0, none⟩)] 23)) 93 [.pointer (some ⟨B, 0, none⟩)]).alloc _).alloc _).alloc _
  have b2 : Blk W0 (A + 1 + 1) 90 [.int .i64 k, .int .i64 p, .int .i64 x2, .int .i64 x3, .int .i64 V] := by rw [← hW0, ← hA]; simpa using ((Blk.new ((w.alloc (.cells #[.pointer (some ⟨b, 0, none⟩)] 23)).alloc (.cells #[.pointer (some ⟨B, 0, none⟩)] 93)) 90 [.int .i64 k, .int .i64 p, .int .i64 x2, .int .i64 x3, .int .i64 V]).alloc _).alloc _
  have b3 : Blk W0 (A + 1 + 1 + 1) 32 [.int .i64 i, .int .i64 g] := by rw [← hW0, ← hA]; simpa using (Blk.new (((w.alloc (.cells #[.pointer (some ⟨b, 0, none⟩)] 23)).alloc (.cells #[.pointer (some ⟨B, 0, none⟩)] 93)).alloc (.cells #[.int .i64 k, .int .i64 p, .int .i64 x2, .int .i64 x3, .int .i64 V] 90)) 32 [.int .i64 i, .int .i64 g]).alloc _
  have b4 : Blk W0 (A + 1 + 1 + 1 + 1) 4 [.bool false] := by rw [← hW0, ← hA]; simpa using Blk.new ((((w.alloc (.cells #[.pointer (some ⟨b, 0, none⟩)] 23)).alloc (.cells #[.pointer (some ⟨B, 0, none⟩)] 93)).alloc (.cells #[.int .i64 k, .int .i64 p, .int .i64 x2, .int .i64 x3, .int .i64 V] 90)).alloc (.cells #[.int .i64 i, .int .i64 g] 32)) 4 [.bool false]
  rw [hW0, hA]
  rw [hA] at hlt hzW0
  clear hB1 hB2 hB3 hB4 r0 r1 hBl
  refine (hall.out _ hfW0).mono ?_
  rintro r w1 ⟨v, S0, rfl, ho, hg0, hf0⟩
  obtain ⟨vao, vcap, rfl⟩ := ho.val
  obtain ⟨n, hn⟩ : ∃ n, Hid (n = (heldTo L L.length).length) := ⟨_, Lib.hid rfl⟩
  rw [← hn.out] at ho ⊢
  have hnb : n ≤ 65536 := by rw [hn.out]; have := heldTo_len L L.length; have := H.out.sl.room; omega
  have hfw1 : Fr [] w w1 := hfW0.trans' hf0
  have hz1 := hf0.size
  have B0 := Lib.hid (b0.fr hf0 (by simp))
  have B1 := Lib.hid (b1.fr hf0 (by simp))
  have B2 := Lib.hid (b2.fr hf0 (by simp))
  have B3 := Lib.hid (b3.fr hf0 (by simp))
  have B4 := Lib.hid (b4.fr hf0 (by simp))
  have e0 := B0.out.cell 0
  simp only [List.getElem?_cons_zero] at e0
  have l0 := B0.out.lt
  have l01 : A < w1.heap.size + 1 := by omega
  have HO := Lib.hid ho
  clear ho hf0 b0 b1 b2 b3 b4 hall hW0
  gi_wp2_with (gi_at_call 50; refine (hsall.out _).mono ?_; rintro e w' ⟨rfl, rfl⟩)
  have hbA := hlt b (by simp)
  have hdA := hlt d (by simp)
  have hBA := hlt B (by simp)
  have heA := hlt e (by simp)
  obtain ⟨W, hW⟩ : ∃ W, ((w1.alloc (.cells #[.slice vao n vcap] 101)).alloc (.cells #[.int .i64 0] 3)).alloc (.cells #[.pointer (some ⟨b, 0, none⟩)] 23) = W := ⟨_, rfl⟩
  have hfW : Fr [] w1 W := by rw [← hW]; exact (((Fr.refl _ _).alloc _).alloc _).alloc _
  have hzW : W.heap.size = w1.heap.size + 3 := by rw [← hW]; simp
  obtain ⟨C, hC⟩ : ∃ C, w1.heap.size = C := ⟨_, rfl⟩
  have c0 : Blk W C 101 [.slice vao n vcap] := by rw [← hW, ← hC]; exact ((Blk.new w1 _ [_]).alloc _).alloc _
  have c1 : Blk W (C + 1) 3 [.int .i64 (0 : Nat)] := by rw [← hW, ← hC]; simpa using (Blk.new (w1.alloc (.cells #[.slice vao n vcap] 101)) 3 [.int .i64 0]).alloc _
  have c2 : Blk W (C + 1 + 1) 23 [.pointer (some ⟨b, 0, none⟩)] := by rw [← hW, ← hC]; simpa using Blk.new ((w1.alloc (.cells #[.slice vao n vcap] 101)).alloc (.cells #[.int .i64 0] 3)) 23 [.pointer (some ⟨b, 0, none⟩)]
  have hF := Lib.hid (hfw1.trans' hfW)
  have hT := Lib.hid (H.out.fr hF.out (by simp))
  have hseq := sseq hT.out.sl (B := C + 1 + 1) (c2.cell 0)
  have ho := Lib.hid (HO.out.fr hfW (by simp))
  have b0 := B0.out.fr hfW (by simp)
  have b1 := B1.out.fr hfW (by simp)
  have b2 := B2.out.fr hfW (by simp)
  have b3 := B3.out.fr hfW (by simp)
  have b4 := B4.out.fr hfW (by simp)
  have hSA : ∀ x, x ∈ S0 → A + 5 ≤ x ∧ x < C := fun x hx => by
    have h1 := HO.out.lt x hx
    rcases hg0 x hx with h | h
    · cases h
    · omega
  rw [hW, hC]
  rw [hC] at hzW hz1
  clear hW H HO B0 B1 B2 B3 B4 hfW hfw1 hfW0 hg0 e0 l0 l01 hsall hlt c2
  obtain ⟨asg, hasg⟩ : ∃ asg : P3 → Nat → Act, Hid (asg = fun y hh => { tmps := #[.pointer (some ⟨b, 0, none⟩), .pointer (some ⟨B, 0, none⟩), .agg #[.int .i64 k, .int .i64 p, .int .i64 x2, .int .i64 x3, .int .i64 V], .agg #[.int .i64 i, .int .i64 g], .pointer (some ⟨A, 0, none⟩), .pointer (some ⟨A + 1, 0, none⟩), .pointer (some ⟨A + 1 + 1, 0, none⟩), .pointer (some ⟨A + 1 + 1 + 1, 0, none⟩), .pointer (some ⟨A + 1 + 1 + 1 + 1, 0, none⟩),
      .pointer (some ⟨C, 0, none⟩), .pointer (some ⟨C + 1, 0, none⟩), .pointer (some ⟨hh, 0, none⟩), .int .i64 y.f2, undef, undef, undef, undef, undef, undef, undef, undef, .pointer (some ⟨B, 0, none⟩), .pointer (some ⟨B, 0, none⟩), .agg #[.slice (some ⟨e, 0, none⟩) L.length L.length, .int .i64 last], .slice vao n vcap, .pointer (some ⟨b, 0, none⟩),
      .func (.func 80) #[] #[.pointer (some ⟨C + 1 + 1, 0, none⟩)], .agg #[.int .i64 y.f0, .int .i64 y.f1], .int .i64 y.f2, undef, undef, undef, undef, undef, undef, undef, undef, undef, undef, undef, undef, undef, undef, undef, undef, undef, undef, undef, undef, undef, undef, undef, undef, undef, undef, undef, undef, undef, undef, undef, undef, undef, undef, undef, undef, undef, undef, undef, undef, undef, undef, undef, undef, undef, undef, undef, undef, undef, undef, undef, undef, undef, undef, undef, undef, undef, undef, undef, undef, undef, undef, undef, undef, undef, undef, undef, undef, undef, undef, undef, undef, undef, undef], defers := [] }) := ⟨_, Lib.hid rfl⟩
  obtain ⟨FF, hFF⟩ : ∃ FF : List Nat, Hid (FF = [b, d, B, e, A + 1 + 1 + 1 + 1, C + 1]) := ⟨_, Lib.hid rfl⟩
  obtain ⟨J, hJ⟩ : ∃ J : List Nat → List P3 → World → Prop, Hid (J = fun S1 pre X => S1 = FF ∧ (∃ L', Two X b d last B e L') ∧ (∃ q, Blk X (A + 1 + 1 + 1 + 1) 4 [q]) ∧ Blk X (C + 1) 3 [.int .i64 (pre.length : Nat)]) := ⟨_, Lib.hid rfl⟩
  have locJ : Loc W.heap.size J := by
    rw [hJ.out, hFF.out]
    intro S1 pre X Y T ⟨hS, ⟨L', hL⟩, ⟨q, hq⟩, hb⟩ f ht
    subst hS
    exact ⟨rfl, ⟨L', hL.fr f (fun x hx hm => (ht _ hm).2 (by simp at hx ⊢; omega))⟩, ⟨q, hq.fr f (fun hm => (ht _ hm).2 (by simp))⟩, hb.fr f (fun hm => (ht _ hm).2 (by simp))⟩
  have hFl : ∀ x, x ∈ FF → x < W.heap.size ∧ (x < A ∨ x = A + 1 + 1 + 1 + 1 ∨ x = C + 1) := by rw [hFF.out]; intro x hx; simp at hx; omega
  refine wp_rangeF (gf := 80) (lb := #[.pointer (some ⟨C + 1 + 1, 0, none⟩)]) rfl (enters_of Try.func80 (by kernel_rfl) rfl) hseq (fun _ => rfl)
    J (fun _ _ _ _ => False) FF (fun x hx => (hFl x hx).1) locJ (fun _ _ _ _ _ _ h _ _ => h) (by rw [hJ.out]; exact ⟨rfl, ⟨L, hT.out⟩, ⟨_, b4⟩, c1⟩)
    (fun y a' S1 pre X => ∃ hh, S1 = hh :: FF ∧ C + 3 ≤ hh ∧ a' = asg y hh ∧ Blk X hh 32 [.int .i64 y.f0, .int .i64 y.f1] ∧ J FF pre X)
    ?ax ?assign ?body ?done ?stop
  case ax =>
    intro y a' S1 pre X Y T ⟨hh, hS1, hlb, ha, hbx, hj⟩ f ht
    subst hS1
    exact ⟨hh, rfl, hlb, ha, hbx.fr f (fun hm => (ht _ hm).2 (by simp)), locJ _ _ _ _ T hj f (fun y hy => ⟨(ht y hy).1, fun hm => (ht y hy).2 (by simp [hm])⟩)⟩
  case assign =>
    rintro l2 pre y post S1 X hx hz hg hf hl hnl hr hj
    have hS1 : S1 = FF := by rw [hJ.out] at hj; exact hj.1
    subst hS1
    simp only [entH]
    have hfin : ∃ S', Gr X S1 S' ∧ Fr S1 X (X.alloc (.cells #[.int .i64 y.f0, .int .i64 y.f1] 32)) ∧ ∃ hh, S' = hh :: S1 ∧ C + 3 ≤ hh ∧ asg y X.heap.size = asg y hh ∧ Blk (X.alloc (.cells #[.int .i64 y.f0, .int .i64 y.f1] 32)) hh 32 [.int .i64 y.f0, .int .i64 y.f1] ∧ J S1 pre (X.alloc (.cells #[.int .i64 y.f0, .int .i64 y.f1] 32)) := by
      refine ⟨X.heap.size :: S1, fun q hq => ?_, (Fr.refl _ _).alloc _, X.heap.size, rfl, by omega, rfl, Blk.new X 32 [.int .i64 y.f0, .int .i64 y.f1], locJ.alloc _ hj⟩
      simp only [List.mem_cons] at hq
      rcases hq with h | h
      · exact .inr (by omega)
      · exact .inl h
    rw [hasg.out] at hfin
    have HF := Lib.hid hfin
    clear hfin hj hr hf hg
    gi_wp2
    rw [hasg.out]
    exact HF.out
  case body =>
    rintro l2 pre y post a' S1 X hx hz hg hf0 hl hnl hr ⟨hh, rfl, hlh, rfl, hbx, hj⟩
    rw [hJ.out] at hj
    obtain ⟨_, ⟨L', hL'⟩, ⟨q, hq⟩, hn3⟩ := hj
    have hf : Fr FF W X := hf0
    have nA : ∀ x, A ≤ x → x ≠ A + 1 + 1 + 1 + 1 → x ≠ C + 1 → x ∉ FF := fun x h1 h2 h3 hm => by have := (hFl x hm).2; omega
    have hpl : pre.length < n := by
      have := congrArg List.length hx
      rw [← hn.out] at this
      simp at this
      omega
    have hxs : (heldTo L L.length)[pre.length]? = some y := by rw [hx]; simp
    obtain ⟨gb, cap, hv, rfl⟩ := ho.out.head (by omega)
    cases hv
    have hgb := hSA gb (by simp)
    have hoX := ho.out.fr hf (by intro z hz; have := hSA z hz; exact nA z (by omega) (by omega) (by omega))
    obtain ⟨d0, d1, d2⟩ := flat3_cells hoX hxs hpl
    have hgl := hoX.lt gb (by simp)
    have hIB : Hid (IB A b B k p x2 x3 V i g X) := ⟨b0.fr hf (nA _ (by omega) (by omega) (by omega)), b1.fr hf (nA _ (by omega) (by omega) (by omega)), b2.fr hf (nA _ (by omega) (by omega) (by omega)), b3.fr hf (nA _ (by omega) (by omega) (by omega))⟩
    have e9 := (c0.fr hf (nA _ (by omega) (by omega) (by omega))).cell 0
    have e2 := hn3.cell 0
    have e3 := hbx.cell 0
    have e4 := hbx.cell 1
    have q3 := hn3.frz 0
    simp only [List.getElem?_cons_zero, List.getElem?_cons_succ] at e9 e2 e3 e4
    have hlx := hbx.lt
    have hnx := hn3.lt
    have HQ := Lib.hid hq
    have HN3 := Lib.hid hn3
    have HL := Lib.hid hL'
    have hk1 : decide (n ≤ pre.length) = false := by simp; omega
    rw [hasg.out]
    clear hx hr hbx hn3 hq hL' hoX hxs hseq locJ hg hf0 hf b0 b1 b2 b3 b4 c0 c1
    gi_wp2
    refine wpIn_head_tail 21 (by kernel_rfl) (by kernel_rfl) (by kernel_rfl) ?_
    simp only [List.take_succ_cons, List.take_zero, List.drop_succ_cons, List.drop_zero]
    repeat (first | go_big_quiet_step (fail) | quiet_step (fail))
    refine wpQuiet_nil ?_
    rintro _ ⟨nq, rfl⟩
    go_wp2
    try rw [onlyN_normal]
    by_cases hp0 : pre.length = 0
    · rw [hp0] at e2
      obtain ⟨a0, a1, a2, a3, a4⟩ := hIB.out.cells
      gi_wp2_with fail
      refine (wideIn _ (sdrop ((HL.out.fr ((Fr.refl [] X).drewN nq) (by simp)).sl) i g)).mono ?_
      rintro r Z1 ⟨rfl, s1, f1⟩
      have hfd : Fr [] X (X.drewN nq) := (Fr.refl [] X).drewN nq
      have I1 := Lib.hid ((hIB.out.fr hfd (by simp)).fr f1 (by intro t ht; simp at ht; omega))
      have R1 := Lib.hid ((HL.out.rf.fr hfd (by simp) (by simp)).fr f1 (fun hm => HL.out.ap _ hm (by simp)) (fun hm => HL.out.ap _ hm (by simp)))
      have S1 := Lib.hid s1
      have F1 : Hid (Fr FF X Z1) := (hfd.mono (by simp)).trans' (f1.mono (by rw [hFF.out]; intro t ht; simp at ht ⊢; omega))
      have N1 := Lib.hid ((HN3.out.fr hfd (by simp)).fr f1 (by simp; omega))
      have Q1 := Lib.hid ((HQ.out.fr hfd (by simp)).fr f1 (by simp; omega))
      have hBd : ∀ x, x ∈ [b, d] → x ∉ [e] := fun x hx hm => HL.out.ap x hx (by simp at hm ⊢; exact .inr hm)
      have hdB : B ∉ [b, d] := fun hm => HL.out.ap B hm (by simp)
      have hde : e ∉ [b, d] := fun hm => HL.out.ap e hm (by simp)
      have hAP := Lib.hid HL.out.ap
      clear s1 f1 a0 a1 a2 a3 a4 e9 e2 e3 e4 d0 d1 d2 hk1 hfd HL HQ HN3 hIB q3
      obtain ⟨a0, a1, a2, a3, a4⟩ := I1.out.cells
      gi_wp2_with fail
      refine (wideIn _ (rdrop R1.out i g)).mono ?_
      rintro r Z2 ⟨rfl, s2, f2⟩
      have I2 := Lib.hid (I1.out.fr f2 (by intro t ht; simp at ht; omega))
      have S2 := Lib.hid (S1.out.fr f2 hBd)
      have R2 := Lib.hid s2
      have N2 := Lib.hid (N1.out.fr f2 (by simp; omega))
      have Q2 := Lib.hid (Q1.out.fr f2 (by simp; omega))
      have F2 : Hid (Fr FF X Z2) := F1.out.trans' (f2.mono (by rw [hFF.out]; intro t ht; simp at ht ⊢; omega))
      clear s2 f2 a0 a1 a2 a3 a4 I1 S1 R1 N1 Q1 F1
      obtain ⟨a0, a1, a2, a3, a4⟩ := I2.out.cells
      gi_wp2_with fail
      refine (wideIn _ (sput S2.out V)).mono ?_
      rintro r Z3 ⟨rfl, s3, f3⟩
      have I3 := Lib.hid (I2.out.fr f3 (by intro t ht; simp at ht; omega))
      have S3 := Lib.hid s3
      have R3 := Lib.hid (R2.out.fr f3 hdB hde)
      have N3 := Lib.hid (N2.out.fr f3 (by simp; omega))
      have Q3 := Lib.hid (Q2.out.fr f3 (by simp; omega))
      have F3 : Hid (Fr FF X Z3) := F2.out.trans' (f3.mono (by rw [hFF.out]; intro t ht; simp at ht ⊢; omega))
      clear s3 f3 a0 a1 a2 a3 a4 I2 S2 R2 N2 Q2 F2
      obtain ⟨a0, a1, a2, a3, a4⟩ := I3.out.cells
      have l1 := I3.out.b1.lt
      have l2' := I3.out.b2.lt
      gi_wp2_with fail
      obtain ⟨c0, hc0⟩ : ∃ c0, (putR last (dropL L' i g)).1 = c0 := ⟨_, rfl⟩
      obtain ⟨c1, hc1⟩ : ∃ c1, (putR last (dropL L' i g)).2.1 = c1 := ⟨_, rfl⟩
      obtain ⟨c2, hc2⟩ : ∃ c2, (putR last (dropL L' i g)).2.2 = c2 := ⟨_, rfl⟩
      rw [hc0, hc1, hc2]
      obtain ⟨ZA, hZA⟩ : ∃ ZA, Z3.alloc (.cells #[.int .i64 c0, .int .i64 c1] 32) = ZA := ⟨_, rfl⟩
      obtain ⟨cb, hcb⟩ : ∃ cb, Z3.heap.size = cb := ⟨_, rfl⟩
      have hfa : Fr [] Z3 ZA := by rw [← hZA]; exact (Fr.refl _ _).alloc _
      have BC : Blk ZA cb 32 [.int .i64 c0, .int .i64 c1] := by rw [← hZA, ← hcb]; exact Blk.new Z3 _ [_, _]
      have hcl : A + 4 < cb := by have := F3.out.size; omega
      have hbc : b < cb ∧ d < cb ∧ B < cb ∧ e < cb := by omega
      have I3 := Lib.hid (I3.out.fr hfa (by simp))
      have S3 := Lib.hid (S3.out.fr hfa (by simp))
      have R3 := Lib.hid (R3.out.fr hfa (by simp) (by simp))
      have N3 := Lib.hid (N3.out.fr hfa (by simp))
      have Q3 := Lib.hid (Q3.out.fr hfa (by simp))
      have F3 : Hid (Fr FF X ZA) := F3.out.trans' (hfa.mono (by simp))
      rw [hZA, hcb]
      clear hZA hcb hfa a0 a1 a2 a3 a4
      refine (wideIn _ (rput' R3.out V)).mono ?_
      rw [hc0, hc1, hc2]
      rintro r Z4 ⟨rfl, s4, f4⟩
      have BC4 := BC.fr f4 (by simp; omega)
      have k0 := BC4.cell 0
      have k1 := BC4.cell 1
      simp only [List.getElem?_cons_zero, List.getElem?_cons_succ] at k0 k1
      have hcl4 := BC4.lt
      have hAl := (I3.out.fr f4 (by intro t ht; simp at ht; omega)).b3.lt
      have T4 : Hid (Two Z4 b d last B e (putL last (dropL L' i g) V)) := ⟨S3.out.fr f4 hBd, s4, hAP.out⟩
      have N4 := Lib.hid (N3.out.fr f4 (by simp; omega))
      have Q4 := Lib.hid (Q3.out.fr f4 (by simp; omega))
      have F4 : Hid (Fr FF X Z4) := F3.out.trans' (f4.mono (by rw [hFF.out]; intro t ht; simp at ht ⊢; omega))
      clear s4 f4 I3 S3 R3 N3 Q3 F3 hBd hdB hde hAP BC BC4 hc0 hc1 hc2
      have e2 := N4.out.cell 0
      have q3 := N4.out.frz 0
      have hnx := N4.out.lt
      simp only [List.getElem?_cons_zero] at e2
      gi_wp2_with fail
      have hne : C + 1 ≠ Z4.heap.size := by omega
      have BA : Blk ((Z4.setCell ⟨C + 1, 0, none⟩ (.int .i64 1)).alloc (.cells #[.int .i64 c0, .int .i64 c1] 32)) (C + 1) 3 [.int .i64 1] := (N4.out.set 0 (.int .i64 1)).alloc _
      have hfin : ∃ S', Gr X (hh :: FF) S' ∧ Fr (hh :: FF) X ((Z4.setCell ⟨C + 1, 0, none⟩ (.int .i64 1)).alloc (.cells #[.int .i64 c0, .int .i64 c1] 32)) ∧ J S' (pre ++ [y]) ((Z4.setCell ⟨C + 1, 0, none⟩ (.int .i64 1)).alloc (.cells #[.int .i64 c0, .int .i64 c1] 32)) := by
        have fw : Fr [C + 1] Z4 ((Z4.setCell ⟨C + 1, 0, none⟩ (.int .i64 1)).alloc (.cells #[.int .i64 c0, .int .i64 c1] 32)) := ((Fr.refl [C + 1] _).setCell _ (.inl (by simp))).alloc _
        refine ⟨FF, Gr.of_sub (by simp +contextual), (F4.out.mono (by simp +contextual)).trans' (fw.mono (by rw [hFF.out]; simp)), ?_⟩
        rw [hJ.out]
        obtain ⟨q, hq⟩ : ∃ q, Blk Z4 (A + 1 + 1 + 1 + 1) 4 [q] := ⟨_, Q4.out⟩
        refine ⟨rfl, ⟨_, T4.out.fr fw (by intro x hx; simp at hx ⊢; omega)⟩, ⟨q, hq.fr fw (by simp; omega)⟩, ?_⟩
        have := BA
        have e : 1 = ((pre ++ [y]).length : Nat) := by rw [List.length_append, List.length_singleton]; omega
        rw [← e]
        simpa using this
      have HF := Lib.hid hfin
      clear hfin
      exact HF.out
    · obtain ⟨Z4, hZ4⟩ : ∃ Z4, X.drewN nq = Z4 := ⟨_, rfl⟩
      have hfd : Fr [] X Z4 := by rw [← hZ4]; exact (Fr.refl [] X).drewN nq
      have T4 := Lib.hid (HL.out.fr hfd (by simp))
      have N4 := Lib.hid (HN3.out.fr hfd (by simp))
      have Q4 := Lib.hid (HQ.out.fr hfd (by simp))
      have F4 : Hid (Fr FF X Z4) := hfd.mono (by simp)
      have hk2 : ((pre.length : Int) == 0) = false := by rw [beq_eq_false_iff_ne]; omega
      have hk3 : ((0 : Int) == (pre.length : Int)) = false := by rw [beq_eq_false_iff_ne]; omega
      rw [hZ4]
      clear e2 q3 hnx hfd hZ4 hk1 e9 e3 e4 d0 d1 d2 HL HN3 HQ hIB
      have e2 := N4.out.cell 0
      have q3 := N4.out.frz 0
      have hnx := N4.out.lt
      simp only [List.getElem?_cons_zero] at e2
      gi_wp2
      have hfin : ∃ S', Gr X (hh :: FF) S' ∧ Fr (hh :: FF) X (Z4.setCell ⟨C + 1, 0, none⟩ (.int .i64 ((pre.length : Int) + 1))) ∧ J S' (pre ++ [y]) (Z4.setCell ⟨C + 1, 0, none⟩ (.int .i64 ((pre.length : Int) + 1))) := by
        have fw : Fr [C + 1] Z4 (Z4.setCell ⟨C + 1, 0, none⟩ (.int .i64 ((pre.length : Int) + 1))) := (Fr.refl [C + 1] _).setCell _ (.inl (by simp))
        refine ⟨FF, Gr.of_sub (by simp +contextual), (F4.out.mono (by simp +contextual)).trans' (fw.mono (by rw [hFF.out]; simp)), ?_⟩
        rw [hJ.out]
        obtain ⟨q, hq⟩ : ∃ q, Blk Z4 (A + 1 + 1 + 1 + 1) 4 [q] := ⟨_, Q4.out⟩
        refine ⟨rfl, ⟨_, T4.out.fr fw (by intro x hx; simp at hx ⊢; omega)⟩, ⟨q, hq.fr fw (by simp; omega)⟩, ?_⟩
        have := N4.out.set 0 (.int .i64 ((pre.length : Int) + 1))
        have e : ((pre.length : Int) + 1) = ((pre ++ [y]).length : Nat) := by rw [List.length_append, List.length_singleton]; omega
        rw [← e]
        simpa using this
      have HF := Lib.hid hfin
      clear hfin
      exact HF.out
  case stop => intro _ _ _ _ _ _ _ _ _ _ _ _ h _; exact h.elim
  case done =>
    rintro D S' X hD hDS hg hf hj hK
    rw [hJ.out, ← hn.out] at hj
    obtain ⟨rfl, ⟨L', hL'⟩, ⟨q, hq⟩, hn3⟩ := hj
    have nC : C ∉ S' := fun hm => by have := (hFl C hm).2; omega
    have e0 := (c0.fr hf nC).cell 0
    have e2 := hn3.cell 0
    have q2 := hq.frz 0
    have hq0 := hq.cell 0
    simp only [List.getElem?_cons_zero] at e0 e2 hq0
    have hlq := hq.lt
    have HKK := Lib.hid hK
    have HQQ := Lib.hid hq
    have HF := Lib.hid hf
    have HL := Lib.hid hL'
    have hk1 : ((n : Int) == (n : Int)) = true := by simp
    clear hK hq hf hg hn3 hL' b0 b1 b2 b3 b4 c0 c1 hseq locJ
    gi_wp2
    have hK' : (X.setCell ⟨A + 1 + 1 + 1 + 1, 0, none⟩ (.bool true)).heap[D]? = some (.deferred (some [])) := (Below.heap_setCell X _ _ D (by simp; omega)).trans HKK.out
    have hr : (X.setCell ⟨A + 1 + 1 + 1 + 1, 0, none⟩ (.bool true)).cell? ⟨A + 1 + 1 + 1 + 1, 0, none⟩ = some (.bool true) := by
      simpa using (HQQ.out.set 0 (.bool true)).cell 0
    refine ⟨by simp, .inl ⟨_, _, rfl, run_takeDeferred hK', ?_⟩⟩
    have fD : Fr [D] (X.setCell ⟨A + 1 + 1 + 1 + 1, 0, none⟩ (.bool true)) ((X.setCell ⟨A + 1 + 1 + 1 + 1, 0, none⟩ (.bool true)).putObj D (.deferred none)) := (Fr.refl [D] _).putObj _ (.inl (by simp))
    have hr2 : ((X.setCell ⟨A + 1 + 1 + 1 + 1, 0, none⟩ (.bool true)).putObj D (.deferred none)).cell? ⟨A + 1 + 1 + 1 + 1, 0, none⟩ = some (.bool true) :=
      fD.cell (p := ⟨A + 1 + 1 + 1 + 1, 0, none⟩) (by simpa using hlq) (by simp; omega) |>.trans hr
    refine ⟨.bool true, by simp [results, Try.results56, go_sem, hr2], rfl, ⟨L', ?_⟩, ?_⟩
    · exact (HL.out.fr ((Fr.refl [A + 1 + 1 + 1 + 1] _).setCell _ (.inl (by simp))) (by intro x hx; simp at hx ⊢; omega)).fr fD (by intro x hx; simp at hx ⊢; omega)
    · have hgF : Gr w [b, d, B, e] S' := by
        intro x hx
        rw [hFF.out] at hx
        simp at hx ⊢
        omega
      have h1 : Fr [b, d, B, e] w X := (hF.out.mono (T := [b, d, B, e]) (by simp)).trans hgF HF.out
      exact (h1.setCell _ (.inr (by simp; omega))).putObj _ (.inr (by omega))
end Go.Proofs.Ytoodgjmgkjhpoaa
