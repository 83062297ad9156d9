/- Rings of things of several cells (api.Packet): the iterator, the list, what makes room, what is pushed. -/
import Derived.Test.YteojodcdehkejaaRingWP6
import Derived.Test.YteojodcdehkejaaStore
namespace Go.Proofs.Yteojodcdehkejaa
open Go Go.RowKit
attribute [local go_sem] calmQ_normal wide_fn wide_depth Oper.semAt_some

/-- the things with their places, as the iterator hands them out -/
def entp6 (q : P6 × Nat) : Array Value := #[.int .i64 q.2, .agg #[.int .i64 q.1.f0, .int .i64 q.1.f1, .int .i64 q.1.f2, .int .i64 q.1.f3, .int .i64 q.1.f4, .int .i64 q.1.f5]]

set_option maxHeartbeats 400000 in
theorem all_p6 (w : World) (r : Nat) :
    Calls Try.prog 101 #[.pointer (some ⟨r, 0, none⟩)] w fun e w' => e = .returned (.func (.func 106) #[] #[.pointer (some ⟨w.heap.size, 0, none⟩)]) ∧ w' = w.alloc (.cells #[.pointer (some ⟨r, 0, none⟩)] 93) := by
  go_enter Try.func101, Try.ntmps101
  go_wp2
  go_ret
  exact ⟨rfl, rfl⟩

set_option maxHeartbeats 1000000 in
set_option maxRecDepth 100000 in
theorem seq_p6 {w : World} {r B : Nat} {ds : List Nat} {xs : List P6} (h : Rgp6 w r ds xs) (hB : w.cell? ⟨B, 0, none⟩ = some (.pointer (some ⟨r, 0, none⟩))) :
    SeqF Try.prog 106 #[.pointer (some ⟨B, 0, none⟩)] entp6 xs.zipIdx w := by
  intro l I Ix S W hW hS hI hIx hY h0
  have hBW := (hW.cell (p := ⟨B, 0, none⟩) (World.block_lt_of_cell? _ _ hB) (by simp)).trans hB
  have hRW := h.fr hW (by simp)
  refine callsIn_wide.1 (callsIn_of_wp (n := 0) (F := Fence.wide) Try.func106 rfl trivial ?_ rfl)
  simp only [Try.ntmps106, List.size_toArray, List.length_cons, List.length_nil, Nat.reduceAdd, Nat.reduceSub, Array.replicate_succ, Array.replicate_zero, List.push_toArray, List.append_toArray, List.nil_append, List.cons_append]
  have hcall := Lib.hid (wideIn (0 - 1) (held_p6 hRW))
  gi_wp2_with (gi_at_call 107; refine (hcall.out).mono ?_; rintro e w' ⟨v, S0, rfl, hown, hg0, hf0⟩; obtain ⟨vao, vcap, rfl⟩ := hown.val)
  have hz0 := hf0.size
  have hlen : xs.length ≤ 1073741824 := by
    obtain ⟨L, head, sv, hb, hL, hrest⟩ := hRW
    rcases hrest with ⟨_, _, rfl, _⟩ | ⟨d, cs, _, _, _, _, hc⟩
    · simp
    · have := hc.room; omega
  have hYY := Lib.hid hY
  have hII := Lib.hid hI
  have hS00 := Lib.hid hS
  clear hcall hBW hRW hW hIx hY hI hB h hS
  gi_loopw [8] (fun i wr => ∃ k : Nat, k ≤ xs.length ∧ i = .int .i64 k ∧ ∃ S1, I S1 (xs.zipIdx.take k) wr ∧ Gr w' S S1 ∧ Fr S W wr ∧ w'.heap.size ≤ wr.heap.size ∧ OwnS wr 34 6 (.slice vao xs.length vcap) xs.length (xs.flatMap encP6) S0)
    (fun i _ => xs.length - (intOf i).toNat)
  case atStart => exact ⟨0, Nat.zero_le _, rfl, S, by simpa using hII.out S [] W w' [] h0 hf0 (by simp), Gr.refl _ _, hf0.mono (by simp), Nat.le_refl _, hown⟩
  case round =>
    obtain ⟨k, hk, rfl, S1, hi, hg, hf, hz, hown1⟩ := hrel
    by_cases hlt : k < xs.length
    · obtain ⟨g, cap, hv, rfl⟩ := hown1.head (by omega)
      cases hv
      have hgx : xs.zipIdx = xs.zipIdx.take k ++ (xs[k], k) :: xs.zipIdx.drop (k + 1) := by
        have : xs.zipIdx[k]? = some (xs[k], k) := by simp [hlt]
        obtain ⟨hk1, hk2⟩ := List.getElem?_eq_some_iff.1 this
        rw [← hk2, ← List.drop_eq_getElem_cons hk1, List.take_append_drop]
      have hiA := hII.out S1 _ wr _ [] hi ((Fr.refl [] wr).alloc (.cells #[.int .i64 xs[k].f0, .int .i64 xs[k].f1, .int .i64 xs[k].f2, .int .i64 xs[k].f3, .int .i64 xs[k].f4, .int .i64 xs[k].f5] 34)) (by simp)
      obtain ⟨fn, tmps, assign, body, hy, hR⟩ := hYY.out (xs.zipIdx.take k) (xs[k], k) _ S1 (wr.alloc (.cells #[.int .i64 xs[k].f0, .int .i64 xs[k].f1, .int .i64 xs[k].f2, .int .i64 xs[k].f3, .int .i64 xs[k].f4, .int .i64 xs[k].f5] 34)) hgx (by simp; omega) (hg.size hz0) (hf.alloc _) hiA
      dsimp only [entp6] at hy
      have hkey : ∀ j, j < 6 → wr.cell? ⟨g, k * 6 + j, none⟩ = (encP6 xs[k])[j]? := fun j hj => by
        rw [hown1.cellAt (k * 6 + j) (by have := Nat.mul_le_mul_right 6 (show k + 1 ≤ xs.length by omega); omega)]
        exact flatMap_at enc_len_p6 (xs := xs) (i := k) (x := xs[k]) (by simp [hlt]) hj
      obtain ⟨k0, k1, k2, k3, k4, k5⟩ : wr.cell? ⟨g, k * 6, none⟩ = some (.int .i64 xs[k].f0) ∧ wr.cell? ⟨g, k * 6 + 1, none⟩ = some (.int .i64 xs[k].f1) ∧ wr.cell? ⟨g, k * 6 + 2, none⟩ = some (.int .i64 xs[k].f2) ∧ wr.cell? ⟨g, k * 6 + 3, none⟩ = some (.int .i64 xs[k].f3) ∧ wr.cell? ⟨g, k * 6 + 4, none⟩ = some (.int .i64 xs[k].f4) ∧ wr.cell? ⟨g, k * 6 + 5, none⟩ = some (.int .i64 xs[k].f5) := ⟨hkey 0 (by decide), hkey 1 (by decide), hkey 2 (by decide), hkey 3 (by decide), hkey 4 (by decide), hkey 5 (by decide)⟩
      clear hkey
      have hgS : g ∉ S1 := fun hm => by
        have h1 := hown.lt g (by simp)
        rcases hg g hm with h | h
        · have := hS00.out g h
          rcases hg0 g (by simp) with h2 | h2
          · cases h2
          · omega
        · omega
      have HR := Lib.hid hR
      have HX := Lib.hid hgx
      clear hR hgx hown
      gi_wp2
      refine HR.out.mono ?_
      rintro e W3 ⟨S', hg3, hf3, ⟨rfl, hi3⟩ | ⟨rfl, hi3⟩⟩
      · have hz3 := hf3.size
        have ho3 := (hown1.alloc (.cells #[.int .i64 xs[k].f0, .int .i64 xs[k].f1, .int .i64 xs[k].f2, .int .i64 xs[k].f3, .int .i64 xs[k].f4, .int .i64 xs[k].f5] 34)).fr hf3 (by simpa using hgS)
        simp only [World.size_alloc] at hz3
        gi_wp2
        go_roundw
        case rel => exact ⟨k + 1, by omega, by simp, S', by rw [List.take_add_one, show xs.zipIdx[k]? = some (xs[k], k) from by simp [hlt]]; exact hi3, hg.trans (by simp; omega) hg3, (hf.alloc _).trans (hg.size hz0) hf3, by omega, ho3⟩
        case measure => simp [intOf]; omega
      · gi_wp2
        refine bodyPost_ret (results_none rfl _ _ _) rfl ?_
        exact ⟨⟨_, rfl⟩, S', (hg.size hz0).trans (hf.alloc _).size hg3, (hf.alloc _).trans (hg.size hz0) hf3, .inr ⟨_, _, _, HX.out, hi3⟩⟩
    · obtain rfl : k = xs.length := by omega
      gi_wp2
      go_end0
      exact ⟨⟨_, rfl⟩, S1, hg.size hz0, hf, .inl (by rw [List.take_of_length_le (by simp)] at hi; exact hi)⟩

set_option maxHeartbeats 400000 in
theorem clip_p6 {w : World} {v : Value} {n : Nat} {ys : List Value} {S : List Nat} (h : OwnS w 34 6 v n ys S) (hn : n ≤ 1073741824) :
    Calls Try.prog 51 #[v] w fun e w' => ∃ v', e = .returned v' ∧ OwnS w 34 6 v' n ys S ∧ w' = w := by
  obtain ⟨hl, ⟨rfl, rfl, rfl⟩ | ⟨g, cap, cur, rfl, rfl, hg, hnc, hcm, hcs, ht⟩⟩ := h
  · go_enter Try.func51, Try.ntmps51
    go_wp2
    go_ret
    exact ⟨_, rfl, ⟨hl, .inl ⟨rfl, rfl, rfl⟩⟩, rfl⟩
  · have H : Hid (OwnS w 34 6 (.slice (some ⟨g, 0, none⟩) n n) n ys [g]) := ⟨hl, .inr ⟨g, n, cur, rfl, rfl, hg, Nat.le_refl _, by omega, by omega, ht⟩⟩
    clear hg hl ht hcs hcm
    go_enter Try.func51, Try.ntmps51
    go_wp2
    go_ret
    exact ⟨_, rfl, H.out, rfl⟩

theorem ownS_snoc_p6 {w : World} {v : Value} {pre : List (P6 × Nat)} {x : P6 × Nat} {S : List Nat} (h : OwnS w 34 6 v (pre.length + 1) ((pre.map (·.1)).flatMap encP6 ++ encP6 x.1) S) :
    OwnS w 34 6 v (pre ++ [x]).length (((pre ++ [x]).map (·.1)).flatMap encP6) S := by
  simpa using h

set_option maxHeartbeats 1000000 in
set_option maxRecDepth 100000 in
theorem list_p6 {w : World} {r : Nat} {ds : List Nat} {xs : List P6} (h : Rgp6 w r ds xs) :
    Calls Try.prog 82 #[.pointer (some ⟨r, 0, none⟩)] w fun e w' => ∃ v S, e = .returned v ∧ OwnS w' 34 6 v xs.length (xs.flatMap encP6) S ∧ Gr w [] S ∧ Fr [] w w' := by
  obtain ⟨i0, hi, hz0, hz1, hz2⟩ := info_parts infop6
  have hlen : xs.length ≤ 1073741824 := by
    obtain ⟨L, head, sv, hb, hL, hrest⟩ := h
    rcases hrest with ⟨_, _, rfl, _⟩ | ⟨d, cs, _, _, _, _, hc⟩
    · simp
    · have := hc.room; omega
  refine callsIn_wide.1 (callsIn_of_wp_marks (n := 0) (F := Fence.wide) Try.func82 rfl trivial ?_ rfl)
  simp only [Try.ntmps82, List.size_toArray, List.length_cons, List.length_nil, Nat.reduceAdd, Nat.reduceSub, Array.replicate_succ, Array.replicate_zero, List.push_toArray, List.append_toArray, List.nil_append, List.cons_append]
  gi_wp2_with (gi_at_call 101; refine (wideIn _ (all_p6 _ r)).mono ?_; rintro e w' ⟨rfl, rfl⟩)
  have hseq : SeqF Try.prog 106 #[.pointer (some ⟨w.heap.size + 1, 0, none⟩)] entp6 xs.zipIdx ((w.alloc (.cells #[.slice none 0 0] 49)).alloc (.cells #[.pointer (some ⟨r, 0, none⟩)] 93)) :=
    seq_p6 ((h.alloc _).alloc _) (by simpa only [World.size_alloc, List.getElem?_cons_zero] using (Blk.new (w.alloc (.cells #[.slice none 0 0] 49)) 93 [.pointer (some ⟨r, 0, none⟩)]).cell 0)
  have hB0 : Blk ((w.alloc (.cells #[.slice none 0 0] 49)).alloc (.cells #[.pointer (some ⟨r, 0, none⟩)] 93)) w.heap.size 49 [.slice none 0 0] := (Blk.new w 49 [.slice none 0 0]).alloc _
  have hfw : Fr [] w ((w.alloc (.cells #[.slice none 0 0] 49)).alloc (.cells #[.pointer (some ⟨r, 0, none⟩)] 93)) := ((Fr.refl [] w).alloc _).alloc _
  have hzw : ((w.alloc (.cells #[.slice none 0 0] 49)).alloc (.cells #[.pointer (some ⟨r, 0, none⟩)] 93)).heap.size = w.heap.size + 2 := by simp
  clear h
  have hlocI : Loc (w.heap.size + 2) (fun S (pre : List (P6 × Nat)) W => ∃ v S1, S = w.heap.size :: S1 ∧ w.heap.size ∉ S1 ∧ Blk W w.heap.size 49 [v] ∧ OwnS W 34 6 v pre.length ((pre.map (·.1)).flatMap encP6) S1) := by
    intro S pre A B T ⟨v, S1, hS, hn, hb, ho⟩ f ht
    subst hS
    exact ⟨v, S1, rfl, hn, hb.fr f (fun hm => (ht _ hm).2 (by simp)), ho.fr f (fun b hb hm => (ht _ hm).2 (by simp [hb]))⟩
  obtain ⟨w1, hw1⟩ : ∃ w1, (w.alloc (.cells #[.slice none 0 0] 49)).alloc (.cells #[.pointer (some ⟨r, 0, none⟩)] 93) = w1 := ⟨_, rfl⟩
  rw [hw1] at hseq hB0 hfw hzw ⊢
  clear hw1
  obtain ⟨asg, hasg⟩ : ∃ asg : (P6 × Nat) → Nat → Act, asg = fun x b => { tmps := #[.pointer (some ⟨r, 0, none⟩), undef, .slice none 0 0, .pointer (some ⟨w.heap.size, 0, none⟩), undef, .pointer (some ⟨b, 0, none⟩), .pointer (some ⟨r, 0, none⟩), .func (.func 106) #[] #[.pointer (some ⟨w.heap.size + 1, 0, none⟩)], .int .i64 x.2, .agg #[.int .i64 x.1.f0, .int .i64 x.1.f1, .int .i64 x.1.f2, .int .i64 x.1.f3, .int .i64 x.1.f4, .int .i64 x.1.f5], undef, undef, undef, undef, undef, undef], defers := [] } := ⟨_, rfl⟩
  refine wp_rangeF (gf := 106) (lb := #[.pointer (some ⟨w.heap.size + 1, 0, none⟩)]) rfl (enters_of Try.func106 (by kernel_rfl) rfl) hseq (fun _ => rfl)
    (fun S (pre : List (P6 × Nat)) W => ∃ v S1, S = w.heap.size :: S1 ∧ w.heap.size ∉ S1 ∧ Blk W w.heap.size 49 [v] ∧ OwnS W 34 6 v pre.length ((pre.map (·.1)).flatMap encP6) S1)
    (fun _ _ _ _ => False) [w.heap.size] (by simp; omega) (by rw [hzw]; exact hlocI) (fun _ _ _ _ _ _ h _ _ => h) ⟨_, [], rfl, by simp, hB0, OwnS.nil _ _ _⟩
    (fun x a' S pre W => ∃ b v S1, S = w.heap.size :: b :: S1 ∧ w.heap.size ∉ S1 ∧ b ∉ S1 ∧ w.heap.size ≠ b ∧ a' = asg x b ∧ Blk W b 34 (encP6 x.1) ∧ Blk W w.heap.size 49 [v] ∧ OwnS W 34 6 v pre.length ((pre.map (·.1)).flatMap encP6) S1)
    ?ax ?assign ?body ?done ?stop
  case ax =>
    intro x a' S pre A B T ⟨b, v, S1, hS, hn, hnb, hne, ha, hbx, hb, ho⟩ f ht
    subst hS
    exact ⟨b, v, S1, rfl, hn, hnb, hne, ha, hbx.fr f (fun hm => (ht _ hm).2 (by simp)), hb.fr f (fun hm => (ht _ hm).2 (by simp)), ho.fr f (fun b hb hm => (ht _ hm).2 (by simp [hb]))⟩
  case assign =>
    rintro l pre x post S1 W hx hz hg hf hl hnl hr ⟨v, S2, rfl, hnS, hb, ho⟩
    simp only [entp6]
    have hlo := ho.lt
    have hlb := hb.lt
    have hfin : ∃ S', Gr W (w.heap.size :: S2) S' ∧ Fr (w.heap.size :: S2) W (W.alloc (.cells #[.int .i64 x.1.f0, .int .i64 x.1.f1, .int .i64 x.1.f2, .int .i64 x.1.f3, .int .i64 x.1.f4, .int .i64 x.1.f5] 34)) ∧ ∃ b v S1, S' = w.heap.size :: b :: S1 ∧ w.heap.size ∉ S1 ∧ b ∉ S1 ∧ w.heap.size ≠ b ∧ asg x W.heap.size = asg x b ∧ Blk (W.alloc (.cells #[.int .i64 x.1.f0, .int .i64 x.1.f1, .int .i64 x.1.f2, .int .i64 x.1.f3, .int .i64 x.1.f4, .int .i64 x.1.f5] 34)) b 34 (encP6 x.1) ∧ Blk (W.alloc (.cells #[.int .i64 x.1.f0, .int .i64 x.1.f1, .int .i64 x.1.f2, .int .i64 x.1.f3, .int .i64 x.1.f4, .int .i64 x.1.f5] 34)) w.heap.size 49 [v] ∧ OwnS (W.alloc (.cells #[.int .i64 x.1.f0, .int .i64 x.1.f1, .int .i64 x.1.f2, .int .i64 x.1.f3, .int .i64 x.1.f4, .int .i64 x.1.f5] 34)) 34 6 v pre.length ((pre.map (·.1)).flatMap encP6) S1 := by
      refine ⟨w.heap.size :: W.heap.size :: S2, fun b hb' => ?_, (Fr.refl _ _).alloc _, W.heap.size, v, S2, rfl, hnS, fun hm => by have := hlo _ hm; omega, by omega, rfl, Blk.new W 34 (encP6 x.1), hb.alloc _, ho.alloc _⟩
      simp only [List.mem_cons] at hb'
      rcases hb' with h | h | h
      · exact .inl (by simp [h])
      · exact .inr (by omega)
      · exact .inl (by simp [h])
    rw [hasg] at hfin
    have HF := Lib.hid hfin
    have HA := Lib.hid hasg
    clear hfin hb ho hr hf hg hasg
    gi_wp2
    rw [HA.out]
    exact HF.out
  case body =>
    rintro l pre x post a' S1 W hx hz hg hf hl hnl hr ⟨b, v, S2, rfl, hnS, hnb, hne, rfl, hbx, hb, ho⟩
    obtain ⟨k0, k1, k2, k3, k4, k5⟩ : W.cell? ⟨b, 0, none⟩ = some (.int .i64 x.1.f0) ∧ W.cell? ⟨b, 1, none⟩ = some (.int .i64 x.1.f1) ∧ W.cell? ⟨b, 2, none⟩ = some (.int .i64 x.1.f2) ∧ W.cell? ⟨b, 3, none⟩ = some (.int .i64 x.1.f3) ∧ W.cell? ⟨b, 4, none⟩ = some (.int .i64 x.1.f4) ∧ W.cell? ⟨b, 5, none⟩ = some (.int .i64 x.1.f5) := ⟨hbx.cell 0, hbx.cell 1, hbx.cell 2, hbx.cell 3, hbx.cell 4, hbx.cell 5⟩
    have hltb := hbx.lt
    rw [hasg]
    have hpl : pre.length < xs.length := by
      have := congrArg List.length hx
      simp at this
      omega
    have hc0 : W.cell? ⟨w.heap.size, 0, none⟩ = some v := by simpa using hb.cell 0
    have hf0 := hb.frz 0
    have hlt := hb.lt
    have HX := Lib.hid hx
    clear hx hr
    gi_wp2_with (gi_at_builtin; refine wpListIn_append_S _ rfl (.tmp 10) (.tmp 12) 49 rfl 34 i0 (.agg #[.int .i64 0, .int .i64 0, .int .i64 0, .int .i64 0, .int .i64 0, .int .i64 0]) 6 48 Try.underlying49 hi hz0 hz1 hz2 rfl _ _ _ _ rfl ((ho.alloc _ : OwnS (W.alloc _) _ _ _ _ _ _)) ⟨W.heap.size, 0, none⟩ 1 1 (encP6 x.1) rfl rfl (Blk.new W 34 (encP6 x.1)).news ?c2 ?c3 ?c4 ?_)
    case c2 => intro u hu; exact one_p6 [x.1] u (by simpa using hu)
    case c3 => unfold maxLen; omega
    case c4 => omega
    intro v' w2 S' hown' hgr' hfr'
    obtain ⟨g', cap', hv', hS'⟩ := hown'.head (by omega)
    have hfa : Fr [] W (W.alloc (.cells #[.int .i64 x.1.f0, .int .i64 x.1.f1, .int .i64 x.1.f2, .int .i64 x.1.f3, .int .i64 x.1.f4, .int .i64 x.1.f5] 34)) := (Fr.refl _ _).alloc _
    have hbA : Blk w2 w.heap.size 49 [v] := (hb.alloc _).fr hfr' hnS
    have hca : w2.cell? ⟨w.heap.size, 0, none⟩ = some v := by simpa using hbA.cell 0
    have hfza := hbA.frz 0
    have hsz2 := hfr'.size
    have hlt2 := hbA.lt
    have hbset := hbA.set 0 v'
    have hnS' : w.heap.size ∉ S' := hgr'.notMem (by simp; omega) hnS
    have hfin : postF (fun S (pre : List (P6 × Nat)) W => ∃ v S1, S = w.heap.size :: S1 ∧ w.heap.size ∉ S1 ∧ Blk W w.heap.size 49 [v] ∧ OwnS W 34 6 v pre.length ((pre.map (·.1)).flatMap encP6) S1) (fun _ _ _ _ => False) (w.heap.size :: b :: S2) (pre ++ [x]) W .normal ⟨#[], []⟩ (w2.setCell ⟨w.heap.size, 0, none⟩ v') := by
      refine ⟨w.heap.size :: S', Gr.mono (Gr.cons w.heap.size (hgr'.size (by simp))) (by intro y hy; simp at hy ⊢; rcases hy with hy | hy <;> simp [hy]), ?_, v', S', rfl, hnS', by simpa using hbset, ?_⟩
      · exact ((hfa.mono (T := w.heap.size :: b :: S2) (by simp)).trans (Gr.of_sub (by simp)) (hfr'.mono (T := w.heap.size :: b :: S2) (by intro b hb; simp [hb]))).setCell _ (.inl (by simp))
      · exact ownS_snoc_p6 (hown'.fr ((Fr.refl [w.heap.size] w2).setCell v' (.inl (by simp))) (by intro y hy hm; simp at hm; subst hm; exact hnS' hy))
    have HF := Lib.hid hfin
    clear hfin hbset hown' hgr' hfr' hbA ho hb
    subst hv'
    gi_wp2
    exact HF.out
  case stop => intro _ _ _ _ _ _ _ _ _ _ _ _ h _; exact h.elim
  case done =>
    rintro D S' W hD hDS hg hf ⟨v, S1, rfl, hnS, hb, ho⟩ hK
    have hc0 : W.cell? ⟨w.heap.size, 0, none⟩ = some v := by simpa using hb.cell 0
    rw [show (xs.zipIdx.map (·.1)) = xs from by simp, List.length_zipIdx] at ho
    have HO := Lib.hid ho
    have HKK := Lib.hid hK
    clear ho hK
    gi_wp2_with (gi_at_call 51; refine (wideIn _ (clip_p6 HO.out hlen)).mono ?_; rintro e w' ⟨v', rfl, ho', rfl⟩)
    refine ⟨by simp, .inl ⟨_, _, rfl, run_takeDeferred HKK.out, ?_⟩⟩
    refine ⟨_, results_tmp rfl _ _ _, v', S1, rfl, ho'.fr ((Fr.refl [D] _).putObj _ (.inl (by simp))) (by intro b hb hm; simp at hm; subst hm; exact hDS (by simp [hb])), ?_, ?_⟩
    · intro b hb
      rcases hg b (by simp [hb]) with h | h
      · simp at h; right; omega
      · right; omega
    · exact (hfw.trans (fun b hb => by simp at hb; right; omega) hf).putObj _ (.inr (by omega))

/-! ### what makes room -/
set_option maxHeartbeats 400000 in
theorem wider_no_p6 {w : World} {r d L head : Nat} {xs : List P6} (h : Rcp6 w r d L head xs) (hn : xs.length < L) :
    Calls Try.prog 71 #[.pointer (some ⟨r, 0, none⟩)] w fun e w' => e = .returned (.tuple #[]) ∧ ∃ n, w' = w.drewN n := by
  obtain ⟨cs, hb, hL, hd, hbd, hc⟩ := h
  have h0 := hb.cell 0
  have h2 := hb.cell 2
  simp at h0 h2
  clear hb hbd hc
  go_enter Try.func71, Try.ntmps71
  go_wp2
  go_quiet (fail)
  go_wp2
  refine bodyPost_ret (results_none rfl _ _ _) rfl ?_
  exact ⟨rfl, _, rfl⟩
set_option maxRecDepth 100000 in
set_option maxHeartbeats 1000000 in
theorem wider_yes_p6 {w : World} {r : Nat} {ds : List Nat} {xs : List P6} (h : Rgp6 w r ds xs) (hn : ∀ d L head, ds = [d] → Rcp6 w r d L head xs → L ≤ xs.length) (hx : xs.length ≤ 268435456) :
    Calls Try.prog 71 #[.pointer (some ⟨r, 0, none⟩)] w fun e w' => e = .returned (.tuple #[]) ∧ ∃ d, Rcp6 w' r d (2 * xs.length + 4) 0 xs ∧ w.heap.size ≤ d ∧ Fr [r] w w' := by
  obtain ⟨i0, hi, hz0, hz1, hz2⟩ := info_parts infop6
  have H := Lib.hid h
  obtain ⟨L, head, sv, hb, hL, hrest⟩ := h
  have h0 := hb.cell 0
  have h1 := hb.cell 1
  have h2 := hb.cell 2
  simp at h0 h1 h2
  have hrw := hb.lt
  obtain ⟨ao, hsv, hLn⟩ : ∃ ao, sv = .slice ao L L ∧ L ≤ xs.length := by
    rcases hrest with ⟨rfl, _, rfl, _, rfl⟩ | ⟨d, cs, rfl, hd, rfl, hbd, hc⟩
    · exact ⟨_, rfl, by simp⟩
    · exact ⟨_, rfl, hn d L head rfl ⟨cs, hb, hL, hd, hbd, hc⟩⟩
  subst hsv
  clear hb hrest hn
  go_enter Try.func71, Try.ntmps71
  go_wp2
  go_quiet (fail)
  go_wp2_with (at_make; refine wpList_make_S _ rfl _ _ 49 rfl 34 i0 (.agg #[.int .i64 0, .int .i64 0, .int .i64 0, .int .i64 0, .int .i64 0, .int .i64 0]) 6 48 Try.underlying49 hi hz0 hz1 hz2 .i64 .i64 _ _ (2 * xs.length + 4) rfl rfl (by simp) (by simp) (by omega) (by omega) ?_; intro w1 zs hbz hzl hf1 hs1 _)
  have hf1' : Fr [] w w1 := ((Fr.refl [] w).drewN nq).trans' hf1
  have hbz' : Blk w1 w.heap.size 34 zs := hbz
  have hs1' : w1.heap.size = w.heap.size + 1 := hs1
  clear hf1 hbz hs1
  refine (list_p6 (H.out.fr hf1' (by simp))).mono ?_
  rintro e w2 ⟨v, S, rfl, hov, hgv, hf2⟩
  have hbz2 : Blk w2 w.heap.size 34 zs := hbz'.fr hf2 (by simp)
  have HZ := Lib.hid hzl
  have HO := Lib.hid hov
  have HB := Lib.hid hbz2
  clear hzl hov hbz2 hbz'
  go_wp2_with (with_reducible refine wpList_copy_S _ rfl (.tmp 20) (.tmp 22) 49 49 rfl 34 i0 6 Try.underlying49 hi hz1 w.heap.size (2 * xs.length + 4) (2 * xs.length + 4) 34 zs rfl HB.out v xs.length (xs.flatMap encP6) S rfl HO.out ?c1 ?c2 ?c3 ?_)
  case c1 => omega
  case c2 => have := HZ.out; omega
  case c3 => exact one_p6 xs
  intro w3 cs3 hb3 hl3 ht3 hf3
  have HL3 := Lib.hid hl3
  have HT3 := Lib.hid ht3
  clear hl3 ht3
  have hf12 : Fr [] w w2 := hf1'.trans' hf2
  have hf13 : Fr [w.heap.size] w w3 := (hf12.mono (by simp)).trans' hf3
  have hf13' : Fr [] w w3 := hf13.mono' (fun b hb => by simp at hb; right; omega)
  obtain ⟨L', head', sv', hbr, hL', _⟩ := H.out
  have hbr3 : Blk w3 r 134 [sv', .int .i64 head', .int .i64 xs.length] := hbr.fr hf13' (by simp)
  have h30 := hbr3.cell 0
  have h31 := hbr3.cell 1
  simp at h30 h31
  have f30 := hbr3.frz 0
  have f31 := hbr3.frz 1
  have hset := (hbr3.set 0 (.slice (some ⟨w.heap.size, 0, none⟩) (2 * xs.length + 4) (2 * xs.length + 4))).set 1 (.int .i64 0)
  have hb3' := ((hb3.other (p := ⟨r, 0, none⟩) (.slice (some ⟨w.heap.size, 0, none⟩) (2 * xs.length + 4) (2 * xs.length + 4)) (by show w.heap.size ≠ r; omega)).other (p := ⟨r, 1, none⟩) (.int .i64 0) (by show w.heap.size ≠ r; omega))
  have hfin : Rcp6 ((w3.setCell ⟨r, 0, none⟩ (.slice (some ⟨w.heap.size, 0, none⟩) (2 * xs.length + 4) (2 * xs.length + 4))).setCell ⟨r, 1, none⟩ (.int .i64 0)) r w.heap.size (2 * xs.length + 4) 0 xs := by
    refine ⟨_, by simpa using hset, by omega, by omega, hb3', Cyc.straight (by omega) (by omega) ?_ enc_len_p6 ?_⟩
    · rw [HL3.out, HZ.out]
    · simpa using HT3.out
  have hfr : Fr [r] w ((w3.setCell ⟨r, 0, none⟩ (.slice (some ⟨w.heap.size, 0, none⟩) (2 * xs.length + 4) (2 * xs.length + 4))).setCell ⟨r, 1, none⟩ (.int .i64 0)) :=
    ((hf13'.mono (by simp)).setCell _ (.inl (by simp))).setCell _ (.inl (by simp))
  have HF : Hid (Rcp6 ((w3.setCell ⟨r, 0, none⟩ (.slice (some ⟨w.heap.size, 0, none⟩) (2 * xs.length + 4) (2 * xs.length + 4))).setCell ⟨r, 1, none⟩ (.int .i64 0)) r w.heap.size (2 * xs.length + 4) 0 xs ∧ Fr [r] w ((w3.setCell ⟨r, 0, none⟩ (.slice (some ⟨w.heap.size, 0, none⟩) (2 * xs.length + 4) (2 * xs.length + 4))).setCell ⟨r, 1, none⟩ (.int .i64 0))) := ⟨hfin, hfr⟩
  clear hfin hfr hset hb3' hbr3 hbr hf13 hf13' hf12 hf3 hb3 hf2 hf1'
  go_wp2
  go_end0
  exact ⟨rfl, _, HF.out.1, Nat.le_refl _, HF.out.2⟩
theorem wider_p6 {w : World} {r : Nat} {ds : List Nat} {xs : List P6} (h : Rgp6 w r ds xs) (hx : xs.length ≤ 268435456) :
    Calls Try.prog 71 #[.pointer (some ⟨r, 0, none⟩)] w fun e w' => e = .returned (.tuple #[]) ∧ ∃ d L head, Rcp6 w' r d L head xs ∧ xs.length < L ∧ Fr [r] w w' ∧ Gr w ds [d] := by
  by_cases hr : ∃ d L head, ds = [d] ∧ Rcp6 w r d L head xs ∧ xs.length < L
  · obtain ⟨d, L, head, rfl, hc, hl⟩ := hr
    refine (wider_no_p6 hc hl).mono ?_
    rintro e w' ⟨he, n, rfl⟩
    exact ⟨he, d, L, head, hc, hl, (Fr.refl _ _).drewN n, Gr.refl _ _⟩
  · refine (wider_yes_p6 h (fun d L head hd hc => ?_) hx).mono ?_
    · rcases Nat.lt_or_ge xs.length L with h' | h'
      · exact absurd ⟨d, L, head, hd, hc, h'⟩ hr
      · exact h'
    · rintro e w' ⟨he, d, hc, hd, hf⟩
      exact ⟨he, d, _, _, hc, by omega, hf, fun b hb => by simp at hb; subst hb; exact .inr hd⟩

set_option maxRecDepth 100000 in
set_option maxHeartbeats 8000000 in
theorem pushB_p6 {w : World} {r : Nat} {ds : List Nat} {xs : List P6} (h : Rgp6 w r ds xs) (hx : xs.length ≤ 268435456) (v : P6) :
    Calls Try.prog 39 #[.pointer (some ⟨r, 0, none⟩), (.agg #[.int .i64 v.f0, .int .i64 v.f1, .int .i64 v.f2, .int .i64 v.f3, .int .i64 v.f4, .int .i64 v.f5])] w fun e w' => e = .returned (.tuple #[]) ∧ ∃ ds', Rgp6 w' r ds' (xs ++ [v]) ∧ Fr (r :: ds) w w' ∧ Gr w ds ds' := by
  have hrl := h.lt r (by simp)
  have hcall := Lib.hid (fun o => wider_p6 (h.alloc o) hx)
  clear h
  go_enter Try.func39, Try.ntmps39
  go_wp2_with fail
  refine (hcall.out _).mono ?_
  rintro e w1 ⟨rfl, d, L, head, ⟨cs, hb, hL, hd, hbd, hc⟩, hroom, hf1', hg1'⟩
  have hbx : Blk w1 w.heap.size 34 (encP6 v) := (Blk.new w 34 (encP6 v)).fr hf1' (by simp; omega)
  have hf1 : Fr [r] w w1 := ((Fr.refl [r] w).alloc _).trans' hf1'
  have hg1 : Gr w ds [d] := hg1'.size (by simp)
  obtain ⟨b0, b1, b2, b3, b4, b5⟩ : w1.cell? ⟨w.heap.size, 0, none⟩ = some (.int .i64 v.f0) ∧ w1.cell? ⟨w.heap.size, 1, none⟩ = some (.int .i64 v.f1) ∧ w1.cell? ⟨w.heap.size, 2, none⟩ = some (.int .i64 v.f2) ∧ w1.cell? ⟨w.heap.size, 3, none⟩ = some (.int .i64 v.f3) ∧ w1.cell? ⟨w.heap.size, 4, none⟩ = some (.int .i64 v.f4) ∧ w1.cell? ⟨w.heap.size, 5, none⟩ = some (.int .i64 v.f5) := ⟨hbx.cell 0, hbx.cell 1, hbx.cell 2, hbx.cell 3, hbx.cell 4, hbx.cell 5⟩
  clear hf1' hg1'
  have h0 := hb.cell 0
  have h1 := hb.cell 1
  have h2 := hb.cell 2
  simp at h0 h1 h2
  have f2 := hb.frz 2
  have hhd := hc.headL
  obtain ⟨m, hm⟩ : ∃ m, Hid (m = (head + xs.length) % L) := ⟨_, Lib.hid rfl⟩
  have hml : m < L := by rw [hm.out]; exact Nat.mod_lt _ (by omega)
  have hmc : m * 6 + 6 ≤ cs.length := place_in hml hc.len
  have HBD := Lib.hid hbd
  have HBB := Lib.hid hb
  have HC := Lib.hid hc
  have HF1 := Lib.hid hf1
  have HG := Lib.hid hg1
  have hrd : r ∉ [d] := by simpa using Ne.symm hd
  clear hg1 hf1 hb hbd hc hcall hbx
  go_wp2
  refine wp_region_quiet_tail 12 (by kernel_rfl) (by kernel_rfl) ?_
  simp only [List.take_succ_cons, List.take_zero, List.drop_succ_cons, List.drop_zero]
  repeat (first | go_big_quiet_step ((go_at_call 72; exact Calls.quiet_of (place_p6 m r L head xs.length _ _ (by omega) hL hhd (by omega) hm h0 h1))) | quiet_step ((go_at_call 72; exact Calls.quiet_of (place_p6 m r L head xs.length _ _ (by omega) hL hhd (by omega) hm h0 h1))))
  refine wpQuiet_nil ?_
  rintro _ ⟨nq, rfl⟩
  refine wpList_store_S rfl _ _ _ rfl d (m * 6) 34 cs (encP6 v) rfl rfl (HBD.out.drewN nq) (by kernel_rfl) (by simpa [encP6] using hmc) (fun u hu => one_p6 [v] u (by simpa using hu)) ?_
  intro w2 b2 f2 z2
  have hr2 := (HBB.out.drewN nq).fr f2 hrd
  have g2 := hr2.cell 2
  simp only [List.getElem?_cons_zero, List.getElem?_cons_succ] at g2
  have q2 := hr2.frz 2
  have hfin : Rcp6 (w2.setCell ⟨r, 2, none⟩ (.int .i64 (xs.length + 1 : Int))) r d L head (xs ++ [v]) ∧ Fr (r :: ds) w (w2.setCell ⟨r, 2, none⟩ (.int .i64 (xs.length + 1 : Int))) := by
    refine ⟨⟨_, ?_, hL, hd, b2.other (p := ⟨r, 2, none⟩) _ hd, ?_⟩, ?_⟩
    · simpa using hr2.set 2 (.int .i64 (xs.length + 1 : Int))
    · have := HC.out.back hroom (Splice.row (ys := encP6 v) rfl (by rw [← hm.out]; exact hmc))
      rw [← hm.out] at this
      exact this
    · have f3 : Fr [r, d] w1 (w2.setCell ⟨r, 2, none⟩ (.int .i64 (xs.length + 1 : Int))) := ((((Fr.refl [r, d] w1).drewN nq).trans' (f2.mono (by simp)))).setCell _ (.inl (by simp))
      exact (HF1.out.mono (T := r :: ds) (by simp)).trans (Gr.cons r HG.out) f3
  have HF := Lib.hid hfin
  clear hfin hr2 b2 f2
  go_wp2
  go_end0
  exact ⟨rfl, _, HF.out.1.at, HF.out.2, HG.out⟩

end Go.Proofs.Yteojodcdehkejaa
