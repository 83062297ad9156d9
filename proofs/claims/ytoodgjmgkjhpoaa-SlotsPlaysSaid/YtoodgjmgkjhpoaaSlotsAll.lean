/- Slots' All (int): the iterator. -/
import Derived.Test.YtoodgjmgkjhpoaaSlotsSet
import Derived.Test.YtoodgjmgkjhpoaaSlotsRef6
import Derived.Test.YtoodgjmgkjhpoaaRingW2P3
import Derived.Sort.LoopGhostIn
namespace Go.Proofs.Ytoodgjmgkjhpoaa
open Go Go.RowKit
attribute [local go_sem] calmQ_normal wide_fn wide_depth Oper.semAt_some

set_option maxHeartbeats 400000 in
theorem sall (w : World) (b : Nat) :
    Calls Try.prog 50 #[.pointer (some ⟨b, 0, none⟩)] w fun e w' => e = .returned (.func (.func 80) #[] #[.pointer (some ⟨w.heap.size, 0, none⟩)]) ∧ w' = w.alloc (.cells #[.pointer (some ⟨b, 0, none⟩)] 23) := by
  go_enter Try.func50, Try.ntmps50
  go_wp2
  go_ret
  exact ⟨rfl, rfl⟩

def entH (x : P3) : Array Value := #[.agg #[.int .i64 x.f0, .int .i64 x.f1], .int .i64 x.f2]
set_option maxHeartbeats 4000000 in
set_option maxRecDepth 100000 in
theorem sseq {w : World} {b d last cnt B : Nat} {L : List (Slot Int)} (h : Sli w b d last L cnt) (hB : w.cell? ⟨B, 0, none⟩ = some (.pointer (some ⟨b, 0, none⟩))) :
    SeqF Try.prog 80 #[.pointer (some ⟨B, 0, none⟩)] entH (heldTo L L.length) w := by
  intro l I Ix S W hW hS hI hIx hY h0
  have hBW := (hW.cell (p := ⟨B, 0, none⟩) (World.block_lt_of_cell? _ _ hB) (by simp)).trans hB
  have hSW := h.fr hW (by simp)
  clear h hB hW
  refine callsIn_wide.1 (callsIn_of_wp_marks (n := 0) (F := Fence.wide) Try.func80 rfl trivial ?_ rfl)
  simp only [Try.ntmps80, List.size_toArray, List.length_cons, List.length_nil, Nat.reduceAdd, Nat.reduceSub, Array.replicate_succ, Array.replicate_zero, List.push_toArray, List.append_toArray, List.nil_append, List.cons_append]
  have hnew := Lib.hid (fun X => wideIn (0 - 1) (new_p3 X))
  have hII := Lib.hid hI
  have hXX := Lib.hid hIx
  have hYY := Lib.hid hY
  have h00 := Lib.hid h0
  have hS00 := Lib.hid hS
  clear hI hIx hY h0 hS
  have hroom := hSW.room
  have HSW := Lib.hid hSW
  have HBW := Lib.hid hBW
  have hbB := World.block_lt_of_cell? _ _ hBW
  clear hSW hBW
  gi_wp2_with fail
  refine (hnew.out _).mono ?_
  rintro e w1 ⟨rfl, hr1, hf1, hz1⟩
  rw [World.size_alloc] at hr1 hz1
  have hF1 : Fr [] W w1 := ((Fr.refl [] W).alloc _).trans' hf1
  have hB1 := (hF1.cell (p := ⟨B, 0, none⟩) hbB (by simp)).trans HBW.out
  have h10 := (HSW.out.fr hF1 (by simp)).hb.cell 0
  simp only [List.getElem?_cons_zero] at h10
  have hy1 := ((Blk.new W 139 [.func (.yield l) #[] #[]]).fr hf1 (by simp)).cell 0
  simp only [List.getElem?_cons_zero] at hy1
  have hzz : W.heap.size + 1 < w1.heap.size := by omega
  clear hf1 hz1
  gi_wp2
  gi_loopg [14] L.length (fun k i wr => ∃ j : Nat, k + j = L.length ∧ i = .int .i64 j ∧ ∃ ds, Rgp3 wr (W.heap.size + 1) ds (heldTo L j) ∧ Gr w1 [] ds ∧ Fr [] W wr ∧ w1.heap.size ≤ wr.heap.size ∧ wr.cell? ⟨W.heap.size, 0, none⟩ = some (.func (.yield l) #[] #[]))
  case atStart => exact ⟨0, by omega, rfl, [], hr1, Gr.nil _ _, hF1, Nat.le_refl _, hy1⟩
  case round =>
    obtain ⟨j, hk, rfl, ds, hrg, hgr, hfr, hsz, hyc⟩ := hrel
    by_cases hj : j < L.length
    · obtain ⟨s, hs⟩ : ∃ s, L[j]? = some s := ⟨L[j], by simp [hj]⟩
      have hSr := HSW.out.fr hfr (by simp)
      obtain ⟨c0, c1, c2⟩ := slot_cellsi hSr.hd hs
      have hdr := hSr.hd.lt
      have hxx := Lib.hid hs
      clear hs hSr
      cases hh : s.held with
      | false =>
        rw [hh] at c1
        have hh' := Lib.hid hh
        clear hh
        have hfin : Hid (∀ o, Rgp3 (wr.alloc o) (W.heap.size + 1) ds (heldTo L (j + 1)) ∧ Fr [] W (wr.alloc o) ∧ (wr.alloc o).cell? ⟨W.heap.size, 0, none⟩ = some (.func (.yield l) #[] #[])) := fun o => by
          rw [heldTo_no hxx.out hh'.out]
          exact ⟨hrg.alloc _, hfr.alloc _, (((Fr.refl [] wr).alloc o).cell (p := ⟨W.heap.size, 0, none⟩) (World.block_lt_of_cell? _ _ hyc) (by simp)).trans hyc⟩
        clear hrg hfr hyc
        gi_wp2
        go_roundg (gk - 1)
        case measure => omega
        case rel => exact ⟨j + 1, by omega, by go_num, ds, (hfin.out _).1, hgr, (hfin.out _).2.1, by simp; omega, (hfin.out _).2.2⟩
      | true =>
        rw [hh] at c1
        have hh' := Lib.hid hh
        clear hh
        have hlj := heldTo_len L j
        have hpush := Lib.hid (fun o => wideIn (0 - 1) (pushB_p3 (hrg.alloc o) (by omega) ⟨j, s.gen, s.v⟩))
        have HFR := Lib.hid hfr
        have HYC := Lib.hid hyc
        clear hrg hfr hyc
        gi_wp2_with (gi_at_call 82; refine (hpush.out _).mono ?_; rintro e w3 ⟨rfl, ds3, hr3, hf3, hg3⟩)
        have hsz3 := hf3.size
        rw [World.size_alloc] at hsz3
        have hout : W.heap.size ∉ (W.heap.size + 1) :: ds := fun hm => by
          simp only [List.mem_cons] at hm
          rcases hm with h | h
          · omega
          · rcases hgr _ h with h' | h'
            · cases h'
            · omega
        have hgo : Gr W [] ((W.heap.size + 1) :: ds) := fun x hx => by
          simp only [List.mem_cons] at hx
          rcases hx with h | h
          · right; omega
          · rcases hgr _ h with h' | h'
            · cases h'
            · right; omega
        have hfin : Hid (Rgp3 w3 (W.heap.size + 1) ds3 (heldTo L (j + 1)) ∧ Gr w1 [] ds3 ∧ Fr [] W w3 ∧ w1.heap.size ≤ w3.heap.size ∧ w3.cell? ⟨W.heap.size, 0, none⟩ = some (.func (.yield l) #[] #[])) := by
          refine ⟨by rw [heldTo_yes hxx.out hh'.out]; exact hr3, hgr.trans (by simp; omega) hg3, (HFR.out.alloc _).trans hgo hf3, by omega, ?_⟩
          have hyl := World.block_lt_of_cell? _ _ HYC.out
          exact (hf3.cell (p := ⟨W.heap.size, 0, none⟩) (by simp; omega) hout).trans ((((Fr.refl [] wr).alloc _).cell (p := ⟨W.heap.size, 0, none⟩) hyl (by simp)).trans HYC.out)
        clear hr3 hf3 hg3 hpush
        gi_wp2
        go_roundg (gk - 1)
        case measure => omega
        case rel => exact ⟨j + 1, by omega, by go_num, ds3, hfin.out⟩
    · obtain rfl : j = L.length := by omega
      have hall := Lib.hid (fun X => wideIn (0 - 1) (all_p3 X (W.heap.size + 1)))
      gi_wp2_with (gi_at_call 83; refine (hall.out _).mono ?_; rintro e w' ⟨rfl, rfl⟩)
      have hyl := World.block_lt_of_cell? _ _ hyc
      have hfin : Hid (∀ o, Fr [] W (wr.alloc o) ∧ W.heap.size < (wr.alloc o).heap.size ∧ (wr.alloc o).cell? ⟨W.heap.size, 0, none⟩ = some (.func (.yield l) #[] #[])) := fun o =>
        ⟨hfr.alloc _, by simp; omega, (((Fr.refl [] wr).alloc o).cell (p := ⟨W.heap.size, 0, none⟩) hyl (by simp)).trans hyc⟩
      have hseq := seq_p3 (hrg.alloc (.cells #[.pointer (some ⟨W.heap.size + 1, 0, none⟩)] 140)) (B := wr.heap.size) (by simp [(Blk.new wr 140 [.pointer (some ⟨W.heap.size + 1, 0, none⟩)]).cell 0])
      obtain ⟨hfx, hzx, hyx⟩ := hfin.out (.cells #[.pointer (some ⟨W.heap.size + 1, 0, none⟩)] 140)
      obtain ⟨wx, hwx⟩ : ∃ wx, wr.alloc (.cells #[.pointer (some ⟨W.heap.size + 1, 0, none⟩)] 140) = wx := ⟨_, rfl⟩
      rw [hwx] at hseq hfx hzx hyx ⊢
      clear hwx hfin hyl hrg hgr hfr hsz hyc hall hnew h10 hB1 hF1 hr1 hy1
      have hzs : (heldTo L L.length).zipIdx.map (·.1) = heldTo L L.length := by simp
      obtain ⟨asg, hasg⟩ : ∃ asg : (P3 × Nat) → Nat → Act, asg = fun x bb => { tmps := #[.func (.yield l) #[] #[], .pointer (some ⟨B, 0, none⟩), .pointer (some ⟨W.heap.size, 0, none⟩), .pointer (some ⟨W.heap.size + 1, 0, none⟩), u4, u5, undef, .pointer (some ⟨bb, 0, none⟩),
          .pointer (some ⟨W.heap.size + 1, 0, none⟩), .pointer (some ⟨b, 0, none⟩), .pointer (some ⟨b, 0, none⟩), .pointer (some ⟨b, 0, none⟩), .slice (some ⟨d, 0, none⟩) L.length L.length, .int .i64 L.length, .int .i64 L.length, .bool false,
          u16, u17, u18, u19, u20, u21, u22, u23, u24, u25, u26, u27, u28, u29, u30, u31, u32, .pointer (some ⟨W.heap.size + 1, 0, none⟩), .func (.func 89) #[] #[.pointer (some ⟨wr.heap.size, 0, none⟩)],
          .int .i64 x.2, .agg #[.int .i64 x.1.f0, .int .i64 x.1.f1, .int .i64 x.1.f2], undef, undef, undef, undef, undef, undef, undef], defers := [] } := ⟨_, rfl⟩
      have locI : Loc wx.heap.size (fun S1 (pre : List (P3 × Nat)) X => I S1 (pre.map (·.1)) X ∧ W.heap.size ∉ S1 ∧ X.cell? ⟨W.heap.size, 0, none⟩ = some (.func (.yield l) #[] #[])) := by
        intro S1 pre X Y T ⟨hi, hn, hy⟩ f ht
        exact ⟨hII.out _ _ _ _ T hi f (fun y hy => ⟨by have := (ht y hy).1; omega, (ht y hy).2⟩), hn, (f.cell (p := ⟨W.heap.size, 0, none⟩) (World.block_lt_of_cell? _ _ hy) (fun hm => by have := (ht _ hm).1; simp at this; omega)).trans hy⟩
      have locX : ∀ c : Code, Loc wx.heap.size (fun S1 (pre : List (P3 × Nat)) X => c = .ret ∧ Ix S1 (pre.map (·.1)) X) := by
        intro c S1 pre X Y T ⟨hc, hi⟩ f ht
        exact ⟨hc, hXX.out _ _ _ _ T hi f (fun y hy => ⟨by have := (ht y hy).1; omega, (ht y hy).2⟩)⟩
      refine wp_rangeF (gf := 89) (lb := #[.pointer (some ⟨wr.heap.size, 0, none⟩)]) rfl (enters_of Try.func89 (by kernel_rfl) rfl) hseq (fun _ => rfl)
        (fun S1 (pre : List (P3 × Nat)) X => I S1 (pre.map (·.1)) X ∧ W.heap.size ∉ S1 ∧ X.cell? ⟨W.heap.size, 0, none⟩ = some (.func (.yield l) #[] #[]))
        (fun c S1 (pre : List (P3 × Nat)) X => c = .ret ∧ Ix S1 (pre.map (·.1)) X) S (fun y hy => by have := hS00.out y hy; omega) locI
        (fun c => locX c)
        ⟨hII.out S [] W wx [] h00.out hfx (by simp), fun hm => by have := hS00.out _ hm; omega, hyx⟩
        (fun x a' S1 pre X => ∃ bb S2, S1 = bb :: S2 ∧ W.heap.size ∉ S2 ∧ a' = asg x bb ∧ Blk X bb 143 (encP3 x.1) ∧ X.cell? ⟨W.heap.size, 0, none⟩ = some (.func (.yield l) #[] #[]) ∧ I S2 (pre.map (·.1)) X)
        ?ax ?assign ?body ?done ?stop
      case ax =>
        intro x a' S1 pre X Y T ⟨bb, S2, hS1, hn, ha, hbx, hy, hi⟩ f ht
        subst hS1
        exact ⟨bb, S2, rfl, hn, ha, hbx.fr f (fun hm => (ht _ hm).2 (by simp)), (f.cell (p := ⟨W.heap.size, 0, none⟩) (World.block_lt_of_cell? _ _ hy) (fun hm => by have := (ht _ hm).1; simp at this; omega)).trans hy, hII.out _ _ _ _ T hi f (fun y hy => ⟨by have := (ht y hy).1; omega, fun hm => (ht y hy).2 (by simp [hm])⟩)⟩
      case assign =>
        rintro l2 pre x post S1 X hx hz hg hf hl hnl hr ⟨hi, hnS, hy⟩
        simp only [entp3]
        have hfin : ∃ S', Gr X S1 S' ∧ Fr S1 X (X.alloc (.cells #[.int .i64 x.1.f0, .int .i64 x.1.f1, .int .i64 x.1.f2] 143)) ∧ ∃ bb S2, S' = bb :: S2 ∧ W.heap.size ∉ S2 ∧ asg x X.heap.size = asg x bb ∧ Blk (X.alloc (.cells #[.int .i64 x.1.f0, .int .i64 x.1.f1, .int .i64 x.1.f2] 143)) bb 143 (encP3 x.1) ∧ (X.alloc (.cells #[.int .i64 x.1.f0, .int .i64 x.1.f1, .int .i64 x.1.f2] 143)).cell? ⟨W.heap.size, 0, none⟩ = some (.func (.yield l) #[] #[]) ∧ I S2 (pre.map (·.1)) (X.alloc (.cells #[.int .i64 x.1.f0, .int .i64 x.1.f1, .int .i64 x.1.f2] 143)) := by
          refine ⟨X.heap.size :: S1, fun y hy => ?_, (Fr.refl _ _).alloc _, X.heap.size, S1, rfl, hnS, rfl, Blk.new X 143 (encP3 x.1), (((Fr.refl [] X).alloc _).cell (p := ⟨W.heap.size, 0, none⟩) (World.block_lt_of_cell? _ _ hy) (by simp)).trans hy, hII.out.alloc _ hi⟩
          simp only [List.mem_cons] at hy
          rcases hy with h | h
          · exact .inr (by omega)
          · exact .inl h
        rw [hasg] at hfin
        have HF := Lib.hid hfin
        have HA := Lib.hid hasg
        clear hfin hi hy hr hf hg hasg
        gi_wp2
        rw [HA.out]
        exact HF.out
      case body =>
        rintro l2 pre x post a' S1 X hx hz hg hf hl hnl hr ⟨bb, S2, rfl, hnS, rfl, hbx, hy, hi⟩
        obtain ⟨k0, k1, k2⟩ : X.cell? ⟨bb, 0, none⟩ = some (.int .i64 x.1.f0) ∧ X.cell? ⟨bb, 1, none⟩ = some (.int .i64 x.1.f1) ∧ X.cell? ⟨bb, 2, none⟩ = some (.int .i64 x.1.f2) := ⟨hbx.cell 0, hbx.cell 1, hbx.cell 2⟩
        have hx' : heldTo L L.length = pre.map (·.1) ++ x.1 :: post.map (·.1) := by
          rw [← hzs, hx]; simp
        obtain ⟨fn, tmps, assign, body, hye, hR⟩ := hYY.out (pre.map (·.1)) x.1 (post.map (·.1)) S2 X hx' (by omega) (Gr.size (fun y hy => hg y (by simp [hy])) hfx.size) ((hfx.mono (by simp)).trans' (hf)) hi
        dsimp only [entH] at hye
        have HR := Lib.hid hR
        rw [hasg]
        have hyl := World.block_lt_of_cell? _ _ hy
        have hbl := hbx.lt
        clear hR hx hx' hr hbx hi
        gi_wp2
        refine RoundIn.mono (F := Fence.wide.inRound l2) HR.out ?_
        rintro e X3 ⟨S', hg3, hf3, ⟨rfl, hi3⟩ | ⟨rfl, hi3⟩⟩
        · have hfin : ∃ S', Gr X (bb :: S2) S' ∧ Fr (bb :: S2) X X3 ∧ I S' ((pre ++ [x]).map (·.1)) X3 ∧ W.heap.size ∉ S' ∧ X3.cell? ⟨W.heap.size, 0, none⟩ = some (.func (.yield l) #[] #[]) :=
            ⟨S', hg3.mono (by simp +contextual), hf3.mono (by simp +contextual), by simpa using hi3, hg3.notMem hyl hnS, (hf3.cell (p := ⟨W.heap.size, 0, none⟩) hyl hnS).trans hy⟩
          have HF := Lib.hid hfin
          clear hfin hi3 hf3 hg3 hy k0 k1 k2
          gi_wp2
          exact HF.out
        · have hfin : ∃ S', Gr X (bb :: S2) S' ∧ Fr (bb :: S2) X X3 ∧ Ix S' ((pre ++ [x]).map (·.1)) X3 :=
            ⟨S', hg3.mono (by simp +contextual), hf3.mono (by simp +contextual), by simpa using hi3⟩
          have HF := Lib.hid hfin
          clear hfin hi3 hf3 hg3 hy k0 k1 k2
          gi_wp2
          obtain ⟨S9, g1, g2, g3⟩ := HF.out
          exact ⟨S9, g1, g2, rfl, g3⟩
      case done =>
        rintro D S' X hD hDS hg hf ⟨hi, hnS, hy⟩ hK
        rw [hzs] at hi
        have hfin : Hid ((∃ v, Ending.returned (.tuple #[]) = .returned v) ∧ ∃ S', Gr W S S' ∧ Fr S W (X.putObj D (.deferred none)) ∧ (I S' (heldTo L L.length) (X.putObj D (.deferred none)) ∨ ∃ pre x post, heldTo L L.length = pre ++ x :: post ∧ Ix S' (pre ++ [x]) (X.putObj D (.deferred none)))) :=
          ⟨⟨_, rfl⟩, S', hg.size hfx.size, ((hfx.mono (by simp)).trans' hf).putObj _ (.inr (by omega)), .inl (hII.out.put D _ hi (by omega) hDS)⟩
        have HKK := Lib.hid hK
        clear hK hi hy hg hf
        gi_wp2
        refine ⟨by simp, .inl ⟨_, _, rfl, run_takeDeferred HKK.out, ?_⟩⟩
        obtain ⟨_, S9, g1, g2, g3 | ⟨_, _, _, g3, g4⟩⟩ := hfin.out
        · exact ⟨_, results_none rfl _ _ _, ⟨_, rfl⟩, S9, g1, g2, .inl g3⟩
        · exact ⟨_, results_none rfl _ _ _, ⟨_, rfl⟩, S9, g1, g2, .inr ⟨_, _, ⟨_, g3⟩, g4⟩⟩
      case stop =>
        rintro D c S' pre x post X hD hDS hg hf hx ⟨rfl, hi⟩ hK
        have hx' : heldTo L L.length = pre.map (·.1) ++ x.1 :: post.map (·.1) := by
          rw [← hzs, hx]; simp
        have hfin : Hid ((∃ v, Ending.returned (.tuple #[]) = .returned v) ∧ ∃ S', Gr W S S' ∧ Fr S W (X.putObj D (.deferred none)) ∧ (I S' (heldTo L L.length) (X.putObj D (.deferred none)) ∨ ∃ pre x post, heldTo L L.length = pre ++ x :: post ∧ Ix S' (pre ++ [x]) (X.putObj D (.deferred none)))) :=
          ⟨⟨_, rfl⟩, S', hg.size hfx.size, ((hfx.mono (by simp)).trans' hf).putObj _ (.inr (by omega)), .inr ⟨_, _, _, hx', by simpa using hXX.out.put D (.deferred none) hi (by omega) hDS⟩⟩
        have HKK := Lib.hid hK
        clear hK hi hg hf hx hx'
        gi_wp2
        refine ⟨by simp, .inl ⟨_, _, rfl, run_takeDeferred HKK.out, ?_⟩⟩
        obtain ⟨_, S9, g1, g2, g3 | ⟨_, _, _, g3, g4⟩⟩ := hfin.out
        · exact ⟨_, results_none rfl _ _ _, ⟨_, rfl⟩, S9, g1, g2, .inl g3⟩
        · exact ⟨_, results_none rfl _ _ _, ⟨_, rfl⟩, S9, g1, g2, .inr ⟨_, _, ⟨_, g3⟩, g4⟩⟩
end Go.Proofs.Ytoodgjmgkjhpoaa
