/- Rings of *millrace/drr.flow: the contracts of their functions, third part: the list, what makes room, and what changes the ring. -/
import Derived.Test.YteojodcdehkejaaRingMQ
namespace Go.Proofs.Yteojodcdehkejaa
open Go Go.RowKit
attribute [local go_sem] calmQ_normal wide_fn wide_depth Oper.semAt_some

set_option maxHeartbeats 400000 in
theorem clip_q {w : World} {v : Value} {n : Nat} {ys : List Value} {S : List Nat} (h : OwnS w 89 1 v n ys S) (hn : n ≤ 1073741824) :
    Calls Try.prog 105 #[v] w fun e w' => ∃ v', e = .returned v' ∧ OwnS w 89 1 v' n ys S ∧ w' = w := by
  obtain ⟨hl, ⟨rfl, rfl, rfl⟩ | ⟨g, cap, cur, rfl, rfl, hg, hnc, hcm, hcs, ht⟩⟩ := h
  · go_enter Try.func105, Try.ntmps105
    go_wp2
    go_ret
    exact ⟨_, rfl, ⟨hl, .inl ⟨rfl, rfl, rfl⟩⟩, rfl⟩
  · have H : Hid (OwnS w 89 1 (.slice (some ⟨g, 0, none⟩) n n) n ys [g]) := ⟨hl, .inr ⟨g, n, cur, rfl, rfl, hg, Nat.le_refl _, by omega, by omega, ht⟩⟩
    clear hg hl ht hcs hcm
    go_enter Try.func105, Try.ntmps105
    go_wp2
    go_ret
    exact ⟨_, rfl, H.out, rfl⟩

theorem ownS_snoc_q {w : World} {v : Value} {pre : List ((Option Nat) × Nat)} {x : (Option Nat) × Nat} {S : List Nat} (h : OwnS w 89 1 v (pre.length + 1) ((pre.map (·.1)).flatMap encQ ++ [ptrV x.1]) S) :
    OwnS w 89 1 v (pre ++ [x]).length (((pre ++ [x]).map (·.1)).flatMap encQ) S := by
  simpa [encQ] using h

set_option maxHeartbeats 1000000 in
set_option maxRecDepth 100000 in
theorem list_q {w : World} {r : Nat} {ds : List Nat} {xs : List (Option Nat)} (h : Rgq w r ds xs) :
    Calls Try.prog 95 #[.pointer (some ⟨r, 0, none⟩)] w fun e w' => ∃ v S, e = .returned v ∧ OwnS w' 89 1 v xs.length (xs.flatMap encQ) S ∧ Gr w [] S ∧ Fr [] w w' := by
  obtain ⟨i0, hi, hz0, hz1, hz2⟩ := info_parts infoq
  have hlen : xs.length ≤ 1073741824 := by
    obtain ⟨L, head, sv, hb, hL, hrest⟩ := h
    rcases hrest with ⟨_, _, rfl, _⟩ | ⟨d, cs, _, _, _, _, hc⟩
    · simp
    · have := hc.room; omega
  refine callsIn_wide.1 (callsIn_of_wp_marks (n := 0) (F := Fence.wide) Try.func95 rfl trivial ?_ rfl)
  simp only [Try.ntmps95, List.size_toArray, List.length_cons, List.length_nil, Nat.reduceAdd, Nat.reduceSub, Array.replicate_succ, Array.replicate_zero, List.push_toArray, List.append_toArray, List.nil_append, List.cons_append]
  gi_wp2_with (gi_at_call 46; refine (wideIn _ (all_q _ r)).mono ?_; rintro e w' ⟨rfl, rfl⟩)
  have hseq : SeqF Try.prog 83 #[.pointer (some ⟨w.heap.size + 1, 0, none⟩)] entq xs.zipIdx ((w.alloc (.cells #[.slice none 0 0] 90)).alloc (.cells #[.pointer (some ⟨r, 0, none⟩)] 87)) :=
    seq_q ((h.alloc _).alloc _) (by simpa only [World.size_alloc, List.getElem?_cons_zero] using (Blk.new (w.alloc (.cells #[.slice none 0 0] 90)) 87 [.pointer (some ⟨r, 0, none⟩)]).cell 0)
  have hB0 : Blk ((w.alloc (.cells #[.slice none 0 0] 90)).alloc (.cells #[.pointer (some ⟨r, 0, none⟩)] 87)) w.heap.size 90 [.slice none 0 0] := (Blk.new w 90 [.slice none 0 0]).alloc _
  have hfw : Fr [] w ((w.alloc (.cells #[.slice none 0 0] 90)).alloc (.cells #[.pointer (some ⟨r, 0, none⟩)] 87)) := ((Fr.refl [] w).alloc _).alloc _
  have hzw : ((w.alloc (.cells #[.slice none 0 0] 90)).alloc (.cells #[.pointer (some ⟨r, 0, none⟩)] 87)).heap.size = w.heap.size + 2 := by simp
  clear h
  have hlocI : Loc (w.heap.size + 2) (fun S (pre : List ((Option Nat) × Nat)) W => ∃ v S1, S = w.heap.size :: S1 ∧ w.heap.size ∉ S1 ∧ Blk W w.heap.size 90 [v] ∧ OwnS W 89 1 v pre.length ((pre.map (·.1)).flatMap encQ) S1) := by
    intro S pre A B T ⟨v, S1, hS, hn, hb, ho⟩ f ht
    subst hS
    exact ⟨v, S1, rfl, hn, hb.fr f (fun hm => (ht _ hm).2 (by simp)), ho.fr f (fun b hb hm => (ht _ hm).2 (by simp [hb]))⟩
  obtain ⟨w1, hw1⟩ : ∃ w1, (w.alloc (.cells #[.slice none 0 0] 90)).alloc (.cells #[.pointer (some ⟨r, 0, none⟩)] 87) = w1 := ⟨_, rfl⟩
  rw [hw1] at hseq hB0 hfw hzw ⊢
  clear hw1
  refine wp_rangeF1 (gf := 83) (lb := #[.pointer (some ⟨w.heap.size + 1, 0, none⟩)]) rfl (enters_of Try.func83 (by kernel_rfl) rfl) hseq (fun _ => rfl)
    (fun S (pre : List ((Option Nat) × Nat)) W => ∃ v S1, S = w.heap.size :: S1 ∧ w.heap.size ∉ S1 ∧ Blk W w.heap.size 90 [v] ∧ OwnS W 89 1 v pre.length ((pre.map (·.1)).flatMap encQ) S1)
    (fun _ _ _ _ => False) [w.heap.size] (by simp; omega) (by rw [hzw]; exact hlocI) (fun _ _ _ _ _ _ h _ _ => h) ⟨_, [], rfl, by simp, hB0, OwnS.nil _ _ _⟩
    ?asg ?assign ?body ?done ?stop
  case assign =>
    intro l x W K hK
    simp only [entq]
    gi_wp2
    exact hK
  case body =>
    rintro l pre x post S1 W hx hz hg hf hl hnl hr ⟨v, S2, rfl, hnS, hb, ho⟩
    have hpl : pre.length < xs.length := by
      have := congrArg List.length hx
      simp at this
      omega
    have hc0 : W.cell? ⟨w.heap.size, 0, none⟩ = some v := by simpa using hb.cell 0
    have hf0 := hb.frz 0
    have hlt := hb.lt
    have HX := Lib.hid hx
    clear hx hr
    gi_wp2_with (gi_at_builtin; refine wpListIn_append_S _ rfl (.tmp 10) (.tmp 12) 90 rfl 89 i0 (ptrV none) 1 8 Try.underlying90 hi hz0 hz1 hz2 rfl _ _ _ _ rfl ((ho.alloc _ : OwnS (W.alloc _) _ _ _ _ _ _)) ⟨W.heap.size, 0, none⟩ 1 1 [ptrV x.1] rfl rfl ?c1 ?c2 ?c3 ?c4 ?_)
    case c1 => intro k u hk; match k, hk with | 0, hk => simp at hk; subst hk; simp [Addr.add]
    case c2 => intro u hu; simp at hu; subst hu; rfl
    case c3 => unfold maxLen; omega
    case c4 => omega
    intro v' w2 S' hown' hgr' hfr'
    obtain ⟨g', cap', hv', hS'⟩ := hown'.head (by omega)
    have hfa : Fr [] W (W.alloc (.cells #[ptrV x.1] 89)) := (Fr.refl _ _).alloc _
    have hbA : Blk w2 w.heap.size 90 [v] := (hb.alloc _).fr hfr' hnS
    have hca : w2.cell? ⟨w.heap.size, 0, none⟩ = some v := by simpa using hbA.cell 0
    have hfza := hbA.frz 0
    have hsz2 := hfr'.size
    have hlt2 := hbA.lt
    have hbset := hbA.set 0 v'
    have hnS' : w.heap.size ∉ S' := hgr'.notMem (by simp; omega) hnS
    have hfin : postF (fun S (pre : List ((Option Nat) × Nat)) W => ∃ v S1, S = w.heap.size :: S1 ∧ w.heap.size ∉ S1 ∧ Blk W w.heap.size 90 [v] ∧ OwnS W 89 1 v pre.length ((pre.map (·.1)).flatMap encQ) S1) (fun _ _ _ _ => False) (w.heap.size :: S2) (pre ++ [x]) W .normal ⟨#[], []⟩ (w2.setCell ⟨w.heap.size, 0, none⟩ v') := by
      refine ⟨w.heap.size :: S', Gr.cons _ (hgr'.size (by simp)), ?_, v', S', rfl, hnS', by simpa using hbset, ?_⟩
      · exact ((hfa.mono (T := w.heap.size :: S2) (by simp)).trans (Gr.of_sub (by simp)) (hfr'.mono (T := w.heap.size :: S2) (by intro b hb; simp [hb]))).setCell _ (.inl (by simp))
      · exact ownS_snoc_q (hown'.fr ((Fr.refl [w.heap.size] w2).setCell v' (.inl (by simp))) (by intro b hb hm; simp at hm; subst hm; exact hnS' hb))
    have HF := Lib.hid hfin
    clear hfin hbset hown' hgr' hfr' hbA ho hb
    subst hv'
    gi_wp2
    exact HF.out
  case stop => intro _ _ _ _ _ _ _ _ _ _ _ _ h _; exact h.elim
  case done =>
    rintro D S' W hD hDS hg hf ⟨v, S1, rfl, hnS, hb, ho⟩ hK
    have hc0 : W.cell? ⟨w.heap.size, 0, none⟩ = some v := by simpa using hb.cell 0
    rw [show (xs.zipIdx.map (·.1)) = xs from by simp, List.length_zipIdx] at ho
    have HO := Lib.hid ho
    have HKK := Lib.hid hK
    clear ho hK
    gi_wp2_with (gi_at_call 105; refine (wideIn _ (clip_q HO.out hlen)).mono ?_; rintro e w' ⟨v', rfl, ho', rfl⟩)
    refine ⟨by simp, .inl ⟨_, _, rfl, run_takeDeferred HKK.out, ?_⟩⟩
    refine ⟨_, results_tmp rfl _ _ _, v', S1, rfl, ho'.fr ((Fr.refl [D] _).putObj _ (.inl (by simp))) (by intro b hb hm; simp at hm; subst hm; exact hDS (by simp [hb])), ?_, ?_⟩
    · intro b hb
      rcases hg b (by simp [hb]) with h | h
      · simp at h; right; omega
      · right; omega
    · exact (hfw.trans (fun b hb => by simp at hb; right; omega) hf).putObj _ (.inr (by omega))

/-! ### what makes room -/
set_option maxHeartbeats 400000 in
theorem wider_no_q {w : World} {r d L head : Nat} {xs : List (Option Nat)} (h : Rcq w r d L head xs) (hn : xs.length < L) :
    Calls Try.prog 69 #[.pointer (some ⟨r, 0, none⟩)] w fun e w' => e = .returned (.tuple #[]) ∧ ∃ n, w' = w.drewN n := by
  obtain ⟨cs, hb, hL, hd, hbd, hc⟩ := h
  have h0 := hb.cell 0
  have h2 := hb.cell 2
  simp at h0 h2
  clear hb hbd hc
  go_enter Try.func69, Try.ntmps69
  go_wp2
  go_quiet (fail)
  go_wp2
  refine bodyPost_ret (results_none rfl _ _ _) rfl ?_
  exact ⟨rfl, _, rfl⟩
set_option maxRecDepth 100000 in
set_option maxHeartbeats 1000000 in
theorem wider_yes_q {w : World} {r : Nat} {ds : List Nat} {xs : List (Option Nat)} (h : Rgq w r ds xs) (hn : ∀ d L head, ds = [d] → Rcq w r d L head xs → L ≤ xs.length) (hx : xs.length ≤ 268435456) :
    Calls Try.prog 69 #[.pointer (some ⟨r, 0, none⟩)] w fun e w' => e = .returned (.tuple #[]) ∧ ∃ d, Rcq w' r d (2 * xs.length + 4) 0 xs ∧ w.heap.size ≤ d ∧ Fr [r] w w' := by
  obtain ⟨i0, hi, hz0, hz1, hz2⟩ := info_parts infoq
  have H := Lib.hid h
  obtain ⟨L, head, sv, hb, hL, hrest⟩ := h
  have h0 := hb.cell 0
  have h1 := hb.cell 1
  have h2 := hb.cell 2
  simp at h0 h1 h2
  have hrw := hb.lt
  obtain ⟨ao, hsv, hLn⟩ : ∃ ao, sv = .slice ao L L ∧ L ≤ xs.length := by
    rcases hrest with ⟨rfl, _, rfl, _, rfl⟩ | ⟨d, cs, rfl, hd, rfl, hbd, hc⟩
    · exact ⟨_, rfl, by simp⟩
    · exact ⟨_, rfl, hn d L head rfl ⟨cs, hb, hL, hd, hbd, hc⟩⟩
  subst hsv
  clear hb hrest hn
  go_enter Try.func69, Try.ntmps69
  go_wp2
  go_quiet (fail)
  go_wp2_with (at_make; refine wpList_make_S _ rfl _ _ 90 rfl 89 i0 (ptrV none) 1 8 Try.underlying90 hi hz0 hz1 hz2 .i64 .i64 _ _ (2 * xs.length + 4) rfl rfl (by simp) (by simp) (by omega) (by omega) ?_; intro w1 zs hbz hzl hf1 hs1 _)
  have hf1' : Fr [] w w1 := ((Fr.refl [] w).drewN nq).trans' hf1
  have hbz' : Blk w1 w.heap.size 89 zs := hbz
  have hs1' : w1.heap.size = w.heap.size + 1 := hs1
  clear hf1 hbz hs1
  refine (list_q (H.out.fr hf1' (by simp))).mono ?_
  rintro e w2 ⟨v, S, rfl, hov, hgv, hf2⟩
  have hbz2 : Blk w2 w.heap.size 89 zs := hbz'.fr hf2 (by simp)
  have HZ := Lib.hid hzl
  have HO := Lib.hid hov
  have HB := Lib.hid hbz2
  clear hzl hov hbz2 hbz'
  go_wp2_with (with_reducible refine wpList_copy_S _ rfl (.tmp 20) (.tmp 22) 90 90 rfl 89 i0 1 Try.underlying90 hi hz1 w.heap.size (2 * xs.length + 4) (2 * xs.length + 4) 89 zs rfl HB.out v xs.length (xs.flatMap encQ) S rfl HO.out ?c1 ?c2 ?c3 ?_)
  case c1 => omega
  case c2 => have := HZ.out; omega
  case c3 => intro u hu; simp [encQ] at hu; obtain ⟨x, _, rfl⟩ := hu; rfl
  intro w3 cs3 hb3 hl3 ht3 hf3
  have HL3 := Lib.hid hl3
  have HT3 := Lib.hid ht3
  clear hl3 ht3
  have hf12 : Fr [] w w2 := hf1'.trans' hf2
  have hf13 : Fr [w.heap.size] w w3 := (hf12.mono (by simp)).trans' hf3
  have hf13' : Fr [] w w3 := hf13.mono' (fun b hb => by simp at hb; right; omega)
  obtain ⟨L', head', sv', hbr, hL', _⟩ := H.out
  have hbr3 : Blk w3 r 132 [sv', .int .i64 head', .int .i64 xs.length] := hbr.fr hf13' (by simp)
  have h30 := hbr3.cell 0
  have h31 := hbr3.cell 1
  simp at h30 h31
  have f30 := hbr3.frz 0
  have f31 := hbr3.frz 1
  have hset := (hbr3.set 0 (.slice (some ⟨w.heap.size, 0, none⟩) (2 * xs.length + 4) (2 * xs.length + 4))).set 1 (.int .i64 0)
  have hb3' := ((hb3.other (p := ⟨r, 0, none⟩) (.slice (some ⟨w.heap.size, 0, none⟩) (2 * xs.length + 4) (2 * xs.length + 4)) (by show w.heap.size ≠ r; omega)).other (p := ⟨r, 1, none⟩) (.int .i64 0) (by show w.heap.size ≠ r; omega))
  have hfin : Rcq ((w3.setCell ⟨r, 0, none⟩ (.slice (some ⟨w.heap.size, 0, none⟩) (2 * xs.length + 4) (2 * xs.length + 4))).setCell ⟨r, 1, none⟩ (.int .i64 0)) r w.heap.size (2 * xs.length + 4) 0 xs := by
    refine ⟨_, by simpa using hset, by omega, by omega, hb3', Cyc.straight (by omega) (by omega) ?_ enc_len_q ?_⟩
    · rw [HL3.out, HZ.out]
    · simpa using HT3.out
  have hfr : Fr [r] w ((w3.setCell ⟨r, 0, none⟩ (.slice (some ⟨w.heap.size, 0, none⟩) (2 * xs.length + 4) (2 * xs.length + 4))).setCell ⟨r, 1, none⟩ (.int .i64 0)) :=
    ((hf13'.mono (by simp)).setCell _ (.inl (by simp))).setCell _ (.inl (by simp))
  have HF : Hid (Rcq ((w3.setCell ⟨r, 0, none⟩ (.slice (some ⟨w.heap.size, 0, none⟩) (2 * xs.length + 4) (2 * xs.length + 4))).setCell ⟨r, 1, none⟩ (.int .i64 0)) r w.heap.size (2 * xs.length + 4) 0 xs ∧ Fr [r] w ((w3.setCell ⟨r, 0, none⟩ (.slice (some ⟨w.heap.size, 0, none⟩) (2 * xs.length + 4) (2 * xs.length + 4))).setCell ⟨r, 1, none⟩ (.int .i64 0))) := ⟨hfin, hfr⟩
  clear hfin hfr hset hb3' hbr3 hbr hf13 hf13' hf12 hf3 hb3 hf2 hf1'
  go_wp2
  go_end0
  exact ⟨rfl, _, HF.out.1, Nat.le_refl _, HF.out.2⟩
theorem wider_q {w : World} {r : Nat} {ds : List Nat} {xs : List (Option Nat)} (h : Rgq w r ds xs) (hx : xs.length ≤ 268435456) :
    Calls Try.prog 69 #[.pointer (some ⟨r, 0, none⟩)] w fun e w' => e = .returned (.tuple #[]) ∧ ∃ d L head, Rcq w' r d L head xs ∧ xs.length < L ∧ Fr [r] w w' ∧ Gr w ds [d] := by
  by_cases hr : ∃ d L head, ds = [d] ∧ Rcq w r d L head xs ∧ xs.length < L
  · obtain ⟨d, L, head, rfl, hc, hl⟩ := hr
    refine (wider_no_q hc hl).mono ?_
    rintro e w' ⟨he, n, rfl⟩
    exact ⟨he, d, L, head, hc, hl, (Fr.refl _ _).drewN n, Gr.refl _ _⟩
  · refine (wider_yes_q h (fun d L head hd hc => ?_) hx).mono ?_
    · rcases Nat.lt_or_ge xs.length L with h' | h'
      · exact absurd ⟨d, L, head, hd, hc, h'⟩ hr
      · exact h'
    · rintro e w' ⟨he, d, hc, hd, hf⟩
      exact ⟨he, d, _, _, hc, by omega, hf, fun b hb => by simp at hb; subst hb; exact .inr hd⟩
end Go.Proofs.Yteojodcdehkejaa
