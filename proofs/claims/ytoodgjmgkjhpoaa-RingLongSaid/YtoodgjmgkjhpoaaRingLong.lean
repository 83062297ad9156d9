/- The statement RingLong: the walk: of whatever numbers it answers true. -/
import Derived.Test.YtoodgjmgkjhpoaaRingTold
import Derived.Sort.LoopGhostIn
namespace Go.Proofs.Ytoodgjmgkjhpoaa
open Go Go.RowKit
attribute [local go_sem] calmQ_normal wide_fn wide_depth Oper.semAt_some

def seqI (lo : Int) (n : Nat) : List Int := (List.range n).map fun i : Nat => lo + (i : Int)
theorem seqI_len (lo : Int) (n : Nat) : (seqI lo n).length = n := by simp [seqI]
theorem seqI_snoc (lo : Int) (n : Nat) : seqI lo (n + 1) = seqI lo n ++ [lo + n] := by simp [seqI, List.range_succ]
theorem seqI_cons (lo : Int) (n : Nat) : seqI lo (n + 1) = lo :: seqI (lo + 1) n := by
  unfold seqI
  rw [List.range_succ_eq_map]
  simp only [List.map_cons, List.map_map]
  congr 1
  · simp
  · refine List.map_congr_left fun i _ => ?_
    simp only [Function.comp]
    omega
theorem seqI_at (lo : Int) {n k : Nat} (hk : k < n) : (seqI lo n)[k]? = some (lo + k) := by simp [seqI, hk]

structure LP (w wr : World) (rc r lb : Nat) (ds : List Nat) (xs : List Int) (lo : Int) : Prop where
  ring : Rgi wr r ds xs
  hrc : Blk wr rc 4 [.bool false]
  hlb : Blk wr lb 3 [.int .i64 lo]
  new : ∀ x, x ∈ rc :: lb :: r :: ds → w.heap.size ≤ x
  sep : rc ∉ r :: ds ∧ lb ∉ r :: ds ∧ rc ≠ lb
  fr : Fr [] w wr
section
variable {w wr w' : World} {rc r lb : Nat} {ds ds' : List Nat} {xs xs' : List Int} {lo : Int}
theorem LP.step (h : LP w wr rc r lb ds xs lo) (k : Rgi w' r ds' xs') (f : Fr (r :: ds) wr w') (g : Gr wr ds ds') : LP w w' rc r lb ds' xs' lo := by
  have hz := h.fr.size
  have l1 := h.hrc.lt
  have l2 := h.hlb.lt
  obtain ⟨s1, s2, s3⟩ := h.sep
  have hr := h.ring.lt r (by simp)
  have hn : ∀ x, x ∈ ds' → x ∈ ds ∨ wr.heap.size ≤ x := g
  refine ⟨k, h.hrc.fr f s1, h.hlb.fr f s2, fun x hx => ?_, ⟨?_, ?_, s3⟩, h.fr.trans (fun x hx => .inr (h.new x (by simp at hx ⊢; right; right; exact hx))) f⟩
  · simp only [List.mem_cons] at hx
    rcases hx with hx | hx | hx | hx
    · exact h.new x (by simp [hx])
    · exact h.new x (by simp [hx])
    · exact h.new x (by simp [hx])
    · rcases hn x hx with h' | h'
      · exact h.new x (by simp [h'])
      · omega
  · intro hm
    simp only [List.mem_cons, not_or] at hm s1
    rcases hm with hm | hm
    · exact s1.1 hm
    · rcases hn _ hm with h' | h'
      · exact s1.2 h'
      · omega
  · intro hm
    simp only [List.mem_cons, not_or] at hm s2
    rcases hm with hm | hm
    · exact s2.1 hm
    · rcases hn _ hm with h' | h'
      · exact s2.2 h'
      · omega
theorem LP.fr0 (h : LP w wr rc r lb ds xs lo) (f : Fr [] wr w') : LP w w' rc r lb ds xs lo :=
  ⟨h.ring.fr f (by simp), h.hrc.fr f (by simp), h.hlb.fr f (by simp), h.new, h.sep, h.fr.trans' f⟩
theorem LP.low (h : LP w wr rc r lb ds xs lo) (v : Int) : LP w (wr.setCell ⟨lb, 0, none⟩ (.int .i64 v)) rc r lb ds xs v := by
  have f : Fr [lb] wr (wr.setCell ⟨lb, 0, none⟩ (.int .i64 v)) := (Fr.refl _ _).setCell _ (.inl (by simp))
  obtain ⟨s1, s2, s3⟩ := h.sep
  have := h.hlb.set 0 (.int .i64 v)
  refine ⟨h.ring.fr f (fun x hx hm => s2 (by simp at hm; subst hm; exact hx)), h.hrc.fr f (by simpa using s3), by simpa using this, h.new, h.sep, h.fr.trans (fun x hx => .inr (h.new x (by simp at hx; simp [hx]))) f⟩
end

set_option maxRecDepth 100000 in
set_option maxHeartbeats 4000000 in
theorem long_walk (w : World) (a0 a1 : Int) (_w0 : (Lit.int .i64 a0).wf = true) (_w1 : (Lit.int .i64 a1).wf = true) :
    Calls Try.prog 5 #[.int .i64 a0, .int .i64 a1] w fun e w' => e = .returned (.bool true) ∧ Fr [] w w' := by
  obtain ⟨M, hM, hM0⟩ : ∃ M : Int, (if a0 < 0 then (0 : Int) else a0) = M ∧ 0 ≤ M := by
    by_cases h : a0 < 0
    · exact ⟨0, by simp [h], by omega⟩
    · exact ⟨a0, by simp [h], by omega⟩
  refine callsIn_wide.1 (callsIn_of_wp_marks (n := 0) (F := Fence.wide) Try.func5 rfl trivial ?_ rfl)
  simp only [Try.ntmps5, List.size_toArray, List.length_cons, List.length_nil, Nat.reduceAdd, Nat.reduceSub, Array.replicate_succ, Array.replicate_zero, List.push_toArray, List.append_toArray, List.nil_append, List.cons_append]
  have hdec : M ≤ 65536 ∨ 65536 < M := by omega
  rcases hdec with hdec | hdec
  case' inl =>
    gi_wp2_with fail
    obtain ⟨N, hN, hN2⟩ : ∃ N : Nat, M = (N : Int) ∧ N ≤ 65536 := ⟨M.toNat, by omega, by omega⟩
  case' inr =>
    gi_wp2_with fail
    obtain ⟨N, hN, hN2⟩ : ∃ N : Nat, (65536 : Int) = (N : Int) ∧ N ≤ 65536 := ⟨65536, rfl, by omega⟩
  all_goals
    rw [hN]
    clear hN hdec hM hM0
    refine (wideIn _ (new_i _)).mono ?_
    rintro e w1 ⟨rfl, h1, f1, hz1⟩
    simp only [World.size_alloc] at h1 hz1 ⊢
    gi_wp2_with fail
    refine (wideIn _ (told4 w1)).mono ?_
    rintro e w2 ⟨rfl, f2⟩
    have hz2 := f2.size
    have L0 : Hid (LP w (w2.alloc (.cells #[.int .i64 0] 3)) w.heap.size (w.heap.size + 1) w2.heap.size [] (seqI 0 0) 0) := by
      have hf : Fr [] w (w2.alloc (.cells #[.int .i64 0] 3)) := ((((Fr.refl [] w).alloc _).trans' f1).trans' f2).alloc _
      exact ⟨(h1.fr f2 (by simp)).alloc _, (((Blk.new w 4 [.bool false]).fr f1 (by simp)).fr f2 (by simp)).alloc _, Blk.new w2 3 [.int .i64 0], by simp; omega, by simp; omega, hf⟩
    clear h1 f1 f2
    gi_wp2_with fail
    gi_loopg [7, 8] (N + 1) (fun k hv iv wr => ∃ (i n : Nat) (lo hi : Int) (ds : List Nat), k + i = N + 1 ∧ iv = .int .i64 i ∧ hv = .int .i64 hi ∧ i ≤ N ∧ n ≤ i ∧ -(i : Int) ≤ lo ∧ lo ≤ (i : Int) ∧ Hid (hi = lo + n) ∧ Hid (LP w wr w.heap.size (w.heap.size + 1) w2.heap.size ds (seqI lo n) lo))
    case atStart => exact ⟨0, 0, 0, 0, [], by omega, rfl, rfl, by omega, by omega, by omega, by omega, rfl, L0⟩
    case round =>
      obtain ⟨i, n, lo, hi, ds, hk, rfl, rfl, hiN, hni, hlo1, hlo2, hE, hL⟩ := hrel
      have hb1 : -(N : Int) ≤ hi := by have := hE.out; omega
      have hb2 : hi ≤ 2 * (N : Int) := by have := hE.out; omega
      have c0 := hL.out.hlb.cell 0
      have q0 := hL.out.hlb.frz 0
      have c1 := hL.out.hrc.cell 0
      have q1 := hL.out.hrc.frz 0
      have l1 := hL.out.hrc.lt
      have l2 := hL.out.hlb.lt
      simp only [List.getElem?_cons_zero] at c0 c1
      clear L0
      by_cases hin : i < N
      · have hpar : (((i : Int) % 2) == 0) = true ∨ (((i : Int) % 2) == 0) = false := by cases ((i : Int) % 2) == 0 <;> simp
        rcases hpar with hpar | hpar
        case' inl =>
          gi_wp2_with fail
          refine (wideIn _ (pushB_i hL.out.ring (by rw [seqI_len]; omega) hi)).mono ?_
          rintro e w3 ⟨rfl, ds', h3, f3, g3⟩
          obtain ⟨lo', ds3, hb3, hb4, L3, E3⟩ : ∃ lo' ds3, -(i : Int) - 1 ≤ lo' ∧ lo' ≤ i ∧ Hid (LP w w3 w.heap.size (w.heap.size + 1) w2.heap.size ds3 (seqI lo' (n + 1)) lo') ∧ Hid (hi + 1 = lo' + ((n + 1 : Nat) : Int)) := by
            refine ⟨lo, ds', by omega, by omega, ?_, by have := hE.out; unfold Hid; omega⟩
            rw [seqI_snoc, ← hE.out]
            exact hL.out.step h3 f3 g3
          clear h3 f3 g3 c0 q0 c1 q1
        case' inr =>
          have hL1 := Lib.hid (hL.out.low (lo - 1))
          gi_wp2_with fail
          refine (wideIn _ (pushF_i hL1.out.ring (by rw [seqI_len]; omega) (lo - 1))).mono ?_
          rintro e w3 ⟨rfl, ds', h3, f3, g3⟩
          obtain ⟨lo', ds3, hb3, hb4, L3, E3⟩ : ∃ lo' ds3, -(i : Int) - 1 ≤ lo' ∧ lo' ≤ i ∧ Hid (LP w w3 w.heap.size (w.heap.size + 1) w2.heap.size ds3 (seqI lo' (n + 1)) lo') ∧ Hid (hi = lo' + ((n + 1 : Nat) : Int)) := by
            refine ⟨lo - 1, ds', by omega, by omega, ?_, by have := hE.out; unfold Hid; omega⟩
            have h4 := hL1.out.step h3 f3 g3
            rw [seqI_cons, show lo - 1 + 1 = lo from by omega]
            exact h4
          clear h3 f3 g3 c0 q0 c1 q1 hL1
        all_goals
          clear hE hL hpar
          have c0 := L3.out.hlb.cell 0
          have l1 := L3.out.hrc.lt
          have l2 := L3.out.hlb.lt
          simp only [List.getElem?_cons_zero] at c0
          obtain ⟨rr, hrr, hrr2⟩ : ∃ rr : Nat, bits .and .i64 a1 15 = (rr : Int) ∧ rr ≤ 15 := and_range a1 15 (by omega)
          have hpop : a1 ≤ 0 ∨ (0 < a1 ∧ (((i : Int) % ((rr : Int) + 2)) == 0) = false) ∨ (0 < a1 ∧ (((i : Int) % ((rr : Int) + 2)) == 0) = true) := by
            by_cases ha : a1 ≤ 0
            · exact .inl ha
            · cases hm : ((i : Int) % ((rr : Int) + 2)) == 0
              · exact .inr (.inl ⟨by omega, rfl⟩)
              · exact .inr (.inr ⟨by omega, rfl⟩)
          rcases hpop with hpop | ⟨hpop, hmod⟩ | ⟨hpop, hmod⟩
          · gi_wp2_with fail
            gi_roundg (gk - 1)
            case measure => omega
            case rel => exact ⟨i + 1, n + 1, lo', _, ds3, by omega, by go_num, rfl, by omega, by omega, by omega, by omega, E3, L3⟩
          · gi_wp2_with fail
            gi_roundg (gk - 1)
            case measure => omega
            case rel => exact ⟨i + 1, n + 1, lo', _, ds3, by omega, by go_num, rfl, by omega, by omega, by omega, by omega, E3, L3⟩
          · gi_wp2_with fail
            have L3' := L3
            rw [seqI_cons] at L3'
            refine (wideIn _ (popF_i L3'.out.ring)).mono ?_
            rintro e w5 ⟨rfl, h5, f5⟩
            have L5 := Lib.hid (L3'.out.step h5 f5 (Gr.refl _ _))
            clear h5 f5 L3' c0
            have c0 := L5.out.hlb.cell 0
            have q0 := L5.out.hlb.frz 0
            have l1 := L5.out.hrc.lt
            have l2 := L5.out.hlb.lt
            simp only [List.getElem?_cons_zero] at c0
            have L6 := Lib.hid (L5.out.low (lo' + 1))
            gi_wp2_with fail
            gi_roundg (gk - 1)
            case measure => omega
            case rel => exact ⟨i + 1, n, lo' + 1, _, ds3, by omega, by go_num, rfl, by omega, by omega, by omega, by omega, by have := E3.out; unfold Hid; omega, L6⟩
      · obtain rfl : i = N := by omega
        have heq : hi - lo = (n : Int) := by have := hE.out; omega
        have hLen := Lib.hid (show ∀ q, Calls Try.prog 25 #[.pointer (some ⟨w.heap.size + 1, 0, none⟩)] (wr.drewN q) fun e w' => e = .returned (.int .i64 (n : Nat)) ∧ w' = wr.drewN q from fun q => by have := len_i (hL.out.ring.drewN q); rw [seqI_len] at this; exact this)
        gi_wp2_with fail
        gi_quiet ((gi_at_call 25; exact CallsIn.quiet_of_same (wideIn _ (hLen.out _))))
        have hL2 := Lib.hid (hL.out.fr0 ((Fr.refl [] wr).drewN nq))
        obtain ⟨st, hst, hst2⟩ : ∃ st : Nat, (n : Int) / 50 = (st : Int) ∧ st ≤ 65536 := ⟨n / 50, by omega, by omega⟩
        clear hL c0 c1 q0 q1 l1 l2
        gi_wp2_with fail
        gi_loopg [11] (n + 70000) (fun k iv wl => ∃ q : Nat, k + q = n + 70000 ∧ q ≤ n + 66000 ∧ iv = .int .i64 q ∧ Hid (LP w wl w.heap.size (w.heap.size + 1) w2.heap.size ds (seqI lo n) lo))
        case atStart => exact ⟨0, by omega, by omega, rfl, hL2⟩
        case round =>
          obtain ⟨q, hkq, hq, rfl, hQ⟩ := hrel
          clear hL2
          have c0 := hQ.out.hlb.cell 0
          have q0 := hQ.out.hlb.frz 0
          have c1 := hQ.out.hrc.cell 0
          have q1 := hQ.out.hrc.frz 0
          have l1 := hQ.out.hrc.lt
          have l2 := hQ.out.hlb.lt
          simp only [List.getElem?_cons_zero] at c0 c1
          by_cases hqn : q < n
          · gi_wp2_with fail
            refine (wideIn _ (at_yes_i hQ.out.ring (seqI_at lo hqn))).mono ?_
            rintro e w5 ⟨rfl, q5, rfl⟩
            have hQ5 := Lib.hid (hQ.out.fr0 ((Fr.refl [] wr).drewN q5))
            gi_wp2_with fail
            gi_roundg (n + 70000 - q - 1 - st)
            case measure => omega
            case rel => exact ⟨q + (1 + st), by omega, by omega, by go_num, hQ5⟩
          · gi_wp2_with (gi_at_call 27; refine (wideIn _ (all_i _ (w.heap.size + 1))).mono ?_; rintro e w' ⟨rfl, rfl⟩)
            have hz := hQ.out.fr.size
            have hseq : SeqF Try.prog 66 #[.pointer (some ⟨wr.heap.size + 1, 0, none⟩)] enti (seqI lo n).zipIdx ((wr.alloc (.cells #[.int .i64 0] 3)).alloc (.cells #[.pointer (some ⟨w.heap.size + 1, 0, none⟩)] 47)) :=
              seq_i ((hQ.out.ring.alloc _).alloc _) (by simpa only [World.size_alloc, List.getElem?_cons_zero] using (Blk.new (wr.alloc (.cells #[.int .i64 0] 3)) 47 [.pointer (some ⟨w.heap.size + 1, 0, none⟩)]).cell 0)
            have hB0 : Blk ((wr.alloc (.cells #[.int .i64 0] 3)).alloc (.cells #[.pointer (some ⟨w.heap.size + 1, 0, none⟩)] 47)) wr.heap.size 3 [.int .i64 (0 : Nat)] := (Blk.new wr 3 [.int .i64 0]).alloc _
            have hQ1 := Lib.hid ((hQ.out.fr0 ((Fr.refl [] wr).alloc (.cells #[.int .i64 0] 3))).fr0 ((Fr.refl [] _).alloc (.cells #[.pointer (some ⟨w.heap.size + 1, 0, none⟩)] 47)))
            have hzw : ((wr.alloc (.cells #[.int .i64 0] 3)).alloc (.cells #[.pointer (some ⟨w.heap.size + 1, 0, none⟩)] 47)).heap.size = wr.heap.size + 2 := by simp
            obtain ⟨kb, hkb⟩ : ∃ kb, wr.heap.size = kb := ⟨_, rfl⟩
            obtain ⟨W1, hW1⟩ : ∃ W1, (wr.alloc (.cells #[.int .i64 0] 3)).alloc (.cells #[.pointer (some ⟨w.heap.size + 1, 0, none⟩)] 47) = W1 := ⟨_, rfl⟩
            rw [hW1] at hseq hB0 hQ1 hzw ⊢
            rw [hkb] at hseq hB0 hzw l1 l2 hz ⊢
            clear hW1 hQ c0 c1 q0 q1 hkb
            have hlocI : Loc W1.heap.size (fun S (pre : List (Int × Nat)) W => S = [kb] ∧ Blk W kb 3 [.int .i64 (pre.length : Nat)]) := by
              intro S pre A B T ⟨hS, hb⟩ f ht
              subst hS
              exact ⟨rfl, hb.fr f (fun hm => (ht _ hm).2 (by simp))⟩
            refine wp_rangeF1 (gf := 66) (lb := #[.pointer (some ⟨kb + 1, 0, none⟩)]) rfl (enters_of Try.func66 (by kernel_rfl) rfl) hseq (fun _ => rfl)
              (fun S (pre : List (Int × Nat)) W => S = [kb] ∧ Blk W kb 3 [.int .i64 (pre.length : Nat)]) (fun _ _ _ _ => False) [kb] (by simp; omega) hlocI (fun _ _ _ _ _ _ h _ _ => h) ⟨rfl, hB0⟩
              ?_ ?assign ?body ?done ?stop
            case assign =>
              intro l x W K hK
              simp only [enti]
              gi_wp2
              exact hK
            case body =>
              rintro l pre x post S1 W hx hzW hg hf hl hnl hr ⟨rfl, hb⟩
              have hpl : pre.length < n := by
                have := congrArg List.length hx
                simp [seqI_len] at this
                omega
              obtain rfl : x = (lo + (pre.length : Int), pre.length) := by
                have h1 : (seqI lo n).zipIdx[pre.length]? = some x := by rw [hx]; simp
                rw [List.getElem?_zipIdx, seqI_at lo hpl] at h1
                simp at h1
                exact h1.symm
              have hP := Lib.hid (hQ1.out.hlb.fr hf (by simp; omega))
              have c0 := hP.out.cell 0
              have d0 := hb.cell 0
              have d1 := hb.frz 0
              have l3 := hb.lt
              have l4 := hP.out.lt
              simp only [List.getElem?_cons_zero] at c0 d0
              have hfin : postF (fun S (pre : List (Int × Nat)) W => S = [kb] ∧ Blk W kb 3 [.int .i64 (pre.length : Nat)]) (fun _ _ _ _ => False) [kb] (pre ++ [(lo + (pre.length : Int), pre.length)]) W .normal ⟨#[], []⟩ (W.setCell ⟨kb, 0, none⟩ (.int .i64 ((pre.length : Int) + 1))) := by
                refine ⟨[kb], Gr.refl _ _, (Fr.refl _ _).setCell _ (.inl (by simp)), rfl, ?_⟩
                have := hb.set 0 (.int .i64 ((pre.length : Int) + 1))
                simpa using this
              have HF := Lib.hid hfin
              clear hfin hx hr hb hf hg
              gi_wp2
              exact HF.out
            case stop => intro _ _ _ _ _ _ _ _ _ _ _ _ h _; exact h.elim
            case done =>
              rintro D S' W hD hDS hg hf ⟨rfl, hb⟩ hK
              rw [List.length_zipIdx, seqI_len] at hb
              have hP := Lib.hid (hQ1.out.hlb.fr hf (by simp; omega))
              have hP2 := Lib.hid (hQ1.out.hrc.fr hf (by simp; omega))
              have c0 := hP.out.cell 0
              have c1 := hP2.out.cell 0
              have q1 := hP2.out.frz 0
              have d0 := hb.cell 0
              have l3 := hb.lt
              have l4 := hP.out.lt
              have l5 := hP2.out.lt
              simp only [List.getElem?_cons_zero] at c0 c1 d0
              have HKK := Lib.hid hK
              have HF := Lib.hid hf
              clear hK hf
              gi_wp2_with fail
              have hK' : (W.setCell ⟨w.heap.size, 0, none⟩ (.bool true)).heap[D]? = some (.deferred (some [])) := (Below.heap_setCell W _ _ D (by simp; omega)).trans HKK.out
              have hr : (W.setCell ⟨w.heap.size, 0, none⟩ (.bool true)).cell? ⟨w.heap.size, 0, none⟩ = some (.bool true) := by
                have := (hP2.out.set 0 (.bool true)).cell 0
                simpa using this
              refine ⟨by simp, .inl ⟨_, _, rfl, run_takeDeferred hK', ?_⟩⟩
              have hr2 : ((W.setCell ⟨w.heap.size, 0, none⟩ (.bool true)).putObj D (.deferred none)).cell? ⟨w.heap.size, 0, none⟩ = some (.bool true) :=
                ((Fr.refl [D] _).putObj _ (.inl (by simp))).cell (p := ⟨w.heap.size, 0, none⟩) (by simpa using l5) (by simp; omega) |>.trans hr
              refine ⟨.bool true, by simp [results, Try.results5, go_sem, hr2], rfl, ?_⟩
              have hkbw : w.heap.size ≤ kb := by have := hQ1.out.fr.size; omega
              exact ((hQ1.out.fr.trans (fun x hx => by simp at hx; subst hx; exact .inr hkbw) HF.out).setCell _ (.inr (Nat.le_refl _))).putObj _ (.inr (by omega))
end Go.Proofs.Ytoodgjmgkjhpoaa
