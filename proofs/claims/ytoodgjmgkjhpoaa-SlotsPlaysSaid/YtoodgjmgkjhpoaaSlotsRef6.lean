/- The reference's slots: All. -/
import Derived.Test.YtoodgjmgkjhpoaaSlotsRef5
namespace Go.Proofs.Ytoodgjmgkjhpoaa
open Go Go.RowKit
attribute [local go_sem] calmQ_normal wide_fn wide_depth Oper.semAt_some

/-- what is held, of the first j slots: the slot, its age, the value -/
def heldTo (L : List (Slot Int)) (j : Nat) : List P3 := (List.range j).flatMap fun i => match L[i]? with
  | some s => if s.held then [⟨i, s.gen, s.v⟩] else []
  | none => []
theorem heldTo_zero (L : List (Slot Int)) : heldTo L 0 = [] := rfl
theorem heldTo_yes {L : List (Slot Int)} {j : Nat} {s : Slot Int} (hs : L[j]? = some s) (hh : s.held = true) : heldTo L (j + 1) = heldTo L j ++ [⟨j, s.gen, s.v⟩] := by
  simp [heldTo, List.range_succ, hs, hh]
theorem heldTo_no {L : List (Slot Int)} {j : Nat} {s : Slot Int} (hs : L[j]? = some s) (hh : s.held = false) : heldTo L (j + 1) = heldTo L j := by
  simp [heldTo, List.range_succ, hs, hh]
theorem heldTo_len (L : List (Slot Int)) (j : Nat) : (heldTo L j).length ≤ j := by
  induction j with
  | zero => simp [heldTo]
  | succ j ih =>
    cases hs : L[j]? with
    | none => 
      have : heldTo L (j + 1) = heldTo L j := by simp [heldTo, List.range_succ, hs]
      rw [this]; omega
    | some s =>
      cases hh : s.held with
      | true => rw [heldTo_yes hs hh, List.length_append]; simp; omega
      | false => rw [heldTo_no hs hh]; omega
theorem pairInfo : (Try.prog.info? 104).map (fun i => (i.zero, i.size, i.bytes)) = some (some (.agg #[.int .i64 0, .int .i64 0, .int .i64 0]), 3, 24) := by kernel_rfl
theorem one_enc3 (xs : List P3) : ∀ u, u ∈ xs.flatMap encP3 → u.oneCell' = true := by
  intro u hu
  obtain ⟨x, _, hx⟩ := List.mem_flatMap.1 hu
  simp only [encP3, List.mem_cons, List.not_mem_nil, or_false] at hx
  rcases hx with rfl | rfl | rfl <;> rfl

set_option maxRecDepth 100000 in
set_option maxHeartbeats 4000000 in
theorem rall {w : World} {e : Nat} {L : List (Slot Int)} (h : RefAt w e L) (last : Int) :
    Calls Try.prog 58 #[.agg #[.slice (some ⟨e, 0, none⟩) L.length L.length, .int .i64 last]] w fun r w' => ∃ v S, r = .returned v ∧ OwnS w' 104 3 v (heldTo L L.length).length ((heldTo L L.length).flatMap encP3) S ∧ Gr w [] S ∧ Fr [] w w' := by
  obtain ⟨i0, hi, hz0, hz1, hz2⟩ := info_parts pairInfo
  have hn := h.room
  have H := Lib.hid h
  have hew := h.hd.lt
  clear h
  go_enter Try.func58, Try.ntmps58
  go_wp2
  obtain ⟨W, hW⟩ : ∃ W, w.alloc (.cells #[.slice (some ⟨e, 0, none⟩) L.length L.length, .int .i64 last] 83) = W := ⟨_, rfl⟩
  have fW : Fr [] w W := by rw [← hW]; exact (Fr.refl _ _).alloc _
  have bW : Blk W w.heap.size 83 [.slice (some ⟨e, 0, none⟩) L.length L.length, .int .i64 last] := by rw [← hW]; exact Blk.new w _ [_, _]
  have x0 := bW.cell 0
  simp only [List.getElem?_cons_zero] at x0
  rw [hW]
  clear hW bW
  have hwW : w.heap.size < W.heap.size := World.block_lt_of_cell? _ _ x0
  have X0 := Lib.hid x0
  have hew2 : e < W.heap.size := by omega
  go_loopg [3, 4] L.length (fun k v i wr => ∃ j : Nat, k + j = L.length ∧ i = .int .i64 j ∧ ∃ S, OwnS wr 104 3 v (heldTo L j).length ((heldTo L j).flatMap encP3) S ∧ Gr W [] S ∧ Fr [] W wr)
  case atStart => exact ⟨0, by omega, rfl, [], by simpa [heldTo_zero] using OwnS.nil W _ _, Gr.nil _ _, Fr.refl _ _⟩
  case round =>
    obtain ⟨j, hk, rfl, S, hown, hgr, hfr⟩ := hrel
    have y0 := (hfr.cell (p := ⟨w.heap.size, 0, none⟩) hwW (by simp)).trans X0.out
    have hsz := hfr.size
    by_cases hj : j < L.length
    · obtain ⟨s, hs⟩ : ∃ s, L[j]? = some s := ⟨L[j], by simp [hj]⟩
      obtain ⟨c0, c1, c2⟩ := ref_cells (H.out.fr (fW.trans' hfr) (by simp)).hd hs
      have hxx := Lib.hid hs
      clear hs
      cases hh : s.held with
      | false =>
        rw [hh] at c1
        have hh' := Lib.hid hh
        clear hh
        go_wp2
        go_roundg (gk - 1)
        case measure => omega
        case rel => exact ⟨j + 1, by omega, by go_num, S, by rw [heldTo_no hxx.out hh'.out]; exact hown, hgr, hfr⟩
      | true =>
        rw [hh] at c1
        have hh' := Lib.hid hh
        clear hh
        have hlj := heldTo_len L j
        go_wp2
        refine wp_region_mix 16 [0] [1, 2, 3, 4, 5, 6, 7, 8, 9, 10, 11, 12, 13, 14, 15] (by kernel_rfl) (by kernel_rfl) ?_
        simp only [List.cons_append, List.nil_append, List.map_cons, List.map_nil, getD_toArray_list, List.getD_cons_succ, List.getD_cons_zero, List.drop_succ_cons, List.drop_zero]
        repeat (first | go_big_quiet_step (fail) | quiet_step (fail))
        refine wpQuiet_nil ?_
        rintro _ ⟨nq, rfl⟩
        go_wp2_with (at_builtin; refine wpList_append_S _ rfl (.tmp 18) (.tmp 34) 101 rfl 104 i0 (.agg #[.int .i64 0, .int .i64 0, .int .i64 0]) 3 24 Try.underlying101 hi hz0 hz1 hz2 rfl _ _ _ _ rfl ((hown.alloc _ : OwnS ((wr.drewN nq).alloc _) _ _ _ _ _ _)) ⟨wr.heap.size, 0, none⟩ 1 1 (encP3 ⟨j, s.gen, s.v⟩) rfl rfl (Blk.new (wr.drewN nq) 104 (encP3 ⟨j, s.gen, s.v⟩)).news ?c2 ?c3 ?c4 ?_)
        case c2 => intro u hu; exact one_enc3 [_] u (by simpa using hu)
        case c3 => unfold maxLen; omega
        case c4 => omega
        intro v' w1 S' hown' hgr' hfr'
        go_wp2
        rw [calmQ_normal]
        go_wp2
        go_roundg (gk - 1)
        case measure => omega
        case rel =>
          have f1 : Fr [] wr ((wr.drewN nq).alloc (.cells #[.int .i64 j, .int .i64 s.gen, .int .i64 s.v] 104)) := ((Fr.refl [] wr).drewN nq).alloc _
          refine ⟨j + 1, by omega, by go_num, S', ?_, hgr.trans (by simp; omega) hgr', (hfr.trans' f1).trans hgr hfr'⟩
          rw [heldTo_yes hxx.out hh'.out]
          simpa using hown'
    · go_wp2
      obtain rfl : j = L.length := by omega
      go_ret
      exact ⟨_, S, rfl, hown, hgr.size fW.size, fW.trans' hfr⟩
end Go.Proofs.Ytoodgjmgkjhpoaa
