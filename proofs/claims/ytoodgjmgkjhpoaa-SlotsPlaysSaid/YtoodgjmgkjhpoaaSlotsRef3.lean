/- The reference's slots: what is refused, what is dropped. -/
import Derived.Test.YtoodgjmgkjhpoaaSlotsRef2
namespace Go.Proofs.Ytoodgjmgkjhpoaa
open Go Go.RowKit
attribute [local go_sem] calmQ_normal wide_fn wide_depth Oper.semAt_some

set_option maxRecDepth 100000 in
set_option maxHeartbeats 2000000 in
theorem rset_no {w : World} {B e last : Nat} {L : List (Slot Int)} (h : RefP w B e last L) (i g : Int) (hno : ∀ s, 0 ≤ i → L[i.toNat]? = some s → s.held = true → (s.gen : Int) ≠ g) (V : Int) :
    Calls Try.prog 54 #[.pointer (some ⟨B, 0, none⟩), .agg #[.int .i64 i, .int .i64 g], .int .i64 V] w fun r w' => r = .returned (.int .i64 60) ∧ Fr [] w w' := by
  have hcall := Lib.hid (fun X (f : Fr [] w X) => rgood_no (h.at.fr f (by simp)) last i g hno)
  have hbw := h.hb.lt
  have h0 := h.hb.cell 0
  have h1 := h.hb.cell 1
  simp only [List.getElem?_cons_zero, List.getElem?_cons_succ] at h0 h1
  clear h hno
  go_enter Try.func54, Try.ntmps54
  go_wp2
  obtain ⟨W, hW⟩ : ∃ W, w.alloc (.cells #[.int .i64 i, .int .i64 g] 32) = W := ⟨_, rfl⟩
  have fW : Fr [] w W := by rw [← hW]; exact (Fr.refl _ _).alloc _
  have bW : Blk W w.heap.size 32 [.int .i64 i, .int .i64 g] := by rw [← hW]; exact Blk.new w _ [_, _]
  have x0 := (fW.cell (p := ⟨B, 0, none⟩) hbw (by simp)).trans h0
  have x1 := (fW.cell (p := ⟨B, 1, none⟩) hbw (by simp)).trans h1
  have y0 := bW.cell 0
  have y1 := bW.cell 1
  simp only [List.getElem?_cons_zero, List.getElem?_cons_succ] at y0 y1
  rw [hW]
  have hS0 : W.drew.cell? ⟨B, 0, none⟩ = some (.slice (some ⟨e, 0, none⟩) L.length L.length) ∧ W.drew.cell? ⟨B, 1, none⟩ = some (.int .i64 last) ∧ W.drew.cell? ⟨w.heap.size, 0, none⟩ = some (.int .i64 i) ∧ W.drew.cell? ⟨w.heap.size, 1, none⟩ = some (.int .i64 g) ∧ Fr [] W W.drew := ⟨x0, x1, y0, y1, (Fr.refl _ _).drew⟩
  have hkeep : Hid (∀ X Y, (X.cell? ⟨B, 0, none⟩ = some (.slice (some ⟨e, 0, none⟩) L.length L.length) ∧ X.cell? ⟨B, 1, none⟩ = some (.int .i64 last) ∧ X.cell? ⟨w.heap.size, 0, none⟩ = some (.int .i64 i) ∧ X.cell? ⟨w.heap.size, 1, none⟩ = some (.int .i64 g) ∧ Fr [] W X) → Fr [] X Y →
      (Y.cell? ⟨B, 0, none⟩ = some (.slice (some ⟨e, 0, none⟩) L.length L.length) ∧ Y.cell? ⟨B, 1, none⟩ = some (.int .i64 last) ∧ Y.cell? ⟨w.heap.size, 0, none⟩ = some (.int .i64 i) ∧ Y.cell? ⟨w.heap.size, 1, none⟩ = some (.int .i64 g) ∧ Fr [] W Y)) := by
    rintro X Y ⟨h1, h2, h3, h4, h6⟩ f
    exact ⟨(f.cell (World.block_lt_of_cell? _ _ h1) (by simp)).trans h1, (f.cell (World.block_lt_of_cell? _ _ h2) (by simp)).trans h2, (f.cell (World.block_lt_of_cell? _ _ h3) (by simp)).trans h3, (f.cell (World.block_lt_of_cell? _ _ h4) (by simp)).trans h4, h6.trans' f⟩
  have hc2 := Lib.hid (fun X (f : Fr [] W X) => hcall.out X (fW.trans' f))
  clear hW
  go_region_held3 (fun w' => w'.cell? ⟨B, 0, none⟩ = some (.slice (some ⟨e, 0, none⟩) L.length L.length) ∧ w'.cell? ⟨B, 1, none⟩ = some (.int .i64 last) ∧ w'.cell? ⟨w.heap.size, 0, none⟩ = some (.int .i64 i) ∧ w'.cell? ⟨w.heap.size, 1, none⟩ = some (.int .i64 g) ∧ Fr [] W w')
    (first | exact hS0 | exact hkeep.out _ _ (by assumption) (by assumption))
    (first | (go_at_call 84; refine (hc2.out _ (And.right (And.right (And.right (And.right (by assumption)))))).mono ?_; rintro r W1 ⟨rfl, f1⟩))
  have f2 : Fr [] W W1 := ((Fr.refl [] W).drew).trans' f1
  have F2 : Hid (Fr [] w W1) := fW.trans' f2
  clear f1 f2 x0 x1 y0 y1 h0 h1 hS0 hkeep hc2 hcall fW bW
  go_wp2
  go_ret
  exact ⟨rfl, F2.out⟩
set_option maxRecDepth 100000 in
set_option maxHeartbeats 2000000 in
theorem rdrop_no {w : World} {B e last : Nat} {L : List (Slot Int)} (h : RefP w B e last L) (i g : Int) (hno : ∀ s, 0 ≤ i → L[i.toNat]? = some s → s.held = true → (s.gen : Int) ≠ g) :
    Calls Try.prog 55 #[.pointer (some ⟨B, 0, none⟩), .agg #[.int .i64 i, .int .i64 g]] w fun r w' => r = .returned (.tuple #[.int .i64 0, .int .i64 60]) ∧ Fr [] w w' := by
  have hcall := Lib.hid (fun X (f : Fr [] w X) => rgood_no (h.at.fr f (by simp)) last i g hno)
  have hbw := h.hb.lt
  have h0 := h.hb.cell 0
  have h1 := h.hb.cell 1
  simp only [List.getElem?_cons_zero, List.getElem?_cons_succ] at h0 h1
  clear h hno
  go_enter Try.func55, Try.ntmps55
  go_wp2
  obtain ⟨W, hW⟩ : ∃ W, w.alloc (.cells #[.int .i64 i, .int .i64 g] 32) = W := ⟨_, rfl⟩
  have fW : Fr [] w W := by rw [← hW]; exact (Fr.refl _ _).alloc _
  have bW : Blk W w.heap.size 32 [.int .i64 i, .int .i64 g] := by rw [← hW]; exact Blk.new w _ [_, _]
  have x0 := (fW.cell (p := ⟨B, 0, none⟩) hbw (by simp)).trans h0
  have x1 := (fW.cell (p := ⟨B, 1, none⟩) hbw (by simp)).trans h1
  have y0 := bW.cell 0
  have y1 := bW.cell 1
  simp only [List.getElem?_cons_zero, List.getElem?_cons_succ] at y0 y1
  rw [hW]
  have hS0 : W.drew.cell? ⟨B, 0, none⟩ = some (.slice (some ⟨e, 0, none⟩) L.length L.length) ∧ W.drew.cell? ⟨B, 1, none⟩ = some (.int .i64 last) ∧ W.drew.cell? ⟨w.heap.size, 0, none⟩ = some (.int .i64 i) ∧ W.drew.cell? ⟨w.heap.size, 1, none⟩ = some (.int .i64 g) ∧ Fr [] W W.drew := ⟨x0, x1, y0, y1, (Fr.refl _ _).drew⟩
  have hkeep : Hid (∀ X Y, (X.cell? ⟨B, 0, none⟩ = some (.slice (some ⟨e, 0, none⟩) L.length L.length) ∧ X.cell? ⟨B, 1, none⟩ = some (.int .i64 last) ∧ X.cell? ⟨w.heap.size, 0, none⟩ = some (.int .i64 i) ∧ X.cell? ⟨w.heap.size, 1, none⟩ = some (.int .i64 g) ∧ Fr [] W X) → Fr [] X Y →
      (Y.cell? ⟨B, 0, none⟩ = some (.slice (some ⟨e, 0, none⟩) L.length L.length) ∧ Y.cell? ⟨B, 1, none⟩ = some (.int .i64 last) ∧ Y.cell? ⟨w.heap.size, 0, none⟩ = some (.int .i64 i) ∧ Y.cell? ⟨w.heap.size, 1, none⟩ = some (.int .i64 g) ∧ Fr [] W Y)) := by
    rintro X Y ⟨h1, h2, h3, h4, h6⟩ f
    exact ⟨(f.cell (World.block_lt_of_cell? _ _ h1) (by simp)).trans h1, (f.cell (World.block_lt_of_cell? _ _ h2) (by simp)).trans h2, (f.cell (World.block_lt_of_cell? _ _ h3) (by simp)).trans h3, (f.cell (World.block_lt_of_cell? _ _ h4) (by simp)).trans h4, h6.trans' f⟩
  have hc2 := Lib.hid (fun X (f : Fr [] W X) => hcall.out X (fW.trans' f))
  clear hW
  go_region_held3 (fun w' => w'.cell? ⟨B, 0, none⟩ = some (.slice (some ⟨e, 0, none⟩) L.length L.length) ∧ w'.cell? ⟨B, 1, none⟩ = some (.int .i64 last) ∧ w'.cell? ⟨w.heap.size, 0, none⟩ = some (.int .i64 i) ∧ w'.cell? ⟨w.heap.size, 1, none⟩ = some (.int .i64 g) ∧ Fr [] W w')
    (first | exact hS0 | exact hkeep.out _ _ (by assumption) (by assumption))
    (first | (go_at_call 84; refine (hc2.out _ (And.right (And.right (And.right (And.right (by assumption)))))).mono ?_; rintro r W1 ⟨rfl, f1⟩))
  have f2 : Fr [] W W1 := ((Fr.refl [] W).drew).trans' f1
  have F2 : Hid (Fr [] w W1) := fW.trans' f2
  clear f1 f2 x0 x1 y0 y1 h0 h1 hS0 hkeep hc2 hcall fW bW
  go_wp2
  go_ret2
  exact ⟨rfl, F2.out⟩
set_option maxRecDepth 100000 in
set_option maxHeartbeats 2000000 in
theorem rdrop_yes {w : World} {B e last : Nat} {L : List (Slot Int)} (h : RefP w B e last L) {i : Nat} {s : Slot Int} (hs : L[i]? = some s) (hheld : s.held = true) :
    Calls Try.prog 55 #[.pointer (some ⟨B, 0, none⟩), .agg #[.int .i64 i, .int .i64 s.gen]] w fun r w' => r = .returned (.tuple #[.int .i64 s.v, .int .i64 0]) ∧ RefP w' B e last (L.set i ⟨0, false, s.gen⟩) ∧ Fr [e] w w' := by
  have hcall := Lib.hid (fun X (f : Fr [] w X) => rgood_yes (h.at.fr f (by simp)) last hs hheld)
  have H := Lib.hid h
  have HS := Lib.hid hs
  have hil := some_lt hs
  have hn := h.room
  have hbw := h.hb.lt
  have hdw := h.hd.lt
  have h0 := h.hb.cell 0
  have h1 := h.hb.cell 1
  simp only [List.getElem?_cons_zero, List.getElem?_cons_succ] at h0 h1
  clear h hs hheld
  go_enter Try.func55, Try.ntmps55
  go_wp2
  obtain ⟨W, hW⟩ : ∃ W, w.alloc (.cells #[.int .i64 i, .int .i64 s.gen] 32) = W := ⟨_, rfl⟩
  have fW : Fr [] w W := by rw [← hW]; exact (Fr.refl _ _).alloc _
  have bW : Blk W w.heap.size 32 [.int .i64 i, .int .i64 s.gen] := by rw [← hW]; exact Blk.new w _ [_, _]
  have x0 := (fW.cell (p := ⟨B, 0, none⟩) hbw (by simp)).trans h0
  have x1 := (fW.cell (p := ⟨B, 1, none⟩) hbw (by simp)).trans h1
  have y0 := bW.cell 0
  have y1 := bW.cell 1
  simp only [List.getElem?_cons_zero, List.getElem?_cons_succ] at y0 y1
  rw [hW]
  have hS0 : W.drew.cell? ⟨B, 0, none⟩ = some (.slice (some ⟨e, 0, none⟩) L.length L.length) ∧ W.drew.cell? ⟨B, 1, none⟩ = some (.int .i64 last) ∧ W.drew.cell? ⟨w.heap.size, 0, none⟩ = some (.int .i64 i) ∧ W.drew.cell? ⟨w.heap.size, 1, none⟩ = some (.int .i64 s.gen) ∧ Fr [] W W.drew := ⟨x0, x1, y0, y1, (Fr.refl _ _).drew⟩
  have hkeep : Hid (∀ X Y, (X.cell? ⟨B, 0, none⟩ = some (.slice (some ⟨e, 0, none⟩) L.length L.length) ∧ X.cell? ⟨B, 1, none⟩ = some (.int .i64 last) ∧ X.cell? ⟨w.heap.size, 0, none⟩ = some (.int .i64 i) ∧ X.cell? ⟨w.heap.size, 1, none⟩ = some (.int .i64 s.gen) ∧ Fr [] W X) → Fr [] X Y →
      (Y.cell? ⟨B, 0, none⟩ = some (.slice (some ⟨e, 0, none⟩) L.length L.length) ∧ Y.cell? ⟨B, 1, none⟩ = some (.int .i64 last) ∧ Y.cell? ⟨w.heap.size, 0, none⟩ = some (.int .i64 i) ∧ Y.cell? ⟨w.heap.size, 1, none⟩ = some (.int .i64 s.gen) ∧ Fr [] W Y)) := by
    rintro X Y ⟨h1, h2, h3, h4, h6⟩ f
    exact ⟨(f.cell (World.block_lt_of_cell? _ _ h1) (by simp)).trans h1, (f.cell (World.block_lt_of_cell? _ _ h2) (by simp)).trans h2, (f.cell (World.block_lt_of_cell? _ _ h3) (by simp)).trans h3, (f.cell (World.block_lt_of_cell? _ _ h4) (by simp)).trans h4, h6.trans' f⟩
  have hc2 := Lib.hid (fun X (f : Fr [] W X) => hcall.out X (fW.trans' f))
  clear hW
  go_region_held3 (fun w' => w'.cell? ⟨B, 0, none⟩ = some (.slice (some ⟨e, 0, none⟩) L.length L.length) ∧ w'.cell? ⟨B, 1, none⟩ = some (.int .i64 last) ∧ w'.cell? ⟨w.heap.size, 0, none⟩ = some (.int .i64 i) ∧ w'.cell? ⟨w.heap.size, 1, none⟩ = some (.int .i64 s.gen) ∧ Fr [] W w')
    (first | exact hS0 | exact hkeep.out _ _ (by assumption) (by assumption))
    (first | (go_at_call 84; refine (hc2.out _ (And.right (And.right (And.right (And.right (by assumption)))))).mono ?_; rintro r W1 ⟨rfl, f1⟩))
  have f2 : Fr [] W W1 := ((Fr.refl [] W).drew).trans' f1
  have F2 : Hid (Fr [] w W1) := fW.trans' f2
  have z0 := (f2.cell (p := ⟨B, 0, none⟩) (World.block_lt_of_cell? _ _ x0) (by simp)).trans x0
  have z1 := (f2.cell (p := ⟨w.heap.size, 0, none⟩) (World.block_lt_of_cell? _ _ y0) (by simp)).trans y0
  have z2 := (f2.cell (p := ⟨w.heap.size, 1, none⟩) (World.block_lt_of_cell? _ _ y1) (by simp)).trans y1
  have hR := Lib.hid (H.out.fr F2.out (by simp) (by simp))
  obtain ⟨c0, c1, c2⟩ := ref_cells hR.out.hd HS.out
  have q0 := hR.out.hd.frz (i * 3)
  have q1 := hR.out.hd.frz (i * 3 + 1)
  have q2 := hR.out.hd.frz (i * 3 + 2)
  have hne := Lib.hid H.out.ne
  have hfin : Hid (∀ X, Fr [] W1 X → RefP (((X.setCell ⟨e, i * 3, none⟩ (.int .i64 s.gen)).setCell ⟨e, i * 3 + 1, none⟩ (.bool false)).setCell ⟨e, i * 3 + 2, none⟩ (.int .i64 0)) B e last (L.set i ⟨0, false, s.gen⟩) ∧
      Fr [e] w (((X.setCell ⟨e, i * 3, none⟩ (.int .i64 s.gen)).setCell ⟨e, i * 3 + 1, none⟩ (.bool false)).setCell ⟨e, i * 3 + 2, none⟩ (.int .i64 0))) := fun X fX => by
    have hX := hR.out.fr fX (by simp) (by simp)
    refine ⟨⟨?_, ?_, hne.out, by rw [List.length_set]; exact hn, H.out.lastL, gens_set H.out.gens i (H.out.gens s (List.mem_of_getElem? HS.out))⟩, ((((F2.out.trans' fX).mono (T := [e]) (by simp)).setCell _ (.inl (by simp))).setCell _ (.inl (by simp))).setCell _ (.inl (by simp))⟩
    · rw [List.length_set]
      exact ((hX.hb.other (p := ⟨e, i * 3, none⟩) _ hne.out).other (p := ⟨e, i * 3 + 1, none⟩) _ hne.out).other (p := ⟨e, i * 3 + 2, none⟩) _ hne.out
    · have := ((hX.hd.set (i * 3) (.int .i64 s.gen)).set (i * 3 + 1) (.bool false)).set (i * 3 + 2) (.int .i64 0)
      have hl := length_flatMap_enc encR_len L
      have hsp := slot_splice (t := ⟨0, false, s.gen⟩) HS.out (cs := (((L.flatMap encR).set (i * 3) (.int .i64 s.gen)).set (i * 3 + 1) (.bool false)).set (i * 3 + 2) (.int .i64 0)) (by simp) (fun j hj => ?_) (fun k hk => by rw [List.getElem?_set_ne (by omega), List.getElem?_set_ne (by omega), List.getElem?_set_ne (by omega)])
      · rw [← hsp]; exact this
      · match j, hj with
        | 0, _ => rw [List.getElem?_set_ne (by omega), List.getElem?_set_ne (by omega), show i * 3 + 0 = i * 3 from rfl, List.getElem?_set_self (by rw [hl]; omega)]; rfl
        | 1, _ => rw [List.getElem?_set_ne (by omega), List.getElem?_set_self (by rw [List.length_set, hl]; omega)]; rfl
        | 2, _ => rw [List.getElem?_set_self (by rw [List.length_set, List.length_set, hl]; omega)]; rfl
  clear f1 f2 x0 x1 y0 y1 h0 h1 hS0 hkeep hc2 hcall fW bW
  go_wp2
  go_quiet (fail)
  go_wp2
  refine wp_region_quiet_tail 10 (by kernel_rfl) (by kernel_rfl) ?_
  simp only [List.take_succ_cons, List.take_zero, List.drop_succ_cons, List.drop_zero]
  repeat (first | go_big_quiet_step (fail) | quiet_step (fail))
  refine wpQuiet_nil ?_
  rintro _ ⟨nq, rfl⟩
  go_wp2
  go_ret2
  exact ⟨rfl, hfin.out _ ((Fr.refl [] W1).drewN _)⟩
end Go.Proofs.Ytoodgjmgkjhpoaa
