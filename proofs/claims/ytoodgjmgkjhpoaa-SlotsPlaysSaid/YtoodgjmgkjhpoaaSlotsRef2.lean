/- The reference's slots: what changes them; slots' Set. -/
import Derived.Test.YtoodgjmgkjhpoaaSlotsRef
import Derived.Deep.RegionHeld3
namespace Go.Proofs.Ytoodgjmgkjhpoaa
open Go Go.RowKit
attribute [local go_sem] calmQ_normal wide_fn wide_depth Oper.semAt_some

/-- the reference's slots behind a pointer -/
structure RefP (w : World) (B e last : Nat) (L : List (Slot Int)) : Prop where
  hb : Blk w B 83 [.slice (some ⟨e, 0, none⟩) L.length L.length, .int .i64 last]
  hd : Blk w e 149 (L.flatMap encR)
  ne : B ≠ e
  room : L.length ≤ 65536
  lastL : last ≤ 2147483647
  gens : ∀ s, s ∈ L → s.gen ≤ last
theorem RefP.fr {w w' : World} {B e last : Nat} {L : List (Slot Int)} (h : RefP w B e last L) {S : List Nat} (f : Fr S w w') (h1 : B ∉ S) (h2 : e ∉ S) : RefP w' B e last L := ⟨h.hb.fr f h1, h.hd.fr f h2, h.ne, h.room, h.lastL, h.gens⟩
theorem RefP.at {w : World} {B e last : Nat} {L : List (Slot Int)} (h : RefP w B e last L) : RefAt w e L := ⟨h.hd, h.room⟩

/-- one slot is written -/
theorem slot_splice {L : List (Slot Int)} {i : Nat} {s t : Slot Int} (hs : L[i]? = some s) {cs : List Value} (hl : cs.length = (L.flatMap encR).length) (h : ∀ j, j < 3 → cs[i * 3 + j]? = (encR t)[j]?) (ho : ∀ k, (k < i * 3 ∨ i * 3 + 3 ≤ k) → cs[k]? = (L.flatMap encR)[k]?) :
    cs = (L.set i t).flatMap encR := flatMap_splice encR_len (some_lt hs) ⟨hl, h, ho⟩

theorem box_cells {w w1 : World} {a b : Int} (o : Obj) (hf : Fr [] ((w.alloc (.cells #[.int .i64 a, .int .i64 b] 32)).alloc o) w1) : w1.cell? ⟨w.heap.size, 0, none⟩ = some (.int .i64 a) ∧ w1.cell? ⟨w.heap.size, 1, none⟩ = some (.int .i64 b) := by
  have h := ((Blk.new w 32 [.int .i64 a, .int .i64 b]).alloc o).fr hf (by simp)
  exact ⟨h.cell 0, h.cell 1⟩

set_option maxRecDepth 100000 in
set_option maxHeartbeats 2000000 in
theorem rset_yes {w : World} {B e last : Nat} {L : List (Slot Int)} (h : RefP w B e last L) {i : Nat} {s : Slot Int} (hs : L[i]? = some s) (hheld : s.held = true) (V : Int) :
    Calls Try.prog 54 #[.pointer (some ⟨B, 0, none⟩), .agg #[.int .i64 i, .int .i64 s.gen], .int .i64 V] w fun r w' => r = .returned (.int .i64 0) ∧ RefP w' B e last (L.set i ⟨V, true, s.gen⟩) ∧ Fr [e] w w' := by
  have hcall := Lib.hid (fun X (f : Fr [] w X) => rgood_yes (h.at.fr f (by simp)) last hs hheld)
  have H := Lib.hid h
  have HS := Lib.hid hs
  have HH := Lib.hid hheld
  have hil := some_lt hs
  have hn := h.room
  have hbw := h.hb.lt
  have hdw := h.hd.lt
  have h0 := h.hb.cell 0
  have h1 := h.hb.cell 1
  simp only [List.getElem?_cons_zero, List.getElem?_cons_succ] at h0 h1
  clear h hs hheld
  go_enter Try.func54, Try.ntmps54
  go_wp2
  obtain ⟨W, hW⟩ : ∃ W, w.alloc (.cells #[.int .i64 i, .int .i64 s.gen] 32) = W := ⟨_, rfl⟩
  have fW : Fr [] w W := by rw [← hW]; exact (Fr.refl _ _).alloc _
  have bW : Blk W w.heap.size 32 [.int .i64 i, .int .i64 s.gen] := by rw [← hW]; exact Blk.new w _ [_, _]
  have x0 := (fW.cell (p := ⟨B, 0, none⟩) hbw (by simp)).trans h0
  have x1 := (fW.cell (p := ⟨B, 1, none⟩) hbw (by simp)).trans h1
  have y0 := bW.cell 0
  have y1 := bW.cell 1
  simp only [List.getElem?_cons_zero, List.getElem?_cons_succ] at y0 y1
  rw [hW]
  have hS0 : W.drew.cell? ⟨B, 0, none⟩ = some (.slice (some ⟨e, 0, none⟩) L.length L.length) ∧ W.drew.cell? ⟨B, 1, none⟩ = some (.int .i64 last) ∧ W.drew.cell? ⟨w.heap.size, 0, none⟩ = some (.int .i64 i) ∧ W.drew.cell? ⟨w.heap.size, 1, none⟩ = some (.int .i64 s.gen) ∧ Fr [] W W.drew := ⟨x0, x1, y0, y1, (Fr.refl _ _).drew⟩
  have hkeep : Hid (∀ X Y, (X.cell? ⟨B, 0, none⟩ = some (.slice (some ⟨e, 0, none⟩) L.length L.length) ∧ X.cell? ⟨B, 1, none⟩ = some (.int .i64 last) ∧ X.cell? ⟨w.heap.size, 0, none⟩ = some (.int .i64 i) ∧ X.cell? ⟨w.heap.size, 1, none⟩ = some (.int .i64 s.gen) ∧ Fr [] W X) → Fr [] X Y →
      (Y.cell? ⟨B, 0, none⟩ = some (.slice (some ⟨e, 0, none⟩) L.length L.length) ∧ Y.cell? ⟨B, 1, none⟩ = some (.int .i64 last) ∧ Y.cell? ⟨w.heap.size, 0, none⟩ = some (.int .i64 i) ∧ Y.cell? ⟨w.heap.size, 1, none⟩ = some (.int .i64 s.gen) ∧ Fr [] W Y)) := by
    rintro X Y ⟨h1, h2, h3, h4, h6⟩ f
    exact ⟨(f.cell (World.block_lt_of_cell? _ _ h1) (by simp)).trans h1, (f.cell (World.block_lt_of_cell? _ _ h2) (by simp)).trans h2, (f.cell (World.block_lt_of_cell? _ _ h3) (by simp)).trans h3, (f.cell (World.block_lt_of_cell? _ _ h4) (by simp)).trans h4, h6.trans' f⟩
  have hc2 := Lib.hid (fun X (f : Fr [] W X) => hcall.out X (fW.trans' f))
  clear hW
  go_region_held3 (fun w' => w'.cell? ⟨B, 0, none⟩ = some (.slice (some ⟨e, 0, none⟩) L.length L.length) ∧ w'.cell? ⟨B, 1, none⟩ = some (.int .i64 last) ∧ w'.cell? ⟨w.heap.size, 0, none⟩ = some (.int .i64 i) ∧ w'.cell? ⟨w.heap.size, 1, none⟩ = some (.int .i64 s.gen) ∧ Fr [] W w')
    (first | exact hS0 | exact hkeep.out _ _ (by assumption) (by assumption))
    (first | (go_at_call 84; refine (hc2.out _ (And.right (And.right (And.right (And.right (by assumption)))))).mono ?_; rintro r W1 ⟨rfl, f1⟩))
  have f2 : Fr [] W W1 := ((Fr.refl [] W).drew).trans' f1
  have F2 : Hid (Fr [] w W1) := fW.trans' f2
  have z0 := (f2.cell (p := ⟨B, 0, none⟩) (World.block_lt_of_cell? _ _ x0) (by simp)).trans x0
  have z1 := (f2.cell (p := ⟨w.heap.size, 0, none⟩) (World.block_lt_of_cell? _ _ y0) (by simp)).trans y0
  have hR := Lib.hid (H.out.fr F2.out (by simp) (by simp))
  obtain ⟨c0, c1, c2⟩ := ref_cells hR.out.hd HS.out
  have q2 := hR.out.hd.frz (i * 3 + 2)
  have hne := Lib.hid H.out.ne
  have hfin : Hid (∀ q : Nat, RefP ((W1.setCell ⟨e, i * 3 + 2, none⟩ (.int .i64 V)).drewN q) B e last (L.set i ⟨V, true, s.gen⟩) ∧ Fr [e] w ((W1.setCell ⟨e, i * 3 + 2, none⟩ (.int .i64 V)).drewN q)) := fun q => by
    refine ⟨⟨?_, ?_, hne.out, by rw [List.length_set]; exact hn, H.out.lastL, gens_set H.out.gens i (H.out.gens s (List.mem_of_getElem? HS.out))⟩, ((F2.out.mono (T := [e]) (by simp)).setCell _ (.inl (by simp))).drewN q⟩
    · rw [List.length_set]; exact (hR.out.hb.other (p := ⟨e, i * 3 + 2, none⟩) _ hne.out).drewN q
    · have := ((hR.out.hd.set (i * 3 + 2) (.int .i64 V))).drewN q
      rw [slot_splice (t := ⟨V, true, s.gen⟩) HS.out (cs := (L.flatMap encR).set (i * 3 + 2) (.int .i64 V)) (by simp) (fun j hj => ?_) (fun k hk => by rw [List.getElem?_set_ne (by omega)])] at this
      · exact this
      · have hl := length_flatMap_enc encR_len L
        have hj0 := flatMap_at encR_len HS.out (j := j) hj
        match j, hj with
        | 0, _ => rw [List.getElem?_set_ne (by omega), hj0]; rfl
        | 1, _ => rw [List.getElem?_set_ne (by omega), hj0]; simp [encR, HH.out]
        | 2, _ => rw [List.getElem?_set_self (by rw [hl]; omega)]; rfl
  clear f1 f2 x0 x1 y0 y1 h0 h1 hS0 hkeep hc2 hcall fW bW
  go_wp2
  refine wp_region_quiet_tail 9 (by kernel_rfl) (by kernel_rfl) ?_
  simp only [List.take_succ_cons, List.take_zero, List.drop_succ_cons, List.drop_zero]
  repeat (first | go_big_quiet_step (fail) | quiet_step (fail))
  refine wpQuiet_nil ?_
  rintro _ ⟨nq, rfl⟩
  go_wp2
  go_ret
  exact ⟨rfl, hfin.out _⟩
end Go.Proofs.Ytoodgjmgkjhpoaa
