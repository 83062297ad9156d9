/- Rings of things of several cells (api.Packet): the contracts of their functions, first part. -/
import Derived.Test.YteojodcdehkejaaChecked
import Derived.Test.YteojodcdehkejaaMA2
set_option linter.unusedVariables false
namespace Go.Proofs.Yteojodcdehkejaa
open Go Go.RowKit
attribute [local go_sem] calmQ_normal wide_fn wide_depth Oper.semAt_some

abbrev Rgp6 : World → Nat → List Nat → List P6 → Prop := RingAt 134 34 6 encP6
/-- a ring that has room -/
def Rcp6 (w : World) (r d L head : Nat) (xs : List P6) : Prop :=
  ∃ cs, Blk w r 134 [.slice (some ⟨d, 0, none⟩) L L, .int .i64 head, .int .i64 xs.length] ∧ L ≤ 1073741824 ∧ d ≠ r ∧ Blk w d 34 cs ∧ Cyc L head 6 encP6 cs xs
theorem Rcp6.at {w : World} {r d L head : Nat} {xs : List P6} (h : Rcp6 w r d L head xs) : Rgp6 w r [d] xs := by
  obtain ⟨cs, hb, hL, hd, hbd, hc⟩ := h
  exact ⟨L, head, _, hb, hL, .inr ⟨d, cs, rfl, hd, rfl, hbd, hc⟩⟩
theorem Rgp6.conc {w : World} {r : Nat} {ds : List Nat} {xs : List P6} (h : Rgp6 w r ds xs) (hn : 0 < xs.length) : ∃ d L head, ds = [d] ∧ Rcp6 w r d L head xs := by
  obtain ⟨L, head, sv, hb, hL, h⟩ := h
  rcases h with ⟨_, _, rfl, _⟩ | ⟨d, cs, rfl, hd, rfl, hbd, hc⟩
  · simp at hn
  · exact ⟨d, L, head, rfl, cs, hb, hL, hd, hbd, hc⟩
theorem infop6 : (Try.prog.info? 34).map (fun i => (i.zero, i.size, i.bytes)) = some (some (.agg #[.int .i64 0, .int .i64 0, .int .i64 0, .int .i64 0, .int .i64 0, .int .i64 0]), 6, 48) := by kernel_rfl
theorem enc_len_p6 (x : P6) : (encP6 x).length = 6 := rfl
theorem one_p6 (xs : List P6) : ∀ u, u ∈ xs.flatMap encP6 → u.oneCell' = true := by
  intro u hu
  obtain ⟨x, _, hx⟩ := List.mem_flatMap.1 hu
  simp only [encP6, List.mem_cons, List.not_mem_nil, or_false] at hx
  rcases hx with rfl | rfl | rfl | rfl | rfl | rfl <;> rfl
/-- the cells of the i-th thing -/
theorem Cyc.cells_p6 {L head : Nat} {cs : List Value} {xs : List P6} (h : Cyc L head 6 encP6 cs xs) {i m : Nat} {x : P6} (hx : xs[i]? = some x) (hm : Hid (m = (head + i) % L)) {w : World} {d : Nat} (hb : Blk w d 34 cs) :
    w.cell? ⟨d, m * 6, none⟩ = some (.int .i64 x.f0) ∧ w.cell? ⟨d, m * 6 + 1, none⟩ = some (.int .i64 x.f1) ∧ w.cell? ⟨d, m * 6 + 2, none⟩ = some (.int .i64 x.f2) ∧ w.cell? ⟨d, m * 6 + 3, none⟩ = some (.int .i64 x.f3) ∧ w.cell? ⟨d, m * 6 + 4, none⟩ = some (.int .i64 x.f4) ∧ w.cell? ⟨d, m * 6 + 5, none⟩ = some (.int .i64 x.f5) := by
  have key : ∀ j, j < 6 → w.cell? ⟨d, m * 6 + j, none⟩ = (encP6 x)[j]? := fun j hj => by
    rw [hb.cell, hm.out, h.at_ i x hx j hj]
  exact ⟨key 0 (by decide), key 1 (by decide), key 2 (by decide), key 3 (by decide), key 4 (by decide), key 5 (by decide)⟩

set_option maxHeartbeats 400000 in
theorem place_p6 (m r L head i : Nat) (ao : Option Addr) (w : World) (hl : 0 < L) (hlm : L ≤ 1073741824) (hh : head < L) (hi : i ≤ L) (hm : Hid (m = (head + i) % L))
   (h0 : w.cell? ⟨r, 0, none⟩ = some (.slice ao L L)) (h1 : w.cell? ⟨r, 1, none⟩ = some (.int .i64 head)) :
   Calls Try.prog 72 #[.pointer (some ⟨r, 0, none⟩), .int .i64 i] w fun e w' => e = .returned (.int .i64 (m : Nat)) ∧ ∃ n, w' = w.drewN n := by
  rw [hm.out]
  clear hm
  go_enter Try.func72, Try.ntmps72
  go_wp2
  go_quiet (fail)
  go_wp2
  go_ret
  exact ⟨by simp, _, rfl⟩
theorem place_Z_p6 (m : Nat) (r L head : Nat) (i : Int) (ao : Option Addr) (w : World) (hl : 0 < L) (hlm : L ≤ 1073741824) (hh : head < L) (hi0 : 0 ≤ i) (hi : i ≤ L) (hm : Hid (m = (head + i.toNat) % L))
   (h0 : w.cell? ⟨r, 0, none⟩ = some (.slice ao L L)) (h1 : w.cell? ⟨r, 1, none⟩ = some (.int .i64 head)) :
   Calls Try.prog 72 #[.pointer (some ⟨r, 0, none⟩), .int .i64 i] w fun e w' => e = .returned (.int .i64 (m : Nat)) ∧ ∃ n, w' = w.drewN n := by
  obtain ⟨k, rfl⟩ := Int.eq_ofNat_of_zero_le hi0
  exact place_p6 m r L head k ao w hl hlm hh (by omega) (by simpa using hm) h0 h1

set_option maxHeartbeats 400000 in
theorem new_p6 (w : World) :
    Calls Try.prog 34 #[] w fun e w' => e = .returned (.pointer (some ⟨w.heap.size, 0, none⟩)) ∧ Rgp6 w' w.heap.size [] [] ∧ Fr [] w w' ∧ w'.heap.size = w.heap.size + 1 := by
  go_enter Try.func34, Try.ntmps34
  go_wp2
  go_ret
  exact ⟨rfl, ⟨0, 0, .slice none 0 0, Blk.new _ _ _, by omega, .inl ⟨rfl, rfl, rfl, rfl, rfl⟩⟩, (Fr.refl [] w).alloc _, by simp⟩

theorem take_snoc_p6 {xs : List P6} {j : Nat} {x : P6} (hx : xs[j]? = some x) : (xs.take (j + 1)).flatMap encP6 = (xs.take j).flatMap encP6 ++ encP6 x := by
  rw [List.take_add_one, hx]
  simp

set_option maxHeartbeats 1000000 in
set_option maxRecDepth 100000 in
theorem held_p6 {w : World} {r : Nat} {ds : List Nat} {xs : List P6} (h : Rgp6 w r ds xs) :
    Calls Try.prog 107 #[.pointer (some ⟨r, 0, none⟩)] w fun e w' => ∃ v S, e = .returned v ∧ OwnS w' 34 6 v xs.length (xs.flatMap encP6) S ∧ Gr w [] S ∧ Fr [] w w' := by
  obtain ⟨i0, hi, hz0, hz1, hz2⟩ := info_parts infop6
  have hrw : r < w.heap.size := h.lt r (by simp)
  have H := Lib.hid h
  obtain ⟨L, head, sv, hb, hL, hrest⟩ := h
  have hrl : xs.length ≤ 1073741824 := by
    rcases hrest with ⟨_, _, rfl, _⟩ | ⟨d, cs, _, _, _, _, hc⟩
    · simp
    · have := hc.room; omega
  have h2 := hb.cell 2
  simp at h2
  clear hb hrest
  go_enter Try.func107, Try.ntmps107
  go_wp2
  go_loopg [3, 9] xs.length (fun k v i wr => ∃ j : Nat, k + j = xs.length ∧ i = .int .i64 j ∧ ∃ S, OwnS wr 34 6 v j ((xs.take j).flatMap encP6) S ∧ Gr w [] S ∧ Fr [] w wr)
  case atStart => exact ⟨0, by omega, rfl, [], by simpa using OwnS.nil w _ _, Gr.nil _ _, Fr.refl _ _⟩
  case round =>
    obtain ⟨j, hk, rfl, S, hown, hgr, hfr⟩ := hrel
    by_cases hj : j < xs.length
    · have hR : Rgp6 wr r ds xs := H.out.fr hfr (by simp)
      obtain ⟨d, L, head, hds, cs, hb, hL', hd, hbd, hc⟩ := hR.conc (by omega)
      have hro := hc.room
      have hhd := hc.headL
      have h0 := hb.cell 0
      have h1 := hb.cell 1
      have h2 := hb.cell 2
      obtain ⟨x, hx⟩ : ∃ x, xs[j]? = some x := ⟨xs[j], by simp [hj]⟩
      simp at h0 h1 h2
      obtain ⟨m, hm⟩ : ∃ m, Hid (m = (head + j) % L) := ⟨_, Lib.hid rfl⟩
      have hml : m < L := by rw [hm.out]; exact Nat.mod_lt _ (by omega)
      obtain ⟨k0, k1, k2, k3, k4, k5⟩ := hc.cells_p6 hx hm hbd
      have hxx := Lib.hid hx
      clear hx hb hbd hc hR hds
      have hsz := hfr.size
      have hrwr : r < wr.heap.size := by omega
      go_wp2
      refine wp_region_mix 10 [0] [1, 2, 3, 4, 5, 6, 7, 8, 9] (by kernel_rfl) (by kernel_rfl) ?_
      simp only [List.cons_append, List.nil_append, List.map_cons, List.map_nil, getD_toArray_list, List.getD_cons_succ, List.getD_cons_zero, List.drop_succ_cons, List.drop_zero]
      repeat (first | go_big_quiet_step ((go_at_call 72; exact Calls.quiet_of (place_p6 m r L head j _ _ (by omega) hL' hhd (by omega) hm h0 h1))) | quiet_step ((go_at_call 72; exact Calls.quiet_of (place_p6 m r L head j _ _ (by omega) hL' hhd (by omega) hm h0 h1))))
      refine wpQuiet_nil ?_
      rintro _ ⟨nq, rfl⟩
      go_wp2_with (at_builtin; refine wpList_append_S _ rfl (.tmp 12) (.tmp 22) 49 rfl 34 i0 (.agg #[.int .i64 0, .int .i64 0, .int .i64 0, .int .i64 0, .int .i64 0, .int .i64 0]) 6 48 Try.underlying49 hi hz0 hz1 hz2 rfl _ _ _ _ rfl ((hown.alloc _ : OwnS ((wr.drewN nq).alloc _) _ _ _ _ _ _)) ⟨wr.heap.size, 0, none⟩ 1 1 (encP6 x) rfl rfl (Blk.new (wr.drewN nq) 34 (encP6 x)).news ?c2 ?c3 ?c4 ?_)
      case c2 => intro u hu; exact one_p6 [x] u (by simpa using hu)
      case c3 => unfold maxLen; omega
      case c4 => omega
      intro v' w1 S' hown' hgr' hfr'
      go_wp2
      rw [calmQ_normal]
      go_wp2
      go_roundg (gk - 1)
      case measure => omega
      case rel =>
        have f1 : Fr [] wr ((wr.drewN nq).alloc (.cells #[.int .i64 x.f0, .int .i64 x.f1, .int .i64 x.f2, .int .i64 x.f3, .int .i64 x.f4, .int .i64 x.f5] 34)) := ((Fr.refl [] wr).drewN nq).alloc _
        refine ⟨j + 1, by omega, by go_num, S', by rw [take_snoc_p6 hxx.out]; exact hown', hgr.trans (by simp; omega) hgr', ?_⟩
        exact (hfr.trans' f1).trans hgr hfr'
    · go_wp2
      obtain rfl : j = xs.length := by omega
      go_ret
      exact ⟨_, S, rfl, by simpa using hown, hgr, hfr⟩
end Go.Proofs.Yteojodcdehkejaa
