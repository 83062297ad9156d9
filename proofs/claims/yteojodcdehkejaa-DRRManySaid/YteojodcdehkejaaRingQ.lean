/- Rings of *millrace/drr.flow: the contracts of their functions, first part. -/
import Derived.Test.YteojodcdehkejaaChecked
import Derived.Test.YteojodcdehkejaaRingCore
namespace Go.Proofs.Yteojodcdehkejaa
open Go Go.RowKit

def encQ (x : (Option Nat)) : List Value := [ptrV x]
abbrev Rgq : World → Nat → List Nat → List (Option Nat) → Prop := RingAt 132 89 1 encQ
/-- a ring that has room -/
def Rcq (w : World) (r d L head : Nat) (xs : List (Option Nat)) : Prop :=
  ∃ cs, Blk w r 132 [.slice (some ⟨d, 0, none⟩) L L, .int .i64 head, .int .i64 xs.length] ∧ L ≤ 1073741824 ∧ d ≠ r ∧ Blk w d 89 cs ∧ Cyc L head 1 encQ cs xs
theorem Rcq.at {w : World} {r d L head : Nat} {xs : List (Option Nat)} (h : Rcq w r d L head xs) : Rgq w r [d] xs := by
  obtain ⟨cs, hb, hL, hd, hbd, hc⟩ := h
  exact ⟨L, head, _, hb, hL, .inr ⟨d, cs, rfl, hd, rfl, hbd, hc⟩⟩
theorem Rgq.conc {w : World} {r : Nat} {ds : List Nat} {xs : List (Option Nat)} (h : Rgq w r ds xs) (hn : 0 < xs.length) : ∃ d L head, ds = [d] ∧ Rcq w r d L head xs := by
  obtain ⟨L, head, sv, hb, hL, h⟩ := h
  rcases h with ⟨_, _, rfl, _⟩ | ⟨d, cs, rfl, hd, rfl, hbd, hc⟩
  · simp at hn
  · exact ⟨d, L, head, rfl, cs, hb, hL, hd, hbd, hc⟩
theorem infoq : (Try.prog.info? 89).map (fun i => (i.zero, i.size, i.bytes)) = some (some (ptrV none), 1, 8) := by kernel_rfl

set_option maxHeartbeats 400000 in
theorem place_q (m r L head i : Nat) (ao : Option Addr) (w : World) (hl : 0 < L) (hlm : L ≤ 1073741824) (hh : head < L) (hi : i ≤ L) (hm : Hid (m = (head + i) % L))
   (h0 : w.cell? ⟨r, 0, none⟩ = some (.slice ao L L)) (h1 : w.cell? ⟨r, 1, none⟩ = some (.int .i64 head)) :
   Calls Try.prog 70 #[.pointer (some ⟨r, 0, none⟩), .int .i64 i] w fun e w' => e = .returned (.int .i64 (m : Nat)) ∧ ∃ n, w' = w.drewN n := by
  rw [hm.out]
  clear hm
  go_enter Try.func70, Try.ntmps70
  go_wp2
  go_quiet (fail)
  go_wp2
  go_ret
  exact ⟨by simp, _, rfl⟩

theorem len_q {w : World} {r : Nat} {ds : List Nat} {xs : List (Option Nat)} (h : Rgq w r ds xs) :
    Calls Try.prog 73 #[.pointer (some ⟨r, 0, none⟩)] w fun e w' => e = .returned (.int .i64 xs.length) ∧ w' = w := by
  obtain ⟨L, head, sv, hb, hL, h⟩ := h
  have h2 := hb.cell 2
  simp at h2
  go_enter Try.func73, Try.ntmps73
  go_wp2
  go_ret
  exact ⟨rfl, rfl⟩

set_option maxHeartbeats 400000 in
theorem at_conc_q (m r d L head n i : Nat) (v : (Option Nat)) (w : World) (hl : 0 < L) (hlm : L ≤ 1073741824) (hh : head < L) (hi : i < n) (hn : n ≤ L) (hm : Hid (m = (head + i) % L)) (hml : m < L)
   (h0 : w.cell? ⟨r, 0, none⟩ = some (.slice (some ⟨d, 0, none⟩) L L)) (h1 : w.cell? ⟨r, 1, none⟩ = some (.int .i64 head)) (h2 : w.cell? ⟨r, 2, none⟩ = some (.int .i64 n))
   (hc : w.cell? ⟨d, m, none⟩ = some (ptrV v)) :
  Calls Try.prog 85 #[.pointer (some ⟨r, 0, none⟩), .int .i64 i] w fun e w' => e = .returned (.tuple #[ptrV v, .bool true]) ∧ ∃ n, w' = w.drewN n := by
  go_enter Try.func85, Try.ntmps85
  go_wp2
  go_quiet ((go_at_call 70; exact Calls.quiet_of (place_q m r L head i _ _ hl hlm hh (by omega) hm h0 h1)))
  go_wp2
  go_ret2
  exact ⟨rfl, _, rfl⟩
theorem at_yes_q {w : World} {r : Nat} {ds : List Nat} {xs : List (Option Nat)} (h : Rgq w r ds xs) {i : Nat} {x : (Option Nat)} (hx : xs[i]? = some x) :
    Calls Try.prog 85 #[.pointer (some ⟨r, 0, none⟩), .int .i64 i] w fun e w' => e = .returned (.tuple #[ptrV x, .bool true]) ∧ ∃ n, w' = w.drewN n := by
  have hi := some_lt hx
  obtain ⟨d, L, head, rfl, cs, hb, hL, hd, hbd, hc⟩ := h.conc (by omega)
  have hr := hc.room
  have h0 := hb.cell 0
  have h1 := hb.cell 1
  have h2 := hb.cell 2
  have hx' := hc.at_ i x hx 0 (by decide)
  have hcc := hbd.cell ((head + i) % L)
  simp at h0 h1 h2
  simp [encQ] at hx'
  exact at_conc_q _ r d L head xs.length i x w (by omega) hL hc.headL hi hr (Lib.hid rfl) (Nat.mod_lt _ (by omega)) h0 h1 h2 (by rw [hcc, hx'])
set_option maxHeartbeats 400000 in
theorem at_no_q {w : World} {r : Nat} {ds : List Nat} {xs : List (Option Nat)} (h : Rgq w r ds xs) (i : Int) (hi : i < 0 ∨ (xs.length : Int) ≤ i) :
    Calls Try.prog 85 #[.pointer (some ⟨r, 0, none⟩), .int .i64 i] w fun e w' => e = .returned (.tuple #[ptrV none, .bool false]) ∧ w' = w := by
  obtain ⟨L, head, sv, hb, hL, h⟩ := h
  have h2 := hb.cell 2
  simp at h2
  by_cases hneg : i < 0
  · clear hi
    go_enter Try.func85, Try.ntmps85
    go_wp2
    go_ret2
    exact ⟨rfl, rfl⟩
  · have hge : (xs.length : Int) ≤ i := by omega
    have hneg' : 0 ≤ i := by omega
    clear hi hneg
    go_enter Try.func85, Try.ntmps85
    go_wp2
    go_ret2
    exact ⟨rfl, rfl⟩

set_option maxHeartbeats 400000 in
theorem set_conc_q (m r d L head n i : Nat) (v u : (Option Nat)) (w : World) (hl : 0 < L) (hlm : L ≤ 1073741824) (hh : head < L) (hi : i < n) (hn : n ≤ L) (hm : Hid (m = (head + i) % L)) (hml : m < L)
   (h0 : w.cell? ⟨r, 0, none⟩ = some (.slice (some ⟨d, 0, none⟩) L L)) (h1 : w.cell? ⟨r, 1, none⟩ = some (.int .i64 head)) (h2 : w.cell? ⟨r, 2, none⟩ = some (.int .i64 n))
   (hc : w.cell? ⟨d, m, none⟩ = some (ptrV v)) (hf : w.frozen? ⟨d, m, none⟩ = false) :
  Calls Try.prog 97 #[.pointer (some ⟨r, 0, none⟩), .int .i64 i, ptrV u] w fun e w' => e = .returned (.bool true) ∧ ∃ n, w' = (w.setCell ⟨d, m, none⟩ (ptrV u)).drewN n := by
  go_enter Try.func97, Try.ntmps97
  go_wp2
  refine wp_region_quiet_tail 9 (by kernel_rfl) (by kernel_rfl) ?_
  simp only [List.take_succ_cons, List.take_zero, List.drop_succ_cons, List.drop_zero]
  repeat (first | go_big_quiet_step ((go_at_call 70; exact Calls.quiet_of (place_q m r L head i _ _ hl hlm hh (by omega) hm h0 h1))) | quiet_step ((go_at_call 70; exact Calls.quiet_of (place_q m r L head i _ _ hl hlm hh (by omega) hm h0 h1))))
  refine wpQuiet_nil ?_
  rintro _ ⟨nq, rfl⟩
  go_wp2
  go_ret
  exact ⟨rfl, _, rfl⟩
theorem set_yes_q {w : World} {r : Nat} {ds : List Nat} {xs : List (Option Nat)} (h : Rgq w r ds xs) {i : Nat} (hi : i < xs.length) (u : (Option Nat)) :
    Calls Try.prog 97 #[.pointer (some ⟨r, 0, none⟩), .int .i64 i, ptrV u] w fun e w' => e = .returned (.bool true) ∧ Rgq w' r ds (xs.set i u) ∧ Fr ds w w' := by
  obtain ⟨d, L, head, rfl, cs, hb, hL, hd, hbd, hc⟩ := h.conc (by omega)
  have hr := hc.room
  have h0 := hb.cell 0
  have h1 := hb.cell 1
  have h2 := hb.cell 2
  have hx' := hc.at_ i xs[i] (by simp [hi]) 0 (by decide)
  have hcc := hbd.cell ((head + i) % L)
  simp at h0 h1 h2
  simp [encQ] at hx'
  refine (set_conc_q _ r d L head xs.length i xs[i] u w (by omega) hL hc.headL hi hr (Lib.hid rfl) (Nat.mod_lt _ (by omega)) h0 h1 h2 (by rw [hcc, hx']) (hbd.frz _)).mono ?_
  rintro e w' ⟨he, n, rfl⟩
  refine ⟨he, (Rcq.at ⟨cs.set ((head + i) % L) (ptrV u), ?_, hL, hd, (hbd.set _ _).drewN n, hc.set hi ?_⟩), ((Fr.refl [d] w).setCell _ (.inl (by simp))).drewN n⟩
  · rw [List.length_set]; exact (hb.other _ (by exact Ne.symm hd)).drewN n
  · exact Splice.one (by rw [hc.len]; have := Nat.mod_lt (head + i) (show 0 < L by omega); omega) _
set_option maxHeartbeats 400000 in
theorem set_no_q {w : World} {r : Nat} {ds : List Nat} {xs : List (Option Nat)} (h : Rgq w r ds xs) (i : Int) (u : (Option Nat)) (hi : i < 0 ∨ (xs.length : Int) ≤ i) :
    Calls Try.prog 97 #[.pointer (some ⟨r, 0, none⟩), .int .i64 i, ptrV u] w fun e w' => e = .returned (.bool false) ∧ w' = w := by
  obtain ⟨L, head, sv, hb, hL, h⟩ := h
  have h2 := hb.cell 2
  simp at h2
  by_cases hneg : i < 0
  · clear hi
    go_enter Try.func97, Try.ntmps97
    go_wp2
    go_ret
    exact ⟨rfl, rfl⟩
  · have hge : (xs.length : Int) ≤ i := by omega
    have hneg' : 0 ≤ i := by omega
    clear hi hneg
    go_enter Try.func97, Try.ntmps97
    go_wp2
    go_ret
    exact ⟨rfl, rfl⟩

set_option maxHeartbeats 400000 in
theorem new_q (w : World) :
    Calls Try.prog 33 #[] w fun e w' => e = .returned (.pointer (some ⟨w.heap.size, 0, none⟩)) ∧ Rgq w' w.heap.size [] [] ∧ Fr [] w w' ∧ w'.heap.size = w.heap.size + 1 := by
  go_enter Try.func33, Try.ntmps33
  go_wp2
  go_ret
  exact ⟨rfl, ⟨0, 0, .slice none 0 0, Blk.new _ _ _, by omega, .inl ⟨rfl, rfl, rfl, rfl, rfl⟩⟩, (Fr.refl [] w).alloc _, by simp⟩
end Go.Proofs.Yteojodcdehkejaa
