/- Rings of *millrace/drr.flow: the contracts of their functions, fourth part: what changes the ring. -/
import Derived.Test.YteojodcdehkejaaRingLQ
namespace Go.Proofs.Yteojodcdehkejaa
open Go Go.RowKit
attribute [local go_sem] calmQ_normal wide_fn wide_depth Oper.semAt_some

set_option maxRecDepth 100000 in
set_option maxHeartbeats 1000000 in
theorem pushB_q {w : World} {r : Nat} {ds : List Nat} {xs : List (Option Nat)} (h : Rgq w r ds xs) (hx : xs.length ≤ 268435456) (v : (Option Nat)) :
    Calls Try.prog 38 #[.pointer (some ⟨r, 0, none⟩), ptrV v] w fun e w' => e = .returned (.tuple #[]) ∧ ∃ ds', Rgq w' r ds' (xs ++ [v]) ∧ Fr (r :: ds) w w' ∧ Gr w ds ds' := by
  have hcall := Lib.hid (wider_q h hx)
  clear h
  go_enter Try.func38, Try.ntmps38
  go_wp2_with fail
  refine hcall.out.mono ?_
  rintro e w1 ⟨rfl, d, L, head, ⟨cs, hb, hL, hd, hbd, hc⟩, hroom, hf1, hg1⟩
  have h0 := hb.cell 0
  have h1 := hb.cell 1
  have h2 := hb.cell 2
  simp at h0 h1 h2
  have f2 := hb.frz 2
  have hhd := hc.headL
  obtain ⟨m, hm⟩ : ∃ m, Hid (m = (head + xs.length) % L) := ⟨_, Lib.hid rfl⟩
  have hml : m < L := by rw [hm.out]; exact Nat.mod_lt _ (by omega)
  have hmc : m < cs.length := by rw [hc.len]; omega
  obtain ⟨u, hu⟩ : ∃ u, w1.cell? ⟨d, m, none⟩ = some u := ⟨cs[m], by rw [hbd.cell]; simp [hmc]⟩
  have fd := hbd.frz m
  have s1 := Splice.one hmc (ptrV v)
  rw [hm.out] at s1
  have hfin : ∀ nq : Nat, Rcq (((w1.setCell ⟨d, m, none⟩ (ptrV v)).setCell ⟨r, 2, none⟩ (.int .i64 (xs.length + 1 : Int))).drewN nq) r d L head (xs ++ [v]) ∧ Fr (r :: ds) w (((w1.setCell ⟨d, m, none⟩ (ptrV v)).setCell ⟨r, 2, none⟩ (.int .i64 (xs.length + 1 : Int))).drewN nq) := fun nq => by
    refine ⟨⟨cs.set m (ptrV v), ?_, hL, hd, ?_, ?_⟩, ?_⟩
    · have := ((hb.other (p := ⟨d, m, none⟩) (ptrV v) (Ne.symm hd)).set 2 (.int .i64 (xs.length + 1 : Int))).drewN nq
      simpa using this
    · exact ((hbd.set m (ptrV v)).other (p := ⟨r, 2, none⟩) _ hd).drewN nq
    · rw [hm.out]; exact hc.back hroom s1
    · have f1 : Fr [r, d] w1 (((w1.setCell ⟨d, m, none⟩ (ptrV v)).setCell ⟨r, 2, none⟩ (.int .i64 (xs.length + 1 : Int))).drewN nq) := (((Fr.refl [r, d] w1).setCell _ (.inl (by simp))).setCell _ (.inl (by simp))).drewN nq
      exact (hf1.mono (T := r :: ds) (by simp)).trans (Gr.cons r hg1) f1
  have HF := Lib.hid hfin
  have HG := Lib.hid hg1
  clear hfin hg1 hf1 s1 hb hbd hc hcall
  go_wp2
  refine wp_region_quiet_tail 12 (by kernel_rfl) (by kernel_rfl) ?_
  simp only [List.take_succ_cons, List.take_zero, List.drop_succ_cons, List.drop_zero]
  repeat (first | go_big_quiet_step ((go_at_call 70; exact Calls.quiet_of (place_q m r L head xs.length _ _ (by omega) hL hhd (by omega) hm h0 h1))) | quiet_step ((go_at_call 70; exact Calls.quiet_of (place_q m r L head xs.length _ _ (by omega) hL hhd (by omega) hm h0 h1))))
  refine wpQuiet_nil ?_
  rintro _ ⟨nq, rfl⟩
  go_wp2
  go_end0
  exact ⟨rfl, _, (HF.out _).1.at, (HF.out _).2, HG.out⟩

theorem at_yesZ_q {w : World} {r : Nat} {ds : List Nat} {xs : List (Option Nat)} (h : Rgq w r ds xs) {i : Int} {x : (Option Nat)} (hi : 0 ≤ i) (hx : xs[i.toNat]? = some x) :
    Calls Try.prog 85 #[.pointer (some ⟨r, 0, none⟩), .int .i64 i] w fun e w' => e = .returned (.tuple #[ptrV x, .bool true]) ∧ ∃ n, w' = w.drewN n := by
  obtain ⟨k, rfl⟩ := Int.eq_ofNat_of_zero_le hi
  exact at_yes_q h (by simpa using hx)
theorem set_yesZ_q {w : World} {r : Nat} {ds : List Nat} {xs : List (Option Nat)} (h : Rgq w r ds xs) {i : Int} (hi : 0 ≤ i) (hl : i.toNat < xs.length) (u : (Option Nat)) :
    Calls Try.prog 97 #[.pointer (some ⟨r, 0, none⟩), .int .i64 i, ptrV u] w fun e w' => e = .returned (.bool true) ∧ Rgq w' r ds (xs.set i.toNat u) ∧ Fr ds w w' := by
  obtain ⟨k, rfl⟩ := Int.eq_ofNat_of_zero_le hi
  exact set_yes_q h (by simpa using hl) u
theorem place_Z_q (m : Nat) (r L head : Nat) (i : Int) (ao : Option Addr) (w : World) (hl : 0 < L) (hlm : L ≤ 1073741824) (hh : head < L) (hi0 : 0 ≤ i) (hi : i ≤ L) (hm : Hid (m = (head + i.toNat) % L))
   (h0 : w.cell? ⟨r, 0, none⟩ = some (.slice ao L L)) (h1 : w.cell? ⟨r, 1, none⟩ = some (.int .i64 head)) :
   Calls Try.prog 70 #[.pointer (some ⟨r, 0, none⟩), .int .i64 i] w fun e w' => e = .returned (.int .i64 (m : Nat)) ∧ ∃ n, w' = w.drewN n := by
  obtain ⟨k, rfl⟩ := Int.eq_ofNat_of_zero_le hi0
  exact place_q m r L head k ao w hl hlm hh (by omega) (by simpa using hm) h0 h1

set_option maxRecDepth 100000 in
set_option maxHeartbeats 1000000 in
theorem popF_no_q {w : World} {r : Nat} {ds : List Nat} (h : Rgq w r ds []) :
    Calls Try.prog 96 #[.pointer (some ⟨r, 0, none⟩)] w fun e w' => e = .returned (.tuple #[ptrV none, .bool false]) ∧ w' = w := by
  have hcall := Lib.hid (at_no_q h 0 (by simp))
  clear h
  go_enter Try.func96, Try.ntmps96
  go_wp2_with (go_at_call 85; refine hcall.out.mono ?_; rintro e w' ⟨rfl, rfl⟩)
  go_ret2
  exact ⟨rfl, rfl⟩

set_option maxRecDepth 100000 in
set_option maxHeartbeats 1000000 in
theorem popF_q {w : World} {r : Nat} {ds : List Nat} {x : (Option Nat)} {xs : List (Option Nat)} (h : Rgq w r ds (x :: xs)) :
    Calls Try.prog 96 #[.pointer (some ⟨r, 0, none⟩)] w fun e w' => e = .returned (.tuple #[ptrV x, .bool true]) ∧ Rgq w' r ds xs ∧ Fr (r :: ds) w w' := by
  have hcall := Lib.hid (at_yesZ_q h (i := 0) (x := x) (by omega) (by simp))
  obtain ⟨d, L, head, rfl, cs, hb, hL, hd, hbd, hc⟩ := h.conc (by simp)
  have h0 := hb.cell 0
  have h1 := hb.cell 1
  have h2 := hb.cell 2
  simp at h0 h1 h2
  have f1 := hb.frz 1
  have f2 := hb.frz 2
  have hhd := hc.headL
  have hro := hc.room
  simp at hro
  have hmc : head < cs.length := by rw [hc.len]; omega
  obtain ⟨u, hu⟩ : ∃ u, w.cell? ⟨d, head, none⟩ = some u := ⟨cs[head], by rw [hbd.cell]; simp [hmc]⟩
  have fd := hbd.frz head
  have s1 := Splice.one hmc (ptrV none)
  obtain ⟨m, hm⟩ : ∃ m, Hid (m = (head + 1) % L) := ⟨_, Lib.hid rfl⟩
  have hm' : Hid (m = (head + (1 : Int).toNat) % L) := hm
  have hfin : ∀ n2 : Nat, Rcq ((((w.setCell ⟨d, head, none⟩ (ptrV none)).setCell ⟨r, 1, none⟩ (.int .i64 m)).setCell ⟨r, 2, none⟩ (.int .i64 xs.length)).drewN n2) r d L m xs ∧ Fr [r, d] w ((((w.setCell ⟨d, head, none⟩ (ptrV none)).setCell ⟨r, 1, none⟩ (.int .i64 m)).setCell ⟨r, 2, none⟩ (.int .i64 xs.length)).drewN n2) := fun n2 => by
    refine ⟨⟨cs.set head (ptrV none), ?_, hL, hd, ?_, ?_⟩, (((((Fr.refl [r, d] w).setCell _ (.inl (by simp))).setCell _ (.inl (by simp))).setCell _ (.inl (by simp))).drewN n2)⟩
    · have := ((((hb.other (p := ⟨d, head, none⟩) (ptrV none) (Ne.symm hd)).set 1 (.int .i64 m)).set 2 (.int .i64 xs.length))).drewN n2
      simpa using this
    · exact (((hbd.set head (ptrV none)).other (p := ⟨r, 1, none⟩) _ hd).other (p := ⟨r, 2, none⟩) _ hd).drewN n2
    · rw [hm.out]; exact hc.popF s1
  have hb2 := hb.other (p := ⟨d, head, none⟩) (ptrV none) (Ne.symm hd)
  have h20 := hb2.cell 0
  have h21 := hb2.cell 1
  simp only [List.getElem?_cons_zero, List.getElem?_cons_succ] at h20 h21
  have H20 := Lib.hid h20
  have H21 := Lib.hid h21
  have HF := Lib.hid hfin
  have hdr : r ≠ d := Ne.symm hd
  clear hfin s1 hb hbd hc h h20 h21 hb2
  go_enter Try.func96, Try.ntmps96
  go_wp2_with (go_at_call 85; refine hcall.out.mono ?_; rintro e w' ⟨rfl, n1, rfl⟩)
  refine wp_region_quiet_tail 10 (by kernel_rfl) (by kernel_rfl) ?_
  simp only [List.take_succ_cons, List.take_zero, List.drop_succ_cons, List.drop_zero]
  repeat (first | go_big_quiet_step (fail) | quiet_step (fail))
  refine wpQuiet_nil ?_
  rintro _ ⟨nq, rfl⟩
  go_wp2_with fail
  refine (place_Z_q m r L head _ _ _ (by omega) hL hhd (by omega) (by omega) hm' (by exact H20.out) (by exact H21.out)).mono ?_
  rintro e w' ⟨rfl, n2, rfl⟩
  go_wp2
  go_ret2
  exact ⟨rfl, (HF.out 0).1.at.sim ⟨rfl, rfl, rfl, rfl⟩, (HF.out 0).2.sim ⟨rfl, rfl, rfl, rfl⟩⟩

set_option maxRecDepth 100000 in
set_option maxHeartbeats 1000000 in
theorem popB_no_q {w : World} {r : Nat} {ds : List Nat} (h : Rgq w r ds []) :
    Calls Try.prog 98 #[.pointer (some ⟨r, 0, none⟩)] w fun e w' => e = .returned (.tuple #[ptrV none, .bool false]) ∧ w' = w := by
  have hcall := Lib.hid (at_no_q h (-1) (by simp))
  obtain ⟨L, head, sv, hb, hL, hrest⟩ := h
  have h2 := hb.cell 2
  simp at h2
  clear hb hrest
  go_enter Try.func98, Try.ntmps98
  go_wp2_with (go_at_call 85; refine hcall.out.mono ?_; rintro e w' ⟨rfl, rfl⟩)
  go_ret2
  exact ⟨rfl, rfl⟩

set_option maxRecDepth 100000 in
set_option maxHeartbeats 1000000 in
theorem popB_q {w : World} {r : Nat} {ds : List Nat} {x : (Option Nat)} {xs : List (Option Nat)} (h : Rgq w r ds (xs ++ [x])) :
    Calls Try.prog 98 #[.pointer (some ⟨r, 0, none⟩)] w fun e w' => e = .returned (.tuple #[ptrV x, .bool true]) ∧ Rgq w' r ds xs ∧ Fr (r :: ds) w w' := by
  have hcall := Lib.hid (at_yesZ_q h (i := xs.length) (x := x) (by omega) (by simp))
  have hcall2 := Lib.hid (fun n => set_yesZ_q (h.drewN n) (i := xs.length) (by omega) (by simp) none)
  have hlen : xs.length ≤ 1073741824 := by
    obtain ⟨d, L, head, rfl, cs, hb, hL, hd, hbd, hc⟩ := h.conc (by simp)
    have := hc.room
    simp at this
    omega
  obtain ⟨L, head, sv, hb, hL, hrest⟩ := h
  have h2 := hb.cell 2
  simp at h2
  clear hb hrest
  go_enter Try.func98, Try.ntmps98
  go_wp2_with (go_at_call 85; refine hcall.out.mono ?_; rintro e w' ⟨rfl, n1, rfl⟩)
  refine (hcall2.out n1).mono ?_
  rintro e w1 ⟨rfl, hr1, hf1⟩
  obtain ⟨d, L1, head1, rfl, cs, hb, hL1, hd, hbd, hc⟩ := hr1.conc (by simp)
  have h12 := hb.cell 2
  simp at h12
  have f12 := hb.frz 2
  have hset := hb.set 2 (.int .i64 xs.length)
  have hro := hc.room
  have hhd := hc.headL
  simp at hro
  have hfin : Rcq (w1.setCell ⟨r, 2, none⟩ (.int .i64 xs.length)) r d L1 head1 xs ∧ Fr [r, d] w (w1.setCell ⟨r, 2, none⟩ (.int .i64 xs.length)) := by
    refine ⟨⟨cs, by simpa using hset, hL1, hd, hbd.other _ hd, ?_⟩, ((((Fr.refl [r, d] w).drewN n1).trans' (hf1.mono (by simp))).setCell _ (.inl (by simp)))⟩
    have e : (xs ++ [x]).set (Int.toNat xs.length) none = xs ++ [none] := by simp
    rw [e] at hc
    exact hc.popB (ys := cs.drop ((head1 + xs.length) % L1 * 1)) ⟨rfl, fun j _ => by rw [List.getElem?_drop], fun _ _ => rfl⟩
  have HF := Lib.hid hfin
  clear hfin hset hb hbd hc hr1 hf1 hcall hcall2
  go_wp2
  go_ret2
  exact ⟨rfl, HF.out.1.at, HF.out.2⟩
end Go.Proofs.Yteojodcdehkejaa
