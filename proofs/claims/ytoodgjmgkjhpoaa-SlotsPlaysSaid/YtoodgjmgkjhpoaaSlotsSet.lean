/- Slots' Set (int). -/
import Derived.Test.YtoodgjmgkjhpoaaSlotsPI
namespace Go.Proofs.Ytoodgjmgkjhpoaa
open Go Go.RowKit
attribute [local go_sem] calmQ_normal wide_fn wide_depth Oper.semAt_some

set_option maxRecDepth 100000 in
set_option maxHeartbeats 1000000 in
theorem sset_yes {w : World} {b d last cnt : Nat} {L : List (Slot Int)} (h : Sli w b d last L cnt) {i : Nat} {s : Slot Int} (hs : L[i]? = some s) (hheld : s.held = true) (V : Int) :
    Calls Try.prog 53 #[.pointer (some ⟨b, 0, none⟩), .agg #[.int .i64 i, .int .i64 s.gen], .int .i64 V] w fun e w' => e = .returned (.int .i64 0) ∧ Sli w' b d last (L.set i ⟨V, true, s.gen⟩) cnt ∧ Fr [d] w w' := by
  have hcall := Lib.hid (fun o => find_yesi (h.fr ((Fr.refl [] w).alloc o) (by simp)) hs hheld)
  have hbw := h.hb.lt
  have hdw := h.hd.lt
  have hne := h.ne
  have hne' := Ne.symm hne
  have H := Lib.hid h
  have HS := Lib.hid hs
  have HH := Lib.hid hheld
  clear h hs hheld
  go_enter Try.func53, Try.ntmps53
  go_wp2_with fail
  refine (hcall.out _).mono ?_
  rintro e w1 ⟨rfl, hf⟩
  have hf1 : Fr [] w w1 := ((Fr.refl [] w).alloc _).trans' hf
  have h1 := H.out.fr hf1 (by simp)
  obtain ⟨c0, c1, c2⟩ := slot_cellsi h1.hd HS.out
  have f0 := h1.hd.frz (i * 3)
  have hfin : Sli (w1.setCell ⟨d, i * 3, none⟩ (.int .i64 V)) b d last (L.set i ⟨V, true, s.gen⟩) cnt ∧ Fr [d] w (w1.setCell ⟨d, i * 3, none⟩ (.int .i64 V)) := by
    refine ⟨⟨?_, ?_, hne, by rw [List.length_set]; exact h1.room, h1.lastL, gens_set h1.gens i (h1.gens s (List.mem_of_getElem? HS.out))⟩, (hf1.mono (T := [d]) (by simp)).setCell _ (.inl (by simp))⟩
    · rw [List.length_set]
      exact h1.hb.other (p := ⟨d, i * 3, none⟩) _ hne
    · have := h1.hd.set (i * 3) (.int .i64 V)
      have hl := length_flatMap_enc encSlot_leni L
      have hil := some_lt HS.out
      have hsp := flatMap_splice (y := ⟨V, true, s.gen⟩) (cs' := (L.flatMap encSloti).set (i * 3) (.int .i64 V)) encSlot_leni hil ⟨by simp, fun j hj => ?_, fun k hk => by rw [List.getElem?_set_ne (by omega)]⟩
      · rw [← hsp]; exact this
      · have h0 := flatMap_at encSlot_leni HS.out (j := j) hj
        match j, hj with
        | 0, _ => rw [show i * 3 + 0 = i * 3 from rfl, List.getElem?_set_self (by rw [hl]; omega)]; rfl
        | 1, _ => rw [List.getElem?_set_ne (by omega), h0]; simp [encSloti, HH.out]
        | 2, _ => rw [List.getElem?_set_ne (by omega), h0]; rfl
  have HF := Lib.hid hfin
  clear hf hf1 hfin h1
  go_wp2
  go_ret
  exact ⟨rfl, HF.out⟩
set_option maxRecDepth 100000 in
set_option maxHeartbeats 1000000 in
theorem sset_no {w : World} {b d last cnt : Nat} {L : List (Slot Int)} (h : Sli w b d last L cnt) (i g : Int) (hno : ∀ s, 0 ≤ i → L[i.toNat]? = some s → s.held = true → (s.gen : Int) ≠ g) (V : Int) :
    Calls Try.prog 53 #[.pointer (some ⟨b, 0, none⟩), .agg #[.int .i64 i, .int .i64 g], .int .i64 V] w fun e w' => e = .returned (.int .i64 60) ∧ Fr [] w w' := by
  have hcall := Lib.hid (fun o => find_noi (h.fr ((Fr.refl [] w).alloc o) (by simp)) i g hno)
  clear h hno
  go_enter Try.func53, Try.ntmps53
  go_wp2_with fail
  refine (hcall.out _).mono ?_
  rintro e w1 ⟨rfl, hf⟩
  have hf1 : Fr [] w w1 := ((Fr.refl [] w).alloc _).trans' hf
  have HF := Lib.hid hf1
  clear hf hf1
  go_wp2
  go_ret
  exact ⟨rfl, HF.out⟩
end Go.Proofs.Ytoodgjmgkjhpoaa
