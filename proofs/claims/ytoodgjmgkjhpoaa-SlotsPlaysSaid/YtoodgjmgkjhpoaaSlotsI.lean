/- Slots of int: the contracts of their functions. -/
import Derived.Test.YtoodgjmgkjhpoaaChecked
import Derived.Test.YtoodgjmgkjhpoaaSlotsCore
namespace Go.Proofs.Ytoodgjmgkjhpoaa
open Go Go.RowKit
attribute [local go_sem] calmQ_normal wide_fn wide_depth Oper.semAt_some

def encSloti (s : Slot Int) : List Value := [Value.int .i64 s.v, .bool s.held, .int .i64 s.gen]
theorem encSlot_leni (s : Slot Int) : (encSloti s).length = 3 := rfl
abbrev Sli : World → Nat → Nat → Nat → List (Slot Int) → Nat → Prop := SlotsAt 110 115 encSloti

theorem slot_cellsi {w : World} {d : Nat} {L : List (Slot Int)} (h : Blk w d 115 (L.flatMap encSloti)) {i : Nat} {s : Slot Int} (hs : L[i]? = some s) :
    w.cell? ⟨d, i * 3, none⟩ = some (Value.int .i64 s.v) ∧ w.cell? ⟨d, i * 3 + 1, none⟩ = some (.bool s.held) ∧ w.cell? ⟨d, i * 3 + 2, none⟩ = some (.int .i64 s.gen) := by
  have h0 := flatMap_at encSlot_leni hs (j := 0) (by decide)
  have h1 := flatMap_at encSlot_leni hs (j := 1) (by decide)
  have h2 := flatMap_at encSlot_leni hs (j := 2) (by decide)
  rw [h.cell, h.cell, h.cell]
  exact ⟨by simpa [encSloti] using h0, by simpa [encSloti] using h1, by simpa [encSloti] using h2⟩

set_option maxRecDepth 100000 in
set_option maxHeartbeats 1000000 in
theorem find_yesi {w : World} {b d last cnt : Nat} {L : List (Slot Int)} (h : Sli w b d last L cnt) {i : Nat} {s : Slot Int} (hs : L[i]? = some s) (hheld : s.held = true) :
    Calls Try.prog 62 #[.pointer (some ⟨b, 0, none⟩), .agg #[.int .i64 i, .int .i64 s.gen]] w fun e w' => e = .returned (.pointer (some ⟨d, i * 3, none⟩)) ∧ Fr [] w w' := by
  obtain ⟨hb, hd, hbd, hn, hl, hg⟩ := h
  have hil := some_lt hs
  obtain ⟨c0, c1, c2⟩ := slot_cellsi hd hs
  have h0 := hb.cell 0
  simp at h0
  rw [hheld] at c1
  have hbw := hb.lt
  have hdw := hd.lt
  clear hb hd hs hheld
  have hk1 : decide ((i : Int) < 0) = false := by simp
  have hk2 : decide (L.length ≤ i) = false := by simp; omega
  go_enter Try.func62, Try.ntmps62
  go_wp2
  go_quiet (fail)
  go_wp2
  go_quiet (fail)
  go_wp2
  go_ret
  exact ⟨rfl, ((Fr.refl [] w).alloc _).sim ⟨rfl, rfl, rfl, rfl⟩⟩

set_option maxRecDepth 100000 in
set_option maxHeartbeats 1000000 in
theorem find_noi {w : World} {b d last cnt : Nat} {L : List (Slot Int)} (h : Sli w b d last L cnt) (i g : Int) (hno : ∀ s, 0 ≤ i → L[i.toNat]? = some s → s.held = true → (s.gen : Int) ≠ g) :
    Calls Try.prog 62 #[.pointer (some ⟨b, 0, none⟩), .agg #[.int .i64 i, .int .i64 g]] w fun e w' => e = .returned (.pointer none) ∧ Fr [] w w' := by
  obtain ⟨hb, hd, hbd, hn, hl, hg⟩ := h
  have h0 := hb.cell 0
  simp at h0
  have hbw := hb.lt
  have hdw := hd.lt
  by_cases hi0 : i < 0
  · clear hb hd hno
    have hk1 : decide (i < 0) = true := by simpa using hi0
    go_enter Try.func62, Try.ntmps62
    go_wp2
    go_quiet (fail)
    go_wp2
    go_ret
    exact ⟨rfl, ((Fr.refl [] w).alloc _).drewN _⟩
  obtain ⟨k, rfl⟩ := Int.eq_ofNat_of_zero_le (show 0 ≤ i by omega)
  by_cases hil : k < L.length
  · obtain ⟨s, hs⟩ : ∃ s, L[k]? = some s := ⟨L[k], by simp [hil]⟩
    obtain ⟨c0, c1, c2⟩ := slot_cellsi hd hs
    have hno' := hno s (by omega) (by simpa using hs)
    clear hb hd hs hno hi0
    have hk1 : decide ((k : Int) < 0) = false := by simp
    have hk2 : decide (L.length ≤ k) = false := by simp; omega
    cases hh : s.held with
    | false =>
      rw [hh] at c1
      clear hno' hh
      go_enter Try.func62, Try.ntmps62
      go_wp2
      go_quiet (fail)
      go_wp2
      go_ret
      exact ⟨rfl, ((Fr.refl [] w).alloc _).drewN _⟩
    | true =>
      rw [hh] at c1
      have hne : ((s.gen : Int) == g) = false := by simpa using hno' hh
      clear hno' hh
      go_enter Try.func62, Try.ntmps62
      go_wp2
      go_quiet (fail)
      go_wp2
      go_ret
      exact ⟨rfl, ((Fr.refl [] w).alloc _).drewN _⟩
  · have hk1 : decide ((k : Int) < 0) = false := by simp
    have hk2 : decide (L.length ≤ k) = true := by simp; omega
    clear hb hd hno hi0 hil
    go_enter Try.func62, Try.ntmps62
    go_wp2
    go_quiet (fail)
    go_wp2
    go_ret
    exact ⟨rfl, ((Fr.refl [] w).alloc _).drewN _⟩

set_option maxRecDepth 100000 in
set_option maxHeartbeats 1000000 in
theorem get_yesi {w : World} {b d last cnt : Nat} {L : List (Slot Int)} (h : Sli w b d last L cnt) {i : Nat} {s : Slot Int} (hs : L[i]? = some s) (hheld : s.held = true) :
    Calls Try.prog 14 #[.pointer (some ⟨b, 0, none⟩), .agg #[.int .i64 i, .int .i64 s.gen]] w fun e w' => e = .returned (.tuple #[Value.int .i64 s.v, .int .i64 0]) ∧ Fr [] w w' := by
  have hcall := Lib.hid (fun o => find_yesi (h.fr ((Fr.refl [] w).alloc o) (by simp)) hs hheld)
  obtain ⟨c0, c1, c2⟩ := slot_cellsi h.hd hs
  have C0 := Lib.hid c0
  have hdw := h.hd.lt
  clear h hs hheld c0 c1 c2
  go_enter Try.func14, Try.ntmps14
  go_wp2_with fail
  refine (hcall.out _).mono ?_
  rintro e w1 ⟨rfl, hf⟩
  have hf1 : Fr [] w w1 := ((Fr.refl [] w).alloc _).trans' hf
  have c1 := (hf1.cell (p := ⟨d, i * 3, none⟩) hdw (by simp)).trans C0.out
  have HF := Lib.hid hf1
  clear hf hf1
  go_wp2
  go_ret2
  exact ⟨rfl, HF.out⟩
set_option maxRecDepth 100000 in
set_option maxHeartbeats 1000000 in
theorem get_noi {w : World} {b d last cnt : Nat} {L : List (Slot Int)} (h : Sli w b d last L cnt) (i g : Int) (hno : ∀ s, 0 ≤ i → L[i.toNat]? = some s → s.held = true → (s.gen : Int) ≠ g) :
    Calls Try.prog 14 #[.pointer (some ⟨b, 0, none⟩), .agg #[.int .i64 i, .int .i64 g]] w fun e w' => e = .returned (.tuple #[Value.int .i64 0, .int .i64 60]) ∧ Fr [] w w' := by
  have hcall := Lib.hid (fun o => find_noi (h.fr ((Fr.refl [] w).alloc o) (by simp)) i g hno)
  clear h hno
  go_enter Try.func14, Try.ntmps14
  go_wp2_with fail
  refine (hcall.out _).mono ?_
  rintro e w1 ⟨rfl, hf⟩
  have hf1 : Fr [] w w1 := ((Fr.refl [] w).alloc _).trans' hf
  have HF := Lib.hid hf1
  clear hf hf1
  go_wp2
  go_ret2
  exact ⟨rfl, HF.out⟩
theorem sleni {w : World} {b d last cnt : Nat} {L : List (Slot Int)} (h : Sli w b d last L cnt) :
    Calls Try.prog 61 #[.pointer (some ⟨b, 0, none⟩)] w fun e w' => e = .returned (.int .i64 cnt) ∧ w' = w := by
  have h2 := h.hb.cell 2
  simp at h2
  clear h
  go_enter Try.func61, Try.ntmps61
  go_wp2
  go_ret
  exact ⟨rfl, rfl⟩

theorem drop_splicei {L : List (Slot Int)} {i : Nat} {s : Slot Int} (hs : L[i]? = some s) {cs : List Value} (hc : cs = ((L.flatMap encSloti).set (i * 3) (Value.int .i64 0)).set (i * 3 + 1) (.bool false)) :
    cs = (L.set i ⟨0, false, s.gen⟩).flatMap encSloti := by
  have hil := some_lt hs
  have hl := length_flatMap_enc encSlot_leni L
  refine flatMap_splice encSlot_leni hil ⟨by rw [hc]; simp, fun j hj => ?_, fun k hk => ?_⟩
  · have h0 := flatMap_at encSlot_leni hs (j := j) hj
    rw [hc]
    match j, hj with
    | 0, _ => rw [List.getElem?_set_ne (by omega), Nat.add_zero, List.getElem?_set_self (by rw [hl]; omega)]; rfl
    | 1, _ => rw [List.getElem?_set_self (by rw [List.length_set, hl]; omega)]; rfl
    | 2, _ => rw [List.getElem?_set_ne (by omega), List.getElem?_set_ne (by omega), h0]; rfl
  · rw [hc, List.getElem?_set_ne (by omega), List.getElem?_set_ne (by omega)]
theorem gens_set {β : Type} {L : List (Slot β)} {last : Nat} (h : ∀ s, s ∈ L → s.gen ≤ last) (i : Nat) {s : Slot β} (hs : s.gen ≤ last) : ∀ t, t ∈ L.set i s → t.gen ≤ last := fun t ht => by
  rcases List.mem_or_eq_of_mem_set ht with h' | rfl
  · exact h t h'
  · exact hs

set_option maxRecDepth 100000 in
set_option maxHeartbeats 1000000 in
theorem drop_yesi {w : World} {b d last cnt : Nat} {L : List (Slot Int)} (h : Sli w b d last L (cnt + 1)) (hcnt : cnt ≤ 65536) {i : Nat} {s : Slot Int} (hs : L[i]? = some s) (hheld : s.held = true) :
    Calls Try.prog 13 #[.pointer (some ⟨b, 0, none⟩), .agg #[.int .i64 i, .int .i64 s.gen]] w fun e w' => e = .returned (.tuple #[Value.int .i64 s.v, .int .i64 0]) ∧ Sli w' b d last (L.set i ⟨0, false, s.gen⟩) cnt ∧ Fr [b, d] w w' := by
  have hcall := Lib.hid (fun o => find_yesi (h.fr ((Fr.refl [] w).alloc o) (by simp)) hs hheld)
  have hbw := h.hb.lt
  have hdw := h.hd.lt
  have hne := h.ne
  have hne' := Ne.symm hne
  have H := Lib.hid h
  have HS := Lib.hid hs
  clear h hs hheld
  go_enter Try.func13, Try.ntmps13
  go_wp2_with fail
  refine (hcall.out _).mono ?_
  rintro e w1 ⟨rfl, hf⟩
  have hf1 : Fr [] w w1 := ((Fr.refl [] w).alloc _).trans' hf
  have h1 := H.out.fr hf1 (by simp)
  obtain ⟨c0, c1, c2⟩ := slot_cellsi h1.hd HS.out
  have f0 := h1.hd.frz (i * 3)
  have f1 := h1.hd.frz (i * 3 + 1)
  have b2 := h1.hb.cell 2
  simp at b2
  have g2 := h1.hb.frz 2
  have hfin : Sli (((w1.setCell ⟨d, i * 3, none⟩ (Value.int .i64 0)).setCell ⟨d, i * 3 + 1, none⟩ (.bool false)).setCell ⟨b, 2, none⟩ (.int .i64 cnt)) b d last (L.set i ⟨0, false, s.gen⟩) cnt ∧
      Fr [b, d] w (((w1.setCell ⟨d, i * 3, none⟩ (Value.int .i64 0)).setCell ⟨d, i * 3 + 1, none⟩ (.bool false)).setCell ⟨b, 2, none⟩ (.int .i64 cnt)) := by
    refine ⟨⟨?_, ?_, hne, by rw [List.length_set]; exact h1.room, h1.lastL, gens_set h1.gens i (h1.gens s (List.mem_of_getElem? HS.out))⟩,
      (((hf1.mono (T := [b, d]) (by simp)).setCell _ (.inl (by simp))).setCell _ (.inl (by simp))).setCell _ (.inl (by simp))⟩
    · have := ((h1.hb.other (p := ⟨d, i * 3, none⟩) (Value.int .i64 0) hne).other (p := ⟨d, i * 3 + 1, none⟩) (.bool false) hne).set 2 (.int .i64 cnt)
      simpa using this
    · have := ((h1.hd.set (i * 3) (Value.int .i64 0)).set (i * 3 + 1) (.bool false)).other (p := ⟨b, 2, none⟩) (.int .i64 cnt) hne'
      rw [← drop_splicei HS.out rfl]
      exact this
  have HF := Lib.hid hfin
  clear hf hf1 hfin h1
  go_wp2
  go_ret2
  exact ⟨rfl, HF.out⟩
set_option maxRecDepth 100000 in
set_option maxHeartbeats 1000000 in
theorem drop_noi {w : World} {b d last cnt : Nat} {L : List (Slot Int)} (h : Sli w b d last L cnt) (i g : Int) (hno : ∀ s, 0 ≤ i → L[i.toNat]? = some s → s.held = true → (s.gen : Int) ≠ g) :
    Calls Try.prog 13 #[.pointer (some ⟨b, 0, none⟩), .agg #[.int .i64 i, .int .i64 g]] w fun e w' => e = .returned (.tuple #[Value.int .i64 0, .int .i64 60]) ∧ Fr [] w w' := by
  have hcall := Lib.hid (fun o => find_noi (h.fr ((Fr.refl [] w).alloc o) (by simp)) i g hno)
  clear h hno
  go_enter Try.func13, Try.ntmps13
  go_wp2_with fail
  refine (hcall.out _).mono ?_
  rintro e w1 ⟨rfl, hf⟩
  have hf1 : Fr [] w w1 := ((Fr.refl [] w).alloc _).trans' hf
  have HF := Lib.hid hf1
  clear hf hf1
  go_wp2
  go_ret2
  exact ⟨rfl, HF.out⟩
end Go.Proofs.Ytoodgjmgkjhpoaa
