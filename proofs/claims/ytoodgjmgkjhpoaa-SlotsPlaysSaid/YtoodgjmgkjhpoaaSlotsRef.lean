/- The reference's slots: the contracts of their functions. -/
import Derived.Test.YtoodgjmgkjhpoaaSlotsPI
import Derived.Test.YtoodgjmgkjhpoaaWide
namespace Go.Proofs.Ytoodgjmgkjhpoaa
open Go Go.RowKit
attribute [local go_sem] calmQ_normal wide_fn wide_depth Oper.semAt_some

def encR (s : Slot Int) : List Value := [.int .i64 s.gen, .bool s.held, .int .i64 s.v]
theorem encR_len (s : Slot Int) : (encR s).length = 3 := rfl
/-- the reference's slots: the cells in block e -/
structure RefAt (w : World) (e : Nat) (L : List (Slot Int)) : Prop where
  hd : Blk w e 149 (L.flatMap encR)
  room : L.length ≤ 65536
theorem RefAt.fr {w w' : World} {e : Nat} {L : List (Slot Int)} (h : RefAt w e L) {S : List Nat} (f : Fr S w w') (hn : e ∉ S) : RefAt w' e L := ⟨h.hd.fr f hn, h.room⟩
theorem ref_cells {w : World} {e : Nat} {L : List (Slot Int)} (h : Blk w e 149 (L.flatMap encR)) {i : Nat} {s : Slot Int} (hs : L[i]? = some s) :
    w.cell? ⟨e, i * 3, none⟩ = some (.int .i64 s.gen) ∧ w.cell? ⟨e, i * 3 + 1, none⟩ = some (.bool s.held) ∧ w.cell? ⟨e, i * 3 + 2, none⟩ = some (.int .i64 s.v) := by
  have h0 := flatMap_at encR_len hs (j := 0) (by decide)
  have h1 := flatMap_at encR_len hs (j := 1) (by decide)
  have h2 := flatMap_at encR_len hs (j := 2) (by decide)
  refine ⟨?_, ?_, ?_⟩
  · rw [h.cell]; exact h0
  · rw [h.cell]; exact h1
  · rw [h.cell]; exact h2

set_option maxRecDepth 100000 in
set_option maxHeartbeats 1000000 in
theorem rgood_yes {w : World} {e : Nat} {L : List (Slot Int)} (h : RefAt w e L) (last : Int) {i : Nat} {s : Slot Int} (hs : L[i]? = some s) (hheld : s.held = true) :
    Calls Try.prog 84 #[.agg #[.slice (some ⟨e, 0, none⟩) L.length L.length, .int .i64 last], .agg #[.int .i64 i, .int .i64 s.gen]] w fun r w' => r = .returned (.bool true) ∧ Fr [] w w' := by
  obtain ⟨hd, hn⟩ := h
  have hil := some_lt hs
  obtain ⟨c0, c1, c2⟩ := ref_cells hd hs
  rw [hheld] at c1
  have hdw := hd.lt
  have hdw2 : e < w.heap.size + 1 := by omega
  clear hd hs hheld
  have hk1 : decide ((0 : Int) ≤ (i : Int)) = true := by simp
  have hk2 : decide (i < L.length) = true := by simp; omega
  go_enter Try.func84, Try.ntmps84
  go_wp2
  go_quiet (fail)
  go_wp2
  go_ret
  exact ⟨rfl, (((Fr.refl [] w).alloc _).alloc _).drewN _⟩

set_option maxRecDepth 100000 in
set_option maxHeartbeats 1000000 in
theorem rgood_no {w : World} {e : Nat} {L : List (Slot Int)} (h : RefAt w e L) (last : Int) (i g : Int) (hno : ∀ s, 0 ≤ i → L[i.toNat]? = some s → s.held = true → (s.gen : Int) ≠ g) :
    Calls Try.prog 84 #[.agg #[.slice (some ⟨e, 0, none⟩) L.length L.length, .int .i64 last], .agg #[.int .i64 i, .int .i64 g]] w fun r w' => r = .returned (.bool false) ∧ Fr [] w w' := by
  obtain ⟨hd, hn⟩ := h
  have hdw := hd.lt
  have hdw2 : e < w.heap.size + 1 := by omega
  by_cases hi0 : i < 0
  · clear hd hno
    have hk1 : decide (0 ≤ i) = false := by simp; omega
    go_enter Try.func84, Try.ntmps84
    go_wp2
    go_quiet (fail)
    go_wp2
    go_ret
    exact ⟨rfl, (((Fr.refl [] w).alloc _).alloc _).drewN _⟩
  obtain ⟨k, rfl⟩ := Int.eq_ofNat_of_zero_le (show 0 ≤ i by omega)
  by_cases hil : k < L.length
  · obtain ⟨s, hs⟩ : ∃ s, L[k]? = some s := ⟨L[k], by simp [hil]⟩
    obtain ⟨c0, c1, c2⟩ := ref_cells hd hs
    have hno' := hno s (by omega) (by simpa using hs)
    clear hd hs hno hi0
    have hk1 : decide ((0 : Int) ≤ (k : Int)) = true := by simp
    have hk2 : decide (k < L.length) = true := by simp; omega
    cases hh : s.held with
    | false =>
      rw [hh] at c1
      clear hno' hh
      go_enter Try.func84, Try.ntmps84
      go_wp2
      go_quiet (fail)
      go_wp2
      go_ret
      exact ⟨rfl, (((Fr.refl [] w).alloc _).alloc _).drewN _⟩
    | true =>
      rw [hh] at c1
      have hne : ((s.gen : Int) == g) = false := by simpa using hno' hh
      clear hno' hh
      go_enter Try.func84, Try.ntmps84
      go_wp2
      go_quiet (fail)
      go_wp2
      go_ret
      exact ⟨by simp, (((Fr.refl [] w).alloc _).alloc _).drewN _⟩
  · have hk1 : decide ((0 : Int) ≤ (k : Int)) = true := by simp
    have hk2 : decide (k < L.length) = false := by simp; omega
    clear hd hno hi0 hil
    go_enter Try.func84, Try.ntmps84
    go_wp2
    go_quiet (fail)
    go_wp2
    go_ret
    exact ⟨rfl, (((Fr.refl [] w).alloc _).alloc _).drewN _⟩

set_option maxRecDepth 100000 in
set_option maxHeartbeats 1000000 in
theorem rget_yes {w : World} {e : Nat} {L : List (Slot Int)} (h : RefAt w e L) (last : Int) {i : Nat} {s : Slot Int} (hs : L[i]? = some s) (hheld : s.held = true) :
    Calls Try.prog 52 #[.agg #[.slice (some ⟨e, 0, none⟩) L.length L.length, .int .i64 last], .agg #[.int .i64 i, .int .i64 s.gen]] w fun r w' => r = .returned (.tuple #[.int .i64 s.v, .int .i64 0]) ∧ Fr [] w w' := by
  have hcall := Lib.hid (fun X (f : Fr [] w X) => rgood_yes (h.fr f (by simp)) last hs hheld)
  obtain ⟨c0, c1, c2⟩ := ref_cells h.hd hs
  have C2 := Lib.hid c2
  have hil := some_lt hs
  have hn := h.room
  have hdw := h.hd.lt
  clear h hs hheld c0 c1 c2
  go_enter Try.func52, Try.ntmps52
  go_wp2_with fail
  refine (hcall.out _ (((Fr.refl [] w).alloc _).alloc _)).mono ?_
  rintro r w1 ⟨rfl, hf⟩
  have hf1 : Fr [] w w1 := (((Fr.refl [] w).alloc _).alloc _).trans' hf
  have c2 := (hf1.cell (p := ⟨e, i * 3 + 2, none⟩) hdw (by simp)).trans C2.out
  have b1 : Blk w1 w.heap.size 83 [.slice (some ⟨e, 0, none⟩) L.length L.length, .int .i64 last] := ((Blk.new w 83 [.slice (some ⟨e, 0, none⟩) L.length L.length, .int .i64 last]).alloc _).fr hf (by simp)
  have b2 : Blk w1 (w.heap.size + 1) 32 [.int .i64 i, .int .i64 s.gen] := by
    have := (Blk.new (w.alloc (.cells #[.slice (some ⟨e, 0, none⟩) L.length L.length, .int .i64 last] 83)) 32 [.int .i64 i, .int .i64 s.gen]).fr hf (by simp)
    rwa [World.size_alloc] at this
  have d0 := b1.cell 0
  have d1 := b2.cell 0
  simp only [List.getElem?_cons_zero] at d0 d1
  have HF := Lib.hid hf1
  clear hf hf1 hcall b1 b2
  go_wp2
  go_ret2
  exact ⟨rfl, HF.out⟩
set_option maxRecDepth 100000 in
set_option maxHeartbeats 1000000 in
theorem rget_no {w : World} {e : Nat} {L : List (Slot Int)} (h : RefAt w e L) (last : Int) (i g : Int) (hno : ∀ s, 0 ≤ i → L[i.toNat]? = some s → s.held = true → (s.gen : Int) ≠ g) :
    Calls Try.prog 52 #[.agg #[.slice (some ⟨e, 0, none⟩) L.length L.length, .int .i64 last], .agg #[.int .i64 i, .int .i64 g]] w fun r w' => r = .returned (.tuple #[.int .i64 0, .int .i64 60]) ∧ Fr [] w w' := by
  have hcall := Lib.hid (fun X (f : Fr [] w X) => rgood_no (h.fr f (by simp)) last i g hno)
  clear h hno
  go_enter Try.func52, Try.ntmps52
  go_wp2_with fail
  refine (hcall.out _ (((Fr.refl [] w).alloc _).alloc _)).mono ?_
  rintro r w1 ⟨rfl, hf⟩
  have hf1 : Fr [] w w1 := (((Fr.refl [] w).alloc _).alloc _).trans' hf
  have HF := Lib.hid hf1
  clear hf hf1 hcall
  go_wp2
  go_ret2
  exact ⟨rfl, HF.out⟩
end Go.Proofs.Ytoodgjmgkjhpoaa
