/- The statements' told over slots: it answers true. -/
import Derived.Test.YtoodgjmgkjhpoaaSlotsPS
namespace Go.Proofs.Ytoodgjmgkjhpoaa
open Go Go.RowKit
attribute [local go_sem] calmQ_normal wide_fn wide_depth Oper.semAt_some

theorem put_some_s {w : World} {b d last cnt : Nat} {L : List (Slot ByteArray)} (h : Sls w b d last L cnt) (hcnt : cnt ≤ 65536) (v : ByteArray) {i : Nat} {s : Slot ByteArray} (hi : freeIdx last L = some i) (hs : L[i]? = some s) :
    Calls Try.prog 16 #[.pointer (some ⟨b, 0, none⟩), .string v] w fun e w' => e = .returned (.tuple #[.agg #[.int .i64 i, .int .i64 (s.gen + 1 : Int)], .int .i64 0]) ∧ Sls w' b d last (L.set i ⟨v, true, s.gen + 1⟩) (cnt + 1) ∧ Fr [b, d] w w' := by
  refine (puts h hcnt v).mono ?_
  intro e w' hp
  unfold PutPosts at hp
  rw [hi] at hp
  obtain ⟨s', hs', h1, h2, h3⟩ := hp
  rw [hs] at hs'
  cases hs'
  exact ⟨h1, h2, h3⟩
theorem put_none_s {w : World} {b d last cnt : Nat} {L : List (Slot ByteArray)} (h : Sls w b d last L cnt) (hcnt : cnt ≤ 65536) (v : ByteArray) (hi : freeIdx last L = none) :
    Calls Try.prog 16 #[.pointer (some ⟨b, 0, none⟩), .string v] w fun e w' => e = .returned (.tuple #[.agg #[.int .i64 0, .int .i64 0], .int .i64 61]) ∧ Fr [] w w' := by
  refine (puts h hcnt v).mono ?_
  intro e w' hp
  unfold PutPosts at hp
  rw [hi] at hp
  exact hp

set_option maxRecDepth 100000 in
set_option maxHeartbeats 4000000 in
theorem told6 (w : World) : Calls Try.prog 11 #[] w fun e w' => e = .returned (.bool true) ∧ Fr [] w w' := by
  go_enter Try.func11, Try.ntmps11
  go_wp2_with fail
  refine (snew_yess w 2 2 (by omega) (by omega) (by omega) (by omega)).mono ?_
  rintro e w1 ⟨b, d, rfl, h1, f1, hb, hd⟩
  go_wp2_with fail
  refine (put_some_s h1 (by omega) ⟨#[97]⟩ (i := 0) (s := ⟨ByteArray.empty, false, 0⟩) (by rfl) (by rfl)).mono ?_
  rintro e w2 ⟨rfl, h2, f2⟩
  have F2 : Fr [] w w2 := f1.trans (fun x hx => by simp at hx; right; omega) f2
  clear h1 f1 f2
  have B2 := Blk.new w2 32 [.int .i64 0, .int .i64 1]
  go_wp2_with fail
  refine (put_some_s (h2.fr ((Fr.refl [] w2).alloc _) (by simp)) (by omega) ⟨#[98]⟩ (i := 1) (s := ⟨ByteArray.empty, false, 0⟩) (by rfl) (by rfl)).mono ?_
  rintro e w3 ⟨rfl, h3, f3⟩
  have hl2 := h2.hb.lt
  have hl2' := h2.hd.lt
  have hB2 : w2.heap.size ∉ [b, d] := by simp; omega
  have B2 := B2.fr f3 hB2
  have F3 : Fr [] w w3 := (F2.alloc _).trans (fun x hx => by simp at hx; right; omega) f3
  have hz3 := f3.size
  simp at hz3
  clear h2 f3 F2
  have B3 := Blk.new w3 32 [.int .i64 1, .int .i64 1]
  go_wp2_with fail
  refine (put_none_s (h3.fr ((Fr.refl [] w3).alloc _) (by simp)) (by omega) ⟨#[99]⟩ (by rfl)).mono ?_
  rintro e w4 ⟨rfl, f4⟩
  have h4 := h3.fr (((Fr.refl [] w3).alloc _).trans' f4) (by simp)
  have B2 := (B2.alloc _).fr f4 (by simp)
  have B3 := B3.fr f4 (by simp)
  have F4 : Fr [] w w4 := (F3.alloc _).trans' f4
  have hz4 := f4.size
  simp at hz4
  clear h3 f4 F3
  have c0 := B2.cell 0
  have c1 := B2.cell 1
  simp at c0 c1
  have hl := B2.lt
  go_wp2_with fail
  refine (drop_yess (cnt := 1) (i := 0) (s := ⟨⟨#[97]⟩, true, 1⟩) (h4.fr ((Fr.refl [] w4).alloc _) (by simp)) (by omega) (by rfl) rfl).mono ?_
  rintro e w5 ⟨rfl, h5, f5⟩
  have hd2 : w2.heap.size ∉ [b, d] := hB2
  have hd3 : w3.heap.size ∉ [b, d] := by simp; omega
  have B2 := (B2.alloc _).fr f5 hd2
  have B3 := (B3.alloc _).fr f5 hd3
  have F5 : Fr [] w w5 := (F4.alloc _).trans (fun x hx => by simp at hx; right; omega) f5
  have hz5 := f5.size
  simp at hz5
  clear h4 f5 F4 c0 c1
  have c0 := B2.cell 0
  have c1 := B2.cell 1
  simp at c0 c1
  have hl := B2.lt
  go_wp2_with fail
  refine (get_nos h5 0 1 (by intro s _ hs hh; simp at hs; subst hs; simp at hh)).mono ?_
  rintro e w6 ⟨rfl, f6⟩
  have h6 := h5.fr f6 (by simp)
  have B2 := B2.fr f6 (by simp)
  have B3 := B3.fr f6 (by simp)
  have F6 : Fr [] w w6 := F5.trans' f6
  have hz6 := f6.size
  clear h5 f6 F5 c0 c1
  go_wp2_with fail
  refine (put_some_s h6 (by omega) ⟨#[100]⟩ (i := 0) (s := ⟨ByteArray.empty, false, 1⟩) (by rfl) (by rfl)).mono ?_
  rintro e w7 ⟨rfl, h7, f7⟩
  have B2 := (B2.fr f7 hd2).alloc (.cells #[.int .i64 0, .int .i64 2] 32)
  have B3 := (B3.fr f7 hd3).alloc (.cells #[.int .i64 0, .int .i64 2] 32)
  have F7 : Fr [] w w7 := F6.trans (fun x hx => by simp at hx; right; omega) f7
  have c0 := B2.cell 0
  have c1 := B2.cell 1
  have c2 := B3.cell 0
  have c3 := B3.cell 1
  simp at c0 c1 c2 c3
  have hl := B2.lt
  clear h6 f7 F6 h7 B2 B3
  go_wp2
  go_ret
  exact ⟨rfl, F7.alloc _⟩
end Go.Proofs.Ytoodgjmgkjhpoaa
