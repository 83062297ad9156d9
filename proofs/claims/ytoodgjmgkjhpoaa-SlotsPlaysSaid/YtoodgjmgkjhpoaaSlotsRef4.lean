/- The reference's slots: Put. -/
import Derived.Test.YtoodgjmgkjhpoaaSlotsRef3
namespace Go.Proofs.Ytoodgjmgkjhpoaa
open Go Go.RowKit
attribute [local go_sem] calmQ_normal wide_fn wide_depth Oper.semAt_some

/-- What the reference's Put answers, and what it leaves. -/
def RPutPost (w : World) (B e last : Nat) (L : List (Slot Int)) (V : Int) (r : Ending) (w' : World) : Prop :=
  match freeIdx last L with
  | some i => ∃ s, L[i]? = some s ∧ r = .returned (.tuple #[.agg #[.int .i64 i, .int .i64 (s.gen + 1 : Int)], .int .i64 0]) ∧ RefP w' B e last (L.set i ⟨V, true, s.gen + 1⟩) ∧ Fr [e] w w'
  | none => r = .returned (.tuple #[.agg #[.int .i64 0, .int .i64 0], .int .i64 61]) ∧ Fr [] w w'

set_option maxRecDepth 100000 in
set_option maxHeartbeats 4000000 in
theorem rput {w : World} {B e last : Nat} {L : List (Slot Int)} (h : RefP w B e last L) (V : Int) :
    Calls Try.prog 51 #[.pointer (some ⟨B, 0, none⟩), .int .i64 V] w (RPutPost w B e last L V) := by
  have hbw := h.hb.lt
  have hdw := h.hd.lt
  have hne := h.ne
  have hroom := h.room
  have h0 := h.hb.cell 0
  have h1 := h.hb.cell 1
  simp only [List.getElem?_cons_zero, List.getElem?_cons_succ] at h0 h1
  have H := Lib.hid h
  clear h
  go_enter Try.func51, Try.ntmps51
  go_wp2
  go_loopg [6] (L.length + 1) (fun k i wr => ∃ j : Nat, k + j = L.length + 1 ∧ j ≤ L.length ∧ i = .int .i64 j ∧ ∃ q, wr = (w.alloc (.cells #[.int .i64 0, .int .i64 0] 32)).drewN q ∧
    Hid (∀ j' s', j' < j → L[j']? = some s' → s'.held = true ∨ s'.gen = last))
  case atStart => exact ⟨0, by omega, by omega, rfl, 0, rfl, fun j' _ h => by omega⟩
  case round =>
    obtain ⟨j, hk, hj, rfl, q, rfl, hsk⟩ := hrel
    by_cases hjn : j < L.length
    · obtain ⟨s, hs⟩ : ∃ s, L[j]? = some s := ⟨L[j], by simp [hjn]⟩
      obtain ⟨c0, c1, c2⟩ := ref_cells H.out.hd hs
      have hgl : s.gen ≤ last := H.out.gens s (List.mem_of_getElem? hs)
      have hll := H.out.lastL
      have HS := Lib.hid hs
      clear hs
      have hstep : Hid (s.held = true ∨ s.gen = last → ∀ j' s', j' < j + 1 → L[j']? = some s' → s'.held = true ∨ s'.gen = last) := fun hor j' s' hj' hs' => by
        by_cases e : j' = j
        · subst e
          have := HS.out
          rw [hs'] at this
          cases this
          exact hor
        · exact hsk.out j' s' (by omega) hs'
      cases hh : s.held with
      | true =>
        rw [hh] at c1
        have hor : Hid (s.held = true ∨ s.gen = last) := .inl hh
        clear hh
        go_wp2
        go_quiet (fail)
        go_wp2
        go_roundg (gk - 1)
        case measure => omega
        case rel => exact ⟨j + 1, by omega, by omega, by go_num, _, rfl, hstep.out hor.out⟩
      | false =>
        rw [hh] at c1
        have hh' := Lib.hid hh
        clear hh
        by_cases hgn : s.gen = last
        · have hor : Hid (s.held = true ∨ s.gen = last) := .inr hgn
          have hd3 : decide (s.gen < last) = false := by simp; omega
          clear hgn
          go_wp2
          go_quiet (fail)
          go_wp2
          go_roundg (gk - 1)
          case measure => omega
          case rel => exact ⟨j + 1, by omega, by omega, by go_num, _, rfl, hstep.out hor.out⟩
        · have hpost : Hid (∀ (w' : World) (r : Ending), r = .returned (.tuple #[.agg #[.int .i64 j, .int .i64 (s.gen + 1 : Int)], .int .i64 0]) → RefP w' B e last (L.set j ⟨V, true, s.gen + 1⟩) → Fr [e] w w' → RPutPost w B e last L V r w') := fun w' r he h3 h4 => by
            unfold RPutPost
            rw [freeIdx_some HS.out hh'.out hgn (fun j' s' hj' hs' => hsk.out j' s' hj' hs')]
            exact ⟨s, HS.out, he, h3, h4⟩
          have f0 := H.out.hd.frz (j * 3)
          have f1 := H.out.hd.frz (j * 3 + 1)
          have f2 := H.out.hd.frz (j * 3 + 2)
          have hgs : s.gen + 1 ≤ last := by omega
          have hd3 : decide (s.gen < last) = true := by simp; omega
          clear hgn
          have hfin : Hid (∀ A : World, Fr [] w A → RefP (((A.setCell ⟨e, j * 3, none⟩ (.int .i64 (s.gen + 1 : Int))).setCell ⟨e, j * 3 + 1, none⟩ (.bool true)).setCell ⟨e, j * 3 + 2, none⟩ (.int .i64 V)) B e last (L.set j ⟨V, true, s.gen + 1⟩) ∧
              Fr [e] w (((A.setCell ⟨e, j * 3, none⟩ (.int .i64 (s.gen + 1 : Int))).setCell ⟨e, j * 3 + 1, none⟩ (.bool true)).setCell ⟨e, j * 3 + 2, none⟩ (.int .i64 V))) := fun A hA => by
            have hA1 := H.out.fr hA (by simp) (by simp)
            refine ⟨⟨?_, ?_, hne, by rw [List.length_set]; exact hroom, hll, gens_set hA1.gens j hgs⟩, (((hA.mono (T := [e]) (by simp)).setCell _ (.inl (by simp))).setCell _ (.inl (by simp))).setCell _ (.inl (by simp))⟩
            · rw [List.length_set]
              exact ((hA1.hb.other (p := ⟨e, j * 3, none⟩) _ hne).other (p := ⟨e, j * 3 + 1, none⟩) _ hne).other (p := ⟨e, j * 3 + 2, none⟩) _ hne
            · have := ((hA1.hd.set (j * 3) (.int .i64 (s.gen + 1 : Int))).set (j * 3 + 1) (.bool true)).set (j * 3 + 2) (.int .i64 V)
              have hl := length_flatMap_enc encR_len L
              have hsp := slot_splice (t := ⟨V, true, s.gen + 1⟩) HS.out (cs := (((L.flatMap encR).set (j * 3) (.int .i64 (s.gen + 1 : Int))).set (j * 3 + 1) (.bool true)).set (j * 3 + 2) (.int .i64 V)) (by simp) (fun m hm => ?_) (fun k hk => by rw [List.getElem?_set_ne (by omega), List.getElem?_set_ne (by omega), List.getElem?_set_ne (by omega)])
              · rw [← hsp]; exact this
              · match m, hm with
                | 0, _ => rw [List.getElem?_set_ne (by omega), List.getElem?_set_ne (by omega), show j * 3 + 0 = j * 3 from rfl, List.getElem?_set_self (by rw [hl]; omega)]; rfl
                | 1, _ => rw [List.getElem?_set_ne (by omega), List.getElem?_set_self (by rw [List.length_set, hl]; omega)]; rfl
                | 2, _ => rw [List.getElem?_set_self (by rw [List.length_set, List.length_set, hl]; omega)]; rfl
          go_wp2
          go_quiet (fail)
          go_wp2
          refine wp_region_quiet_tail 17 (by kernel_rfl) (by kernel_rfl) ?_
          simp only [List.take_succ_cons, List.take_zero, List.drop_succ_cons, List.drop_zero]
          repeat (first | go_big_quiet_step (fail) | quiet_step (fail))
          refine wpQuiet_nil ?_
          rintro _ ⟨nq, rfl⟩
          go_wp2
          obtain ⟨g1, g2⟩ := hfin.out _ (((Fr.refl [] w).alloc (.cells #[.int .i64 0, .int .i64 0] 32)).drewN _)
          have hx1 : B ∉ [w.heap.size] := by simp; omega
          have hx2 : e ∉ [w.heap.size] := by simp; omega
          refine bodyPost_ret (v := .tuple #[.agg #[.int .i64 j, .int .i64 (s.gen + 1 : Int)], .int .i64 0]) (by simp [results, Try.results51, go_sem]) rfl (hpost.out _ _ rfl (g1.fr (((Fr.refl [w.heap.size] _).setCell _ (.inl (by simp))).setCell _ (.inl (by simp))) hx1 hx2) ((g2.setCell _ (.inr (by simp))).setCell _ (.inr (by simp))))
    · obtain rfl : j = L.length := by omega
      have hpost : Hid (∀ (w' : World) (r : Ending), r = .returned (.tuple #[.agg #[.int .i64 0, .int .i64 0], .int .i64 61]) → Fr [] w w' → RPutPost w B e last L V r w') := fun w' r he h4 => by
        unfold RPutPost
        rw [freeIdx_none hsk.out]
        exact ⟨he, h4⟩
      go_wp2
      refine bodyPost_ret (v := .tuple #[.agg #[.int .i64 0, .int .i64 0], .int .i64 61]) (by simp [results, Try.results51, go_sem]) rfl (hpost.out _ _ rfl (((((Fr.refl [] w).alloc _).drewN q).setCell _ (.inr (by simp))).setCell _ (.inr (by simp))))
theorem rput_some {w : World} {B e last : Nat} {L : List (Slot Int)} (h : RefP w B e last L) (V : Int) {i : Nat} {s : Slot Int} (hi : freeIdx last L = some i) (hs : L[i]? = some s) :
    Calls Try.prog 51 #[.pointer (some ⟨B, 0, none⟩), .int .i64 V] w fun r w' => r = .returned (.tuple #[.agg #[.int .i64 i, .int .i64 (s.gen + 1 : Int)], .int .i64 0]) ∧ RefP w' B e last (L.set i ⟨V, true, s.gen + 1⟩) ∧ Fr [e] w w' := by
  refine (rput h V).mono ?_
  intro r w' hp
  unfold RPutPost at hp
  rw [hi] at hp
  obtain ⟨s', hs', h1, h2, h3⟩ := hp
  rw [hs] at hs'
  cases hs'
  exact ⟨h1, h2, h3⟩
theorem rput_none {w : World} {B e last : Nat} {L : List (Slot Int)} (h : RefP w B e last L) (V : Int) (hi : freeIdx last L = none) :
    Calls Try.prog 51 #[.pointer (some ⟨B, 0, none⟩), .int .i64 V] w fun r w' => r = .returned (.tuple #[.agg #[.int .i64 0, .int .i64 0], .int .i64 61]) ∧ Fr [] w w' := by
  refine (rput h V).mono ?_
  intro r w' hp
  unfold RPutPost at hp
  rw [hi] at hp
  exact hp
theorem put_some_i {w : World} {b d last cnt : Nat} {L : List (Slot Int)} (h : Sli w b d last L cnt) (hcnt : cnt ≤ 65536) (v : Int) {i : Nat} {s : Slot Int} (hi : freeIdx last L = some i) (hs : L[i]? = some s) :
    Calls Try.prog 12 #[.pointer (some ⟨b, 0, none⟩), .int .i64 v] w fun e w' => e = .returned (.tuple #[.agg #[.int .i64 i, .int .i64 (s.gen + 1 : Int)], .int .i64 0]) ∧ Sli w' b d last (L.set i ⟨v, true, s.gen + 1⟩) (cnt + 1) ∧ Fr [b, d] w w' := by
  refine (puti h hcnt v).mono ?_
  intro e w' hp
  unfold PutPosti at hp
  rw [hi] at hp
  obtain ⟨s', hs', h1, h2, h3⟩ := hp
  rw [hs] at hs'
  cases hs'
  exact ⟨h1, h2, h3⟩
theorem put_none_i {w : World} {b d last cnt : Nat} {L : List (Slot Int)} (h : Sli w b d last L cnt) (hcnt : cnt ≤ 65536) (v : Int) (hi : freeIdx last L = none) :
    Calls Try.prog 12 #[.pointer (some ⟨b, 0, none⟩), .int .i64 v] w fun e w' => e = .returned (.tuple #[.agg #[.int .i64 0, .int .i64 0], .int .i64 61]) ∧ Fr [] w w' := by
  refine (puti h hcnt v).mono ?_
  intro e w' hp
  unfold PutPosti at hp
  rw [hi] at hp
  exact hp
/-- a slot that is held, or none -/
theorem held_or {L : List (Slot Int)} (i g : Int) : (∃ (k : Nat) (s : Slot Int), i = k ∧ L[k]? = some s ∧ s.held = true ∧ (s.gen : Int) = g) ∨ (∀ s, 0 ≤ i → L[i.toNat]? = some s → s.held = true → (s.gen : Int) ≠ g) := by
  by_cases h : ∀ s, 0 ≤ i → L[i.toNat]? = some s → s.held = true → (s.gen : Int) ≠ g
  · exact .inr h
  · simp only [Classical.not_forall, ne_eq, Decidable.not_not] at h
    obtain ⟨s, h1, h2, h3, h4⟩ := h
    exact .inl ⟨i.toNat, s, by omega, h2, h3, h4⟩
end Go.Proofs.Ytoodgjmgkjhpoaa
