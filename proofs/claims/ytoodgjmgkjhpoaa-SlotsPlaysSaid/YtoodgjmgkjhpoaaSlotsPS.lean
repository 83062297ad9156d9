/- Slots of string: the contracts of their functions, second part. -/
import Derived.Test.YtoodgjmgkjhpoaaSlotsS
namespace Go.Proofs.Ytoodgjmgkjhpoaa
open Go Go.RowKit
attribute [local go_sem] calmQ_normal wide_fn wide_depth Oper.semAt_some

theorem slotInfos : (Try.prog.info? 124).map (fun i => (i.zero, i.size, i.bytes)) = some (some (.agg #[Value.string ByteArray.empty, .bool false, .int .i64 0]), 3, 16 + 16) := by kernel_rfl

theorem new_cellss (n : Nat) {zs : List Value} (hl : zs.length = n * 3) (hz : ∀ j, j < n * 3 → zs[j]? = some ((Value.agg #[Value.string ByteArray.empty, .bool false, .int .i64 0]).cells[j % (Value.agg #[Value.string ByteArray.empty, .bool false, .int .i64 0]).cells.size]!)) :
    zs = (List.replicate n (⟨ByteArray.empty, false, 0⟩ : Slot ByteArray)).flatMap encSlots := by
  have hl2 := length_flatMap_enc encSlot_lens (List.replicate n (⟨ByteArray.empty, false, 0⟩ : Slot ByteArray))
  rw [List.length_replicate] at hl2
  refine List.ext_getElem? fun k => ?_
  by_cases hk : k < n * 3
  · obtain ⟨q, j, hj, rfl⟩ : ∃ q j, j < 3 ∧ k = q * 3 + j := ⟨k / 3, k % 3, Nat.mod_lt _ (by omega), by omega⟩
    rw [hz _ hk, flatMap_at encSlot_lens (x := ⟨ByteArray.empty, false, 0⟩) (by rw [List.getElem?_replicate]; simp; omega) hj]
    match j, hj with
    | 0, _ => simp [Value.cells, encSlots]
    | 1, _ => simp [Value.cells, encSlots, show (q * 3 + 1) % 3 = 1 from by omega]
    | 2, _ => simp [Value.cells, encSlots, show (q * 3 + 2) % 3 = 2 from by omega]
  · rw [List.getElem?_eq_none (by omega), List.getElem?_eq_none (by omega)]

set_option maxRecDepth 100000 in
set_option maxHeartbeats 1000000 in
theorem snew_yess (w : World) (n last : Nat) (hn : 1 ≤ n) (hn2 : n ≤ 65536) (hl : 1 ≤ last) (hl2 : last ≤ 2147483647) :
    Calls Try.prog 15 #[.int .i64 n, .int .i64 last] w fun e w' => ∃ b d, e = .returned (.tuple #[.pointer (some ⟨b, 0, none⟩), .int .i64 0]) ∧
      Sls w' b d last (List.replicate n ⟨ByteArray.empty, false, 0⟩) 0 ∧ Fr [] w w' ∧ w.heap.size ≤ b ∧ w.heap.size ≤ d := by
  obtain ⟨i0, hi, hz0, hz1, hz2⟩ := info_parts slotInfos
  have hk1 : decide ((n : Int) < 1) = false := by simp; omega
  have hk2 : decide ((65536 : Int) < n) = false := by simp; omega
  have hk3 : decide ((last : Int) < 1) = false := by simp; omega
  have hk4 : decide ((2147483647 : Int) < last) = false := by simp; omega
  go_enter Try.func15, Try.ntmps15
  go_wp2_with (at_make; refine wpList_make_S _ rfl _ _ 117 rfl 124 i0 (.agg #[Value.string ByteArray.empty, .bool false, .int .i64 0]) 3 (16 + 16) Try.underlying117 hi hz0 hz1 hz2 .i64 .i64 _ _ n rfl rfl rfl rfl (by omega) (by omega) ?_; intro w1 zs hbz hzl hf1 hs1 hzz; have HB := Lib.hid hbz; have HZ := Lib.hid hzl; have HZZ := Lib.hid hzz; have HF := Lib.hid hf1; have HS := Lib.hid hs1; clear hbz hzl hf1 hs1 hzz)
  go_ret2
  refine ⟨w1.heap.size, w.heap.size, rfl, ⟨?_, ?_, ?_, by simpa using hn2, hl2, ?_⟩, HF.out.alloc _, HF.out.size, Nat.le_refl _⟩
  · simpa using Blk.new w1 119 [.slice (some ⟨w.heap.size, 0, none⟩) n n, .int .i64 last, .int .i64 0]
  · rw [← new_cellss n HZ.out HZZ.out]; exact HB.out.alloc _
  · have := HS.out; omega
  · intro s hs
    have := List.eq_of_mem_replicate hs
    subst this
    simp
set_option maxRecDepth 100000 in
set_option maxHeartbeats 1000000 in
theorem snew_nos (w : World) (n last : Int) (h : n < 1 ∨ 65536 < n ∨ last < 1 ∨ 2147483647 < last) :
    Calls Try.prog 15 #[.int .i64 n, .int .i64 last] w fun e w' => e = .returned (.tuple #[.pointer none, .int .i64 1]) ∧ w' = w := by
  by_cases h1 : n < 1
  · clear h
    have hk1 : decide ((n : Int) < 1) = true := by simpa using h1
    go_enter Try.func15, Try.ntmps15
    go_wp2
    go_ret2
    exact ⟨rfl, rfl⟩
  have hk1 : decide ((n : Int) < 1) = false := by simp; omega
  by_cases h2 : 65536 < n
  · clear h h1
    have hk2 : decide ((65536 : Int) < n) = true := by simpa using h2
    go_enter Try.func15, Try.ntmps15
    go_wp2
    go_ret2
    exact ⟨rfl, rfl⟩
  have hk2 : decide ((65536 : Int) < n) = false := by simp; omega
  by_cases h3 : last < 1
  · clear h h1 h2
    have hk3 : decide ((last : Int) < 1) = true := by simpa using h3
    go_enter Try.func15, Try.ntmps15
    go_wp2
    go_ret2
    exact ⟨rfl, rfl⟩
  have hk3 : decide ((last : Int) < 1) = false := by simp; omega
  have h4 : 2147483647 < last := by omega
  have hk4 : decide ((2147483647 : Int) < last) = true := by simpa using h4
  clear h h1 h2 h3
  go_enter Try.func15, Try.ntmps15
  go_wp2
  go_ret2
  exact ⟨rfl, rfl⟩

theorem put_splices {L : List (Slot ByteArray)} {i : Nat} {s : Slot ByteArray} (v : ByteArray) (hs : L[i]? = some s) {cs : List Value} (hc : cs = (((L.flatMap encSlots).set (i * 3 + 2) (.int .i64 (s.gen + 1 : Int))).set (i * 3) (Value.string v)).set (i * 3 + 1) (.bool true)) :
    cs = (L.set i ⟨v, true, s.gen + 1⟩).flatMap encSlots := by
  have hil := some_lt hs
  have hl := length_flatMap_enc encSlot_lens L
  refine flatMap_splice encSlot_lens hil ⟨by rw [hc]; simp, fun j hj => ?_, fun k hk => ?_⟩
  · rw [hc]
    match j, hj with
    | 0, _ => rw [show i * 3 + 0 = i * 3 from rfl, List.getElem?_set_ne (by omega), List.getElem?_set_self (by rw [List.length_set, hl]; omega)]; rfl
    | 1, _ => rw [List.getElem?_set_self (by rw [List.length_set, List.length_set, hl]; omega)]; rfl
    | 2, _ => rw [List.getElem?_set_ne (by omega), List.getElem?_set_ne (by omega), List.getElem?_set_self (by rw [hl]; omega)]; rfl
  · rw [hc, List.getElem?_set_ne (by omega), List.getElem?_set_ne (by omega), List.getElem?_set_ne (by omega)]

/-- What Put answers, and what it leaves. -/
def PutPosts (w : World) (b d last : Nat) (L : List (Slot ByteArray)) (cnt : Nat) (v : ByteArray) (e : Ending) (w' : World) : Prop :=
  match freeIdx last L with
  | some i => ∃ s, L[i]? = some s ∧ e = .returned (.tuple #[.agg #[.int .i64 i, .int .i64 (s.gen + 1 : Int)], .int .i64 0]) ∧ Sls w' b d last (L.set i ⟨v, true, s.gen + 1⟩) (cnt + 1) ∧ Fr [b, d] w w'
  | none => e = .returned (.tuple #[.agg #[.int .i64 0, .int .i64 0], .int .i64 61]) ∧ Fr [] w w'
theorem freeIdx_some {β : Type} {last : Nat} {L : List (Slot β)} {j : Nat} {s : Slot β} (hs : L[j]? = some s) (h1 : s.held = false) (h2 : s.gen ≠ last) (hb : ∀ j' s', j' < j → L[j']? = some s' → s'.held = true ∨ s'.gen = last) : freeIdx last L = some j := by
  unfold freeIdx
  rw [List.findIdx?_eq_some_iff_getElem]
  obtain ⟨hj, he⟩ := List.getElem?_eq_some_iff.1 hs
  refine ⟨hj, by rw [he]; simp [h1, h2], fun j' hj' => ?_⟩
  have := hb j' L[j'] hj' (by simp [show j' < L.length from by omega])
  rcases this with h | h <;> simp [h]
theorem freeIdx_none {β : Type} {last : Nat} {L : List (Slot β)} (hb : ∀ j' s', j' < L.length → L[j']? = some s' → s'.held = true ∨ s'.gen = last) : freeIdx last L = none := by
  unfold freeIdx
  rw [List.findIdx?_eq_none_iff]
  intro s hs
  obtain ⟨j, hj, rfl⟩ := List.getElem_of_mem hs
  rcases hb j L[j] hj (by simp [hj]) with h | h <;> simp [h]

set_option maxRecDepth 100000 in
set_option maxHeartbeats 4000000 in
theorem puts {w : World} {b d last cnt : Nat} {L : List (Slot ByteArray)} (h : Sls w b d last L cnt) (hcnt : cnt ≤ 65536) (v : ByteArray) :
    Calls Try.prog 16 #[.pointer (some ⟨b, 0, none⟩), Value.string v] w (PutPosts w b d last L cnt v) := by
  have hbw := h.hb.lt
  have hdw := h.hd.lt
  have hne := h.ne
  have hne' := Ne.symm hne
  have hroom := h.room
  have h0 := h.hb.cell 0
  have h1 := h.hb.cell 1
  have h2 := h.hb.cell 2
  simp at h0 h1 h2
  have g2 := h.hb.frz 2
  have H := Lib.hid h
  clear h
  go_enter Try.func16, Try.ntmps16
  go_wp2
  go_loopg [13] (L.length + 1) (fun k i wr => ∃ j : Nat, k + j = L.length + 1 ∧ j ≤ L.length ∧ i = .int .i64 j ∧ ∃ q, wr = (w.alloc (.cells #[.int .i64 0, .int .i64 0] 32)).drewN q ∧
    Hid (∀ j' s', j' < j → L[j']? = some s' → s'.held = true ∨ s'.gen = last))
  case atStart => exact ⟨0, by omega, by omega, rfl, 0, rfl, fun j' _ h => by omega⟩
  case round =>
    obtain ⟨j, hk, hj, rfl, q, rfl, hsk⟩ := hrel
    by_cases hjn : j < L.length
    · obtain ⟨s, hs⟩ : ∃ s, L[j]? = some s := ⟨L[j], by simp [hjn]⟩
      obtain ⟨c0, c1, c2⟩ := slot_cellss H.out.hd hs
      have hgl : s.gen ≤ last := H.out.gens s (List.mem_of_getElem? hs)
      have hll := H.out.lastL
      have HS := Lib.hid hs
      clear hs
      have hstep : Hid (s.held = true ∨ s.gen = last → ∀ j' s', j' < j + 1 → L[j']? = some s' → s'.held = true ∨ s'.gen = last) := fun hor j' s' hj' hs' => by
        by_cases e : j' = j
        · subst e
          have := HS.out
          rw [hs'] at this
          cases this
          exact hor
        · exact hsk.out j' s' (by omega) hs'
      cases hh : s.held with
      | true =>
        rw [hh] at c1
        have hor : Hid (s.held = true ∨ s.gen = last) := .inl hh
        clear hh
        go_wp2
        go_quiet (fail)
        go_wp2
        go_roundg (gk - 1)
        case measure => omega
        case rel => exact ⟨j + 1, by omega, by omega, by go_num, _, rfl, hstep.out hor.out⟩
      | false =>
        rw [hh] at c1
        have hh' := Lib.hid hh
        clear hh
        by_cases hgn : s.gen = last
        · have hor : Hid (s.held = true ∨ s.gen = last) := .inr hgn
          rw [hgn] at c2
          clear hgn
          go_wp2
          go_quiet (fail)
          go_wp2
          go_roundg (gk - 1)
          case measure => omega
          case rel => exact ⟨j + 1, by omega, by omega, by go_num, _, rfl, hstep.out hor.out⟩
        · have hne3 : ((s.gen : Int) == (last : Int)) = false := by rw [beq_eq_false_iff_ne]; omega
          have hpost : Hid (∀ (w' : World) (e : Ending), e = .returned (.tuple #[.agg #[.int .i64 j, .int .i64 (s.gen + 1 : Int)], .int .i64 0]) → Sls w' b d last (L.set j ⟨v, true, s.gen + 1⟩) (cnt + 1) → Fr [b, d] w w' → PutPosts w b d last L cnt v e w') := fun w' e he h3 h4 => by
            unfold PutPosts
            rw [freeIdx_some HS.out hh'.out hgn (fun j' s' hj' hs' => hsk.out j' s' hj' hs')]
            exact ⟨s, HS.out, he, h3, h4⟩
          have f0 := H.out.hd.frz (j * 3)
          have f1 := H.out.hd.frz (j * 3 + 1)
          have f2 := H.out.hd.frz (j * 3 + 2)
          have hgs : s.gen + 1 ≤ last := by omega
          clear hgn
          have hfin : Hid (∀ A : World, Fr [] w A → Sls ((((A.setCell ⟨d, j * 3 + 2, none⟩ (.int .i64 (s.gen + 1 : Int))).setCell ⟨d, j * 3, none⟩ (Value.string v)).setCell ⟨d, j * 3 + 1, none⟩ (.bool true)).setCell ⟨b, 2, none⟩ (.int .i64 (cnt + 1 : Int))) b d last (L.set j ⟨v, true, s.gen + 1⟩) (cnt + 1) ∧
              Fr [b, d] w ((((A.setCell ⟨d, j * 3 + 2, none⟩ (.int .i64 (s.gen + 1 : Int))).setCell ⟨d, j * 3, none⟩ (Value.string v)).setCell ⟨d, j * 3 + 1, none⟩ (.bool true)).setCell ⟨b, 2, none⟩ (.int .i64 (cnt + 1 : Int)))) := fun A hA => by
            have hA1 := H.out.fr hA (by simp)
            refine ⟨⟨?_, ?_, hne, by rw [List.length_set]; exact hroom, hll, gens_set hA1.gens j hgs⟩, ((((hA.mono (T := [b, d]) (by simp)).setCell _ (.inl (by simp))).setCell _ (.inl (by simp))).setCell _ (.inl (by simp))).setCell _ (.inl (by simp))⟩
            · have := (((hA1.hb.other (p := ⟨d, j * 3 + 2, none⟩) (.int .i64 (s.gen + 1 : Int)) hne).other (p := ⟨d, j * 3, none⟩) (Value.string v) hne).other (p := ⟨d, j * 3 + 1, none⟩) (.bool true) hne).set 2 (.int .i64 (cnt + 1 : Int))
              simpa using this
            · have := (((hA1.hd.set (j * 3 + 2) (.int .i64 (s.gen + 1 : Int))).set (j * 3) (Value.string v)).set (j * 3 + 1) (.bool true)).other (p := ⟨b, 2, none⟩) (.int .i64 (cnt + 1 : Int)) hne'
              rw [← put_splices v HS.out rfl]
              exact this
          go_wp2
          go_quiet (fail)
          go_wp2
          have f0 : Fr [] w ((w.alloc (.cells #[.int .i64 0, .int .i64 0] 32)).drewN (q + nq)) := ((Fr.refl [] w).alloc _).drewN _
          obtain ⟨g1, g2⟩ := hfin.out _ f0
          have hx1 : ∀ x, x ∈ [b, d] → x ∉ [w.heap.size] := fun x hx => by simp at hx ⊢; omega
          refine bodyPost_ret (v := .tuple #[.agg #[.int .i64 j, .int .i64 (s.gen + 1 : Int)], .int .i64 0]) (by simp [results, Try.results16, go_sem]) rfl (hpost.out _ _ rfl (g1.fr (((Fr.refl [w.heap.size] _).setCell _ (.inl (by simp))).setCell _ (.inl (by simp))) hx1) ((g2.setCell _ (.inr (by simp))).setCell _ (.inr (by simp))))
    · obtain rfl : j = L.length := by omega
      have hpost : Hid (∀ (w' : World) (e : Ending), e = .returned (.tuple #[.agg #[.int .i64 0, .int .i64 0], .int .i64 61]) → Fr [] w w' → PutPosts w b d last L cnt v e w') := fun w' e he h4 => by
        unfold PutPosts
        rw [freeIdx_none hsk.out]
        exact ⟨he, h4⟩
      go_wp2
      refine bodyPost_ret (v := .tuple #[.agg #[.int .i64 0, .int .i64 0], .int .i64 61]) (by simp [results, Try.results16, go_sem]) rfl (hpost.out _ _ rfl (((((Fr.refl [] w).alloc _).drewN q).setCell _ (.inr (by simp))).setCell _ (.inr (by simp))))
end Go.Proofs.Ytoodgjmgkjhpoaa
