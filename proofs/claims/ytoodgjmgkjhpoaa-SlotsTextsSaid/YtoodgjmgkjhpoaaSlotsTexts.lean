/- The statement SlotsTexts: the walk: of whatever texts it answers true. -/
import Derived.Test.YtoodgjmgkjhpoaaSlotsTold
namespace Go.Proofs.Ytoodgjmgkjhpoaa
open Go Go.RowKit
attribute [local go_sem] calmQ_normal wide_fn wide_depth Oper.semAt_some

/-- n were put away, the first m of them lie there still. -/
structure TL (ss : List ByteArray) (m n : Nat) (L : List (Slot ByteArray)) : Prop where
  len : L.length = 300
  held : ∀ k, k < m → L[k]? = some ⟨ss.getD k ByteArray.empty, true, 1⟩
  gone : ∀ k, m ≤ k → k < n → L[k]? = some ⟨ByteArray.empty, false, 1⟩
  new : ∀ k, m ≤ k → n ≤ k → k < 300 → L[k]? = some ⟨ByteArray.empty, false, 0⟩
theorem TL.free {ss : List ByteArray} {j : Nat} {L : List (Slot ByteArray)} (h : TL ss j j L) (hj : j < 300) : freeIdx 1 L = some j ∧ L[j]? = some ⟨ByteArray.empty, false, 0⟩ := by
  have hs := h.new j (Nat.le_refl _) (Nat.le_refl _) hj
  refine ⟨freeIdx_some hs rfl (by simp) (fun j' s' hj' hs' => ?_), hs⟩
  rw [h.held j' hj'] at hs'
  cases hs'
  exact .inl rfl
theorem TL.put {ss : List ByteArray} {j : Nat} {L : List (Slot ByteArray)} (h : TL ss j j L) (hj : j < 300) : TL ss (j + 1) (j + 1) (L.set j ⟨ss.getD j ByteArray.empty, true, 1⟩) := by
  refine ⟨by rw [List.length_set]; exact h.len, fun k hk => ?_, fun k h1 h2 => by omega, fun k h1 _ h3 => ?_⟩
  · by_cases e : k = j
    · subst e; rw [List.getElem?_set_self (by rw [h.len]; exact hj)]
    · rw [List.getElem?_set_ne (Ne.symm e)]; exact h.held k (by omega)
  · rw [List.getElem?_set_ne (by omega)]; exact h.new k (by omega) (by omega) h3
theorem TL.drop {ss : List ByteArray} {m n : Nat} {L : List (Slot ByteArray)} (h : TL ss (m + 1) n L) (hn : m < n) (hn3 : n ≤ 300) : TL ss m n (L.set m ⟨ByteArray.empty, false, 1⟩) := by
  refine ⟨by rw [List.length_set]; exact h.len, fun k hk => ?_, fun k h1 h2 => ?_, fun k h1 h2 h3 => ?_⟩
  · rw [List.getElem?_set_ne (by omega)]; exact h.held k (by omega)
  · by_cases e : k = m
    · subst e; rw [List.getElem?_set_self (by rw [h.len]; omega)]
    · rw [List.getElem?_set_ne (Ne.symm e)]; exact h.gone k (by omega) h2
  · rw [List.getElem?_set_ne (by omega)]; exact h.new k (by omega) (by omega) h3

def hcells (j : Nat) : List Value := (List.range j).flatMap fun i : Nat => [.int .i64 (i : Int), .int .i64 1]
theorem hcells_snoc (j : Nat) : hcells (j + 1) = hcells j ++ [.int .i64 j, .int .i64 1] := by
  unfold hcells
  rw [List.range_succ]
  simp
theorem hcells_at {n k : Nat} (hk : k < n) : (hcells n)[k * 2]? = some (.int .i64 k) ∧ (hcells n)[k * 2 + 1]? = some (.int .i64 1) := by
  have h0 := flatMap_at (α := Nat) (sz := 2) (enc := fun i => [Value.int .i64 i, .int .i64 1]) (fun _ => rfl) (xs := List.range n) (i := k) (x := k) (by simp [hk]) (j := 0) (by decide)
  have h1 := flatMap_at (α := Nat) (sz := 2) (enc := fun i => [Value.int .i64 i, .int .i64 1]) (fun _ => rfl) (xs := List.range n) (i := k) (x := k) (by simp [hk]) (j := 1) (by decide)
  exact ⟨h0, h1⟩

theorem handleInfo : (Try.prog.info? 32).map (fun i => (i.zero, i.size, i.bytes)) = some (some (.agg #[.int .i64 0, .int .i64 0]), 2, 16) := by kernel_rfl

set_option maxRecDepth 100000 in
set_option maxHeartbeats 4000000 in
theorem texts_walk (w : World) (ao : Option Addr) (len cap : Nat) (ss : List ByteArray) (hlm : len ≤ maxLen)
    (hcell : ∀ k, k < len → ∃ b off, ao = some ⟨b, off, none⟩ ∧ w.cell? ⟨b, off + k, none⟩ = some (.string (ss.getD k ByteArray.empty))) :
    Calls Try.prog 4 #[.slice ao len cap] w fun e w' => e = .returned (.bool true) ∧ Fr [] w w' := by
  obtain ⟨i0, hi, hz0, hz1, hz2⟩ := info_parts handleInfo
  unfold maxLen at hlm
  have HC := Lib.hid hcell
  clear hcell
  go_enter Try.func4, Try.ntmps4
  go_wp2_with fail
  refine (snew_yess w 300 1 (by omega) (by omega) (by omega) (by omega)).mono ?_
  rintro e w1 ⟨b, d, rfl, h1, f1, hb, hd⟩
  go_wp2_with fail
  refine (told6 w1).mono ?_
  rintro e w2 ⟨rfl, f2⟩
  have H2 := Lib.hid (h1.fr f2 (by simp))
  have F2 := Lib.hid (f1.trans' f2)
  have hbl := H2.out.hb.lt
  have hdl := H2.out.hd.lt
  clear h1 f1 f2
  go_wp2_with fail
  obtain ⟨N, hN1, hN2, hN3⟩ : ∃ N : Nat, N ≤ len ∧ N ≤ 300 ∧ Hid (len ≤ N ∨ 300 ≤ N) := ⟨min len 300, by omega, by omega, by unfold Hid; omega⟩
  go_loopg [5, 6] N (fun k hv iv wr => ∃ j : Nat, k + j = N ∧ iv = .int .i64 j ∧ ∃ L S, Hid (TL ss j j L ∧ Sls wr b d 1 L j ∧ OwnS wr 32 2 hv j (hcells j) S ∧ (∀ x, x ∈ S → x ≠ b ∧ x ≠ d ∧ w.heap.size ≤ x) ∧ Fr [] w wr))
  case atStart =>
    exact ⟨0, by omega, rfl, List.replicate 300 ⟨ByteArray.empty, false, 0⟩, [], ⟨by simp, by omega, by omega, fun k _ _ h3 => by rw [List.getElem?_replicate, if_pos h3]⟩, H2.out, (OwnS.nil w2 32 2 : OwnS w2 32 2 (.slice none 0 0) 0 (hcells 0) []), by simp, F2.out⟩
  case round =>
    obtain ⟨j, hk, rfl, L, S, hR⟩ := hrel
    by_cases hj : j < N
    · obtain ⟨b0, off, rfl, hc0⟩ := HC.out j (by omega)
      have hc1 := (hR.out.2.2.2.2.cell (p := ⟨b0, off + j, none⟩) (World.block_lt_of_cell? _ _ hc0) (by simp)).trans hc0
      obtain ⟨hfree, hsj⟩ := hR.out.1.free (by omega)
      have hcall := Lib.hid (put_some_s hR.out.2.1 (by omega) (ss.getD j ByteArray.empty) hfree hsj)
      clear hc0 hfree hsj
      go_wp2_with fail
      refine hcall.out.mono ?_
      rintro e w3 ⟨rfl, h3, f3⟩
      have H3 := Lib.hid h3
      have F3 := Lib.hid f3
      clear h3 f3 hc1 hcall
      have HO : Hid (OwnS w3 32 2 _ j (hcells j) S) := hR.out.2.2.1.fr F3.out (fun x hx => by have := hR.out.2.2.2.1 x hx; simp; omega)
      go_wp2_with (at_builtin; refine wpList_append_S _ rfl (.tmp 51) (.tmp 53) 28 rfl 32 i0 (.agg #[.int .i64 0, .int .i64 0]) 2 16 Try.underlying28 hi hz0 hz1 hz2 rfl _ _ _ _ rfl ((HO.out.alloc _).alloc _) ⟨w3.heap.size + 1, 0, none⟩ 1 1 [.int .i64 j, .int .i64 1] rfl rfl ?c1 ?c2 ?c3 ?c4 ?_)
      case c1 => simpa only [World.size_alloc] using (Blk.new (w3.alloc (.cells #[.int .i64 j, .int .i64 1] 32)) 32 [.int .i64 j, .int .i64 1]).news
      case c2 => intro u hu; simp at hu; rcases hu with rfl | rfl <;> rfl
      case c3 => unfold maxLen; omega
      case c4 => omega
      intro v' w4 S' hown' hgr' hfr'
      have hz3 := F3.out.size
      have hfin : Hid (TL ss (j + 1) (j + 1) (L.set j ⟨ss.getD j ByteArray.empty, true, 1⟩) ∧ Sls w4 b d 1 (L.set j ⟨ss.getD j ByteArray.empty, true, 1⟩) (j + 1) ∧ OwnS w4 32 2 v' (j + 1) (hcells (j + 1)) S' ∧ (∀ x, x ∈ S' → x ≠ b ∧ x ≠ d ∧ w.heap.size ≤ x) ∧ Fr [] w w4) := by
        have hbw := hR.out.2.1.hb.lt
        have hdw := hR.out.2.1.hd.lt
        have hsw := hR.out.2.2.2.2.size
        refine ⟨hR.out.1.put (by omega), ?_, by rw [hcells_snoc]; exact hown', fun x hx => ?_, ?_⟩
        · exact (H3.out.fr (((Fr.refl [] w3).alloc _).alloc _) (by simp)).fr hfr' (fun x hx hm => by have := hR.out.2.2.2.1 x hm; simp at hx; omega)
        · rcases hgr' x hx with h | h
          · exact hR.out.2.2.2.1 x h
          · simp at h; omega
        · have g1 : Fr [] w w3 := hR.out.2.2.2.2.trans (fun x hx => by simp at hx; right; omega) F3.out
          exact ((g1.alloc _).alloc _).trans (fun x hx => by have := hR.out.2.2.2.1 x hx; right; omega) hfr'
      clear hown' hgr' hfr' hz3
      go_wp2
      go_roundg (gk - 1)
      case measure => omega
      case rel => exact ⟨j + 1, by omega, by go_num, _, S', hfin⟩
    · obtain rfl : j = N := by omega
      obtain ⟨ha, hcap, rfl⟩ := hR.out.2.2.1.val
      have HR0 := hR
      clear hR hk hj
      by_cases hlen : j < len
      all_goals
        have h300 : j < len → 300 ≤ j := fun h => by rcases hN3.out with h' | h' <;> omega
        first
          | (have h3 : 300 ≤ j := h300 hlen)
          | skip
        clear h300
        go_wp2_with fail
        go_loopg [9] (j + 1) (fun k iv wr => ∃ m : Nat, k = m + 1 ∧ m ≤ j ∧ iv = .int .i64 ((m : Int) - 1) ∧ ∃ L, Hid (TL ss m j L ∧ Sls wr b d 1 L m ∧ OwnS wr 32 2 (.slice ha j hcap) j (hcells j) S ∧ Fr [] w wr))
        case atStart => exact ⟨j, rfl, Nat.le_refl _, rfl, L, HR0.out.1, HR0.out.2.1, HR0.out.2.2.1, HR0.out.2.2.2.2⟩
        case round =>
          obtain ⟨m, hk, hm, rfl, L, hR⟩ := hrel
          cases m with
          | zero =>
            have hF : Fr [] w wr := hR.out.2.2.2
            clear hR
            go_wp2
            go_ret
            exact ⟨rfl, hF⟩
          | succ m =>
            obtain ⟨g, cap', hv, hS⟩ := hR.out.2.2.1.head (by omega)
            cases hv
            have hO := hR.out.2.2.1
            obtain ⟨e0, e1⟩ := hcells_at (n := j) (k := m) (by omega)
            have c0 : wr.cell? ⟨g, m * 2, none⟩ = some (.int .i64 m) := by rw [hO.cellAt _ (by omega), e0]
            have c1 : wr.cell? ⟨g, m * 2 + 1, none⟩ = some (.int .i64 1) := by rw [hO.cellAt _ (by omega), e1]
            have hgS := HR0.out.2.2.2.1 g (by rw [hS]; simp)
            have hgl : g < wr.heap.size := World.block_lt_of_cell? _ _ c0
            obtain ⟨b0, off, hao, hc0⟩ := HC.out m (by omega)
            have hsm := hR.out.1.held m (by omega)
            have hx0 := (hR.out.2.2.2.cell (p := ⟨b0, off + m, none⟩) (World.block_lt_of_cell? _ _ hc0) (by simp)).trans hc0
            have hbl0 : b0 < w.heap.size := World.block_lt_of_cell? _ _ hc0
            have hszr := hR.out.2.2.2.size
            have hcall1 := Lib.hid (get_yess hR.out.2.1 hsm rfl)
            have C0 := Lib.hid c0
            have C1 := Lib.hid c1
            have X0 := Lib.hid hx0
            have HSM := Lib.hid hsm
            subst hao
            clear hO e0 e1 hc0 hx0 hsm hS
            go_wp2_with fail
            refine hcall1.out.mono ?_
            rintro e w5 ⟨rfl, f5⟩
            have F5 := Lib.hid f5
            have c0 : w5.cell? ⟨g, m * 2, none⟩ = some (.int .i64 m) := (f5.cell (p := ⟨g, m * 2, none⟩) hgl (by simp)).trans C0.out
            have c1 : w5.cell? ⟨g, m * 2 + 1, none⟩ = some (.int .i64 1) := (f5.cell (p := ⟨g, m * 2 + 1, none⟩) hgl (by simp)).trans C1.out
            have hcall2 := Lib.hid (drop_yess (hR.out.2.1.fr f5 (by simp)) (by omega) HSM.out rfl)
            clear f5 hcall1
            go_wp2_with fail
            refine hcall2.out.mono ?_
            rintro e w6 ⟨rfl, h6, f6⟩
            have H6 := Lib.hid h6
            have F6 := Lib.hid f6
            have hz5 := F5.out.size
            have hgn : g ∉ [b, d] := by simp; omega
            have c0 : w6.cell? ⟨g, m * 2, none⟩ = some (.int .i64 m) := (f6.cell (p := ⟨g, m * 2, none⟩) (show g < w5.heap.size by omega) hgn).trans c0
            have c1 : w6.cell? ⟨g, m * 2 + 1, none⟩ = some (.int .i64 1) := (f6.cell (p := ⟨g, m * 2 + 1, none⟩) (show g < w5.heap.size by omega) hgn).trans c1
            have hml : m < L.length := some_lt HSM.out
            have hcall3 := Lib.hid (get_nos h6 (m : Int) (1 : Int) (by intro s _ hs hh; rw [Int.toNat_natCast, List.getElem?_set_self hml] at hs; cases hs; cases hh))
            clear f6 h6 hcall2
            go_wp2_with fail
            refine hcall3.out.mono ?_
            rintro e w7 ⟨rfl, f7⟩
            have F7 := Lib.hid f7
            have hz6 := F6.out.size
            have hbn : b0 ∉ [b, d] := by simp; omega
            have hx0 : w7.cell? ⟨b0, off + m, none⟩ = some (.string (ss.getD m ByteArray.empty)) :=
              (f7.cell (p := ⟨b0, off + m, none⟩) (show b0 < w6.heap.size by omega) (by simp)).trans ((F6.out.cell (p := ⟨b0, off + m, none⟩) (show b0 < w5.heap.size by omega) hbn).trans ((F5.out.cell (p := ⟨b0, off + m, none⟩) (show b0 < wr.heap.size by omega) (by simp)).trans X0.out))
            have H7 := Lib.hid (H6.out.fr F7.out (by simp))
            clear f7 hcall3 c0 c1
            go_wp2_with (go_at_call 19; refine (slens H7.out).mono ?_; rintro e w8 ⟨rfl, rfl⟩)
            go_roundg (m + 1)
            case measure => omega
            case rel =>
              refine ⟨m, rfl, by omega, by go_num, _, hR.out.1.drop (by omega) (by omega), H7.out, ?_, ?_⟩
              · exact ((hR.out.2.2.1.fr F5.out (by simp)).fr F6.out (fun x hx => by have := HR0.out.2.2.2.1 x hx; simp; omega)).fr F7.out (by simp)
              · exact ((hR.out.2.2.2.trans' F5.out).trans (fun x hx => by simp at hx; right; omega) F6.out).trans' F7.out
end Go.Proofs.Ytoodgjmgkjhpoaa
