/- Rings of *millrace/drr.flow: the contracts of their functions, second part: the copy, the iterator, the list. -/
import Derived.Test.YteojodcdehkejaaRingQ
namespace Go.Proofs.Yteojodcdehkejaa
open Go Go.RowKit
attribute [local go_sem] calmQ_normal wide_fn wide_depth Oper.semAt_some

theorem enc_len_q (x : (Option Nat)) : (encQ x).length = 1 := rfl
theorem take_snoc_q {xs : List (Option Nat)} {j : Nat} {x : (Option Nat)} (hx : xs[j]? = some x) : (xs.take (j + 1)).flatMap encQ = (xs.take j).flatMap encQ ++ [ptrV x] := by
  rw [List.take_add_one, hx]
  simp [encQ]

set_option maxHeartbeats 1000000 in
theorem held_q {w : World} {r : Nat} {ds : List Nat} {xs : List (Option Nat)} (h : Rgq w r ds xs) :
    Calls Try.prog 84 #[.pointer (some ⟨r, 0, none⟩)] w fun e w' => ∃ v S, e = .returned v ∧ OwnS w' 89 1 v xs.length (xs.flatMap encQ) S ∧ Gr w [] S ∧ Fr [] w w' := by
  obtain ⟨i0, hi, hz0, hz1, hz2⟩ := info_parts infoq
  have hrw : r < w.heap.size := h.lt r (by simp)
  have H := Lib.hid h
  obtain ⟨L, head, sv, hb, hL, hrest⟩ := h
  have hrl : xs.length ≤ 1073741824 := by
    rcases hrest with ⟨_, _, rfl, _⟩ | ⟨d, cs, _, _, _, _, hc⟩
    · simp
    · have := hc.room; omega
  have h2 := hb.cell 2
  simp at h2
  clear hb hrest
  go_enter Try.func84, Try.ntmps84
  go_wp2
  go_loopg [3, 9] xs.length (fun k v i wr => ∃ j : Nat, k + j = xs.length ∧ i = .int .i64 j ∧ ∃ S, OwnS wr 89 1 v j ((xs.take j).flatMap encQ) S ∧ Gr w [] S ∧ Fr [] w wr)
  case atStart => exact ⟨0, by omega, rfl, [], by simpa using OwnS.nil w _ _, Gr.nil _ _, Fr.refl _ _⟩
  case round =>
    obtain ⟨j, hk, rfl, S, hown, hgr, hfr⟩ := hrel
    by_cases hj : j < xs.length
    · have hR : Rgq wr r ds xs := H.out.fr hfr (by simp)
      obtain ⟨d, L, head, hds, cs, hb, hL', hd, hbd, hc⟩ := hR.conc (by omega)
      have hro := hc.room
      have hhd := hc.headL
      have h0 := hb.cell 0
      have h1 := hb.cell 1
      have h2 := hb.cell 2
      obtain ⟨x, hx⟩ : ∃ x, xs[j]? = some x := ⟨xs[j], by simp [hj]⟩
      have hx' := hc.at_ j x hx 0 (by decide)
      have hcc := hbd.cell ((head + j) % L)
      have hml : (head + j) % L < L := Nat.mod_lt _ (by omega)
      simp at h0 h1 h2
      simp [encQ] at hx'
      rw [hx'] at hcc
      have hxx := Lib.hid hx
      clear hx hx' hb hbd hc hR hds
      obtain ⟨m, hm⟩ : ∃ m, Hid (m = (head + j) % L) := ⟨_, Lib.hid rfl⟩
      rw [← hm.out] at hcc hml
      have hsz := hfr.size
      have hrwr : r < wr.heap.size := by omega
      go_wp2
      refine wp_region_mix 10 [0] [1, 2, 3, 4, 5, 6, 7, 8, 9] (by kernel_rfl) (by kernel_rfl) ?_
      simp only [List.cons_append, List.nil_append, List.map_cons, List.map_nil, getD_toArray_list, List.getD_cons_succ, List.getD_cons_zero, List.drop_succ_cons, List.drop_zero]
      repeat (first | go_big_quiet_step ((go_at_call 70; exact Calls.quiet_of (place_q m r L head j _ _ (by omega) hL' hhd (by omega) hm h0 h1))) | quiet_step ((go_at_call 70; exact Calls.quiet_of (place_q m r L head j _ _ (by omega) hL' hhd (by omega) hm h0 h1))))
      refine wpQuiet_nil ?_
      rintro _ ⟨nq, rfl⟩
      go_wp2_with (at_builtin; refine wpList_append_S _ rfl (.tmp 12) (.tmp 22) 90 rfl 89 i0 (ptrV none) 1 8 Try.underlying90 hi hz0 hz1 hz2 rfl _ _ _ _ rfl ((hown.alloc _ : OwnS ((wr.drewN nq).alloc _) _ _ _ _ _ _)) ⟨wr.heap.size, 0, none⟩ 1 1 [ptrV x] rfl rfl ?c1 ?c2 ?c3 ?c4 ?_)
      case c1 => intro k u hk; match k, hk with | 0, hk => simp at hk; subst hk; simpa [Addr.add] using ((Blk.new (wr.drewN nq) 89 [ptrV x]).cell 0)
      case c2 => intro u hu; simp at hu; subst hu; rfl
      case c3 => unfold maxLen; omega
      case c4 => omega
      intro v' w1 S' hown' hgr' hfr'
      go_wp2
      rw [calmQ_normal]
      go_wp2
      go_roundg (gk - 1)
      case measure => omega
      case rel =>
        have f1 : Fr [] wr ((wr.drewN nq).alloc (.cells #[ptrV x] 89)) := ((Fr.refl [] wr).drewN nq).alloc _
        refine ⟨j + 1, by omega, by go_num, S', by rw [take_snoc_q hxx.out]; exact hown', hgr.trans (by simp; omega) hgr', ?_⟩
        exact (hfr.trans' f1).trans hgr hfr'
    · go_wp2
      obtain rfl : j = xs.length := by omega
      go_ret
      exact ⟨_, S, rfl, by simpa using hown, hgr, hfr⟩

/-- the things with their places, as the iterator hands them out -/
def entq (q : (Option Nat) × Nat) : Array Value := #[.int .i64 q.2, ptrV q.1]

set_option maxHeartbeats 400000 in
theorem all_q (w : World) (r : Nat) :
    Calls Try.prog 46 #[.pointer (some ⟨r, 0, none⟩)] w fun e w' => e = .returned (.func (.func 83) #[] #[.pointer (some ⟨w.heap.size, 0, none⟩)]) ∧ w' = w.alloc (.cells #[.pointer (some ⟨r, 0, none⟩)] 87) := by
  go_enter Try.func46, Try.ntmps46
  go_wp2
  go_ret
  exact ⟨rfl, rfl⟩

set_option maxHeartbeats 1000000 in
set_option maxRecDepth 100000 in
theorem seq_q {w : World} {r B : Nat} {ds : List Nat} {xs : List (Option Nat)} (h : Rgq w r ds xs) (hB : w.cell? ⟨B, 0, none⟩ = some (.pointer (some ⟨r, 0, none⟩))) :
    SeqF Try.prog 83 #[.pointer (some ⟨B, 0, none⟩)] entq xs.zipIdx w := by
  intro l I Ix S W hW hS hI hIx hY h0
  have hBW := (hW.cell (p := ⟨B, 0, none⟩) (World.block_lt_of_cell? _ _ hB) (by simp)).trans hB
  have hRW := h.fr hW (by simp)
  refine callsIn_wide.1 (callsIn_of_wp (n := 0) (F := Fence.wide) Try.func83 rfl trivial ?_ rfl)
  simp only [Try.ntmps83, List.size_toArray, List.length_cons, List.length_nil, Nat.reduceAdd, Nat.reduceSub, Array.replicate_succ, Array.replicate_zero, List.push_toArray, List.append_toArray, List.nil_append, List.cons_append]
  have hcall := Lib.hid (wideIn (0 - 1) (held_q hRW))
  gi_wp2_with (gi_at_call 84; refine (hcall.out).mono ?_; rintro e w' ⟨v, S0, rfl, hown, hg0, hf0⟩; obtain ⟨vao, vcap, rfl⟩ := hown.val)
  have hz0 := hf0.size
  have hlen : xs.length ≤ 1073741824 := by
    obtain ⟨L, head, sv, hb, hL, hrest⟩ := hRW
    rcases hrest with ⟨_, _, rfl, _⟩ | ⟨d, cs, _, _, _, _, hc⟩
    · simp
    · have := hc.room; omega
  have hYY := Lib.hid hY
  have hII := Lib.hid hI
  have hS00 := Lib.hid hS
  clear hcall hBW hRW hW hIx hY hI hB h hS
  gi_loopw [8] (fun i wr => ∃ k : Nat, k ≤ xs.length ∧ i = .int .i64 k ∧ ∃ S1, I S1 (xs.zipIdx.take k) wr ∧ Gr w' S S1 ∧ Fr S W wr ∧ w'.heap.size ≤ wr.heap.size ∧ OwnS wr 89 1 (.slice vao xs.length vcap) xs.length (xs.flatMap encQ) S0)
    (fun i _ => xs.length - (intOf i).toNat)
  case atStart => exact ⟨0, Nat.zero_le _, rfl, S, by simpa using hII.out S [] W w' [] h0 hf0 (by simp), Gr.refl _ _, hf0.mono (by simp), Nat.le_refl _, hown⟩
  case round =>
    obtain ⟨k, hk, rfl, S1, hi, hg, hf, hz, hown1⟩ := hrel
    by_cases hlt : k < xs.length
    · obtain ⟨g, cap, hv, rfl⟩ := hown1.head (by omega)
      cases hv
      have hgx : xs.zipIdx = xs.zipIdx.take k ++ (xs[k], k) :: xs.zipIdx.drop (k + 1) := by
        have : xs.zipIdx[k]? = some (xs[k], k) := by simp [hlt]
        obtain ⟨hk1, hk2⟩ := List.getElem?_eq_some_iff.1 this
        rw [← hk2, ← List.drop_eq_getElem_cons hk1, List.take_append_drop]
      obtain ⟨fn, tmps, assign, body, hy, hR⟩ := hYY.out (xs.zipIdx.take k) (xs[k], k) _ S1 wr hgx (by omega) (hg.size hz0) hf hi
      dsimp only [entq] at hy
      have hcx : wr.cell? ⟨g, k, none⟩ = some (ptrV xs[k]) := by
        have := hown1.cellAt k (by omega)
        rw [this]
        have := flatMap_at enc_len_q (xs := xs) (i := k) (x := xs[k]) (by simp [hlt]) (j := 0) (by decide)
        simpa [encQ] using this
      have hgS : g ∉ S1 := fun hm => by
        have h1 := hown.lt g (by simp)
        rcases hg g hm with h | h
        · have := hS00.out g h
          rcases hg0 g (by simp) with h2 | h2
          · cases h2
          · omega
        · omega
      have HR := Lib.hid hR
      have HX := Lib.hid hgx
      clear hR hgx hown
      gi_wp2
      refine HR.out.mono ?_
      rintro e W3 ⟨S', hg3, hf3, ⟨rfl, hi3⟩ | ⟨rfl, hi3⟩⟩
      · have hz3 := hf3.size
        have ho3 := hown1.fr hf3 (by simpa using hgS)
        gi_wp2
        go_roundw
        case rel => exact ⟨k + 1, by omega, by simp, S', by rw [List.take_add_one, show xs.zipIdx[k]? = some (xs[k], k) from by simp [hlt]]; exact hi3, hg.trans hz hg3, hf.trans (hg.size hz0) hf3, by omega, ho3⟩
        case measure => simp [intOf]; omega
      · gi_wp2
        refine bodyPost_ret (results_none rfl _ _ _) rfl ?_
        exact ⟨⟨_, rfl⟩, S', (hg.size hz0).trans hf.size hg3, hf.trans (hg.size hz0) hf3, .inr ⟨_, _, _, HX.out, hi3⟩⟩
    · obtain rfl : k = xs.length := by omega
      gi_wp2
      go_end0
      exact ⟨⟨_, rfl⟩, S1, hg.size hz0, hf, .inl (by rw [List.take_of_length_le (by simp)] at hi; exact hi)⟩
end Go.Proofs.Yteojodcdehkejaa
