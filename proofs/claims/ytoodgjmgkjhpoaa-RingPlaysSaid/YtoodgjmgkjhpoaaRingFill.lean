/- The statement's filled. -/
import Derived.Test.YtoodgjmgkjhpoaaRingDo
namespace Go.Proofs.Ytoodgjmgkjhpoaa
open Go Go.RowKit
attribute [local go_sem] calmQ_normal wide_fn wide_depth Oper.semAt_some

set_option maxRecDepth 100000 in
set_option maxHeartbeats 2000000 in
theorem filled_ok {w : World} {v : Value} {n : Nat} {xs : List Int} {S : List Nat} (h : OwnS w 3 1 v n (xs.flatMap encI) S) (hn : n ≤ 1048576) (x : Int) :
    Calls Try.prog 46 #[v, .int .i64 x] w fun e w' => ∃ u S', e = .returned u ∧ OwnS w' 3 1 u (n + 2) (List.replicate (n + 2) (.int .i64 x)) S' ∧ Gr w S S' ∧ Fr S w w' := by
  obtain ⟨i0, hi, hz0, hz1, hz2⟩ := info_parts infoi
  have hl := h.1
  obtain ⟨ao, cap, rfl⟩ := h.val
  have H := Lib.hid h
  have HL := Lib.hid hl
  clear h hl
  go_enter Try.func46, Try.ntmps46
  go_wp2_with fail
  go_loopg [5] (n + 1) (fun k iv wr => ∃ j : Nat, k + j = n + 1 ∧ j ≤ n ∧ iv = .int .i64 j ∧ Hid (OwnS wr 3 1 (.slice ao n cap) n (List.replicate j (.int .i64 x) ++ (xs.flatMap encI).drop j) S ∧ Fr S w wr))
  case atStart => exact ⟨0, by omega, by omega, rfl, by simpa using H.out, Fr.refl _ _⟩
  case round =>
    obtain ⟨j, hk, hj, rfl, hR⟩ := hrel
    by_cases hjn : j < n
    · obtain ⟨g, c, hv, hS⟩ := hR.out.1.head (by omega)
      cases hv
      obtain ⟨y, hy⟩ : ∃ y, (xs.flatMap encI)[j]? = some y := ⟨(xs.flatMap encI)[j]'(by have := HL.out; omega), by rw [List.getElem?_eq_getElem]⟩
      have c0 : wr.cell? ⟨g, j, none⟩ = some y := by
        rw [hR.out.1.cellAt j (by omega), List.getElem?_append_right (by simp), List.length_replicate, List.getElem?_drop]
        simpa using hy
      have q0 := hR.out.1.frz j
      have hset : Hid (List.replicate (j + 1) (Value.int .i64 x) ++ (xs.flatMap encI).drop (j + 1) = (List.replicate j (Value.int .i64 x) ++ (xs.flatMap encI).drop j).set j (.int .i64 x)) := by
        unfold Hid
        obtain ⟨h1, h2⟩ := List.getElem?_eq_some_iff.1 hy
        rw [List.drop_eq_getElem_cons h1, List.set_append_right _ _ (by simp), List.length_replicate, Nat.sub_self, List.set_cons_zero, List.replicate_succ', List.append_assoc]
        rfl
      have HS := Lib.hid hS
      clear hy hS
      go_wp2
      go_roundg (gk - 1)
      case measure => omega
      case rel =>
        refine ⟨j + 1, by omega, by omega, by go_num, ?_, hR.out.2.setCell _ (.inl (by rw [HS.out]; simp))⟩
        rw [hset.out]
        exact hR.out.1.set j _
    · obtain rfl : j = n := by omega
      have hO : Hid (OwnS wr 3 1 (.slice ao j cap) j (List.replicate j (.int .i64 x)) S) := by
        have := hR.out.1
        rw [List.drop_of_length_le (by have := HL.out; omega), List.append_nil] at this
        exact this
      go_wp2_with (at_builtin; refine wpList_append_any _ rfl (.tmp 16) (.tmp 19) 22 rfl 3 i0 (.int .i64 0) 1 8 Try.underlying22 hi hz0 hz1 hz2 rfl _ _ _ _ rfl (hO.out.alloc _) _ 2 [.int .i64 x, .int .i64 x] rfl rfl ?d1 (.inr ⟨_, _, rfl, (Blk.new wr 3 [.int .i64 x, .int .i64 x]).news⟩) ?d3 ?d4 ?_)
      case d1 => intro u hu; simp at hu; subst hu; rfl
      case d3 => unfold maxLen; omega
      case d4 => omega
      intro u2 w2 S2 o2 g2 f2
      have O2 := Lib.hid o2
      have G2 := Lib.hid g2
      have F2 := Lib.hid f2
      clear o2 g2 f2
      go_wp2
      go_ret
      have hz := hR.out.2.size
      refine ⟨u2, S2, rfl, ?_, fun b hb => ?_, (hR.out.2.alloc _).trans' F2.out⟩
      · have o2 := O2.out
        rw [show List.replicate (j + 2) (Value.int .i64 x) = List.replicate j (Value.int .i64 x) ++ [.int .i64 x, .int .i64 x] from by rw [List.replicate_succ', List.replicate_succ', List.append_assoc]; rfl]
        exact o2
      · rcases G2.out b hb with h | h
        · exact .inl h
        · simp at h; exact .inr (by omega)
end Go.Proofs.Ytoodgjmgkjhpoaa
