/- The statements' lists: with, without, turned, took, gone. -/
import Derived.Test.YtoodgjmgkjhpoaaRingSame
import Derived.Test.YtoodgjmgkjhpoaaAppend
namespace Go.Proofs.Ytoodgjmgkjhpoaa
open Go Go.RowKit
attribute [local go_sem] calmQ_normal wide_fn wide_depth Oper.semAt_some

theorem flat1 (xs : List Int) : xs.flatMap encI = xs.map (Value.int .i64) := by
  induction xs with
  | nil => rfl
  | cons x xs ih => rw [List.flatMap_cons, ih]; rfl
theorem one_flat (xs : List Int) : ∀ u, u ∈ xs.flatMap encI → u.oneCell' = true := by
  rw [flat1]
  intro u hu
  obtain ⟨x, _, rfl⟩ := List.mem_map.1 hu
  rfl
theorem len_flat (xs : List Int) : (xs.flatMap encI).length = xs.length * 1 := by rw [flat1]; simp
/-- the cells of a part of an owned list -/
theorem OwnS.part {w : World} {g n cap : Nat} {xs : List Int} {S : List Nat} (h : OwnS w 3 1 (.slice (some ⟨g, 0, none⟩) n cap) n (xs.flatMap encI) S) (o : Nat) (ys : List Int) (hp : ∀ j y, ys[j]? = some y → xs[o + j]? = some y) :
    ∀ j u, (ys.flatMap encI)[j]? = some u → w.cell? ((⟨g, o, none⟩ : Addr).add j) = some u := by
  intro j u hu
  rw [flat1, List.getElem?_map] at hu
  cases hy : ys[j]? with
  | none => rw [hy] at hu; cases hu
  | some y =>
    rw [hy] at hu
    have hx := hp j y hy
    have hl := h.1
    rw [len_flat] at hl
    have := some_lt hx
    rw [Addr.add_lit, h.cellAt _ (by omega), flat1, List.getElem?_map, hx]
    exact hu

set_option maxRecDepth 100000 in
set_option maxHeartbeats 2000000 in
theorem with_ok {w : World} {v : Value} {n : Nat} {xs : List Int} {S : List Nat} (h : OwnS w 3 1 v n (xs.flatMap encI) S) (hn : n ≤ 1048576) (i : Nat) (hin : i ≤ n) (x : Int) :
    Calls Try.prog 73 #[v, .int .i64 i, .int .i64 x] w fun e w' => ∃ u S', e = .returned u ∧ OwnS w' 3 1 u (n + 1) ((xs.take i ++ x :: xs.drop i).flatMap encI) S' ∧ Gr w [] S' ∧ Fr [] w w' := by
  obtain ⟨i0, hi, hz0, hz1, hz2⟩ := info_parts infoi
  have hl := h.1
  rw [len_flat, Nat.mul_one, Nat.mul_one] at hl
  have HL := Lib.hid hl
  have H := Lib.hid h
  rcases h.2 with ⟨rfl, rfl, rfl⟩ | ⟨g, cap, cur, rfl, rfl, hg, hnc, hcm, hcs, ht⟩
  · obtain rfl : i = 0 := by omega
    obtain rfl : xs = [] := List.eq_nil_of_length_eq_zero hl
    clear h hl
    go_enter Try.func73, Try.ntmps73
    go_wp2_with (at_builtin; refine wpList_append_any _ rfl (.tmp 8) (.tmp 11) 22 rfl 3 i0 (.int .i64 0) 1 8 Try.underlying22 hi hz0 hz1 hz2 rfl _ _ _ _ rfl (OwnS.nil _ 3 1) _ 0 [] rfl rfl (by simp) (.inl ⟨rfl, rfl⟩) ?c3 ?c4 ?_)
    case c3 => unfold maxLen; omega
    case c4 => omega
    intro u1 w1 S1 o1 g1 f1
    have O1 := Lib.hid o1
    have G1 := Lib.hid g1
    have F1 := Lib.hid f1
    clear o1 g1 f1
    go_wp2_with (at_builtin; refine wpList_append_any _ rfl (.tmp 13) (.tmp 15) 22 rfl 3 i0 (.int .i64 0) 1 8 Try.underlying22 hi hz0 hz1 hz2 rfl _ _ _ _ rfl (O1.out.alloc _) _ 1 [.int .i64 x] rfl rfl ?d1 (.inr ⟨_, _, rfl, (Blk.new w1 3 [.int .i64 x]).news⟩) ?d3 ?d4 ?_)
    case d1 => intro u hu; simp at hu; subst hu; rfl
    case d3 => unfold maxLen; omega
    case d4 => omega
    intro u2 w2 S2 o2 g2 f2
    have O2 := Lib.hid o2
    have G2 := Lib.hid g2
    have F2 := Lib.hid f2
    clear o2 g2 f2
    go_wp2_with (at_builtin; refine wpList_append_any _ rfl (.tmp 17) (.tmp 20) 22 rfl 3 i0 (.int .i64 0) 1 8 Try.underlying22 hi hz0 hz1 hz2 rfl _ _ _ _ rfl O2.out _ 0 [] rfl rfl (by simp) (.inl ⟨rfl, rfl⟩) ?e3 ?e4 ?_)
    case e3 => unfold maxLen; omega
    case e4 => omega
    intro u3 w3 S3 o3 g3 f3
    have O3 := Lib.hid o3
    have G3 := Lib.hid g3
    have F3 := Lib.hid f3
    clear o3 g3 f3
    go_wp2
    go_ret
    have hz1 := F1.out.size
    have hz2 := F2.out.size
    have hgA : Gr w [] S2 := G1.out.trans hz1 (G2.out.size (by simp))
    have hfA : Fr [] w w2 := (F1.out.alloc _).trans G1.out F2.out
    exact ⟨u3, S3, rfl, by simpa [flat1, encI] using O3.out, hgA.trans hfA.size G3.out, hfA.trans hgA F3.out⟩
  · have hgl := H.out.lt g (by simp)
    unfold maxLen at hcm
    have P1 := Lib.hid (H.out.part 0 (xs.take i) (fun j y hy => by rw [List.getElem?_take] at hy; split at hy; · rw [Nat.zero_add]; exact hy
                                                                   · cases hy))
    clear h hl hg ht
    go_enter Try.func73, Try.ntmps73
    go_wp2_with (at_builtin; refine wpList_append_any _ rfl (.tmp 8) (.tmp 11) 22 rfl 3 i0 (.int .i64 0) 1 8 Try.underlying22 hi hz0 hz1 hz2 rfl _ _ _ _ rfl (OwnS.nil _ 3 1) _ i ((xs.take i).flatMap encI) rfl ?c1 (one_flat _) (.inr ⟨_, _, rfl, P1.out⟩) ?c3 ?c4 ?_)
    case c1 => rw [len_flat, List.length_take]; have := HL.out; omega
    case c3 => unfold maxLen; omega
    case c4 => omega
    intro u1 w1 S1 o1 g1 f1
    have O1 := Lib.hid o1
    have G1 := Lib.hid g1
    have F1 := Lib.hid f1
    clear o1 g1 f1
    go_wp2_with (at_builtin; refine wpList_append_any _ rfl (.tmp 13) (.tmp 15) 22 rfl 3 i0 (.int .i64 0) 1 8 Try.underlying22 hi hz0 hz1 hz2 rfl _ _ _ _ rfl (O1.out.alloc _) _ 1 [.int .i64 x] rfl rfl ?d1 (.inr ⟨_, _, rfl, (Blk.new w1 3 [.int .i64 x]).news⟩) ?d3 ?d4 ?_)
    case d1 => intro u hu; simp at hu; subst hu; rfl
    case d3 => unfold maxLen; omega
    case d4 => omega
    intro u2 w2 S2 o2 g2 f2
    have O2 := Lib.hid o2
    have G2 := Lib.hid g2
    have F2 := Lib.hid f2
    clear o2 g2 f2
    have hzz1 := F1.out.size
    have hgS1 : g ∉ S1 := fun hm => by rcases G1.out g hm with h | h; cases h; omega
    have H2 := Lib.hid (((H.out.fr F1.out (by simp)).alloc (.cells #[.int .i64 x] 3)).fr F2.out (fun b hb hm => by simp at hb; subst hb; exact hgS1 hm))
    obtain ⟨ad, had, P3⟩ : ∃ ad : Addr, (if cap = i then some (⟨g, 0, none⟩ : Addr) else some ⟨g, i, none⟩) = some ad ∧ Hid (∀ j u, ((xs.drop i).flatMap encI)[j]? = some u → w2.cell? (ad.add j) = some u) := by
      by_cases hci : cap = i
      · refine ⟨⟨g, 0, none⟩, by rw [if_pos hci], ?_⟩
        intro j u hu
        rw [List.drop_of_length_le (by have := HL.out; omega)] at hu
        simp at hu
      · exact ⟨⟨g, i, none⟩, by rw [if_neg hci], H2.out.part i (xs.drop i) (fun j y hy => by rw [List.getElem?_drop] at hy; exact hy)⟩
    go_wp2_with (at_builtin; refine wpList_append_any _ rfl (.tmp 17) (.tmp 20) 22 rfl 3 i0 (.int .i64 0) 1 8 Try.underlying22 hi hz0 hz1 hz2 rfl _ _ _ _ rfl O2.out _ (n - i) ((xs.drop i).flatMap encI) rfl ?e1 (one_flat _) (.inr ⟨ad, _, rfl, P3.out⟩) ?e3 ?e4 ?_)
    case e1 => rw [len_flat, List.length_drop]; have := HL.out; omega
    case e3 => unfold maxLen; omega
    case e4 => omega
    intro u3 w3 S3 o3 g3 f3
    have O3 := Lib.hid o3
    have G3 := Lib.hid g3
    have F3 := Lib.hid f3
    clear o3 g3 f3
    go_wp2
    go_ret
    have hz2 := F2.out.size
    have hgA : Gr w [] S2 := G1.out.trans hzz1 (G2.out.size (by simp))
    have hfA : Fr [] w w2 := (F1.out.alloc _).trans G1.out F2.out
    have o3 := O3.out
    rw [show i + 1 + (n - i) = n + 1 from by omega] at o3
    exact ⟨u3, S3, rfl, by simpa [encI] using o3, hgA.trans hfA.size G3.out, hfA.trans hgA F3.out⟩

set_option maxRecDepth 100000 in
set_option maxHeartbeats 2000000 in
theorem without_ok {w : World} {v : Value} {n : Nat} {xs : List Int} {S : List Nat} (h : OwnS w 3 1 v n (xs.flatMap encI) S) (hn : n ≤ 1048576) (i : Nat) (hin : i < n) :
    Calls Try.prog 76 #[v, .int .i64 i] w fun e w' => ∃ u S', e = .returned u ∧ OwnS w' 3 1 u (n - 1) ((xs.eraseIdx i).flatMap encI) S' ∧ Gr w [] S' ∧ Fr [] w w' := by
  obtain ⟨i0, hi, hz0, hz1, hz2⟩ := info_parts infoi
  have hl := h.1
  rw [len_flat, Nat.mul_one, Nat.mul_one] at hl
  have HL := Lib.hid hl
  have H := Lib.hid h
  rcases h.2 with ⟨rfl, rfl, rfl⟩ | ⟨g, cap, cur, rfl, rfl, hg, hnc, hcm, hcs, ht⟩
  · omega
  · have hgl := H.out.lt g (by simp)
    unfold maxLen at hcm
    have P1 := Lib.hid (H.out.part 0 (xs.take i) (fun j y hy => by rw [List.getElem?_take] at hy; split at hy; · rw [Nat.zero_add]; exact hy
                                                                   · cases hy))
    clear h hl hg ht
    go_enter Try.func76, Try.ntmps76
    go_wp2_with (at_builtin; refine wpList_append_any _ rfl (.tmp 6) (.tmp 9) 22 rfl 3 i0 (.int .i64 0) 1 8 Try.underlying22 hi hz0 hz1 hz2 rfl _ _ _ _ rfl (OwnS.nil _ 3 1) _ i ((xs.take i).flatMap encI) rfl ?c1 (one_flat _) (.inr ⟨_, _, rfl, P1.out⟩) ?c3 ?c4 ?_)
    case c1 => rw [len_flat, List.length_take]; have := HL.out; omega
    case c3 => unfold maxLen; omega
    case c4 => omega
    intro u1 w1 S1 o1 g1 f1
    have O1 := Lib.hid o1
    have G1 := Lib.hid g1
    have F1 := Lib.hid f1
    clear o1 g1 f1
    have hzz1 := F1.out.size
    have H2 := Lib.hid (H.out.fr F1.out (by simp))
    obtain ⟨ad, had, P3⟩ : ∃ ad : Addr, (if cap = i + 1 then some (⟨g, 0, none⟩ : Addr) else some ⟨g, i + 1, none⟩) = some ad ∧ Hid (∀ j u, ((xs.drop (i + 1)).flatMap encI)[j]? = some u → w1.cell? (ad.add j) = some u) := by
      by_cases hci : cap = i + 1
      · refine ⟨⟨g, 0, none⟩, by rw [if_pos hci], ?_⟩
        intro j u hu
        rw [List.drop_of_length_le (by have := HL.out; omega)] at hu
        simp at hu
      · exact ⟨⟨g, i + 1, none⟩, by rw [if_neg hci], H2.out.part (i + 1) (xs.drop (i + 1)) (fun j y hy => by rw [List.getElem?_drop] at hy; exact hy)⟩
    go_wp2_with (at_builtin; refine wpList_append_any _ rfl (.tmp 11) (.tmp 15) 22 rfl 3 i0 (.int .i64 0) 1 8 Try.underlying22 hi hz0 hz1 hz2 rfl _ _ _ _ rfl O1.out _ (n - (i + 1)) ((xs.drop (i + 1)).flatMap encI) rfl ?e1 (one_flat _) (.inr ⟨ad, _, rfl, P3.out⟩) ?e3 ?e4 ?_)
    case e1 => rw [len_flat, List.length_drop]; have := HL.out; omega
    case e3 => unfold maxLen; omega
    case e4 => omega
    intro u3 w3 S3 o3 g3 f3
    have O3 := Lib.hid o3
    have G3 := Lib.hid g3
    have F3 := Lib.hid f3
    clear o3 g3 f3
    go_wp2
    go_ret
    have o3 := O3.out
    rw [show i + (n - (i + 1)) = n - 1 from by omega] at o3
    refine ⟨u3, S3, rfl, ?_, G1.out.trans hzz1 G3.out, F1.out.trans G1.out F3.out⟩
    rw [List.eraseIdx_eq_take_drop_succ, List.flatMap_append]
    exact o3

/-- turned: of a list that is not empty, by a number -/
theorem turned_none {w : World} (i : Int) : Calls Try.prog 77 #[.slice none 0 0, .int .i64 i] w fun e w' => e = .returned (.slice none 0 0) ∧ w' = w := by
  go_enter Try.func77, Try.ntmps77
  go_wp2
  go_ret
  exact ⟨rfl, rfl⟩

set_option maxRecDepth 100000 in
set_option maxHeartbeats 2000000 in
theorem turned_ok {w : World} {v : Value} {n : Nat} {xs : List Int} {S : List Nat} (h : OwnS w 3 1 v n (xs.flatMap encI) S) (hn : n ≤ 1048576) (hn0 : 0 < n) (i : Int) :
    Calls Try.prog 77 #[v, .int .i64 i] w fun e w' => ∃ u S', e = .returned u ∧ OwnS w' 3 1 u n ((rotZ xs i).flatMap encI) S' ∧ Gr w [] S' ∧ Fr [] w w' := by
  obtain ⟨i0, hi, hz0, hz1, hz2⟩ := info_parts infoi
  have hl := h.1
  rw [len_flat, Nat.mul_one, Nat.mul_one] at hl
  have HL := Lib.hid hl
  have H := Lib.hid h
  have hnb : ((n : Int) == 0) = false := by rw [beq_eq_false_iff_ne]; omega
  have htb : -(n : Int) ≤ i.tmod n ∧ i.tmod n < n := by
    have h1 := Int.tmod_eq_emod (a := i) (b := n)
    have h2 := Int.emod_nonneg i (show (n : Int) ≠ 0 by omega)
    have h3 := Int.emod_lt_of_pos i (show (0 : Int) < n by omega)
    rw [h1]; split <;> omega
  obtain ⟨htb1, htb2⟩ := htb
  obtain ⟨k, hk⟩ : ∃ k : Nat, Hid (k = (i % n).toNat) := ⟨_, Lib.hid rfl⟩
  have hkk : ((i % n : Int)) = k := by
    rw [hk.out]
    have h2 := Int.emod_nonneg i (show (n : Int) ≠ 0 by omega)
    omega
  have hkl : k < n := by
    have h3 := Int.emod_lt_of_pos i (show (0 : Int) < n by omega)
    omega
  have HN : Hid (i.tmod n < 0 → i.tmod n + n = k) := fun h => by rw [tmod_neg (by omega) h]; exact hkk
  have HP : Hid (0 ≤ i.tmod n → i.tmod n = k) := fun h => by rw [tmod_pos (by omega) (by omega)]; exact hkk
  clear hkk
  have hrot : Hid (rotZ xs i = xs.drop k ++ xs.take k) := by
    unfold Hid rotZ
    rw [if_neg (by omega), hl, ← hk.out]
    rfl
  rcases h.2 with ⟨rfl, rfl, rfl⟩ | ⟨g, cap, cur, rfl, rfl, hg, hnc, hcm, hcs, ht⟩
  · omega
  · have hgl := H.out.lt g (by simp)
    unfold maxLen at hcm
    obtain ⟨ad, had, P1⟩ : ∃ ad : Addr, (if cap = k then some (⟨g, 0, none⟩ : Addr) else some ⟨g, k, none⟩) = some ad ∧ Hid (∀ j u, ((xs.drop k).flatMap encI)[j]? = some u → w.cell? (ad.add j) = some u) :=
      ⟨⟨g, k, none⟩, by rw [if_neg (by omega)], H.out.part k (xs.drop k) (fun j y hy => by rw [List.getElem?_drop] at hy; exact hy)⟩
    clear h hl hg ht
    have HC1 : Hid (((xs.drop k).flatMap encI).length = (n - k) * 1) := by unfold Hid; rw [len_flat, List.length_drop]; have := HL.out; omega
    have HC2 : Hid (((xs.take k).flatMap encI).length = k * 1) := by unfold Hid; rw [len_flat, List.length_take]; have := HL.out; omega
    by_cases hneg : i.tmod n < 0
    case' pos =>
      have hq := HN.out hneg
      go_enter Try.func77, Try.ntmps77
    case' neg =>
      have hq := HP.out (by omega)
      rw [hq] at hneg htb1 htb2
      go_enter Try.func77, Try.ntmps77
    all_goals
      go_wp2_with (at_builtin; refine wpList_append_any _ rfl (.tmp 21) (.tmp 24) 22 rfl 3 i0 (.int .i64 0) 1 8 Try.underlying22 hi hz0 hz1 hz2 rfl _ _ _ _ rfl (OwnS.nil _ 3 1) _ (n - k) ((xs.drop k).flatMap encI) rfl HC1.out (one_flat _) (.inr ⟨ad, _, rfl, P1.out⟩) ?c3 ?c4 ?_)
      case c3 => unfold maxLen; omega
      case c4 => omega
      intro u1 w1 S1 o1 g1 f1
      have O1 := Lib.hid o1
      have G1 := Lib.hid g1
      have F1 := Lib.hid f1
      clear o1 g1 f1
      have hzz1 := F1.out.size
      have P3 := Lib.hid ((H.out.fr F1.out (by simp)).part 0 (xs.take k) (fun j y hy => by rw [List.getElem?_take] at hy; split at hy; · rw [Nat.zero_add]; exact hy
                                                                                           · cases hy))
      go_wp2_with (at_builtin; refine wpList_append_any _ rfl (.tmp 26) (.tmp 29) 22 rfl 3 i0 (.int .i64 0) 1 8 Try.underlying22 hi hz0 hz1 hz2 rfl _ _ _ _ rfl O1.out _ k ((xs.take k).flatMap encI) rfl HC2.out (one_flat _) (.inr ⟨_, _, rfl, P3.out⟩) ?e3 ?e4 ?_)
      case e3 => unfold maxLen; omega
      case e4 => omega
      intro u3 w3 S3 o3 g3 f3
      have O3 := Lib.hid o3
      have G3 := Lib.hid g3
      have F3 := Lib.hid f3
      clear o3 g3 f3
      go_wp2
      go_ret
      refine ⟨u3, S3, rfl, ?_, G1.out.trans hzz1 G3.out, F1.out.trans G1.out F3.out⟩
      have o3 := O3.out
      first
        | rw [show 0 + (n - k) + k = n from by omega] at o3
        | rw [show n - k + k = n from by omega] at o3
      rw [hrot.out, List.flatMap_append]
      exact o3

theorem took_out {w : World} {ao : Option Addr} {n cap : Nat} (i : Int) (hi : i < 0 ∨ (n : Int) ≤ i) :
    Calls Try.prog 75 #[.int .i64 0, .bool false, .slice ao n cap, .int .i64 i] w fun e w' => e = .returned (.bool true) ∧ w' = w := by
  have hc : i < 0 ∨ (0 ≤ i ∧ (n : Int) ≤ i) := by omega
  rcases hc with hc | ⟨hc1, hc2⟩
  · clear hi
    go_enter Try.func75, Try.ntmps75
    go_wp2
    go_ret
    exact ⟨rfl, rfl⟩
  · clear hi
    go_enter Try.func75, Try.ntmps75
    go_wp2
    go_ret
    exact ⟨rfl, rfl⟩
theorem took_in {w : World} {v : Value} {n : Nat} {xs : List Int} {S : List Nat} (h : OwnS w 3 1 v n (xs.flatMap encI) S) {k : Nat} {x : Int} (hx : xs[k]? = some x) (hn : n ≤ 1048576) :
    Calls Try.prog 75 #[.int .i64 x, .bool true, v, .int .i64 k] w fun e w' => e = .returned (.bool true) ∧ w' = w := by
  have hl := h.1
  rw [len_flat, Nat.mul_one, Nat.mul_one] at hl
  have hkl : k < n := by have := some_lt hx; omega
  obtain ⟨g, cap, rfl, _⟩ := h.head (by omega)
  have c0 : w.cell? ⟨g, k, none⟩ = some (.int .i64 x) := by
    rw [h.cellAt k (by omega), flat1, List.getElem?_map, hx]
    rfl
  clear h hl hx
  go_enter Try.func75, Try.ntmps75
  go_wp2
  go_ret
  exact ⟨rfl, rfl⟩
theorem gone_out {w : World} {ao : Option Addr} {n cap : Nat} (i : Int) (hi : i < 0 ∨ (n : Int) ≤ i) :
    Calls Try.prog 74 #[.slice ao n cap, .int .i64 i] w fun e w' => e = .returned (.slice ao n cap) ∧ w' = w := by
  have hc : i < 0 ∨ (0 ≤ i ∧ (n : Int) ≤ i) := by omega
  rcases hc with hc | ⟨hc1, hc2⟩
  · clear hi
    go_enter Try.func74, Try.ntmps74
    go_wp2
    go_ret
    exact ⟨rfl, rfl⟩
  · clear hi
    go_enter Try.func74, Try.ntmps74
    go_wp2
    go_ret
    exact ⟨rfl, rfl⟩
theorem gone_in {w : World} {v : Value} {n : Nat} {xs : List Int} {S : List Nat} (h : OwnS w 3 1 v n (xs.flatMap encI) S) (hn : n ≤ 1048576) (i : Nat) (hin : i < n) :
    Calls Try.prog 74 #[v, .int .i64 i] w fun e w' => ∃ u S', e = .returned u ∧ OwnS w' 3 1 u (n - 1) ((xs.eraseIdx i).flatMap encI) S' ∧ Gr w [] S' ∧ Fr [] w w' := by
  have hcall := Lib.hid (without_ok h hn i hin)
  obtain ⟨g, cap, rfl, _⟩ := h.head (by omega)
  clear h
  go_enter Try.func74, Try.ntmps74
  go_wp2_with fail
  refine hcall.out.mono ?_
  rintro e w1 ⟨u, S', rfl, o1, g1, f1⟩
  have O1 := Lib.hid o1
  have G1 := Lib.hid g1
  have F1 := Lib.hid f1
  clear o1 g1 f1
  go_wp2
  go_ret
  exact ⟨u, S', rfl, O1.out, G1.out, F1.out⟩
end Go.Proofs.Ytoodgjmgkjhpoaa
