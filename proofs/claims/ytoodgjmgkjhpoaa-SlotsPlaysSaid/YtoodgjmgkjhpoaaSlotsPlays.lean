/- The statement SlotsPlays: the walk: of whatever steps it answers true. -/
import Derived.Test.YtoodgjmgkjhpoaaSlotsInner
import Derived.Test.YtoodgjmgkjhpoaaSlotsSame
import Derived.Test.YtoodgjmgkjhpoaaSlotsTold
import Derived.Test.YtoodgjmgkjhpoaaSlotsStep
import Derived.Test.YtoodgjmgkjhpoaaSep
import Derived.Sort.CutIn
namespace Go.Proofs.Ytoodgjmgkjhpoaa
open Go Go.RowKit
set_option linter.unusedSimpArgs false
attribute [local go_sem] calmQ_normal wide_fn wide_depth Oper.semAt_some run_store_func

/-- the program's slots, as a piece of memory -/
def CSl (b d last : Nat) (L : List (Slot Int)) : Chunk where
  bs := [b, d]
  ok w := Sli w b d last L (held L)
  kept h hk := SlotsAt.kept h hk
  lt h x hx := by simp at hx; rcases hx with rfl | rfl; exact (SlotsAt.hb h).lt; exact (SlotsAt.hd h).lt
/-- the reference's -/
def CRf (B e last : Nat) (L : List (Slot Int)) : Chunk where
  bs := [B, e]
  ok w := RefP w B e last L
  kept h hk := ⟨(hk B (by simp)).trans h.hb, (hk e (by simp)).trans h.hd, h.ne, h.room, h.lastL, h.gens⟩
  lt h x hx := by simp at hx; rcases hx with rfl | rfl; exact (RefP.hb h).lt; exact (RefP.hd h).lt
/-- handles that were given -/
def encH (h : Int × Int) : List Value := [.int .i64 h.1, .int .i64 h.2]
theorem encH_len (h : Int × Int) : (encH h).length = 2 := rfl
theorem infoH : (Try.prog.info? 32).map (fun i => (i.zero, i.size, i.bytes)) = some (some (.agg #[.int .i64 0, .int .i64 0]), 2, 16) := by kernel_rfl

/-- what the loop keeps -/
abbrev PCs (b d last B e : Nat) (L : List (Slot Int)) (v : Value) (hs : List (Int × Int)) (S : List Nat) (hb : Nat) (Ds : List Nat) : List Chunk :=
  [CSl b d last L, CRf B e last L, Chunk.own 32 2 v hs.length (hs.flatMap encH) S, Chunk.blk hb 23 [.pointer (some ⟨b, 0, none⟩)], Chunk.marks Ds]
theorem handle_cells {X : World} {g : Nat} {xs : List (Int × Int)} {n cap : Nat} {S : List Nat} (ho : OwnS X 32 2 (.slice (some ⟨g, 0, none⟩) n cap) n (xs.flatMap encH) S) {k : Nat} {x : Int × Int} (hx : xs[k]? = some x) (hk : k < n) :
    X.cell? ⟨g, k * 2, none⟩ = some (.int .i64 x.1) ∧ X.cell? ⟨g, k * 2 + 1, none⟩ = some (.int .i64 x.2) := by
  have key : ∀ j, j < 2 → X.cell? ⟨g, k * 2 + j, none⟩ = (encH x)[j]? := fun j hj => by
    rw [ho.cellAt (k * 2 + j) (by omega)]
    exact flatMap_at (sz := 2) (fun _ => rfl) hx hj
  exact ⟨key 0 (by decide), key 1 (by decide)⟩

theorem csl_step {w0 w w' : World} {S0 : List Nat} {cs : List Chunk} (H : Sep w0 S0 w cs) (i : Nat) {b d last : Nat} {L L' : List (Slot Int)} (hi : cs[i]? = some (CSl b d last L)) (s : Sli w' b d last L' (held L')) (f : Fr [b, d] w w') : Sep w0 S0 w' (cs.set i (CSl b d last L')) :=
  H.call1' i hi (Sep.of_one (c := CSl b d last L') f s (Gr.refl _ _))
theorem crf_step {w0 w w' : World} {S0 : List Nat} {cs : List Chunk} (H : Sep w0 S0 w cs) (i : Nat) {B e last : Nat} {L L' : List (Slot Int)} (hi : cs[i]? = some (CRf B e last L)) (s : RefP w' B e last L') (f : Fr [e] w w') : Sep w0 S0 w' (cs.set i (CRf B e last L')) :=
  H.call1' i hi (Sep.of_one (c := CRf B e last L') (f.mono (T := [B, e]) (by simp)) s (Gr.refl _ _))

theorem two_of {w0 w : World} {S0 : List Nat} {cs : List Chunk} (H : Sep w0 S0 w cs) {b d last B e : Nat} {L : List (Slot Int)} (h0 : cs[0]? = some (CSl b d last L)) (h1 : cs[1]? = some (CRf B e last L)) : Two w b d last B e L :=
  ⟨H.get h0, H.get h1, H.hs.apart (by decide) h0 h1⟩
theorem two_step {w0 w w' : World} {S0 : List Nat} {cs : List Chunk} (H : Sep w0 S0 w cs) {b d last B e : Nat} {L L' : List (Slot Int)} (h0 : cs[0]? = some (CSl b d last L)) (h1 : cs[1]? = some (CRf B e last L)) (t : Two w' b d last B e L') (f : Fr [b, d, B, e] w w') :
    Sep w0 S0 w' ((cs.set 0 (CSl b d last L')).set 1 (CRf B e last L')) := by
  have := H.call2 0 1 (by decide) h0 h1 (c' := CSl b d last L') (d' := CRf B e last L') (news := []) ⟨f, Holds.app (cs := [_]) (ds := [_]) (Holds.one t.sl) (Holds.one t.rf) (fun x hx hm => t.ap x (by simpa [Chunks.bs, CSl] using hx) (by simpa [Chunks.bs, CRf] using hm)), Gr.of_sub (by simp [Chunks.bs, CSl, CRf])⟩
  simpa using this
set_option maxRecDepth 100000 in
set_option maxHeartbeats 8000000 in
theorem splays_walk (w : World) (n0 l0 : Int) (aa : Option Addr) (la ca : Nat) (hla : la ≤ maxLen) (hst : SStepRow w aa la) :
    Calls Try.prog 9 #[.int .i64 n0, .int .i64 l0, .slice aa la ca] w fun e w' => e = .returned (.bool true) ∧ Fr [] w w' := by
  unfold maxLen at hla
  have HST := Lib.hid hst
  clear hst
  refine callsIn_wide.1 (callsIn_of_wp_marks (n := 0) (F := Fence.wide) Try.func9 rfl trivial ?_ rfl)
  simp only [Try.ntmps9, List.size_toArray, List.length_cons, List.length_nil, Nat.reduceAdd, Nat.reduceSub, Array.replicate_succ, Array.replicate_zero, List.push_toArray, List.append_toArray, List.nil_append, List.cons_append]
  gi_wp2_with fail
  refine (wideIn _ (told6 w)).mono ?_
  rintro e w1 ⟨rfl, f1⟩
  by_cases hyes : (1 ≤ n0 ∧ n0 ≤ 65536) ∧ 1 ≤ l0 ∧ l0 ≤ 2147483647
  case neg =>
    have hno : n0 < 1 ∨ 65536 < n0 ∨ l0 < 1 ∨ 2147483647 < l0 := by omega
    have F1 := Lib.hid f1
    have HNO := Lib.hid hno
    clear hyes hno f1
    gi_wp2_with fail
    refine (wideIn _ (snew_noi w1 n0 l0 HNO.out)).mono ?_
    rintro e w2 ⟨rfl, rfl⟩
    gi_wp2_with fail
    refine (wideIn _ (rnew_no _ n0 l0 HNO.out)).mono ?_
    rintro e w3 ⟨rfl, f3⟩
    have F3 : Hid (Fr [] w w3) := F1.out.trans' f3
    clear f3
    gi_wp2_with fail
    refine ⟨.bool true, by simp [results, Try.results9, go_sem], rfl, ?_⟩
    exact F3.out.alloc _
  obtain ⟨⟨h1, h2⟩, h3, h4⟩ := hyes
  obtain ⟨n, rfl⟩ := Int.eq_ofNat_of_zero_le (show 0 ≤ n0 by omega)
  obtain ⟨last, rfl⟩ := Int.eq_ofNat_of_zero_le (show 0 ≤ l0 by omega)
  gi_wp2_with fail
  refine (wideIn _ (snew_yesi w1 n last (by omega) (by omega) (by omega) (by omega))).mono ?_
  rintro e w2 ⟨b, d, rfl, s2, f2, hb2, hd2⟩
  have K2 : Hid (Sep w [] w2 []) := ⟨f1.trans' f2, Holds.nil _, Gr.nil _ _⟩
  gi_wp2_with fail
  refine (wideIn _ (rnew_yes w2 n last (by omega) (by omega) (by omega) (by omega))).mono ?_
  rintro r w3 ⟨e, rfl, r3, f3, he3⟩
  gi_wp2_with fail
  obtain ⟨B, hB⟩ : ∃ B, w3.heap.size = B := ⟨_, rfl⟩
  obtain ⟨L, hL⟩ : ∃ L : List (Slot Int), List.replicate n { v := 0, held := false, gen := 0 } = L := ⟨_, rfl⟩
  have hLn : L.length = n := by rw [← hL]; simp
  have hLh : held L = 0 := by rw [← hL]; exact held_new n
  rw [hL] at s2 r3
  obtain ⟨Wa, hWa⟩ : ∃ Wa, w3.alloc (.cells #[.slice (some ⟨e, 0, none⟩) n n, .int .i64 last] 83) = Wa := ⟨_, rfl⟩
  have fa : Fr [] w3 Wa := by rw [← hWa]; exact (Fr.refl _ _).alloc _
  have z1 := f1.size
  have z2 := f2.size
  have z3 := f3.size
  have hbl := s2.hb.lt
  have hdl := s2.hd.lt
  have hel := r3.hd.lt
  have hSl : Sli Wa b d last L (held L) := by
    rw [hLh]; exact (s2.fr f3 (by simp)).fr fa (by simp)
  have hRf : RefP Wa B e last L := by
    refine ⟨?_, (r3.fr fa (by simp)).hd, by omega, r3.room, by omega, fun s hs => ?_⟩
    · rw [← hWa, ← hB, hLn]; exact Blk.new w3 _ [_, _]
    · rw [← hL] at hs; have := List.eq_of_mem_replicate hs; subst this; simp
  have K1 : Sep w [] Wa [CSl b d last L, CRf B e last L] :=
    ⟨((f1.trans' f2).trans' f3).trans' fa, Holds.app (cs := [_]) (ds := [_]) (Holds.one hSl) (Holds.one hRf) (fun x hx hm => by simp [Chunks.bs, CSl, CRf] at hx hm; omega), (fun x hx => by
      simp [Chunks.bs, CSl, CRf] at hx
      right; omega)⟩
  have K4 : Hid (Sep w [] (Wa.alloc (.cells #[.pointer (some ⟨b, 0, none⟩)] 23)) (PCs b d last B e L (.slice none 0 0) [] [] Wa.heap.size [])) :=
    ((K1.call0 (Sep.of_one0 (Fr.refl _ _) (OwnS.nil Wa 32 2) (Gr.nil _ _) : Sep Wa [] Wa [Chunk.own 32 2 (.slice none 0 0) 0 [] []])).alloc 23 [.pointer (some ⟨b, 0, none⟩)]).call0
      (Sep.of_one0 (Fr.refl _ _) (marks_nil _) (by rw [marks_bs]; exact Gr.nil _ _) : Sep _ [] _ [Chunk.marks []])
  rw [hWa, hB]
  clear hWa hSl hRf K1 K2 fa z1 z2 z3 hbl hdl hel s2 r3 f1 f2 f3 hb2 hd2 he3 hL hLh hB h1 h2 h3 h4
  refine (wideIn _ (sall Wa b)).mono ?_
  rintro er w' ⟨rfl, rfl⟩
  obtain ⟨hb0, hhb0⟩ : ∃ hb0, Wa.heap.size = hb0 := ⟨_, rfl⟩
  obtain ⟨W5, hW5⟩ : ∃ W5, Wa.alloc (.cells #[.pointer (some ⟨b, 0, none⟩)] 23) = W5 := ⟨_, rfl⟩
  rw [hW5, hhb0] at K4
  rw [hW5, hhb0]
  clear hW5 hhb0 hLn
  gi_wp2_with fail
  refine wpIn_loop_ghost_k (fun k' a' w' => ∃ (u : Nat → Value) (dfs : List Deferred), (∃ (j hb : Nat) (L : List (Slot Int)) (hs : List (Int × Int)) (S Ds : List Nat),
      k' + j = 301 ∧ j ≤ 300 ∧ j ≤ la ∧ u 13 = .int .i64 j ∧ u 12 = .func (.func 80) #[] #[.pointer (some ⟨hb, 0, none⟩)] ∧ dfs = Ds.map (fun D => { target := .collected D, args := #[] }) ∧
      hs.length ≤ j ∧ Hid (Sep w [] w' (PCs b d last B e L (u 11) hs S hb Ds))) ∧ a' = { tmps := #[.int .i64 n, .int .i64 last, .slice aa la ca, u 3, u 4, u 5, u 6, .pointer (some ⟨b, 0, none⟩), u 8, .pointer (some ⟨B, 0, none⟩), u 10, u 11, u 12, u 13, u 14, u 15, u 16, u 17, u 18, u 19, u 20, u 21, u 22, u 23, u 24, u 25, u 26, u 27, u 28, u 29, u 30, u 31, u 32, u 33, u 34, u 35, u 36, u 37, u 38, u 39, u 40, u 41, u 42, u 43, u 44, u 45, u 46, u 47, u 48, u 49, u 50, u 51, u 52, u 53, u 54, u 55, u 56, u 57, u 58, u 59, u 60, u 61, u 62, u 63, u 64, u 65, u 66, u 67, u 68, u 69, u 70, u 71, u 72, u 73, u 74, u 75, u 76, u 77, u 78, u 79, u 80, u 81, u 82, u 83, u 84, u 85, u 86, u 87, u 88, u 89, u 90, u 91, u 92, u 93, u 94, u 95, u 96, u 97, u 98, u 99, u 100, u 101, u 102, u 103, u 104, u 105, u 106, u 107, u 108, u 109, u 110, u 111, u 112, u 113, u 114, u 115, u 116, u 117, u 118, u 119, u 120, u 121, u 122, u 123, u 124, u 125, u 126, u 127, u 128, u 129, u 130, u 131, u 132, u 133, u 134, u 135, u 136, u 137, u 138, u 139, u 140, u 141, u 142, u 143, u 144, u 145, u 146, u 147, u 148, u 149, u 150, u 151, u 152, u 153, u 154, u 155, u 156, u 157, u 158, u 159, u 160, u 161, u 162, u 163, u 164, u 165, u 166, u 167, u 168, u 169, u 170, u 171, u 172, u 173, u 174, u 175, u 176, u 177, u 178, u 179, u 180, u 181, u 182, u 183, u 184, u 185, u 186, u 187, u 188, u 189, u 190, u 191, u 192, u 193, u 194, u 195, u 196, u 197, u 198, u 199, u 200, u 201, u 202, u 203, u 204, u 205, u 206, u 207, u 208, u 209, u 210, u 211, u 212, u 213, u 214, u 215, u 216, u 217, u 218, u 219, u 220, u 221, u 222, u 223, u 224, u 225, u 226, u 227, u 228], defers := dfs }) 301 ?startu ?roundu
  case' startu => refine meet_frame ?_ rfl
  case' roundu =>
    intro gk _ wr hinv
    obtain ⟨u, dfs, hrel, ha⟩ := hinv
    subst ha
    try dsimp only
    intro _ _ _ _
  case startu => exact ⟨0, hb0, _, [], [], [], by omega, by omega, by omega, rfl, rfl, rfl, by simp, K4⟩
  obtain ⟨j, hb, L, hs, S, Ds, hk, hj3, hjl, e13, e12, rfl, hhl, HK⟩ := hrel
  rw [e13, e12]
  obtain ⟨vg, hvg⟩ : ∃ vg, u 11 = vg := ⟨_, rfl⟩
  rw [hvg] at HK ⊢
  clear e13 e12 hvg
  clear K4
  by_cases hjin : j < 300 ∧ j < la
  · obtain ⟨hj1, hj2⟩ := hjin
    obtain ⟨sb, off, k, p, x2, x3, V, rfl, s0, s1, s2, s3, s4⟩ := HST.out j hj2
    have y0 := (HK.out.fr.cell (p := ⟨sb, off + j * 5, none⟩) (World.block_lt_of_cell? _ _ s0) (by simp)).trans s0
    have y1 := (HK.out.fr.cell (p := ⟨sb, off + (j * 5 + 1), none⟩) (World.block_lt_of_cell? _ _ s1) (by simp)).trans s1
    have y2 := (HK.out.fr.cell (p := ⟨sb, off + (j * 5 + 2), none⟩) (World.block_lt_of_cell? _ _ s2) (by simp)).trans s2
    have y3 := (HK.out.fr.cell (p := ⟨sb, off + (j * 5 + 3), none⟩) (World.block_lt_of_cell? _ _ s3) (by simp)).trans s3
    have y4 := (HK.out.fr.cell (p := ⟨sb, off + (j * 5 + 4), none⟩) (World.block_lt_of_cell? _ _ s4) (by simp)).trans s4
    rw [← Nat.add_assoc] at y1 y2 y3 y4
    clear s0 s1 s2 s3 s4
    obtain ⟨va, vc, rfl⟩ := (HK.out.own 2 rfl).val
    gi_upto_region 15 with fail
    have w1l : wr.heap.size < wr.heap.size + 1 := by omega
    refine wpIn_cut (fun a' w' => ∃ (fp : Nat → Value) (dfs : List Deferred), (dfs = Ds.map (fun D => { target := .collected D, args := #[] }) ∧ w' = (wr.alloc (.cells #[.int .i64 k, .int .i64 p, .int .i64 x2, .int .i64 x3, .int .i64 V] 90)).alloc (.cells #[.int .i64 x2, .int .i64 x3] 32)) ∧ a' = { tmps := #[.int .i64 n, .int .i64 last, .slice (some ⟨sb, off, none⟩) la ca, fp 3, fp 4, fp 5, fp 6, .pointer (some ⟨b, 0, none⟩), fp 8, .pointer (some ⟨B, 0, none⟩), fp 10, .slice va hs.length vc, .func (.func 80) #[] #[.pointer (some ⟨hb, 0, none⟩)], .int .i64 j, .pointer (some ⟨wr.heap.size, 0, none⟩), .pointer (some ⟨wr.heap.size + 1, 0, none⟩), fp 16, fp 17, fp 18, fp 19, fp 20, fp 21, fp 22, fp 23, fp 24, fp 25, fp 26, fp 27, fp 28, fp 29, fp 30, fp 31, fp 32, fp 33, fp 34, fp 35, fp 36, fp 37, fp 38, fp 39, fp 40, fp 41, fp 42, fp 43, fp 44, fp 45, fp 46, fp 47, fp 48, fp 49, fp 50, fp 51, fp 52, fp 53, fp 54, fp 55, fp 56, fp 57, fp 58, fp 59, fp 60, fp 61, fp 62, fp 63, fp 64, fp 65, fp 66, fp 67, fp 68, fp 69, fp 70, fp 71, fp 72, fp 73, fp 74, fp 75, fp 76, fp 77, fp 78, fp 79, fp 80, fp 81, fp 82, fp 83, fp 84, fp 85, fp 86, fp 87, fp 88, fp 89, fp 90, fp 91, fp 92, fp 93, fp 94, fp 95, fp 96, fp 97, fp 98, fp 99, fp 100, fp 101, fp 102, fp 103, fp 104, fp 105, fp 106, fp 107, fp 108, fp 109, fp 110, fp 111, fp 112, fp 113, fp 114, fp 115, fp 116, fp 117, fp 118, fp 119, fp 120, fp 121, fp 122, fp 123, fp 124, fp 125, fp 126, fp 127, fp 128, fp 129, fp 130, fp 131, fp 132, fp 133, fp 134, fp 135, fp 136, fp 137, fp 138, fp 139, fp 140, fp 141, fp 142, fp 143, fp 144, fp 145, fp 146, fp 147, fp 148, fp 149, fp 150, fp 151, fp 152, fp 153, fp 154, fp 155, fp 156, fp 157, fp 158, fp 159, fp 160, fp 161, fp 162, fp 163, fp 164, fp 165, fp 166, fp 167, fp 168, fp 169, fp 170, fp 171, fp 172, fp 173, fp 174, fp 175, fp 176, fp 177, fp 178, fp 179, fp 180, fp 181, fp 182, fp 183, fp 184, fp 185, fp 186, fp 187, fp 188, fp 189, fp 190, fp 191, fp 192, fp 193, fp 194, fp 195, fp 196, fp 197, fp 198, fp 199, fp 200, fp 201, fp 202, fp 203, fp 204, fp 205, fp 206, fp 207, fp 208, fp 209, fp 210, fp 211, fp 212, fp 213, fp 214, fp 215, fp 216, fp 217, fp 218, fp 219, fp 220, fp 221, fp 222, fp 223, fp 224, fp 225, fp 226, fp 227, fp 228], defers := dfs }) ?restfp ?firstfp
    case' restfp =>
      intro _ wc hinv
      obtain ⟨fp, dfs, hcut, ha⟩ := hinv
      subst ha
      try dsimp only
    case' firstfp => intro _ _ _ _
    case firstfp =>
      gi_wp2_with fail
      refine Met.intro ?_
      first | gi_step | go_step
      refine meet_frame ?rel rfl
      case rel => exact ⟨rfl, rfl⟩
    obtain ⟨rfl, rfl⟩ := hcut
    gi_step
    gi_step
    have H2 := Lib.hid ((HK.out.alloc 90 [.int .i64 k, .int .i64 p, .int .i64 x2, .int .i64 x3, .int .i64 V]).alloc 32 [.int .i64 x2, .int .i64 x3])
    obtain ⟨W2, hW2⟩ : ∃ W2, (wr.alloc (.cells #[.int .i64 k, .int .i64 p, .int .i64 x2, .int .i64 x3, .int .i64 V] 90)).alloc (.cells #[.int .i64 x2, .int .i64 x3] 32) = W2 := ⟨_, rfl⟩
    rw [World.size_alloc] at H2
    obtain ⟨xb, hxb⟩ : ∃ xb, wr.heap.size = xb := ⟨_, rfl⟩
    simp only [List.cons_append, List.nil_append, hxb] at H2
    rw [hW2, hxb]
    replace H2 : Hid (Sep w [] W2 (PCs b d last B e L (.slice va hs.length vc) hs S hb Ds ++ [Chunk.blk xb 90 [.int .i64 k, .int .i64 p, .int .i64 x2, .int .i64 x3, .int .i64 V], Chunk.blk (xb + 1) 32 [.int .i64 x2, .int .i64 x3]])) := by
      rw [← hW2]; exact H2
    clear hW2 hxb y0 y1 y2 y3 y4
    refine wpIn_cut (fun a' w' => ∃ (fq : Nat → Value) (dfs : List Deferred), (dfs = Ds.map (fun D => { target := .collected D, args := #[] }) ∧ ∃ i g : Int, Hid (Sep w [] w' (PCs b d last B e L (.slice va hs.length vc) hs S hb Ds ++ [Chunk.blk xb 90 [.int .i64 k, .int .i64 p, .int .i64 x2, .int .i64 x3, .int .i64 V], Chunk.blk (xb + 1) 32 [.int .i64 i, .int .i64 g]]))) ∧ a' = { tmps := #[.int .i64 n, .int .i64 last, .slice (some ⟨sb, off, none⟩) la ca, fq 3, fq 4, fq 5, fq 6, .pointer (some ⟨b, 0, none⟩), fq 8, .pointer (some ⟨B, 0, none⟩), fq 10, .slice va hs.length vc, .func (.func 80) #[] #[.pointer (some ⟨hb, 0, none⟩)], .int .i64 j, .pointer (some ⟨xb, 0, none⟩), .pointer (some ⟨xb + 1, 0, none⟩), fq 16, fq 17, fq 18, fq 19, fq 20, fq 21, fq 22, fq 23, fq 24, fq 25, fq 26, fq 27, fq 28, fq 29, fq 30, fq 31, fq 32, fq 33, fq 34, fq 35, fq 36, fq 37, fq 38, fq 39, fq 40, fq 41, fq 42, fq 43, fq 44, fq 45, fq 46, fq 47, fq 48, fq 49, fq 50, fq 51, fq 52, fq 53, fq 54, fq 55, fq 56, fq 57, fq 58, fq 59, fq 60, fq 61, fq 62, fq 63, fq 64, fq 65, fq 66, fq 67, fq 68, fq 69, fq 70, fq 71, fq 72, fq 73, fq 74, fq 75, fq 76, fq 77, fq 78, fq 79, fq 80, fq 81, fq 82, fq 83, fq 84, fq 85, fq 86, fq 87, fq 88, fq 89, fq 90, fq 91, fq 92, fq 93, fq 94, fq 95, fq 96, fq 97, fq 98, fq 99, fq 100, fq 101, fq 102, fq 103, fq 104, fq 105, fq 106, fq 107, fq 108, fq 109, fq 110, fq 111, fq 112, fq 113, fq 114, fq 115, fq 116, fq 117, fq 118, fq 119, fq 120, fq 121, fq 122, fq 123, fq 124, fq 125, fq 126, fq 127, fq 128, fq 129, fq 130, fq 131, fq 132, fq 133, fq 134, fq 135, fq 136, fq 137, fq 138, fq 139, fq 140, fq 141, fq 142, fq 143, fq 144, fq 145, fq 146, fq 147, fq 148, fq 149, fq 150, fq 151, fq 152, fq 153, fq 154, fq 155, fq 156, fq 157, fq 158, fq 159, fq 160, fq 161, fq 162, fq 163, fq 164, fq 165, fq 166, fq 167, fq 168, fq 169, fq 170, fq 171, fq 172, fq 173, fq 174, fq 175, fq 176, fq 177, fq 178, fq 179, fq 180, fq 181, fq 182, fq 183, fq 184, fq 185, fq 186, fq 187, fq 188, fq 189, fq 190, fq 191, fq 192, fq 193, fq 194, fq 195, fq 196, fq 197, fq 198, fq 199, fq 200, fq 201, fq 202, fq 203, fq 204, fq 205, fq 206, fq 207, fq 208, fq 209, fq 210, fq 211, fq 212, fq 213, fq 214, fq 215, fq 216, fq 217, fq 218, fq 219, fq 220, fq 221, fq 222, fq 223, fq 224, fq 225, fq 226, fq 227, fq 228], defers := dfs }) ?restfq ?firstfq
    case' restfq =>
      intro _ wc hinv
      obtain ⟨fq, dfs, hcut, ha⟩ := hinv
      subst ha
      try dsimp only
    case' firstfq => intro _ _ _ _
    case firstfq =>
      have a1 := H2.out.cellOf 5 rfl 1 rfl
      have a2 := H2.out.cellOf 6 rfl 0 rfl
      have a3 := H2.out.cellOf 6 rfl 1 rfl
      have q0 := (H2.out.blk 6 rfl).frz 0
      have q1 := (H2.out.blk 6 rfl).frz 1
      have xl := (H2.out.blk 6 rfl).lt
      by_cases hp : 0 ≤ p ∧ 0 < hs.length
      · obtain ⟨hp0, hp1⟩ := hp
        obtain ⟨g', gc, hgv, hSg⟩ := (H2.out.own 2 rfl).head hp1
        cases hgv
        obtain ⟨q, hq, hql⟩ : ∃ q : Nat, p % (hs.length : Int) = (q : Int) ∧ q < hs.length := ⟨(p % (hs.length : Int)).toNat, by have := Int.emod_nonneg p (show (hs.length : Int) ≠ 0 by omega); omega, by
          have h1 := Int.emod_nonneg p (show (hs.length : Int) ≠ 0 by omega)
          have h2 := Int.emod_lt_of_pos p (show (0 : Int) < hs.length by omega)
          omega⟩
        obtain ⟨x, hx⟩ : ∃ x, hs[q]? = some x := ⟨hs[q], by simp [hql]⟩
        obtain ⟨c0, c1⟩ := handle_cells (H2.out.own 2 rfl) hx hql
        have K2 := Lib.hid ((H2.out.set 6 rfl 0 (.int .i64 x.1)).set 6 rfl 1 (.int .i64 x.2))
        have hk1 : decide ((0 : Int) < (hs.length : Int)) = true := decide_eq_true (by omega)
        have hq2 : p.tmod (hs.length : Int) = (q : Int) := by rw [Int.tmod_eq_emod_of_nonneg hp0]; exact hq
        clear hx
        gi_wp2_with fail
        refine Met.intro ?_
        first | gi_step | go_step
        refine meet_frame ?rel rfl
        case rel => exact ⟨rfl, x.1, x.2, K2⟩
      · have hp' : p < 0 ∨ (0 ≤ p ∧ hs.length = 0) := by omega
        clear hp
        rcases hp' with hp | ⟨hp, hn0⟩
        · gi_wp2_with fail
          refine Met.intro ?_
          first | gi_step | go_step
          refine meet_frame ?rel rfl
          case rel => exact ⟨rfl, _, _, H2⟩
        · have hk1 : decide (0 < hs.length) = false := decide_eq_false (by omega)
          have hk2 : decide ((0 : Int) < (hs.length : Int)) = false := decide_eq_false (by omega)
          clear hn0
          gi_wp2_with fail
          refine Met.intro ?_
          first | gi_step | go_step
          refine meet_frame ?rel rfl
          case rel => exact ⟨rfl, _, _, H2⟩
    obtain ⟨rfl, i, g, H3⟩ := hcut
    clear H2 HK
    gi_upto_region 18 with fail
    refine wpIn_cut (fun a' w' => ∃ (fr : Nat → Value) (dfs : List Deferred), (dfs = Ds.map (fun D => { target := .collected D, args := #[] }) ∧ w' = wc) ∧ a' = { tmps := #[.int .i64 n, .int .i64 last, .slice (some ⟨sb, off, none⟩) la ca, fr 3, fr 4, fr 5, fr 6, .pointer (some ⟨b, 0, none⟩), fr 8, .pointer (some ⟨B, 0, none⟩), fr 10, .slice va hs.length vc, .func (.func 80) #[] #[.pointer (some ⟨hb, 0, none⟩)], .int .i64 j, .pointer (some ⟨xb, 0, none⟩), .pointer (some ⟨xb + 1, 0, none⟩), .bool true, fr 17, fr 18, fr 19, fr 20, fr 21, fr 22, fr 23, fr 24, fr 25, fr 26, fr 27, fr 28, fr 29, fr 30, fr 31, fr 32, fr 33, fr 34, fr 35, fr 36, fr 37, fr 38, fr 39, fr 40, fr 41, fr 42, fr 43, fr 44, fr 45, fr 46, fr 47, fr 48, fr 49, fr 50, fr 51, fr 52, fr 53, fr 54, fr 55, fr 56, fr 57, fr 58, fr 59, fr 60, fr 61, fr 62, fr 63, fr 64, fr 65, fr 66, fr 67, fr 68, fr 69, fr 70, fr 71, fr 72, fr 73, fr 74, fr 75, fr 76, fr 77, fr 78, fr 79, fr 80, fr 81, fr 82, fr 83, fr 84, fr 85, fr 86, fr 87, fr 88, fr 89, fr 90, fr 91, fr 92, fr 93, fr 94, fr 95, fr 96, fr 97, fr 98, fr 99, fr 100, fr 101, fr 102, fr 103, fr 104, fr 105, fr 106, fr 107, fr 108, fr 109, fr 110, fr 111, fr 112, fr 113, fr 114, fr 115, fr 116, fr 117, fr 118, fr 119, fr 120, fr 121, fr 122, fr 123, fr 124, fr 125, fr 126, fr 127, fr 128, fr 129, fr 130, fr 131, fr 132, fr 133, fr 134, fr 135, fr 136, fr 137, fr 138, fr 139, fr 140, fr 141, fr 142, fr 143, fr 144, fr 145, fr 146, fr 147, fr 148, fr 149, fr 150, fr 151, fr 152, fr 153, fr 154, fr 155, fr 156, fr 157, fr 158, fr 159, fr 160, fr 161, fr 162, fr 163, fr 164, fr 165, fr 166, fr 167, fr 168, fr 169, fr 170, fr 171, fr 172, fr 173, fr 174, fr 175, fr 176, fr 177, fr 178, fr 179, fr 180, fr 181, fr 182, fr 183, fr 184, fr 185, fr 186, fr 187, fr 188, fr 189, fr 190, fr 191, fr 192, fr 193, fr 194, fr 195, fr 196, fr 197, fr 198, fr 199, fr 200, fr 201, fr 202, fr 203, fr 204, fr 205, fr 206, fr 207, fr 208, fr 209, fr 210, fr 211, fr 212, fr 213, fr 214, fr 215, fr 216, fr 217, fr 218, fr 219, fr 220, fr 221, fr 222, fr 223, fr 224, fr 225, fr 226, fr 227, fr 228], defers := dfs }) ?restfr ?firstfr
    case' restfr =>
      intro _ wc hinv
      obtain ⟨fr, dfs, hcut, ha⟩ := hinv
      subst ha
      try dsimp only
    case' firstfr => intro _ _ _ _
    case firstfr =>
      gi_wp2_with fail
      refine Met.intro ?_
      first | gi_step | go_step
      refine meet_frame ?rel rfl
      case rel => exact ⟨rfl, rfl⟩
    obtain ⟨rfl, rfl⟩ := hcut
    gi_step
    gi_step
    refine wpIn_cut (fun a' w' => ∃ (fs : Nat → Value) (dfs : List Deferred), (fs 16 = .bool true ∧ ∃ (hb : Nat) (L : List (Slot Int)) (hs : List (Int × Int)) (S Ds : List Nat), dfs = Ds.map (fun D => { target := .collected D, args := #[] }) ∧ fs 12 = .func (.func 80) #[] #[.pointer (some ⟨hb, 0, none⟩)] ∧
        hs.length ≤ j + 1 ∧ Hid (Sep w [] w' (PCs b d last B e L (fs 11) hs S hb Ds))) ∧ a' = { tmps := #[.int .i64 n, .int .i64 last, .slice (some ⟨sb, off, none⟩) la ca, fs 3, fs 4, fs 5, fs 6, .pointer (some ⟨b, 0, none⟩), fs 8, .pointer (some ⟨B, 0, none⟩), fs 10, fs 11, fs 12, .int .i64 j, .pointer (some ⟨xb, 0, none⟩), .pointer (some ⟨xb + 1, 0, none⟩), fs 16, fs 17, fs 18, fs 19, fs 20, fs 21, fs 22, fs 23, fs 24, fs 25, fs 26, fs 27, fs 28, fs 29, fs 30, fs 31, fs 32, fs 33, fs 34, fs 35, fs 36, fs 37, fs 38, fs 39, fs 40, fs 41, fs 42, fs 43, fs 44, fs 45, fs 46, fs 47, fs 48, fs 49, fs 50, fs 51, fs 52, fs 53, fs 54, fs 55, fs 56, fs 57, fs 58, fs 59, fs 60, fs 61, fs 62, fs 63, fs 64, fs 65, fs 66, fs 67, fs 68, fs 69, fs 70, fs 71, fs 72, fs 73, fs 74, fs 75, fs 76, fs 77, fs 78, fs 79, fs 80, fs 81, fs 82, fs 83, fs 84, fs 85, fs 86, fs 87, fs 88, fs 89, fs 90, fs 91, fs 92, fs 93, fs 94, fs 95, fs 96, fs 97, fs 98, fs 99, fs 100, fs 101, fs 102, fs 103, fs 104, fs 105, fs 106, fs 107, fs 108, fs 109, fs 110, fs 111, fs 112, fs 113, fs 114, fs 115, fs 116, fs 117, fs 118, fs 119, fs 120, fs 121, fs 122, fs 123, fs 124, fs 125, fs 126, fs 127, fs 128, fs 129, fs 130, fs 131, fs 132, fs 133, fs 134, fs 135, fs 136, fs 137, fs 138, fs 139, fs 140, fs 141, fs 142, fs 143, fs 144, fs 145, fs 146, fs 147, fs 148, fs 149, fs 150, fs 151, fs 152, fs 153, fs 154, fs 155, fs 156, fs 157, fs 158, fs 159, fs 160, fs 161, fs 162, fs 163, fs 164, fs 165, fs 166, fs 167, fs 168, fs 169, fs 170, fs 171, fs 172, fs 173, fs 174, fs 175, fs 176, fs 177, fs 178, fs 179, fs 180, fs 181, fs 182, fs 183, fs 184, fs 185, fs 186, fs 187, fs 188, fs 189, fs 190, fs 191, fs 192, fs 193, fs 194, fs 195, fs 196, fs 197, fs 198, fs 199, fs 200, fs 201, fs 202, fs 203, fs 204, fs 205, fs 206, fs 207, fs 208, fs 209, fs 210, fs 211, fs 212, fs 213, fs 214, fs 215, fs 216, fs 217, fs 218, fs 219, fs 220, fs 221, fs 222, fs 223, fs 224, fs 225, fs 226, fs 227, fs 228], defers := dfs }) ?restfs ?firstfs
    case' restfs =>
      intro _ wc hinv
      obtain ⟨fs, dfs, hcut, ha⟩ := hinv
      subst ha
      try dsimp only
    case' firstfs => intro _ _ _ _
    case firstfs =>
      have a0 := H3.out.cellOf 5 rfl 0 rfl
      have hkind : k = 0 ∨ k = 1 ∨ k = 2 ∨ k = 3 ∨ k = 5 ∨ k = 6 ∨ k = 7 ∨ k = 8 ∨ ((k == 0) = false ∧ (k == 1) = false ∧ (k == 2) = false ∧ (k == 3) = false ∧ (k == 5) = false ∧ (k == 6) = false ∧ (k == 7) = false ∧ (k == 8) = false) := by
        simp only [beq_eq_false_iff_ne]; omega
      rcases hkind with rfl | rfl | rfl | rfl | rfl | rfl | rfl | rfl | ⟨e0, e1, e2, e3, e5, e6, e7, e8⟩
      · skip
        have l5 := (H3.out.blk 5 rfl).lt
        have l6 := (H3.out.blk 6 rfl).lt
        have a4 := H3.out.cellOf 5 rfl 4 rfl
        gi_wp2_with fail
        refine (wideIn _ (sput (H3.out.get (i := 0) rfl) V)).mono ?_
        obtain ⟨c0, hc0⟩ : ∃ c0, (putR last L).1 = c0 := ⟨_, rfl⟩
        obtain ⟨c1, hc1⟩ : ∃ c1, (putR last L).2.1 = c1 := ⟨_, rfl⟩
        obtain ⟨c2, hc2⟩ : ∃ c2, (putR last L).2.2 = c2 := ⟨_, rfl⟩
        rw [hc0, hc1, hc2]
        rintro r Z1 ⟨rfl, s1, f1⟩
        have K1 := Lib.hid (csl_step H3.out 0 rfl s1 f1)
        clear f1 s1 a0 a4
        have l5 := (K1.out.blk 5 rfl).lt
        have l6 := (K1.out.blk 6 rfl).lt
        have a4 := K1.out.cellOf 5 rfl 4 rfl
        have K1a := Lib.hid (K1.out.alloc 32 [.int .i64 c0, .int .i64 c1])
        gi_wp2_with fail
        refine (wideIn _ (rput' (K1a.out.get (i := 1) rfl) V)).mono ?_
        rw [hc0, hc1, hc2]
        rintro r Z2 ⟨rfl, s2, f2⟩
        obtain ⟨cb, hcb⟩ : ∃ cb, Z1.heap.size = cb := ⟨_, rfl⟩
        have K2 := Lib.hid (crf_step K1a.out 1 rfl s2 f2)
        rw [hcb] at K2 ⊢
        clear f2 s2 a4 K1 K1a hcb hc0 hc1 hc2
        have x0 := K2.out.cellOf 7 rfl 0 rfl
        have x1 := K2.out.cellOf 7 rfl 1 rfl
        have xl := (K2.out.blk 7 rfl).lt
        have K2a := Lib.hid (K2.out.alloc 32 [.int .i64 c0, .int .i64 c1])
        by_cases hz : c2 = 0
        · subst hz
          obtain ⟨i0, hi, hz0, hz1, hz2⟩ := info_parts infoH
          have hll : hs.length ≤ 300 := by omega
          have KA := Lib.hid (K2a.out.alloc 32 [.int .i64 c0, .int .i64 c1])
          rw [World.size_alloc] at KA
          gi_wp2_with (gi_at_builtin; refine wpListIn_append_S _ rfl (.tmp 125) (.tmp 127) 28 rfl 32 i0 (.agg #[.int .i64 0, .int .i64 0]) 2 16 Try.underlying28 hi hz0 hz1 hz2 rfl _ _ _ _ rfl (KA.out.own 2 rfl) ⟨_, 0, none⟩ 1 1 [.int .i64 c0, .int .i64 c1] rfl rfl (KA.out.blk 9 rfl).news ?l2 ?l3 ?l4 ?_)
          case l2 => intro u hu; simp at hu; rcases hu with rfl | rfl <;> rfl
          case l3 => unfold maxLen; omega
          case l4 => omega
          intro v8 W5 S8 o8 g8 f8
          have K5 := Lib.hid (KA.out.call1' 2 rfl (Sep.of_one (c := Chunk.own 32 2 v8 (hs.length + 1) (hs.flatMap encH ++ [Value.int .i64 c0, Value.int .i64 c1]) S8) f8 o8 g8))
          have K6 : Sep w [] W5 (PCs b d last B e (putL last L V) v8 (hs ++ [(c0, c1)]) S8 hb Ds) := by
            have := K5.out.take 5
            simpa [PCs, encH] using this
          have K6 := Lib.hid K6
          clear o8 g8 f8 K5 KA K2a K2
          gi_wp2_with fail
          refine Met.intro ?_
          first | gi_step | go_step
          refine meet_frame ?rel rfl
          case rel => exact ⟨rfl, _, _, _, _, _, rfl, rfl, by rw [List.length_append, List.length_singleton]; omega, K6⟩
        · have hz' : (c2 == 0) = false := by rw [beq_eq_false_iff_ne]; exact hz
          have hz2 : ¬ (0 : Int) = c2 := fun h => hz h.symm
          gi_wp2_with fail
          refine Met.intro ?_
          first | gi_step | go_step
          refine meet_frame ?rel rfl
          case rel => exact ⟨rfl, _, _, _, _, _, rfl, rfl, by omega, Lib.hid (K2a.out.take 5)⟩
      · skip
        have l6 := (H3.out.blk 6 rfl).lt
        have a1 := H3.out.cellOf 6 rfl 0 rfl
        have a2 := H3.out.cellOf 6 rfl 1 rfl
        gi_wp2_with fail
        refine (wideIn _ (sget (H3.out.get (i := 0) rfl) i g)).mono ?_
        rintro r Z1 ⟨rfl, f1⟩
        have K1 := Lib.hid (H3.out.same f1)
        clear f1 a0 a1 a2
        have a0 := K1.out.cellOf 5 rfl 0 rfl
        have a1 := K1.out.cellOf 6 rfl 0 rfl
        have a2 := K1.out.cellOf 6 rfl 1 rfl
        obtain ⟨r0, r1⟩ : Z1.cell? ⟨B, 0, none⟩ = some (.slice (some ⟨e, 0, none⟩) L.length L.length) ∧ Z1.cell? ⟨B, 1, none⟩ = some (.int .i64 last) := ⟨(RefP.hb (K1.out.get (i := 1) rfl)).cell 0, (RefP.hb (K1.out.get (i := 1) rfl)).cell 1⟩
        gi_wp2_with fail
        refine (wideIn _ (rget (RefP.at (K1.out.get (i := 1) rfl)) last i g)).mono ?_
        rintro r Z2 ⟨rfl, f2⟩
        have K2 := Lib.hid (K1.out.same f2)
        clear f2 a0 a1 a2 r0 r1
        gi_wp2_with fail
        refine Met.intro ?_
        first | gi_step | go_step
        refine meet_frame ?rel rfl
        case rel => exact ⟨rfl, _, _, _, _, _, rfl, rfl, by omega, Lib.hid (K2.out.take 5)⟩
      · skip
        have a1 := H3.out.cellOf 6 rfl 0 rfl
        have a2 := H3.out.cellOf 6 rfl 1 rfl
        have a4 := H3.out.cellOf 5 rfl 4 rfl
        have hM : Hid (∀ X cs, Sep w [] X cs → cs[5]? = some (Chunk.blk xb 90 [.int .i64 2, .int .i64 p, .int .i64 x2, .int .i64 x3, .int .i64 V]) → cs[6]? = some (Chunk.blk (xb + 1) 32 [.int .i64 i, .int .i64 g]) →
            X.cell? ⟨xb, 4, none⟩ = some (.int .i64 V) ∧ X.cell? ⟨xb + 1, 0, none⟩ = some (.int .i64 i) ∧ X.cell? ⟨xb + 1, 1, none⟩ = some (.int .i64 g)) := fun X cs K h5 h6 => ⟨K.cellOf 5 h5 4 rfl, K.cellOf 6 h6 0 rfl, K.cellOf 6 h6 1 rfl⟩
        gi_wp2_with fail
        refine wpIn_wide.2 ?_
        have hS0 := hM.out _ _ H3.out.drew rfl rfl
        refine wp_T [] (fun w' => w'.cell? ⟨xb, 4, none⟩ = some (.int .i64 V) ∧ w'.cell? ⟨xb + 1, 0, none⟩ = some (.int .i64 i) ∧ w'.cell? ⟨xb + 1, 1, none⟩ = some (.int .i64 g)) (by kernel_rfl) (fun hC => ?_) hS0
        refine wpAnyT_takeC' 0 (by kernel_rfl) (fun _ _ _ h => h) (by assumption) (by rfl) (fun w hSw => by simp only [List.getD_cons_succ, List.getD_cons_zero]; (try dsimp only at hSw); go_simp; try with_reducible rfl) ?_
        try simp only [List.getD_cons_succ, List.getD_cons_zero, Act.put, List.setIfInBounds_toArray, List.set_cons_zero, List.set_cons_succ]
        refine wpAnyT_takeC' 1 (by kernel_rfl) (fun _ _ _ h => h) (by assumption) (by rfl) (fun w hSw => by simp only [List.getD_cons_succ, List.getD_cons_zero]; (try dsimp only at hSw); go_simp; try with_reducible rfl) ?_
        try simp only [List.getD_cons_succ, List.getD_cons_zero, Act.put, List.setIfInBounds_toArray, List.set_cons_zero, List.set_cons_succ]
        refine wpAnyT_takeC' 2 (by kernel_rfl) (fun _ _ _ h => h) (by assumption) (by rfl) (fun w hSw => by simp only [List.getD_cons_succ, List.getD_cons_zero]; (try dsimp only at hSw); go_simp; try with_reducible rfl) ?_
        try simp only [List.getD_cons_succ, List.getD_cons_zero, Act.put, List.setIfInBounds_toArray, List.set_cons_zero, List.set_cons_succ]
        refine wpAnyT_takeC' 3 (by kernel_rfl) (fun _ _ _ h => h) (by assumption) (by rfl) (fun w hSw => by simp only [List.getD_cons_succ, List.getD_cons_zero]; (try dsimp only at hSw); go_simp; try with_reducible rfl) ?_
        try simp only [List.getD_cons_succ, List.getD_cons_zero, Act.put, List.setIfInBounds_toArray, List.set_cons_zero, List.set_cons_succ]
        refine wpAnyT_takeC' 5 (by kernel_rfl) (fun _ _ _ h => h) (by assumption) (by rfl) (fun w hSw => by simp only [List.getD_cons_succ, List.getD_cons_zero]; (try dsimp only at hSw); go_simp; try with_reducible rfl) ?_
        try simp only [List.getD_cons_succ, List.getD_cons_zero, Act.put, List.setIfInBounds_toArray, List.set_cons_zero, List.set_cons_succ]
        refine wpAnyT_takeC' 6 (by kernel_rfl) (fun _ _ _ h => h) (by assumption) (by rfl) (fun w hSw => by simp only [List.getD_cons_succ, List.getD_cons_zero]; (try dsimp only at hSw); go_simp; try with_reducible rfl) ?_
        try simp only [List.getD_cons_succ, List.getD_cons_zero, Act.put, List.setIfInBounds_toArray, List.set_cons_zero, List.set_cons_succ]
        refine wpAnyT_takeC' 7 (by kernel_rfl) (fun _ _ _ h => h) (by assumption) (by rfl) (fun w hSw => by simp only [List.getD_cons_succ, List.getD_cons_zero]; (try dsimp only at hSw); go_simp; try with_reducible rfl) ?_
        try simp only [List.getD_cons_succ, List.getD_cons_zero, Act.put, List.setIfInBounds_toArray, List.set_cons_zero, List.set_cons_succ]
        refine wpAnyT_one' 4 (by kernel_rfl) (by rfl) (fun K hK => ?_)
        simp only [List.getD_cons_succ, List.getD_cons_zero]
        go_simp
        refine (sset (H3.out.drew.get (i := 0) rfl) i g V).mono ?_
        rintro r Z1 ⟨rfl, s1, f1⟩
        have K1 := Lib.hid (csl_step H3.out.drew 0 rfl s1 f1)
        clear f1 s1 a0 a1 a2 a4 hC hS0
        go_wp2_with fail
        have hC := hM.out _ _ K1.out rfl rfl
        refine hK.out _ _ hC ?_
        clear hK
        try simp only [Act.put, List.setIfInBounds_toArray, List.set_cons_zero, List.set_cons_succ]
        refine wpAnyT_one' 8 (by kernel_rfl) (by rfl) (fun K hK => ?_)
        simp only [List.getD_cons_succ, List.getD_cons_zero]
        go_simp
        refine (rset (K1.out.get (i := 1) rfl) i g V).mono ?_
        rintro r Z2 ⟨rfl, s2, f2⟩
        have K2 := Lib.hid (crf_step K1.out 1 rfl s2 f2)
        clear f2 s2 hC
        go_wp2_with fail
        have hC := hM.out _ _ K2.out rfl rfl
        refine hK.out _ _ hC ?_
        clear hK
        try simp only [Act.put, List.setIfInBounds_toArray, List.set_cons_zero, List.set_cons_succ]
        refine wpAnyT_takeC' 9 (by kernel_rfl) (fun _ _ _ h => h) (by assumption) (by rfl) (fun w hSw => by simp only [List.getD_cons_succ, List.getD_cons_zero]; (try dsimp only at hSw); go_simp; try with_reducible rfl) ?_
        try simp only [List.getD_cons_succ, List.getD_cons_zero, Act.put, List.setIfInBounds_toArray, List.set_cons_zero, List.set_cons_succ]
        refine wpAnyT_takeC' 10 (by kernel_rfl) (fun _ _ _ h => h) (by assumption) (by rfl) (fun w hSw => by simp only [List.getD_cons_succ, List.getD_cons_zero]; (try dsimp only at hSw); go_simp; try with_reducible rfl) ?_
        try simp only [List.getD_cons_succ, List.getD_cons_zero, Act.put, List.setIfInBounds_toArray, List.set_cons_zero, List.set_cons_succ]
        refine wpAnyT_done (by kernel_rfl) ?_ _
        rw [onlyN_normal]
        gi_wp2_with fail
        refine Met.intro ?_
        first | gi_step | go_step
        refine meet_frame ?rel rfl
        case rel => exact ⟨rfl, _, _, _, _, _, rfl, rfl, by omega, Lib.hid (K2.out.take 5)⟩
      · skip
        have l6 := (H3.out.blk 6 rfl).lt
        have a1 := H3.out.cellOf 6 rfl 0 rfl
        have a2 := H3.out.cellOf 6 rfl 1 rfl
        gi_wp2_with fail
        refine (wideIn _ (sdrop (H3.out.get (i := 0) rfl) i g)).mono ?_
        rintro r Z1 ⟨rfl, s1, f1⟩
        have K1 := Lib.hid (csl_step H3.out 0 rfl s1 f1)
        clear f1 s1 a0 a1 a2
        have a1 := K1.out.cellOf 6 rfl 0 rfl
        have a2 := K1.out.cellOf 6 rfl 1 rfl
        gi_wp2_with fail
        refine (wideIn _ (rdrop (K1.out.get (i := 1) rfl) i g)).mono ?_
        rintro r Z2 ⟨rfl, s2, f2⟩
        have K2 := Lib.hid (crf_step K1.out 1 rfl s2 f2)
        clear f2 s2 a1 a2
        gi_wp2_with fail
        refine Met.intro ?_
        first | gi_step | go_step
        refine meet_frame ?rel rfl
        case rel => exact ⟨rfl, _, _, _, _, _, rfl, rfl, by omega, Lib.hid (K2.out.take 5)⟩
      · skip
        have a1 := H3.out.cellOf 6 rfl 0 rfl
        have a2 := H3.out.cellOf 6 rfl 1 rfl
        have b1 := H3.out.cellOf 5 rfl 1 rfl
        have b2 := H3.out.cellOf 5 rfl 2 rfl
        have b3 := H3.out.cellOf 5 rfl 3 rfl
        have b4 := H3.out.cellOf 5 rfl 4 rfl
        gi_wp2_with fail
        refine (wideIn _ (inner_ok (two_of H3.out rfl rfl) 5 p x2 x3 V i g)).mono ?_
        rintro r Z1 ⟨rfl, L1, t1, f1⟩
        have K1 := Lib.hid (two_step H3.out rfl rfl t1 f1)
        clear f1 t1 a0 a1 a2 b1 b2 b3 b4
        gi_wp2_with fail
        refine Met.intro ?_
        first | gi_step | go_step
        refine meet_frame ?rel rfl
        case rel => exact ⟨rfl, _, _, _, _, _, rfl, rfl, by omega, Lib.hid (K1.out.take 5)⟩
      · skip
        obtain ⟨r0, r1⟩ : wc.cell? ⟨B, 0, none⟩ = some (.slice (some ⟨e, 0, none⟩) L.length L.length) ∧ wc.cell? ⟨B, 1, none⟩ = some (.int .i64 last) := ⟨(RefP.hb (H3.out.get (i := 1) rfl)).cell 0, (RefP.hb (H3.out.get (i := 1) rfl)).cell 1⟩
        gi_wp2_with fail
        refine (wideIn _ (rall (RefP.at (H3.out.get (i := 1) rfl)) last)).mono ?_
        rintro r Z1 ⟨v1, S1, rfl, o1, g1, f1⟩
        have K1 := Lib.hid (H3.out.same f1)
        have O1 := Lib.hid o1
        clear f1 g1 o1 a0 r0 r1
        gi_wp2_with fail
        refine (wideIn _ (nested_ok (K1.out.get (i := 0) rfl) rfl O1.out)).mono ?_
        rintro r Z2 ⟨rfl, f2⟩
        have K2 := Lib.hid (K1.out.same f2)
        clear f2
        gi_wp2_with fail
        refine Met.intro ?_
        first | gi_step | go_step
        refine meet_frame ?rel rfl
        case rel => exact ⟨rfl, _, _, _, _, _, rfl, rfl, by omega, Lib.hid (K2.out.take 5)⟩
      · skip
        gi_wp2_with (gi_at_call 50; refine (wideIn _ (sall wc b)).mono ?_; rintro er w' ⟨rfl, rfl⟩)
        have K1 := Lib.hid (H3.out.alloc 23 [.pointer (some ⟨b, 0, none⟩)])
        refine Met.intro ?_
        first | gi_step | go_step
        refine meet_frame ?rel rfl
        case rel => exact ⟨rfl, _, _, _, _, _, rfl, rfl, by omega, Lib.hid (K1.out.pick [0, 1, 2, 7, 4] (by decide))⟩
      · skip
        obtain ⟨i0, hi, hz0, hz1, hz2⟩ := info_parts pairInfo
        gi_upto_region 44 with fail
        refine wpIn_cut (fun a' w' => ∃ (fw : Nat → Value) (dfs : List Deferred), (dfs = Ds.map (fun D => { target := .collected D, args := #[] }) ∧ w' = wc.alloc (.cells #[.slice none 0 0] 101)) ∧ a' = { tmps := #[.int .i64 n, .int .i64 last, .slice (some ⟨sb, off, none⟩) la ca, fw 3, fw 4, fw 5, fw 6, .pointer (some ⟨b, 0, none⟩), fw 8, .pointer (some ⟨B, 0, none⟩), fw 10, .slice va hs.length vc, .func (.func 80) #[] #[.pointer (some ⟨hb, 0, none⟩)], .int .i64 j, .pointer (some ⟨xb, 0, none⟩), .pointer (some ⟨xb + 1, 0, none⟩), fw 16, fw 17, fw 18, fw 19, fw 20, fw 21, fw 22, fw 23, fw 24, fw 25, fw 26, fw 27, fw 28, .pointer (some ⟨wc.heap.size, 0, none⟩), fw 30, fw 31, fw 32, fw 33, fw 34, fw 35, fw 36, fw 37, fw 38, fw 39, fw 40, fw 41, fw 42, fw 43, fw 44, fw 45, fw 46, fw 47, fw 48, fw 49, fw 50, fw 51, fw 52, fw 53, fw 54, fw 55, fw 56, fw 57, fw 58, fw 59, fw 60, fw 61, fw 62, fw 63, fw 64, fw 65, fw 66, fw 67, fw 68, fw 69, fw 70, fw 71, fw 72, fw 73, fw 74, fw 75, fw 76, fw 77, fw 78, fw 79, fw 80, fw 81, fw 82, fw 83, fw 84, fw 85, fw 86, fw 87, fw 88, fw 89, fw 90, fw 91, fw 92, fw 93, fw 94, fw 95, fw 96, fw 97, fw 98, fw 99, fw 100, fw 101, fw 102, fw 103, fw 104, fw 105, fw 106, fw 107, fw 108, fw 109, fw 110, fw 111, fw 112, fw 113, fw 114, fw 115, fw 116, fw 117, fw 118, fw 119, fw 120, fw 121, fw 122, fw 123, fw 124, fw 125, fw 126, fw 127, fw 128, fw 129, fw 130, fw 131, fw 132, fw 133, fw 134, fw 135, fw 136, fw 137, fw 138, fw 139, fw 140, fw 141, fw 142, fw 143, fw 144, fw 145, fw 146, fw 147, fw 148, fw 149, fw 150, fw 151, fw 152, fw 153, fw 154, fw 155, fw 156, fw 157, fw 158, fw 159, fw 160, fw 161, fw 162, fw 163, fw 164, fw 165, fw 166, fw 167, fw 168, fw 169, fw 170, fw 171, fw 172, fw 173, fw 174, fw 175, fw 176, fw 177, fw 178, fw 179, fw 180, fw 181, fw 182, fw 183, fw 184, fw 185, fw 186, fw 187, fw 188, fw 189, fw 190, fw 191, fw 192, fw 193, fw 194, fw 195, fw 196, fw 197, fw 198, fw 199, fw 200, fw 201, fw 202, fw 203, fw 204, fw 205, fw 206, fw 207, fw 208, fw 209, fw 210, fw 211, fw 212, fw 213, fw 214, fw 215, fw 216, fw 217, fw 218, fw 219, fw 220, fw 221, fw 222, fw 223, fw 224, fw 225, fw 226, fw 227, fw 228], defers := dfs }) ?restfw ?firstfw
        case' restfw =>
          intro _ wc hinv
          obtain ⟨fw, dfs, hcut, ha⟩ := hinv
          subst ha
          try dsimp only
        case' firstfw => intro _ _ _ _
        case firstfw =>
          gi_wp2_with fail
          refine Met.intro ?_
          first | gi_step | go_step
          refine meet_frame ?rel rfl
          case rel => exact ⟨rfl, rfl⟩
        obtain ⟨rfl, rfl⟩ := hcut
        have K5 := Lib.hid (H3.out.alloc 101 [.slice none 0 0])
        obtain ⟨kb, hkb⟩ : ∃ kb, wc.heap.size = kb := ⟨_, rfl⟩
        obtain ⟨W5, hW5⟩ : ∃ W5, wc.alloc (.cells #[.slice none 0 0] 101) = W5 := ⟨_, rfl⟩
        have K5' : Sep w [] W5 (PCs b d last B e L (.slice va hs.length vc) hs S hb Ds ++ [Chunk.blk xb 90 [.int .i64 8, .int .i64 p, .int .i64 x2, .int .i64 x3, .int .i64 V], Chunk.blk (xb + 1) 32 [.int .i64 i, .int .i64 g], Chunk.blk kb 101 [.slice none 0 0]]) := by
          rw [← hW5, ← hkb]; exact K5.out
        rw [hW5, hkb]
        have K5 := Lib.hid K5'
        have hroom : (heldTo L L.length).length ≤ 65536 := by have := heldTo_len L L.length; have := SlotsAt.room (H3.out.get (i := 0) rfl); omega
        clear hW5 K5' H3 a0
        gi_wp2_with fail
        have hseq := sseq (K5.out.get (i := 0) rfl) (K5.out.cellOf 3 rfl 0 rfl)
        obtain ⟨asg, hasg⟩ : ∃ asg : P3 → Nat → Act, Hid (asg = fun y bb => { tmps := #[.int .i64 n, .int .i64 last, .slice (some ⟨sb, off, none⟩) la ca, fw 3, fw 4, fw 5, fw 6, .pointer (some ⟨b, 0, none⟩), fw 8, .pointer (some ⟨B, 0, none⟩), fw 10, .slice va hs.length vc, .func (.func 80) #[] #[.pointer (some ⟨hb, 0, none⟩)], .int .i64 j, .pointer (some ⟨xb, 0, none⟩), .pointer (some ⟨xb + 1, 0, none⟩), fw 16, fw 17, fw 18, fw 19, fw 20, fw 21, fw 22, fw 23, fw 24, fw 25, fw 26, fw 27, fw 28, .pointer (some ⟨kb, 0, none⟩), .pointer (some ⟨bb, 0, none⟩), .int .i64 y.f2, fw 32, fw 33, fw 34, fw 35, fw 36, fw 37, fw 38, fw 39, fw 40, fw 41, fw 42, fw 43, fw 44, fw 45, fw 46, fw 47, fw 48, fw 49, fw 50, fw 51, fw 52, fw 53, fw 54, fw 55, fw 56, fw 57, fw 58, fw 59, fw 60, fw 61, fw 62, fw 63, fw 64, fw 65, fw 66, fw 67, fw 68, fw 69, fw 70, fw 71, fw 72, fw 73, fw 74, fw 75, fw 76, fw 77, fw 78, fw 79, fw 80, fw 81, fw 82, fw 83, fw 84, fw 85, fw 86, fw 87, fw 88, fw 89, fw 90, fw 91, fw 92, fw 93, fw 94, fw 95, fw 96, fw 97, fw 98, fw 99, fw 100, fw 101, fw 102, fw 103, fw 104, fw 105, fw 106, fw 107, fw 108, fw 109, fw 110, fw 111, fw 112, fw 113, fw 114, fw 115, fw 116, fw 117, fw 118, fw 119, fw 120, fw 121, fw 122, fw 123, fw 124, fw 125, fw 126, fw 127, fw 128, fw 129, fw 130, fw 131, fw 132, fw 133, fw 134, fw 135, fw 136, fw 137, fw 138, fw 139, fw 140, fw 141, fw 142, fw 143, fw 144, fw 145, fw 146, fw 147, fw 148, fw 149, fw 150, fw 151, fw 152, fw 153, fw 154, fw 155, fw 156, fw 157, fw 158, fw 159, fw 160, fw 161, fw 162, fw 163, fw 164, fw 165, fw 166, fw 167, fw 168, fw 169, fw 170, fw 171, fw 172, fw 173, fw 174, fw 175, fw 176, fw 177, fw 178, fw 179, fw 180, fw 181, fw 182, fw 183, fw 184, fw 185, fw 186, fw 187, fw 188, fw 189, fw 190, fw 191, fw 192, fw 193, fw 194, fw 195, fw 196, fw 197, fw 198, fw 199, fw 200, fw 201, .func (.func 80) #[] #[.pointer (some ⟨hb, 0, none⟩)], .agg #[.int .i64 y.f0, .int .i64 y.f1], .int .i64 y.f2, fw 205, fw 206, fw 207, fw 208, fw 209, fw 210, fw 211, fw 212, fw 213, fw 214, fw 215, fw 216, fw 217, fw 218, fw 219, fw 220, fw 221, fw 222, fw 223, fw 224, fw 225, fw 226, fw 227, fw 228], defers := [] }) := ⟨_, Lib.hid rfl⟩
        obtain ⟨JC, hJC⟩ : ∃ JC : Value → List P3 → List Nat → List Chunk, Hid (JC = fun v pre S => [Chunk.blk kb 101 [v], Chunk.own 104 3 v pre.length (pre.flatMap encP3) S]) := ⟨_, Lib.hid rfl⟩
        obtain ⟨J, hJ⟩ : ∃ J : List Nat → List P3 → World → Prop, Hid (J = fun S1 pre X => ∃ cs, S1 = Chunks.bs cs ∧ Holds X cs ∧ ∃ v S, cs = JC v pre S) := ⟨_, Lib.hid rfl⟩
        obtain ⟨AX, hAX⟩ : ∃ AX : P3 → Act → List Nat → List P3 → World → Prop, Hid (AX = fun y a' S1 pre X => ∃ cs, S1 = Chunks.bs cs ∧ Holds X cs ∧ ∃ bb v S, cs = Chunk.blk bb 32 [.int .i64 y.f0, .int .i64 y.f1] :: JC v pre S ∧ a' = asg y bb) := ⟨_, Lib.hid rfl⟩
        have locJ : Loc W5.heap.size J := by rw [hJ.out]; exact loc_holds (fun (pre : List P3) cs => ∃ v S, cs = JC v pre S)
        have hkl : kb < W5.heap.size := (K5.out.blk 7 rfl).lt
        refine wp_rangeF (gf := 80) (lb := #[.pointer (some ⟨hb, 0, none⟩)]) rfl (enters_of Try.func80 (by kernel_rfl) rfl) hseq (fun _ => rfl)
          J (fun _ _ _ _ => False) [kb] (by simp; exact hkl) locJ (fun _ _ _ _ _ _ h _ _ => h)
          (by rw [hJ.out, hJC.out]; exact ⟨_, rfl, (Holds.one (K5.out.blk 7 rfl)).app (ds := [_]) (Holds.one (OwnS.nil W5 104 3)) (fun _ _ h => by simp [Chunks.bs, Chunk.own] at h), _, [], rfl⟩)
          AX
          (fun y a' => by rw [hAX.out]; exact loc_holds (fun (pre : List P3) cs => ∃ bb v S, cs = Chunk.blk bb 32 [.int .i64 y.f0, .int .i64 y.f1] :: JC v pre S ∧ a' = asg y bb))
          ?assignW ?bodyW ?doneW ?stopW
        case stopW => intro _ _ _ _ _ _ _ _ _ _ _ _ h _; exact h.elim
        case assignW =>
          rintro l2 pre y post S1 X hx hz hg hf hl hnl hr hj
          simp only [entH]
          rw [hJ.out] at hj
          obtain ⟨cs, rfl, hh, v, S9, rfl⟩ := hj
          have hfin : ∃ S', Gr X (Chunks.bs (JC v pre S9)) S' ∧ Fr (Chunks.bs (JC v pre S9)) X (X.alloc (.cells #[.int .i64 y.f0, .int .i64 y.f1] 32)) ∧ AX y (asg y X.heap.size) S' pre (X.alloc (.cells #[.int .i64 y.f0, .int .i64 y.f1] 32)) := by
            rw [hAX.out]
            have h1 := ((Sep.start hh).alloc 32 [.int .i64 y.f0, .int .i64 y.f1]).perm List.perm_append_comm
            exact ⟨_, h1.gr, h1.fr, _, rfl, h1.hs, _, _, _, rfl, rfl⟩
          rw [hasg.out] at hfin
          have HF := Lib.hid hfin
          clear hfin hr hf hg hh
          gi_wp2
          exact HF.out
        case bodyW =>
          rintro l2 pre y post a' S1 X hx hz hg hf hl hnl hr hax
          rw [hAX.out] at hax
          obtain ⟨cs, rfl, hh, bb, v, S9, rfl, rfl⟩ := hax
          have hpl : pre.length < (heldTo L L.length).length := by
            have := congrArg List.length hx
            simp at this
            omega
          rw [hJC.out] at hh
          have hs0 := Lib.hid (Sep.start hh)
          have c0 := hs0.out.cellOf 0 rfl 0 rfl
          have c1 := hs0.out.cellOf 0 rfl 1 rfl
          have d0 := hs0.out.cellOf 1 rfl 0 rfl
          have lb := (hs0.out.blk 0 rfl).lt
          have hA := Lib.hid (hs0.out.alloc 104 [.int .i64 y.f0, .int .i64 y.f1, .int .i64 y.f2])
          rw [hasg.out]
          clear hr hf hg hh
          gi_wp2_with (gi_at_builtin; refine wpListIn_append_S _ rfl (.tmp 205) (.tmp 209) 101 rfl 104 i0 (.agg #[.int .i64 0, .int .i64 0, .int .i64 0]) 3 24 Try.underlying101 hi hz0 hz1 hz2 rfl _ _ _ _ rfl (hA.out.own 2 rfl) ⟨_, 0, none⟩ 1 1 [.int .i64 y.f0, .int .i64 y.f1, .int .i64 y.f2] rfl rfl (hA.out.blk 3 rfl).news ?m2 ?m3 ?m4 ?_)
          case m2 => exact ⟨rfl, rfl, rfl⟩
          case m3 => unfold maxLen; omega
          case m4 => omega
          intro v8 W8 S8 o8 g8 f8
          obtain ⟨vb, vd, rfl⟩ := o8.val
          have K8 := Lib.hid (hA.out.call1' 2 rfl (Sep.of_one (c := Chunk.own 104 3 (.slice vb (pre.length + 1) vd) (pre.length + 1) (pre.flatMap encP3 ++ [Value.int .i64 y.f0, Value.int .i64 y.f1, Value.int .i64 y.f2]) S8) f8 o8 g8))
          have e0 := K8.out.cellOf 1 rfl 0 rfl
          have q0 := (K8.out.blk 1 rfl).frz 0
          have K9 := (K8.out.set 1 rfl 0 (.slice vb (pre.length + 1) vd)).pick [1, 2] (by decide)
          have hfin : ∃ S', Gr X (Chunks.bs (Chunk.blk bb 32 [.int .i64 y.f0, .int .i64 y.f1] :: JC v pre S9)) S' ∧ Fr (Chunks.bs (Chunk.blk bb 32 [.int .i64 y.f0, .int .i64 y.f1] :: JC v pre S9)) X (W8.setCell ⟨kb, 0, none⟩ (.slice vb (pre.length + 1) vd)) ∧ J S' (pre ++ [y]) (W8.setCell ⟨kb, 0, none⟩ (.slice vb (pre.length + 1) vd)) := by
            rw [hJ.out, hJC.out]
            refine ⟨_, K9.gr, K9.fr, _, rfl, K9.hs, .slice vb (pre.length + 1) vd, S8, ?_⟩
            simp [encP3]
          have HF := Lib.hid hfin
          clear hfin K9 o8 g8 f8
          gi_wp2
          exact HF.out
        case doneW =>
          rintro D S' X hD hDS hg hf hj hKD
          rw [hJ.out, hJC.out] at hj
          obtain ⟨cs, rfl, hh, v9, S9, rfl⟩ := hj
          have K6 := Lib.hid (K5.out.call1 7 rfl (Sep.ranged hf hg rfl hh hD hDS hKD))
          have K7 := Lib.hid ((((K6.out.pick [9, 4, 0, 1, 2, 3, 5, 6, 7, 8] (by decide)).marks_push).pick [1, 2, 3, 4, 0, 7, 8] (by decide)))
          obtain ⟨vg, vh, rfl⟩ := (K7.out.own 6 rfl).val
          have c0 := K7.out.cellOf 5 rfl 0 rfl
          obtain ⟨r0, r1⟩ : X.cell? ⟨B, 0, none⟩ = some (.slice (some ⟨e, 0, none⟩) L.length L.length) ∧ X.cell? ⟨B, 1, none⟩ = some (.int .i64 last) := ⟨(RefP.hb (K7.out.get (i := 1) rfl)).cell 0, (RefP.hb (K7.out.get (i := 1) rfl)).cell 1⟩
          clear K6 K5 hh hf hg hKD hseq locJ
          gi_wp2_with fail
          refine wpIn_wide.2 ?_
          have hS0 : X.drew.cell? ⟨B, 0, none⟩ = some (.slice (some ⟨e, 0, none⟩) L.length L.length) ∧ X.drew.cell? ⟨B, 1, none⟩ = some (.int .i64 last) ∧ X.drew.cell? ⟨kb, 0, none⟩ = some (.slice vg (heldTo L L.length).length vh) ∧ Fr [] X X.drew := ⟨r0, r1, c0, (Fr.refl _ _).drew⟩
          have hkeep : Hid (∀ Y Z, (Y.cell? ⟨B, 0, none⟩ = some (.slice (some ⟨e, 0, none⟩) L.length L.length) ∧ Y.cell? ⟨B, 1, none⟩ = some (.int .i64 last) ∧ Y.cell? ⟨kb, 0, none⟩ = some (.slice vg (heldTo L L.length).length vh) ∧ Fr [] X Y) → Fr [] Y Z → (Z.cell? ⟨B, 0, none⟩ = some (.slice (some ⟨e, 0, none⟩) L.length L.length) ∧ Z.cell? ⟨B, 1, none⟩ = some (.int .i64 last) ∧ Z.cell? ⟨kb, 0, none⟩ = some (.slice vg (heldTo L L.length).length vh) ∧ Fr [] X Z)) := by
            rintro Y Z ⟨h1, h2, h3, h4⟩ f
            exact ⟨(f.cell (World.block_lt_of_cell? _ _ h1) (by simp)).trans h1, (f.cell (World.block_lt_of_cell? _ _ h2) (by simp)).trans h2, (f.cell (World.block_lt_of_cell? _ _ h3) (by simp)).trans h3, h4.trans' f⟩
          have hall := Lib.hid (fun Y (f : Fr [] X Y) => rall (RefP.at ((K7.out.same f).get (i := 1) rfl)) last)
          have hsm := Lib.hid (fun Y (f : Fr [] X Y) q Sq (hq : OwnS Y 104 3 q (heldTo L L.length).length ((heldTo L L.length).flatMap encP3) Sq) => psame ((K7.out.same f).own 6 rfl) hq rfl (by omega))
          go_region_held3 (fun w' => w'.cell? ⟨B, 0, none⟩ = some (.slice (some ⟨e, 0, none⟩) L.length L.length) ∧ w'.cell? ⟨B, 1, none⟩ = some (.int .i64 last) ∧ w'.cell? ⟨kb, 0, none⟩ = some (.slice vg (heldTo L L.length).length vh) ∧ Fr [] X w')
            (first | exact hS0 | exact hkeep.out _ _ (by assumption) (by assumption))
            (first
              | (go_at_call 58; refine (hall.out _ (And.right (And.right (And.right (by assumption))))).mono ?_; rintro r WA ⟨vA, SA, rfl, oA, gA, fA⟩)
              | (go_at_call 59; refine (hsm.out _ (And.right (And.right (And.right (by assumption)))) _ _ (by assumption)).mono ?_; rintro r WB ⟨rfl, fB⟩))
          have K8 := Lib.hid (K7.out.same (((Fr.refl [] X).drew.trans' fA).trans' fB))
          clear fA fB oA gA hS0 hkeep hall hsm c0 r0 r1
          gi_wp2_with fail
          refine Met.intro ?_
          first | gi_step | go_step
          refine meet_frame ?rel rfl
          case rel => exact ⟨rfl, _, _, _, _, _, rfl, rfl, by omega, Lib.hid (K8.out.take 5)⟩
      · skip
        have a4 := H3.out.cellOf 5 rfl 4 rfl
        obtain ⟨r0, r1⟩ : wc.cell? ⟨B, 0, none⟩ = some (.slice (some ⟨e, 0, none⟩) L.length L.length) ∧ wc.cell? ⟨B, 1, none⟩ = some (.int .i64 last) := ⟨(RefP.hb (H3.out.get (i := 1) rfl)).cell 0, (RefP.hb (H3.out.get (i := 1) rfl)).cell 1⟩
        gi_wp2_with fail
        refine wpIn_wide.2 ?_
        have hS0 : wc.drew.cell? ⟨B, 0, none⟩ = some (.slice (some ⟨e, 0, none⟩) L.length L.length) ∧ wc.drew.cell? ⟨B, 1, none⟩ = some (.int .i64 last) ∧ wc.drew.cell? ⟨xb, 4, none⟩ = some (.int .i64 V) ∧ Fr [] wc wc.drew := ⟨r0, r1, a4, (Fr.refl _ _).drew⟩
        have hkeep : Hid (∀ X Y, (X.cell? ⟨B, 0, none⟩ = some (.slice (some ⟨e, 0, none⟩) L.length L.length) ∧ X.cell? ⟨B, 1, none⟩ = some (.int .i64 last) ∧ X.cell? ⟨xb, 4, none⟩ = some (.int .i64 V) ∧ Fr [] wc X) → Fr [] X Y → (Y.cell? ⟨B, 0, none⟩ = some (.slice (some ⟨e, 0, none⟩) L.length L.length) ∧ Y.cell? ⟨B, 1, none⟩ = some (.int .i64 last) ∧ Y.cell? ⟨xb, 4, none⟩ = some (.int .i64 V) ∧ Fr [] wc Y)) := by
          rintro X Y ⟨h1, h2, h3, h4⟩ f
          exact ⟨(f.cell (World.block_lt_of_cell? _ _ h1) (by simp)).trans h1, (f.cell (World.block_lt_of_cell? _ _ h2) (by simp)).trans h2, (f.cell (World.block_lt_of_cell? _ _ h3) (by simp)).trans h3, h4.trans' f⟩
        have hall := Lib.hid (fun X (f : Fr [] wc X) => rall (RefP.at ((H3.out.same f).get (i := 1) rfl)) last)
        have hgo := Lib.hid (fun X (f : Fr [] wc X) q Sq (hq : OwnS X 104 3 q (heldTo L L.length).length ((heldTo L L.length).flatMap encP3) Sq) => goes_ok ((H3.out.same f).get (i := 0) rfl) rfl hq V)
        go_region_held3 (fun w' => w'.cell? ⟨B, 0, none⟩ = some (.slice (some ⟨e, 0, none⟩) L.length L.length) ∧ w'.cell? ⟨B, 1, none⟩ = some (.int .i64 last) ∧ w'.cell? ⟨xb, 4, none⟩ = some (.int .i64 V) ∧ Fr [] wc w')
          (first | exact hS0 | exact hkeep.out _ _ (by assumption) (by assumption))
          (first
            | (go_at_call 58; refine (hall.out _ (And.right (And.right (And.right (by assumption))))).mono ?_; rintro r WA ⟨vA, SA, rfl, oA, gA, fA⟩)
            | (go_at_call 60; refine (hgo.out _ (And.right (And.right (And.right (by assumption)))) _ _ (by assumption)).mono ?_; rintro r WB ⟨rfl, fB⟩))
        have K2 := Lib.hid (H3.out.same (((Fr.refl [] wc).drew.trans' fA).trans' fB))
        clear fA fB oA gA hS0 hkeep hall hgo a0 a4 r0 r1
        gi_wp2_with fail
        refine Met.intro ?_
        first | gi_step | go_step
        refine meet_frame ?rel rfl
        case rel => exact ⟨rfl, _, _, _, _, _, rfl, rfl, by omega, Lib.hid (K2.out.take 5)⟩
    obtain ⟨e16, hb, L, hs, S, Ds, rfl, e12, hhl, H4⟩ := hcut
    rw [e16, e12]
    obtain ⟨vg, hvg⟩ : ∃ vg, fs 11 = vg := ⟨_, rfl⟩
    rw [hvg] at H4 ⊢
    clear e16 e12 hvg
    clear H3
    obtain ⟨r0, r1⟩ : wc.cell? ⟨B, 0, none⟩ = some (.slice (some ⟨e, 0, none⟩) L.length L.length) ∧ wc.cell? ⟨B, 1, none⟩ = some (.int .i64 last) := ⟨(RefP.hb (H4.out.get (i := 1) rfl)).cell 0, (RefP.hb (H4.out.get (i := 1) rfl)).cell 1⟩
    gi_wp2_with fail
    refine wpIn_wide.2 ?_
    have hS0 : wc.drew.cell? ⟨B, 0, none⟩ = some (.slice (some ⟨e, 0, none⟩) L.length L.length) ∧ wc.drew.cell? ⟨B, 1, none⟩ = some (.int .i64 last) := ⟨r0, r1⟩
    refine wp_T [] (fun w' => w'.cell? ⟨B, 0, none⟩ = some (.slice (some ⟨e, 0, none⟩) L.length L.length) ∧ w'.cell? ⟨B, 1, none⟩ = some (.int .i64 last)) (by kernel_rfl) (fun hC => ?_) hS0
    refine wpAnyT_takeC' 0 (by kernel_rfl) (fun _ _ _ h => h) (by assumption) (by rfl) (fun w hSw => by simp only [List.getD_cons_succ, List.getD_cons_zero]; (try dsimp only at hSw); go_simp; try with_reducible rfl) ?_
    try simp only [List.getD_cons_succ, List.getD_cons_zero, Act.put, List.setIfInBounds_toArray, List.set_cons_zero, List.set_cons_succ]
    refine wpAnyT_takeC' 1 (by kernel_rfl) (fun _ _ _ h => h) (by assumption) (by rfl) (fun w hSw => by simp only [List.getD_cons_succ, List.getD_cons_zero]; (try dsimp only at hSw); go_simp; try with_reducible rfl) ?_
    try simp only [List.getD_cons_succ, List.getD_cons_zero, Act.put, List.setIfInBounds_toArray, List.set_cons_zero, List.set_cons_succ]
    refine wpAnyT_takeC' 2 (by kernel_rfl) (fun _ _ _ h => h) (by assumption) (by rfl) (fun w hSw => by simp only [List.getD_cons_succ, List.getD_cons_zero]; (try dsimp only at hSw); go_simp; try with_reducible rfl) ?_
    try simp only [List.getD_cons_succ, List.getD_cons_zero, Act.put, List.setIfInBounds_toArray, List.set_cons_zero, List.set_cons_succ]
    refine wpAnyT_takeC' 3 (by kernel_rfl) (fun _ _ _ h => h) (by assumption) (by rfl) (fun w hSw => by simp only [List.getD_cons_succ, List.getD_cons_zero]; (try dsimp only at hSw); go_simp; try with_reducible rfl) ?_
    try simp only [List.getD_cons_succ, List.getD_cons_zero, Act.put, List.setIfInBounds_toArray, List.set_cons_zero, List.set_cons_succ]
    refine wpAnyT_takeC' 5 (by kernel_rfl) (fun _ _ _ h => h) (by assumption) (by rfl) (fun w hSw => by simp only [List.getD_cons_succ, List.getD_cons_zero]; (try dsimp only at hSw); go_simp; try with_reducible rfl) ?_
    try simp only [List.getD_cons_succ, List.getD_cons_zero, Act.put, List.setIfInBounds_toArray, List.set_cons_zero, List.set_cons_succ]
    refine wpAnyT_one' 4 (by kernel_rfl) (by rfl) (fun K hK => ?_)
    simp only [List.getD_cons_succ, List.getD_cons_zero]
    go_simp
    refine (sleni (H4.out.drew.get (i := 0) rfl)).mono ?_
    rintro r Z1 ⟨rfl, rfl⟩
    go_wp2_with fail
    refine hK.out _ _ hC ?_
    clear hK
    try simp only [Act.put, List.setIfInBounds_toArray, List.set_cons_zero, List.set_cons_succ]
    refine wpAnyT_one' 6 (by kernel_rfl) (by rfl) (fun K hK => ?_)
    simp only [List.getD_cons_succ, List.getD_cons_zero]
    go_simp
    refine (rall (RefP.at (H4.out.drew.get (i := 1) rfl)) last).mono ?_
    rintro r Z2 ⟨vA, SA, rfl, oA, gA, fA⟩
    obtain ⟨va2, vc2, rfl⟩ := oA.val
    rw [held_len] at oA
    rw [held_len]
    have K2 := Lib.hid (H4.out.drew.same fA)
    obtain ⟨q0, q1⟩ : Z2.cell? ⟨B, 0, none⟩ = some (.slice (some ⟨e, 0, none⟩) L.length L.length) ∧ Z2.cell? ⟨B, 1, none⟩ = some (.int .i64 last) := ⟨(RefP.hb (K2.out.get (i := 1) rfl)).cell 0, (RefP.hb (K2.out.get (i := 1) rfl)).cell 1⟩
    clear oA gA fA hC
    go_wp2_with fail
    refine hK.out _ _ ⟨q0, q1⟩ ?_
    clear hK
    try simp only [Act.put, List.setIfInBounds_toArray, List.set_cons_zero, List.set_cons_succ]
    have hC : Z2.cell? ⟨B, 0, none⟩ = some (.slice (some ⟨e, 0, none⟩) L.length L.length) ∧ Z2.cell? ⟨B, 1, none⟩ = some (.int .i64 last) := ⟨q0, q1⟩
    refine wpAnyT_takeC' 7 (by kernel_rfl) (fun _ _ _ h => h) (by assumption) (by rfl) (fun w hSw => by simp only [List.getD_cons_succ, List.getD_cons_zero]; (try dsimp only at hSw); go_simp; try with_reducible rfl) ?_
    try simp only [List.getD_cons_succ, List.getD_cons_zero, Act.put, List.setIfInBounds_toArray, List.set_cons_zero, List.set_cons_succ]
    refine wpAnyT_takeC' 8 (by kernel_rfl) (fun _ _ _ h => h) (by assumption) (by rfl) (fun w hSw => by simp only [List.getD_cons_succ, List.getD_cons_zero]; (try dsimp only at hSw); go_simp; try with_reducible rfl) ?_
    try simp only [List.getD_cons_succ, List.getD_cons_zero, Act.put, List.setIfInBounds_toArray, List.set_cons_zero, List.set_cons_succ]
    refine wpAnyT_takeC' 9 (by kernel_rfl) (fun _ _ _ h => h) (by assumption) (by rfl) (fun w hSw => by simp only [List.getD_cons_succ, List.getD_cons_zero]; (try dsimp only at hSw); go_simp; try with_reducible rfl) ?_
    try simp only [List.getD_cons_succ, List.getD_cons_zero, Act.put, List.setIfInBounds_toArray, List.set_cons_zero, List.set_cons_succ]
    refine wpAnyT_done (by kernel_rfl) ?_ _
    rw [onlyN_normal]
    gi_wp2_with fail
    refine Handed.intro (gk - 1) ?measure ?_
    rotate_left
    first | gi_step | go_step
    refine meet_frame ?rel rfl
    case measure => omega
    case rel => exact ⟨j + 1, _, _, _, _, _, by omega, by omega, by omega, by go_num, rfl, rfl, hhl, K2⟩
  · skip
    have hend : la ≤ j ∨ (j < la ∧ j = 300) := by omega
    clear hjin
    rcases hend with hend | ⟨hend, rfl⟩
    all_goals
      obtain ⟨r0, r1⟩ : wr.cell? ⟨B, 0, none⟩ = some (.slice (some ⟨e, 0, none⟩) L.length L.length) ∧ wr.cell? ⟨B, 1, none⟩ = some (.int .i64 last) := ⟨(RefP.hb (HK.out.get (i := 1) rfl)).cell 0, (RefP.hb (HK.out.get (i := 1) rfl)).cell 1⟩
      gi_wp2_with fail
      refine (wideIn _ (rall (RefP.at (HK.out.get (i := 1) rfl)) last)).mono ?_
      rintro r Z1 ⟨v1, S1, rfl, o1, g1, f1⟩
      have K1 := Lib.hid (HK.out.same f1)
      have O1 := Lib.hid o1
      clear f1 g1 o1 r0 r1
      gi_wp2_with fail
      refine (wideIn _ (goes_ok (K1.out.get (i := 0) rfl) rfl O1.out (-1))).mono ?_
      rintro r Z2 ⟨rfl, f2⟩
      have K2 := Lib.hid (K1.out.same f2)
      clear f2
      gi_wp2_with fail
      obtain ⟨hnd, hmk⟩ := marks_ok (K2.out.get (i := 4) rfl)
      refine leaves_marks' Ds _ hnd hmk (fun W' fW => ?_)
      refine ⟨.bool true, by simp [results, Try.results9, go_sem], rfl, ?_⟩
      exact K2.out.fr.trans (fun x hx => K2.out.gr x (Chunks.mem_bs.2 ⟨Chunk.marks Ds, by simp, by rw [marks_bs]; exact hx⟩)) fW
end Go.Proofs.Ytoodgjmgkjhpoaa
