/- The statement RingPlays: the walk: of whatever steps it answers true. -/
import Derived.Test.YtoodgjmgkjhpoaaRingPl
namespace Go.Proofs.Ytoodgjmgkjhpoaa
open Go Go.RowKit
set_option linter.unusedSimpArgs false
attribute [local go_sem] calmQ_normal wide_fn wide_depth Oper.semAt_some run_store_func

set_option maxRecDepth 100000 in
set_option maxHeartbeats 8000000 in
theorem plays4_walk (w : World) (aa : Option Addr) (la ca : Nat) (hla : la ≤ maxLen) (hst : StepRow w aa la) :
    Calls Try.prog 8 #[.slice aa la ca] w fun e w' => e = .returned (.bool true) ∧ Fr [] w w' := by
  unfold maxLen at hla
  have HST := Lib.hid hst
  clear hst
  refine callsIn_wide.1 (callsIn_of_wp_marks (n := 0) (F := Fence.wide) Try.func8 rfl trivial ?_ rfl)
  simp only [Try.ntmps8, List.size_toArray, List.length_cons, List.length_nil, Nat.reduceAdd, Nat.reduceSub, Array.replicate_succ, Array.replicate_zero, List.push_toArray, List.append_toArray, List.nil_append, List.cons_append]
  gi_wp2_with fail
  refine (wideIn _ (told4 w)).mono ?_
  rintro e w1 ⟨rfl, f1⟩
  gi_wp2_with fail
  refine (wideIn _ (new_i w1)).mono ?_
  rintro e w2 ⟨rfl, h2, f2, hz2⟩
  have HZ2 := Lib.hid hz2
  clear hz2
  gi_wp2_with fail
  refine (wideIn _ (new_i w2)).mono ?_
  rintro e w3 ⟨rfl, h3, f3, hz3⟩
  have HZ3 := Lib.hid hz3
  clear hz3
  have z1 := f1.size
  have z2 := f2.size
  gi_wp2_with fail
  have hl3 : w3.heap.size < w3.heap.size + 1 := by omega
  obtain ⟨W4, hW4⟩ : ∃ W4, (w3.alloc (.cells #[.pointer (some ⟨w1.heap.size, 0, none⟩), .pointer (some ⟨w2.heap.size, 0, none⟩)] 72)).alloc (.cells #[.slice none 0 0, .slice none 0 0] 73) = W4 := ⟨_, rfl⟩
  have p3 : Blk W4 w3.heap.size 72 [.pointer (some ⟨w1.heap.size, 0, none⟩), .pointer (some ⟨w2.heap.size, 0, none⟩)] := by rw [← hW4]; exact (Blk.new w3 _ [_, _]).alloc _
  have p4 : Blk W4 (w3.heap.size + 1) 73 [.slice none 0 0, .slice none 0 0] := by
    have := Blk.new (w3.alloc (.cells #[.pointer (some ⟨w1.heap.size, 0, none⟩), .pointer (some ⟨w2.heap.size, 0, none⟩)] 72)) 73 [.slice none 0 0, .slice none 0 0]
    rw [World.size_alloc] at this
    rw [← hW4]; exact this
  have f4 : Fr [] w3 W4 := by rw [← hW4]; exact ((Fr.refl [] w3).alloc _).alloc _
  have z4 : W4.heap.size = w3.heap.size + 2 := by rw [← hW4]; simp
  rw [hW4]
  clear hW4
  refine (wideIn _ (all_i _ w1.heap.size)).mono ?_
  rintro e w5 ⟨rfl, rfl⟩
  have K0 : Hid (PL w w3.heap.size (w3.heap.size + 1) (w3.heap.size + 2) 0 (upd (fun _ => w1.heap.size) 1 w2.heap.size) (fun _ => []) (fun _ => []) (fun _ => .slice none 0 0) (fun _ => []) (.slice none 0 0) [] [] [] (W4.alloc (.cells #[.pointer (some ⟨w1.heap.size, 0, none⟩)] 47))) := by
    refine PL.init f1 h2 f2 h3 f3 (by rw [HZ2.out]; omega) (by rw [HZ3.out]; omega) (f4.alloc _) (p3.alloc _) (p4.alloc _) ?_
    have := (Blk.new W4 47 [.pointer (some ⟨w1.heap.size, 0, none⟩)]).cell 0
    rw [z4] at this
    simpa using this
  rw [z4]
  obtain ⟨W5, hW5⟩ : ∃ W5, W4.alloc (.cells #[.pointer (some ⟨w1.heap.size, 0, none⟩)] 47) = W5 := ⟨_, rfl⟩
  rw [hW5] at K0 ⊢
  obtain ⟨r, hr⟩ : ∃ r, upd (fun _ => w1.heap.size) 1 w2.heap.size = r := ⟨_, rfl⟩
  rw [hr] at K0
  clear hr
  obtain ⟨A3, hA3⟩ : ∃ A3, w3.heap.size = A3 := ⟨_, rfl⟩
  obtain ⟨r0, hr0⟩ : ∃ r0, w1.heap.size = r0 := ⟨_, rfl⟩
  obtain ⟨r1, hr1⟩ : ∃ r1, w2.heap.size = r1 := ⟨_, rfl⟩
  rw [hA3] at K0
  rw [hA3, hr0, hr1]
  clear hA3 hr0 hr1 hW5 z4 f4 p3 p4 hl3 z1 z2 h2 h3 f1 f2 f3 HZ2 HZ3
  gi_wp2_with fail
  refine wpIn_loop_ghost_k (fun k' a' w' => ∃ (u2 u5 u6 u7 u8 u9 u10 u11 u12 u14 u15 u16 u27 u28 u29 u30 u31 u32 u33 u34 u35 u36 u37 u38 u39 u40 u41 u42 u43 u44 u45 u46 u47 u48 u49 u50 u51 u52 u53 u54 u55 u56 u57 u58 u59 u60 u61 u62 u63 u64 u65 u66 u67 u68 u69 u70 u71 u72 u73 u74 u75 u76 u77 u78 u79 u80 u81 u82 u83 u84 u85 u88 u89 u90 u91 u92 u93 u94 u95 u96 u97 u98 u99 u100 u101 u102 u103 u104 u105 u106 u107 u108 u109 u110 u111 u112 u113 u114 u115 u116 u117 u118 u119 u120 u121 u122 u123 u124 u125 u126 u127 u128 u129 u130 u131 u132 u133 u134 u135 u136 u137 u138 u139 u140 u141 u142 u143 u144 u145 u146 u147 u148 u149 u150 u151 u152 u153 u154 u155 u156 u157 u158 u159 u160 u161 : Value) (dfs : List Deferred), (∃ (j hb of : Nat) (ds : Nat → List Nat) (xs : Nat → List Int) (v : Nat → Value) (S : Nat → List Nat) (rows : List (Value × Nat × List Nat)) (S7 Ds : List Nat),
      k' + j = 301 ∧ j ≤ 300 ∧ j ≤ la ∧ u8 = .int .i64 j ∧ u5 = .func (.func 66) #[] #[.pointer (some ⟨hb, 0, none⟩)] ∧ u6 = .int .i64 of ∧ dfs = Ds.map (fun D => { target := .collected D, args := #[] }) ∧
      (∀ o, o < 2 → (xs o).length ≤ 3 * j) ∧ rows.length ≤ 2 * j ∧ Hid (PL w A3 (A3 + 1) hb of r ds xs v S u7 rows S7 Ds w')) ∧ a' = { tmps := #[.slice aa la ca, undef, u2, .pointer (some ⟨A3, 0, none⟩), .pointer (some ⟨A3 + 1, 0, none⟩), u5, u6, u7, u8, u9, u10, u11, u12, undef, u14, u15, u16, undef, undef, .bool true, .bool false, .pointer (some ⟨r0, 0, none⟩), .pointer (some ⟨r1, 0, none⟩), .agg #[.pointer (some ⟨r0, 0, none⟩), .pointer (some ⟨r1, 0, none⟩)], .pointer (some ⟨A3, 0, none⟩), .pointer (some ⟨r0, 0, none⟩), .func (.func 66) #[] #[.pointer (some ⟨A3 + 2, 0, none⟩)], u27, u28, u29, u30, u31, u32, u33, u34, u35, u36, u37, u38, u39, u40, u41, u42, u43, u44, u45, u46, u47, u48, u49, u50, u51, u52, u53, u54, u55, u56, u57, u58, u59, u60, u61, u62, u63, u64, u65, u66, u67, u68, u69, u70, u71, u72, u73, u74, u75, u76, u77, u78, u79, u80, u81, u82, u83, u84, u85, undef, undef, u88, u89, u90, u91, u92, u93, u94, u95, u96, u97, u98, u99, u100, u101, u102, u103, u104, u105, u106, u107, u108, u109, u110, u111, u112, u113, u114, u115, u116, u117, u118, u119, u120, u121, u122, u123, u124, u125, u126, u127, u128, u129, u130, u131, u132, u133, u134, u135, u136, u137, u138, u139, u140, u141, u142, u143, u144, u145, u146, u147, u148, u149, u150, u151, u152, u153, u154, u155, u156, u157, u158, u159, u160, u161, undef, undef, undef, undef, undef, undef, undef, undef, undef, undef, undef, undef, undef, undef, undef, undef, undef, undef, undef, undef, undef, undef, undef, undef, undef, undef, undef, undef, undef, undef, undef, undef, undef, undef, undef, undef, undef, undef, undef], defers := dfs }) 301 ?startD ?roundD
  case' startD => ((repeat apply Exists.intro); refine ⟨?atStartD, rfl⟩)
  case' roundD =>
    intro gk _ wr hinv
    obtain ⟨u2, hinv⟩ := hinv
    obtain ⟨u5, hinv⟩ := hinv
    obtain ⟨u6, hinv⟩ := hinv
    obtain ⟨u7, hinv⟩ := hinv
    obtain ⟨u8, hinv⟩ := hinv
    obtain ⟨u9, hinv⟩ := hinv
    obtain ⟨u10, hinv⟩ := hinv
    obtain ⟨u11, hinv⟩ := hinv
    obtain ⟨u12, hinv⟩ := hinv
    obtain ⟨u14, hinv⟩ := hinv
    obtain ⟨u15, hinv⟩ := hinv
    obtain ⟨u16, hinv⟩ := hinv
    obtain ⟨u27, hinv⟩ := hinv
    obtain ⟨u28, hinv⟩ := hinv
    obtain ⟨u29, hinv⟩ := hinv
    obtain ⟨u30, hinv⟩ := hinv
    obtain ⟨u31, hinv⟩ := hinv
    obtain ⟨u32, hinv⟩ := hinv
    obtain ⟨u33, hinv⟩ := hinv
    obtain ⟨u34, hinv⟩ := hinv
    obtain ⟨u35, hinv⟩ := hinv
    obtain ⟨u36, hinv⟩ := hinv
    obtain ⟨u37, hinv⟩ := hinv
    obtain ⟨u38, hinv⟩ := hinv
    obtain ⟨u39, hinv⟩ := hinv
    obtain ⟨u40, hinv⟩ := hinv
    obtain ⟨u41, hinv⟩ := hinv
    obtain ⟨u42, hinv⟩ := hinv
    obtain ⟨u43, hinv⟩ := hinv
    obtain ⟨u44, hinv⟩ := hinv
    obtain ⟨u45, hinv⟩ := hinv
    obtain ⟨u46, hinv⟩ := hinv
    obtain ⟨u47, hinv⟩ := hinv
    obtain ⟨u48, hinv⟩ := hinv
    obtain ⟨u49, hinv⟩ := hinv
    obtain ⟨u50, hinv⟩ := hinv
    obtain ⟨u51, hinv⟩ := hinv
    obtain ⟨u52, hinv⟩ := hinv
    obtain ⟨u53, hinv⟩ := hinv
    obtain ⟨u54, hinv⟩ := hinv
    obtain ⟨u55, hinv⟩ := hinv
    obtain ⟨u56, hinv⟩ := hinv
    obtain ⟨u57, hinv⟩ := hinv
    obtain ⟨u58, hinv⟩ := hinv
    obtain ⟨u59, hinv⟩ := hinv
    obtain ⟨u60, hinv⟩ := hinv
    obtain ⟨u61, hinv⟩ := hinv
    obtain ⟨u62, hinv⟩ := hinv
    obtain ⟨u63, hinv⟩ := hinv
    obtain ⟨u64, hinv⟩ := hinv
    obtain ⟨u65, hinv⟩ := hinv
    obtain ⟨u66, hinv⟩ := hinv
    obtain ⟨u67, hinv⟩ := hinv
    obtain ⟨u68, hinv⟩ := hinv
    obtain ⟨u69, hinv⟩ := hinv
    obtain ⟨u70, hinv⟩ := hinv
    obtain ⟨u71, hinv⟩ := hinv
    obtain ⟨u72, hinv⟩ := hinv
    obtain ⟨u73, hinv⟩ := hinv
    obtain ⟨u74, hinv⟩ := hinv
    obtain ⟨u75, hinv⟩ := hinv
    obtain ⟨u76, hinv⟩ := hinv
    obtain ⟨u77, hinv⟩ := hinv
    obtain ⟨u78, hinv⟩ := hinv
    obtain ⟨u79, hinv⟩ := hinv
    obtain ⟨u80, hinv⟩ := hinv
    obtain ⟨u81, hinv⟩ := hinv
    obtain ⟨u82, hinv⟩ := hinv
    obtain ⟨u83, hinv⟩ := hinv
    obtain ⟨u84, hinv⟩ := hinv
    obtain ⟨u85, hinv⟩ := hinv
    obtain ⟨u88, hinv⟩ := hinv
    obtain ⟨u89, hinv⟩ := hinv
    obtain ⟨u90, hinv⟩ := hinv
    obtain ⟨u91, hinv⟩ := hinv
    obtain ⟨u92, hinv⟩ := hinv
    obtain ⟨u93, hinv⟩ := hinv
    obtain ⟨u94, hinv⟩ := hinv
    obtain ⟨u95, hinv⟩ := hinv
    obtain ⟨u96, hinv⟩ := hinv
    obtain ⟨u97, hinv⟩ := hinv
    obtain ⟨u98, hinv⟩ := hinv
    obtain ⟨u99, hinv⟩ := hinv
    obtain ⟨u100, hinv⟩ := hinv
    obtain ⟨u101, hinv⟩ := hinv
    obtain ⟨u102, hinv⟩ := hinv
    obtain ⟨u103, hinv⟩ := hinv
    obtain ⟨u104, hinv⟩ := hinv
    obtain ⟨u105, hinv⟩ := hinv
    obtain ⟨u106, hinv⟩ := hinv
    obtain ⟨u107, hinv⟩ := hinv
    obtain ⟨u108, hinv⟩ := hinv
    obtain ⟨u109, hinv⟩ := hinv
    obtain ⟨u110, hinv⟩ := hinv
    obtain ⟨u111, hinv⟩ := hinv
    obtain ⟨u112, hinv⟩ := hinv
    obtain ⟨u113, hinv⟩ := hinv
    obtain ⟨u114, hinv⟩ := hinv
    obtain ⟨u115, hinv⟩ := hinv
    obtain ⟨u116, hinv⟩ := hinv
    obtain ⟨u117, hinv⟩ := hinv
    obtain ⟨u118, hinv⟩ := hinv
    obtain ⟨u119, hinv⟩ := hinv
    obtain ⟨u120, hinv⟩ := hinv
    obtain ⟨u121, hinv⟩ := hinv
    obtain ⟨u122, hinv⟩ := hinv
    obtain ⟨u123, hinv⟩ := hinv
    obtain ⟨u124, hinv⟩ := hinv
    obtain ⟨u125, hinv⟩ := hinv
    obtain ⟨u126, hinv⟩ := hinv
    obtain ⟨u127, hinv⟩ := hinv
    obtain ⟨u128, hinv⟩ := hinv
    obtain ⟨u129, hinv⟩ := hinv
    obtain ⟨u130, hinv⟩ := hinv
    obtain ⟨u131, hinv⟩ := hinv
    obtain ⟨u132, hinv⟩ := hinv
    obtain ⟨u133, hinv⟩ := hinv
    obtain ⟨u134, hinv⟩ := hinv
    obtain ⟨u135, hinv⟩ := hinv
    obtain ⟨u136, hinv⟩ := hinv
    obtain ⟨u137, hinv⟩ := hinv
    obtain ⟨u138, hinv⟩ := hinv
    obtain ⟨u139, hinv⟩ := hinv
    obtain ⟨u140, hinv⟩ := hinv
    obtain ⟨u141, hinv⟩ := hinv
    obtain ⟨u142, hinv⟩ := hinv
    obtain ⟨u143, hinv⟩ := hinv
    obtain ⟨u144, hinv⟩ := hinv
    obtain ⟨u145, hinv⟩ := hinv
    obtain ⟨u146, hinv⟩ := hinv
    obtain ⟨u147, hinv⟩ := hinv
    obtain ⟨u148, hinv⟩ := hinv
    obtain ⟨u149, hinv⟩ := hinv
    obtain ⟨u150, hinv⟩ := hinv
    obtain ⟨u151, hinv⟩ := hinv
    obtain ⟨u152, hinv⟩ := hinv
    obtain ⟨u153, hinv⟩ := hinv
    obtain ⟨u154, hinv⟩ := hinv
    obtain ⟨u155, hinv⟩ := hinv
    obtain ⟨u156, hinv⟩ := hinv
    obtain ⟨u157, hinv⟩ := hinv
    obtain ⟨u158, hinv⟩ := hinv
    obtain ⟨u159, hinv⟩ := hinv
    obtain ⟨u160, hinv⟩ := hinv
    obtain ⟨u161, hinv⟩ := hinv
    obtain ⟨dfs, hrel, ha⟩ := hinv
    subst ha
    try dsimp only
    intro _ _ _ _
  case startD => exact ⟨0, A3 + 2, 0, _, _, _, _, [], [], [], by omega, by omega, by omega, rfl, rfl, rfl, rfl, fun _ _ => by simp, by simp, K0⟩
  obtain ⟨j, hb, of, ds, xs, v, S, rows, S7, Ds, hk, hj3, hjl, rfl, rfl, rfl, rfl, hxl, hrl, HK⟩ := hrel
  clear K0
  by_cases hjin : j < 300 ∧ j < la
  · obtain ⟨hj1, hj2⟩ := hjin
    obtain ⟨b, off, kk, oo, nn, vv, rfl, s0, s1, s2, s3⟩ := HST.out j hj2
    have y0 := (HK.out.fr.cell (p := ⟨b, off + j * 4, none⟩) (World.block_lt_of_cell? _ _ s0) (by simp)).trans s0
    have y1 := (HK.out.fr.cell (p := ⟨b, off + (j * 4 + 1), none⟩) (World.block_lt_of_cell? _ _ s1) (by simp)).trans s1
    have y2 := (HK.out.fr.cell (p := ⟨b, off + (j * 4 + 2), none⟩) (World.block_lt_of_cell? _ _ s2) (by simp)).trans s2
    have y3 := (HK.out.fr.cell (p := ⟨b, off + (j * 4 + 3), none⟩) (World.block_lt_of_cell? _ _ s3) (by simp)).trans s3
    obtain ⟨o, ho, ho2⟩ : ∃ o : Nat, bits .and .i64 oo 1 = (o : Int) ∧ o ≤ 1 := and_range oo 1 (by omega)
    rw [← Nat.add_assoc] at y1 y2 y3
    clear s0 s1 s2 s3
    obtain ⟨W1, hW1⟩ : ∃ W1, wr.alloc (.cells #[.int .i64 kk, .int .i64 oo, .int .i64 nn, .int .i64 vv] 64) = W1 := ⟨_, rfl⟩
    have hB := Lib.hid (Blk.new wr 64 [.int .i64 kk, .int .i64 oo, .int .i64 nn, .int .i64 vv])
    have HKa := Lib.hid (HK.out.fr0 ((Fr.refl [] wr).alloc (.cells #[.int .i64 kk, .int .i64 oo, .int .i64 nn, .int .i64 vv] 64)))
    have hlA := Lib.hid (show A3 + 1 < wr.heap.size from HK.out.a4.lt)
    have hlr := Lib.hid (fun x (hx : x ∈ r o :: ds o) => (HK.out.ring o (by omega)).lt x hx)
    rw [hW1] at hB HKa
    have hl : wr.heap.size < W1.heap.size := hB.out.lt
    have d0 := hB.out.cell 0
    have d1 := hB.out.cell 1
    have d2 := hB.out.cell 2
    have d3 := hB.out.cell 3
    simp only [List.getElem?_cons_zero, List.getElem?_cons_succ] at d0 d1 d2 d3
    have c3 := (HKa.out.cells (show o < 2 by omega)).1
    have c4 := (HKa.out.cells (show o < 2 by omega)).2
    have hdo := Lib.hid (fun X (f : Fr [] W1 X) K O N V => do_ok ((HKa.out.ring o (by omega)).fr f (by simp)) ((HKa.out.list o (by omega)).fr f (by simp)) (HKa.out.apart (by omega)) (by have := hxl o (by omega); omega) K O N V)
    have hran := Lib.hid (fun X (f : Fr [] W1 X) K O N V => ranged_ok ((HKa.out.ring o (by omega)).fr f (by simp)) ((HKa.out.list o (by omega)).fr f (by simp)) (HKa.out.apart (by omega)) (by have := hxl o (by omega); omega) K O N V)
    have hkind : (kk = 8 ∨ kk = 9 ∨ kk = 10) ∨ kk = 11 ∨ kk = 12 ∨ kk = 13 ∨ ((kk == 8) = false ∧ (kk == 9) = false ∧ (kk == 10) = false ∧ (kk == 11) = false ∧ (kk == 12) = false ∧ (kk == 13) = false) := by
      by_cases h8 : kk = 8
      · simp [h8]
      by_cases h9 : kk = 9
      · simp [h9]
      by_cases h10 : kk = 10
      · simp [h10]
      by_cases h11 : kk = 11
      · simp [h11]
      by_cases h12 : kk = 12
      · simp [h12]
      by_cases h13 : kk = 13
      · simp [h13]
      simp [h8, h9, h10, h11, h12, h13]
    have ho3 : (o : Int) < 2 := by omega
    rcases hkind with hkind | rfl | rfl | rfl | ⟨e1, e2, e3, e4, e5, e6⟩
    · have hr2 := Lib.hid (fun X (f : Fr [] W1 X) (_K O N V : Int) => hran.out X f kk O N V hkind)
      have he : (kk == 8) = true ∨ ((kk == 8) = false ∧ (kk == 9) = true) ∨ ((kk == 8) = false ∧ (kk == 9) = false ∧ (kk == 10) = true) := by
        rcases hkind with h | h | h <;> simp [h]
      clear hkind
      rcases he with e1 | ⟨e1, e2⟩ | ⟨e1, e2, e3⟩
      all_goals as_aux_lemma =>
        gi_wp2_with fail
        refine wpIn_wide.2 ?_
        refine wp_T [13] (fun w' => w'.cell? ⟨A3, o, none⟩ = some (.pointer (some ⟨r o, 0, none⟩)) ∧ w'.cell? ⟨A3 + 1, o, none⟩ = some (v o) ∧ w'.cell? ⟨wr.heap.size, 0, none⟩ = some (.int .i64 kk) ∧ w'.cell? ⟨wr.heap.size, 1, none⟩ = some (.int .i64 oo) ∧ w'.cell? ⟨wr.heap.size, 2, none⟩ = some (.int .i64 nn) ∧ w'.cell? ⟨wr.heap.size, 3, none⟩ = some (.int .i64 vv)) (by kernel_rfl) (fun hC => ?_) ⟨c3, c4, d0, d1, d2, d3⟩
        refine wpAnyT_takeC' 0 (by kernel_rfl) (fun _ _ _ h => h) (by assumption) (by rfl) (fun w hSw => by simp only [List.getD_cons_succ, List.getD_cons_zero]; (try dsimp only at hSw); go_simp; try with_reducible rfl) ?_
        try simp only [List.getD_cons_succ, List.getD_cons_zero, Act.put, List.setIfInBounds_toArray, List.set_cons_zero, List.set_cons_succ]
        refine wpAnyT_takeC' 1 (by kernel_rfl) (fun _ _ _ h => h) (by assumption) (by rfl) (fun w hSw => by simp only [List.getD_cons_succ, List.getD_cons_zero]; (try dsimp only at hSw); go_simp; try with_reducible rfl) ?_
        try simp only [List.getD_cons_succ, List.getD_cons_zero, Act.put, List.setIfInBounds_toArray, List.set_cons_zero, List.set_cons_succ]
        refine wpAnyT_takeC' 2 (by kernel_rfl) (fun _ _ _ h => h) (by assumption) (by rfl) (fun w hSw => by simp only [List.getD_cons_succ, List.getD_cons_zero]; (try dsimp only at hSw); go_simp; try with_reducible rfl) ?_
        try simp only [List.getD_cons_succ, List.getD_cons_zero, Act.put, List.setIfInBounds_toArray, List.set_cons_zero, List.set_cons_succ]
        refine wpAnyT_takeC' 3 (by kernel_rfl) (fun _ _ _ h => h) (by assumption) (by rfl) (fun w hSw => by simp only [List.getD_cons_succ, List.getD_cons_zero]; (try dsimp only at hSw); go_simp; try with_reducible rfl) ?_
        try simp only [List.getD_cons_succ, List.getD_cons_zero, Act.put, List.setIfInBounds_toArray, List.set_cons_zero, List.set_cons_succ]
        refine wpAnyT_takeC' 4 (by kernel_rfl) (fun _ _ _ h => h) (by assumption) (by rfl) (fun w hSw => by simp only [List.getD_cons_succ, List.getD_cons_zero]; (try dsimp only at hSw); go_simp; try with_reducible rfl) ?_
        try simp only [List.getD_cons_succ, List.getD_cons_zero, Act.put, List.setIfInBounds_toArray, List.set_cons_zero, List.set_cons_succ]
        refine wpAnyT_takeC' 5 (by kernel_rfl) (fun _ _ _ h => h) (by assumption) (by rfl) (fun w hSw => by simp only [List.getD_cons_succ, List.getD_cons_zero]; (try dsimp only at hSw); go_simp; try with_reducible rfl) ?_
        try simp only [List.getD_cons_succ, List.getD_cons_zero, Act.put, List.setIfInBounds_toArray, List.set_cons_zero, List.set_cons_succ]
        refine wpAnyT_takeC' 6 (by kernel_rfl) (fun _ _ _ h => h) (by assumption) (by rfl) (fun w hSw => by simp only [List.getD_cons_succ, List.getD_cons_zero]; (try dsimp only at hSw); go_simp; try with_reducible rfl) ?_
        try simp only [List.getD_cons_succ, List.getD_cons_zero, Act.put, List.setIfInBounds_toArray, List.set_cons_zero, List.set_cons_succ]
        refine wpAnyT_takeC' 7 (by kernel_rfl) (fun _ _ _ h => h) (by assumption) (by rfl) (fun w hSw => by simp only [List.getD_cons_succ, List.getD_cons_zero]; (try dsimp only at hSw); go_simp; try with_reducible rfl) ?_
        try simp only [List.getD_cons_succ, List.getD_cons_zero, Act.put, List.setIfInBounds_toArray, List.set_cons_zero, List.set_cons_succ]
        refine wpAnyT_one' 8 (by kernel_rfl) (by rfl) (fun K hK => ?_)
        simp only [List.getD_cons_succ, List.getD_cons_zero]
        go_simp
        refine (hr2.out _ ((Fr.refl _ _).drew) kk oo nn vv).mono ?_
        rintro e W2 ⟨u, S2, ds2, xs2, rfl, k2, o2, f2, g2, gs2, ap2, hl2⟩
        obtain ⟨ua, uc, rfl⟩ := o2.val
        go_wp2_with fail
        have k1 := HKa.out.fr0 (Fr.refl [] W1).drew
        obtain ⟨n3, n4, n34⟩ := HKa.out.far (show o < 2 by omega)
        have n9 : wr.heap.size ∉ r o :: ds o := fun hm => by have := hlr.out _ hm; omega
        have a4' := k1.a4.fr f2 n4
        have B9 := hB.out.drew.fr f2 n9
        have hC2 : W2.cell? ⟨A3, o, none⟩ = some (.pointer (some ⟨r o, 0, none⟩)) ∧ W2.cell? ⟨A3 + 1, o, none⟩ = some (v o) ∧ W2.cell? ⟨wr.heap.size, 0, none⟩ = some (.int .i64 kk) ∧ W2.cell? ⟨wr.heap.size, 1, none⟩ = some (.int .i64 oo) ∧ W2.cell? ⟨wr.heap.size, 2, none⟩ = some (.int .i64 nn) ∧ W2.cell? ⟨wr.heap.size, 3, none⟩ = some (.int .i64 vv) :=
          ⟨(f2.cell (p := ⟨A3, o, none⟩) k1.a3.lt n3).trans c3, (f2.cell (p := ⟨A3 + 1, o, none⟩) k1.a4.lt n4).trans c4, B9.cell 0, B9.cell 1, B9.cell 2, B9.cell 3⟩
        have K3 := Lib.hid (k1.did (show o < 2 by omega) k2 o2 f2 g2 gs2 ap2)
        have B3 := Lib.hid (B9.other (p := ⟨A3 + 1, o, none⟩) (.slice ua xs2.length uc) (by have := hlA.out; simp; omega))
        have q4 := a4'.frz o
        have e4 := hC2.2.1
        have hx3 : ∀ o', o' < 2 → ((upd xs o xs2) o').length ≤ 3 * (j + 1) := fun o' ho' => by
          have := hxl o' ho'
          have := hxl o (by omega)
          unfold upd
          split <;> omega
        have hr3 : rows.length ≤ 2 * (j + 1) := by omega
        refine hK.out _ _ hC2 ?_
        clear hK k1 k2 o2 f2 g2 gs2 ap2 a4' B9
        try simp only [Act.put, List.setIfInBounds_toArray, List.set_cons_zero, List.set_cons_succ]
        refine wpAnyT_takeP' 9 (by kernel_rfl) (fun _ _ _ h => h) (by assumption) (by rfl) (fun w => by simp only [List.getD_cons_succ, List.getD_cons_zero]; go_simp; try with_reducible rfl) ?_
        try simp only [List.getD_cons_succ, List.getD_cons_zero, Act.put, List.setIfInBounds_toArray, List.set_cons_zero, List.set_cons_succ]
        refine wpAnyT_takeP' 10 (by kernel_rfl) (fun _ _ _ h => h) (by assumption) (by rfl) (fun w => by simp only [List.getD_cons_succ, List.getD_cons_zero]; go_simp; try with_reducible rfl) ?_
        try simp only [List.getD_cons_succ, List.getD_cons_zero, Act.put, List.setIfInBounds_toArray, List.set_cons_zero, List.set_cons_succ]
        refine wpAnyT_takeP' 11 (by kernel_rfl) (fun _ _ _ h => h) (by assumption) (by rfl) (fun w => by simp only [List.getD_cons_succ, List.getD_cons_zero]; go_simp; try with_reducible rfl) ?_
        try simp only [List.getD_cons_succ, List.getD_cons_zero, Act.put, List.setIfInBounds_toArray, List.set_cons_zero, List.set_cons_succ]
        refine wpAnyT_takeC' 12 (by kernel_rfl) (fun _ _ _ h => h) (by assumption) (by rfl) (fun w hSw => by simp only [List.getD_cons_succ, List.getD_cons_zero]; (try dsimp only at hSw); go_simp; try with_reducible rfl) ?_
        try simp only [List.getD_cons_succ, List.getD_cons_zero, Act.put, List.setIfInBounds_toArray, List.set_cons_zero, List.set_cons_succ]
        refine wpAnyT_last 13 rfl (by kernel_rfl) ?_
        simp only [List.drop_succ_cons, List.drop_zero]
        go_wp2
        rw [onlyN_normal]
        obtain ⟨W3, hW3⟩ : ∃ W3, W2.setCell ⟨A3 + 1, o, none⟩ (.slice ua xs2.length uc) = W3 := ⟨_, rfl⟩
        obtain ⟨ds3, hds3⟩ : ∃ ds3, upd ds o ds2 = ds3 := ⟨_, rfl⟩
        obtain ⟨xs3, hxs3⟩ : ∃ xs3, upd xs o xs2 = xs3 := ⟨_, rfl⟩
        obtain ⟨v3, hv3⟩ : ∃ v3, upd v o (.slice ua xs2.length uc) = v3 := ⟨_, rfl⟩
        obtain ⟨S3, hS3⟩ : ∃ S3, upd S o S2 = S3 := ⟨_, rfl⟩
        rw [hW3] at K3 B3 ⊢
        rw [hds3, hxs3, hv3, hS3] at K3
        rw [hxs3] at hx3
        clear hW3 hds3 hxs3 hv3 hS3 hC2 q4 e4 hC hdo hran n3 n4 n34 n9
        clear c3 c4 d0 d1 d2 d3 y0 y1 y2 y3
        clear hr2
        -- the tail
        obtain ⟨p, hp⟩ : ∃ p, p = 1 - o := ⟨_, rfl⟩
        have hpl : p < 2 := by omega
        have hw1 : IntKind.i64.wrap (1 - (o : Int)) = (p : Int) := by rw [IntKind.wrap_i64]; omega
        have hp3 : (p : Int) < 2 := by omega
        have hq2 : 1 - o = p := hp.symm
        clear hp
        obtain ⟨t3, t4⟩ := K3.out.cells (show o < 2 by omega)
        obtain ⟨t5, t6⟩ := K3.out.cells (show p < 2 by omega)
        have t2 := B3.out.cell 2
        simp only [List.getElem?_cons_zero, List.getElem?_cons_succ] at t2
        have he1 := Lib.hid (fun X (f : Fr [] W3 X) => ends_ok ((K3.out.ring o (by omega)).fr f (by simp)) ((K3.out.list o (by omega)).fr f (by simp)) (by have := hx3 o (by omega); omega) nn)
        have he2 := Lib.hid (fun X (f : Fr [] W3 X) => ends_ok ((K3.out.ring p (by omega)).fr f (by simp)) ((K3.out.list p (by omega)).fr f (by simp)) (by have := hx3 p (by omega); omega) 0)
        gi_wp2_with fail
        refine wpIn_wide.2 ?_
        have hS0 : W3.drew.cell? ⟨A3, o, none⟩ = some (.pointer (some ⟨r o, 0, none⟩)) ∧ W3.drew.cell? ⟨A3 + 1, o, none⟩ = some (v3 o) ∧ W3.drew.cell? ⟨A3, p, none⟩ = some (.pointer (some ⟨r p, 0, none⟩)) ∧ W3.drew.cell? ⟨A3 + 1, p, none⟩ = some (v3 p) ∧ W3.drew.cell? ⟨wr.heap.size, 2, none⟩ = some (.int .i64 nn) ∧ Fr [] W3 W3.drew := ⟨t3, t4, t5, t6, t2, (Fr.refl _ _).drew⟩
        have hkeep : Hid (∀ X Y, (X.cell? ⟨A3, o, none⟩ = some (.pointer (some ⟨r o, 0, none⟩)) ∧ X.cell? ⟨A3 + 1, o, none⟩ = some (v3 o) ∧ X.cell? ⟨A3, p, none⟩ = some (.pointer (some ⟨r p, 0, none⟩)) ∧ X.cell? ⟨A3 + 1, p, none⟩ = some (v3 p) ∧ X.cell? ⟨wr.heap.size, 2, none⟩ = some (.int .i64 nn) ∧ Fr [] W3 X) → Fr [] X Y →
            (Y.cell? ⟨A3, o, none⟩ = some (.pointer (some ⟨r o, 0, none⟩)) ∧ Y.cell? ⟨A3 + 1, o, none⟩ = some (v3 o) ∧ Y.cell? ⟨A3, p, none⟩ = some (.pointer (some ⟨r p, 0, none⟩)) ∧ Y.cell? ⟨A3 + 1, p, none⟩ = some (v3 p) ∧ Y.cell? ⟨wr.heap.size, 2, none⟩ = some (.int .i64 nn) ∧ Fr [] W3 Y)) := by
          rintro X Y ⟨h1, h2, h3, h4, h5, h6⟩ f
          exact ⟨(f.cell (World.block_lt_of_cell? _ _ h1) (by simp)).trans h1, (f.cell (World.block_lt_of_cell? _ _ h2) (by simp)).trans h2, (f.cell (World.block_lt_of_cell? _ _ h3) (by simp)).trans h3, (f.cell (World.block_lt_of_cell? _ _ h4) (by simp)).trans h4, (f.cell (World.block_lt_of_cell? _ _ h5) (by simp)).trans h5, h6.trans' f⟩
        refine wp_T [] (fun w' => w'.cell? ⟨A3, o, none⟩ = some (.pointer (some ⟨r o, 0, none⟩)) ∧ w'.cell? ⟨A3 + 1, o, none⟩ = some (v3 o) ∧ w'.cell? ⟨A3, p, none⟩ = some (.pointer (some ⟨r p, 0, none⟩)) ∧ w'.cell? ⟨A3 + 1, p, none⟩ = some (v3 p) ∧ w'.cell? ⟨wr.heap.size, 2, none⟩ = some (.int .i64 nn) ∧ Fr [] W3 w') (by kernel_rfl) (fun hC => ?_) hS0
        refine wpAnyT_takeC' 0 (by kernel_rfl) (fun _ _ _ h => h) (by assumption) (by rfl) (fun w hSw => by simp only [List.getD_cons_succ, List.getD_cons_zero]; (try dsimp only at hSw); go_simp; try with_reducible rfl) ?_
        try simp only [List.getD_cons_succ, List.getD_cons_zero, Act.put, List.setIfInBounds_toArray, List.set_cons_zero, List.set_cons_succ]
        refine wpAnyT_takeC' 1 (by kernel_rfl) (fun _ _ _ h => h) (by assumption) (by rfl) (fun w hSw => by simp only [List.getD_cons_succ, List.getD_cons_zero]; (try dsimp only at hSw); go_simp; try with_reducible rfl) ?_
        try simp only [List.getD_cons_succ, List.getD_cons_zero, Act.put, List.setIfInBounds_toArray, List.set_cons_zero, List.set_cons_succ]
        refine wpAnyT_takeC' 2 (by kernel_rfl) (fun _ _ _ h => h) (by assumption) (by rfl) (fun w hSw => by simp only [List.getD_cons_succ, List.getD_cons_zero]; (try dsimp only at hSw); go_simp; try with_reducible rfl) ?_
        try simp only [List.getD_cons_succ, List.getD_cons_zero, Act.put, List.setIfInBounds_toArray, List.set_cons_zero, List.set_cons_succ]
        refine wpAnyT_takeC' 3 (by kernel_rfl) (fun _ _ _ h => h) (by assumption) (by rfl) (fun w hSw => by simp only [List.getD_cons_succ, List.getD_cons_zero]; (try dsimp only at hSw); go_simp; try with_reducible rfl) ?_
        try simp only [List.getD_cons_succ, List.getD_cons_zero, Act.put, List.setIfInBounds_toArray, List.set_cons_zero, List.set_cons_succ]
        refine wpAnyT_takeC' 4 (by kernel_rfl) (fun _ _ _ h => h) (by assumption) (by rfl) (fun w hSw => by simp only [List.getD_cons_succ, List.getD_cons_zero]; (try dsimp only at hSw); go_simp; try with_reducible rfl) ?_
        try simp only [List.getD_cons_succ, List.getD_cons_zero, Act.put, List.setIfInBounds_toArray, List.set_cons_zero, List.set_cons_succ]
        refine wpAnyT_takeC' 5 (by kernel_rfl) (fun _ _ _ h => h) (by assumption) (by rfl) (fun w hSw => by simp only [List.getD_cons_succ, List.getD_cons_zero]; (try dsimp only at hSw); go_simp; try with_reducible rfl) ?_
        try simp only [List.getD_cons_succ, List.getD_cons_zero, Act.put, List.setIfInBounds_toArray, List.set_cons_zero, List.set_cons_succ]
        refine wpAnyT_takeC' 6 (by kernel_rfl) (fun _ _ _ h => h) (by assumption) (by rfl) (fun w hSw => by simp only [List.getD_cons_succ, List.getD_cons_zero]; (try dsimp only at hSw); go_simp; try with_reducible rfl) ?_
        try simp only [List.getD_cons_succ, List.getD_cons_zero, Act.put, List.setIfInBounds_toArray, List.set_cons_zero, List.set_cons_succ]
        refine wpAnyT_takeC' 7 (by kernel_rfl) (fun _ _ _ h => h) (by assumption) (by rfl) (fun w hSw => by simp only [List.getD_cons_succ, List.getD_cons_zero]; (try dsimp only at hSw); go_simp; try with_reducible rfl) ?_
        try simp only [List.getD_cons_succ, List.getD_cons_zero, Act.put, List.setIfInBounds_toArray, List.set_cons_zero, List.set_cons_succ]
        refine wpAnyT_takeC' 8 (by kernel_rfl) (fun _ _ _ h => h) (by assumption) (by rfl) (fun w hSw => by simp only [List.getD_cons_succ, List.getD_cons_zero]; (try dsimp only at hSw); go_simp; try with_reducible rfl) ?_
        try simp only [List.getD_cons_succ, List.getD_cons_zero, Act.put, List.setIfInBounds_toArray, List.set_cons_zero, List.set_cons_succ]
        refine wpAnyT_takeC' 9 (by kernel_rfl) (fun _ _ _ h => h) (by assumption) (by rfl) (fun w hSw => by simp only [List.getD_cons_succ, List.getD_cons_zero]; (try dsimp only at hSw); go_simp; try with_reducible rfl) ?_
        try simp only [List.getD_cons_succ, List.getD_cons_zero, Act.put, List.setIfInBounds_toArray, List.set_cons_zero, List.set_cons_succ]
        refine wpAnyT_takeC' 10 (by kernel_rfl) (fun _ _ _ h => h) (by assumption) (by rfl) (fun w hSw => by simp only [List.getD_cons_succ, List.getD_cons_zero]; (try dsimp only at hSw); go_simp; try with_reducible rfl) ?_
        try simp only [List.getD_cons_succ, List.getD_cons_zero, Act.put, List.setIfInBounds_toArray, List.set_cons_zero, List.set_cons_succ]
        refine wpAnyT_one' 11 (by kernel_rfl) (by rfl) (fun K hK => ?_)
        simp only [List.getD_cons_succ, List.getD_cons_zero]
        go_simp
        refine (he1.out _ ((Fr.refl _ _).drew)).mono ?_
        rintro e W6 ⟨rfl, f6⟩
        go_wp2_with fail
        refine hK.out _ _ (hkeep.out _ _ hC f6) ?_
        have hC3 := hkeep.out _ _ hC f6
        clear hK hC
        try simp only [Act.put, List.setIfInBounds_toArray, List.set_cons_zero, List.set_cons_succ]
        refine wpAnyT_takeC' 12 (by kernel_rfl) (fun _ _ _ h => h) (by assumption) (by rfl) (fun w hSw => by simp only [List.getD_cons_succ, List.getD_cons_zero]; (try dsimp only at hSw); go_simp; try with_reducible rfl) ?_
        try simp only [List.getD_cons_succ, List.getD_cons_zero, Act.put, List.setIfInBounds_toArray, List.set_cons_zero, List.set_cons_succ]
        refine wpAnyT_takeC' 13 (by kernel_rfl) (fun _ _ _ h => h) (by assumption) (by rfl) (fun w hSw => by simp only [List.getD_cons_succ, List.getD_cons_zero]; (try dsimp only at hSw); go_simp; try with_reducible rfl) ?_
        try simp only [List.getD_cons_succ, List.getD_cons_zero, Act.put, List.setIfInBounds_toArray, List.set_cons_zero, List.set_cons_succ]
        refine wpAnyT_takeC' 14 (by kernel_rfl) (fun _ _ _ h => h) (by assumption) (by rfl) (fun w hSw => by simp only [List.getD_cons_succ, List.getD_cons_zero]; (try dsimp only at hSw); go_simp; try with_reducible rfl) ?_
        try simp only [List.getD_cons_succ, List.getD_cons_zero, Act.put, List.setIfInBounds_toArray, List.set_cons_zero, List.set_cons_succ]
        refine wpAnyT_takeC' 15 (by kernel_rfl) (fun _ _ _ h => h) (by assumption) (by rfl) (fun w hSw => by simp only [List.getD_cons_succ, List.getD_cons_zero]; (try dsimp only at hSw); go_simp; try with_reducible rfl) ?_
        try simp only [List.getD_cons_succ, List.getD_cons_zero, Act.put, List.setIfInBounds_toArray, List.set_cons_zero, List.set_cons_succ]
        refine wpAnyT_takeP' 16 (v := .int .i64 p) (by kernel_rfl) (fun _ _ _ h => h) (by assumption) (by rfl) (fun w => by simp only [List.getD_cons_succ, List.getD_cons_zero]; clear hq2 hpl hp3; go_simp) ?_
        try simp only [List.getD_cons_succ, List.getD_cons_zero, Act.put, List.setIfInBounds_toArray, List.set_cons_zero, List.set_cons_succ]
        refine wpAnyT_takeC' 17 (by kernel_rfl) (fun _ _ _ h => h) (by assumption) (by rfl) (fun w hSw => by simp only [List.getD_cons_succ, List.getD_cons_zero]; (try dsimp only at hSw); go_simp; try with_reducible rfl) ?_
        try simp only [List.getD_cons_succ, List.getD_cons_zero, Act.put, List.setIfInBounds_toArray, List.set_cons_zero, List.set_cons_succ]
        refine wpAnyT_takeC' 18 (by kernel_rfl) (fun _ _ _ h => h) (by assumption) (by rfl) (fun w hSw => by simp only [List.getD_cons_succ, List.getD_cons_zero]; (try dsimp only at hSw); go_simp; try with_reducible rfl) ?_
        try simp only [List.getD_cons_succ, List.getD_cons_zero, Act.put, List.setIfInBounds_toArray, List.set_cons_zero, List.set_cons_succ]
        refine wpAnyT_takeC' 19 (by kernel_rfl) (fun _ _ _ h => h) (by assumption) (by rfl) (fun w hSw => by simp only [List.getD_cons_succ, List.getD_cons_zero]; (try dsimp only at hSw); go_simp; try with_reducible rfl) ?_
        try simp only [List.getD_cons_succ, List.getD_cons_zero, Act.put, List.setIfInBounds_toArray, List.set_cons_zero, List.set_cons_succ]
        refine wpAnyT_takeP' 20 (v := .int .i64 p) (by kernel_rfl) (fun _ _ _ h => h) (by assumption) (by rfl) (fun w => by simp only [List.getD_cons_succ, List.getD_cons_zero]; clear hq2 hpl hp3; go_simp) ?_
        try simp only [List.getD_cons_succ, List.getD_cons_zero, Act.put, List.setIfInBounds_toArray, List.set_cons_zero, List.set_cons_succ]
        refine wpAnyT_takeC' 21 (by kernel_rfl) (fun _ _ _ h => h) (by assumption) (by rfl) (fun w hSw => by simp only [List.getD_cons_succ, List.getD_cons_zero]; (try dsimp only at hSw); go_simp; try with_reducible rfl) ?_
        try simp only [List.getD_cons_succ, List.getD_cons_zero, Act.put, List.setIfInBounds_toArray, List.set_cons_zero, List.set_cons_succ]
        refine wpAnyT_takeC' 22 (by kernel_rfl) (fun _ _ _ h => h) (by assumption) (by rfl) (fun w hSw => by simp only [List.getD_cons_succ, List.getD_cons_zero]; (try dsimp only at hSw); go_simp; try with_reducible rfl) ?_
        try simp only [List.getD_cons_succ, List.getD_cons_zero, Act.put, List.setIfInBounds_toArray, List.set_cons_zero, List.set_cons_succ]
        refine wpAnyT_one' 23 (by kernel_rfl) (by rfl) (fun K hK => ?_)
        simp only [List.getD_cons_succ, List.getD_cons_zero]
        go_simp
        refine (he2.out _ hC3.2.2.2.2.2).mono ?_
        rintro e W7 ⟨rfl, f7⟩
        go_wp2_with fail
        have hC4 := hkeep.out _ _ hC3 f7
        refine hK.out _ _ hC4 ?_
        clear hK hC3
        try simp only [Act.put, List.setIfInBounds_toArray, List.set_cons_zero, List.set_cons_succ]
        refine wpAnyT_takeC' 24 (by kernel_rfl) (fun _ _ _ h => h) (by assumption) (by rfl) (fun w hSw => by simp only [List.getD_cons_succ, List.getD_cons_zero]; (try dsimp only at hSw); go_simp; try with_reducible rfl) ?_
        try simp only [List.getD_cons_succ, List.getD_cons_zero, Act.put, List.setIfInBounds_toArray, List.set_cons_zero, List.set_cons_succ]
        refine wpAnyT_takeC' 25 (by kernel_rfl) (fun _ _ _ h => h) (by assumption) (by rfl) (fun w hSw => by simp only [List.getD_cons_succ, List.getD_cons_zero]; (try dsimp only at hSw); go_simp; try with_reducible rfl) ?_
        try simp only [List.getD_cons_succ, List.getD_cons_zero, Act.put, List.setIfInBounds_toArray, List.set_cons_zero, List.set_cons_succ]
        refine wpAnyT_done (by kernel_rfl) ?_ _
        rw [onlyN_normal]
        have K7 := Lib.hid (K3.out.fr0 hC4.2.2.2.2.2)
        gi_wp2_with fail
        gi_roundg (gk - 1)
        case measure => omega
        case rel => exact ⟨j + 1, _, _, _, _, _, _, _, _, _, by omega, by omega, by omega, by go_num, rfl, rfl, rfl, hx3, hr3, K7⟩
    · -- All's answer is kept
      as_aux_lemma =>
        clear hdo hran
        gi_wp2_with (gi_at_call 27; refine (wideIn _ (all_i _ (r o))).mono ?_; rintro e w' ⟨rfl, rfl⟩)
        have K3 := Lib.hid (HKa.out.held (o := o) (hb' := W1.heap.size) (by omega) ((Fr.refl [] W1).alloc (.cells #[.pointer (some ⟨r o, 0, none⟩)] 47)) (Nat.le_refl _) (by simp))
        have B3 := Lib.hid (hB.out.alloc (.cells #[.pointer (some ⟨r o, 0, none⟩)] 47))
        have hx3 : ∀ o', o' < 2 → (xs o').length ≤ 3 * (j + 1) := fun o' ho' => by have := hxl o' ho'; omega
        have hr3 : rows.length ≤ 2 * (j + 1) := by omega
        obtain ⟨W3, hW3⟩ : ∃ W3, W1.alloc (.cells #[.pointer (some ⟨r o, 0, none⟩)] 47) = W3 := ⟨_, rfl⟩
        rw [hW3] at K3 B3 ⊢
        obtain ⟨v3, hv3⟩ : ∃ v3, v = v3 := ⟨_, rfl⟩
        rw [hv3] at K3
        clear hW3 hv3
        clear c3 c4 d0 d1 d2 d3 y0 y1 y2 y3
        -- the tail
        obtain ⟨p, hp⟩ : ∃ p, p = 1 - o := ⟨_, rfl⟩
        have hpl : p < 2 := by omega
        have hw1 : IntKind.i64.wrap (1 - (o : Int)) = (p : Int) := by rw [IntKind.wrap_i64]; omega
        have hp3 : (p : Int) < 2 := by omega
        have hq2 : 1 - o = p := hp.symm
        clear hp
        obtain ⟨t3, t4⟩ := K3.out.cells (show o < 2 by omega)
        obtain ⟨t5, t6⟩ := K3.out.cells (show p < 2 by omega)
        have t2 := B3.out.cell 2
        simp only [List.getElem?_cons_zero, List.getElem?_cons_succ] at t2
        have he1 := Lib.hid (fun X (f : Fr [] W3 X) => ends_ok ((K3.out.ring o (by omega)).fr f (by simp)) ((K3.out.list o (by omega)).fr f (by simp)) (by have := hx3 o (by omega); omega) nn)
        have he2 := Lib.hid (fun X (f : Fr [] W3 X) => ends_ok ((K3.out.ring p (by omega)).fr f (by simp)) ((K3.out.list p (by omega)).fr f (by simp)) (by have := hx3 p (by omega); omega) 0)
        gi_wp2_with fail
        refine wpIn_wide.2 ?_
        have hS0 : W3.drew.cell? ⟨A3, o, none⟩ = some (.pointer (some ⟨r o, 0, none⟩)) ∧ W3.drew.cell? ⟨A3 + 1, o, none⟩ = some (v3 o) ∧ W3.drew.cell? ⟨A3, p, none⟩ = some (.pointer (some ⟨r p, 0, none⟩)) ∧ W3.drew.cell? ⟨A3 + 1, p, none⟩ = some (v3 p) ∧ W3.drew.cell? ⟨wr.heap.size, 2, none⟩ = some (.int .i64 nn) ∧ Fr [] W3 W3.drew := ⟨t3, t4, t5, t6, t2, (Fr.refl _ _).drew⟩
        have hkeep : Hid (∀ X Y, (X.cell? ⟨A3, o, none⟩ = some (.pointer (some ⟨r o, 0, none⟩)) ∧ X.cell? ⟨A3 + 1, o, none⟩ = some (v3 o) ∧ X.cell? ⟨A3, p, none⟩ = some (.pointer (some ⟨r p, 0, none⟩)) ∧ X.cell? ⟨A3 + 1, p, none⟩ = some (v3 p) ∧ X.cell? ⟨wr.heap.size, 2, none⟩ = some (.int .i64 nn) ∧ Fr [] W3 X) → Fr [] X Y →
            (Y.cell? ⟨A3, o, none⟩ = some (.pointer (some ⟨r o, 0, none⟩)) ∧ Y.cell? ⟨A3 + 1, o, none⟩ = some (v3 o) ∧ Y.cell? ⟨A3, p, none⟩ = some (.pointer (some ⟨r p, 0, none⟩)) ∧ Y.cell? ⟨A3 + 1, p, none⟩ = some (v3 p) ∧ Y.cell? ⟨wr.heap.size, 2, none⟩ = some (.int .i64 nn) ∧ Fr [] W3 Y)) := by
          rintro X Y ⟨h1, h2, h3, h4, h5, h6⟩ f
          exact ⟨(f.cell (World.block_lt_of_cell? _ _ h1) (by simp)).trans h1, (f.cell (World.block_lt_of_cell? _ _ h2) (by simp)).trans h2, (f.cell (World.block_lt_of_cell? _ _ h3) (by simp)).trans h3, (f.cell (World.block_lt_of_cell? _ _ h4) (by simp)).trans h4, (f.cell (World.block_lt_of_cell? _ _ h5) (by simp)).trans h5, h6.trans' f⟩
        refine wp_T [] (fun w' => w'.cell? ⟨A3, o, none⟩ = some (.pointer (some ⟨r o, 0, none⟩)) ∧ w'.cell? ⟨A3 + 1, o, none⟩ = some (v3 o) ∧ w'.cell? ⟨A3, p, none⟩ = some (.pointer (some ⟨r p, 0, none⟩)) ∧ w'.cell? ⟨A3 + 1, p, none⟩ = some (v3 p) ∧ w'.cell? ⟨wr.heap.size, 2, none⟩ = some (.int .i64 nn) ∧ Fr [] W3 w') (by kernel_rfl) (fun hC => ?_) hS0
        refine wpAnyT_takeC' 0 (by kernel_rfl) (fun _ _ _ h => h) (by assumption) (by rfl) (fun w hSw => by simp only [List.getD_cons_succ, List.getD_cons_zero]; (try dsimp only at hSw); go_simp; try with_reducible rfl) ?_
        try simp only [List.getD_cons_succ, List.getD_cons_zero, Act.put, List.setIfInBounds_toArray, List.set_cons_zero, List.set_cons_succ]
        refine wpAnyT_takeC' 1 (by kernel_rfl) (fun _ _ _ h => h) (by assumption) (by rfl) (fun w hSw => by simp only [List.getD_cons_succ, List.getD_cons_zero]; (try dsimp only at hSw); go_simp; try with_reducible rfl) ?_
        try simp only [List.getD_cons_succ, List.getD_cons_zero, Act.put, List.setIfInBounds_toArray, List.set_cons_zero, List.set_cons_succ]
        refine wpAnyT_takeC' 2 (by kernel_rfl) (fun _ _ _ h => h) (by assumption) (by rfl) (fun w hSw => by simp only [List.getD_cons_succ, List.getD_cons_zero]; (try dsimp only at hSw); go_simp; try with_reducible rfl) ?_
        try simp only [List.getD_cons_succ, List.getD_cons_zero, Act.put, List.setIfInBounds_toArray, List.set_cons_zero, List.set_cons_succ]
        refine wpAnyT_takeC' 3 (by kernel_rfl) (fun _ _ _ h => h) (by assumption) (by rfl) (fun w hSw => by simp only [List.getD_cons_succ, List.getD_cons_zero]; (try dsimp only at hSw); go_simp; try with_reducible rfl) ?_
        try simp only [List.getD_cons_succ, List.getD_cons_zero, Act.put, List.setIfInBounds_toArray, List.set_cons_zero, List.set_cons_succ]
        refine wpAnyT_takeC' 4 (by kernel_rfl) (fun _ _ _ h => h) (by assumption) (by rfl) (fun w hSw => by simp only [List.getD_cons_succ, List.getD_cons_zero]; (try dsimp only at hSw); go_simp; try with_reducible rfl) ?_
        try simp only [List.getD_cons_succ, List.getD_cons_zero, Act.put, List.setIfInBounds_toArray, List.set_cons_zero, List.set_cons_succ]
        refine wpAnyT_takeC' 5 (by kernel_rfl) (fun _ _ _ h => h) (by assumption) (by rfl) (fun w hSw => by simp only [List.getD_cons_succ, List.getD_cons_zero]; (try dsimp only at hSw); go_simp; try with_reducible rfl) ?_
        try simp only [List.getD_cons_succ, List.getD_cons_zero, Act.put, List.setIfInBounds_toArray, List.set_cons_zero, List.set_cons_succ]
        refine wpAnyT_takeC' 6 (by kernel_rfl) (fun _ _ _ h => h) (by assumption) (by rfl) (fun w hSw => by simp only [List.getD_cons_succ, List.getD_cons_zero]; (try dsimp only at hSw); go_simp; try with_reducible rfl) ?_
        try simp only [List.getD_cons_succ, List.getD_cons_zero, Act.put, List.setIfInBounds_toArray, List.set_cons_zero, List.set_cons_succ]
        refine wpAnyT_takeC' 7 (by kernel_rfl) (fun _ _ _ h => h) (by assumption) (by rfl) (fun w hSw => by simp only [List.getD_cons_succ, List.getD_cons_zero]; (try dsimp only at hSw); go_simp; try with_reducible rfl) ?_
        try simp only [List.getD_cons_succ, List.getD_cons_zero, Act.put, List.setIfInBounds_toArray, List.set_cons_zero, List.set_cons_succ]
        refine wpAnyT_takeC' 8 (by kernel_rfl) (fun _ _ _ h => h) (by assumption) (by rfl) (fun w hSw => by simp only [List.getD_cons_succ, List.getD_cons_zero]; (try dsimp only at hSw); go_simp; try with_reducible rfl) ?_
        try simp only [List.getD_cons_succ, List.getD_cons_zero, Act.put, List.setIfInBounds_toArray, List.set_cons_zero, List.set_cons_succ]
        refine wpAnyT_takeC' 9 (by kernel_rfl) (fun _ _ _ h => h) (by assumption) (by rfl) (fun w hSw => by simp only [List.getD_cons_succ, List.getD_cons_zero]; (try dsimp only at hSw); go_simp; try with_reducible rfl) ?_
        try simp only [List.getD_cons_succ, List.getD_cons_zero, Act.put, List.setIfInBounds_toArray, List.set_cons_zero, List.set_cons_succ]
        refine wpAnyT_takeC' 10 (by kernel_rfl) (fun _ _ _ h => h) (by assumption) (by rfl) (fun w hSw => by simp only [List.getD_cons_succ, List.getD_cons_zero]; (try dsimp only at hSw); go_simp; try with_reducible rfl) ?_
        try simp only [List.getD_cons_succ, List.getD_cons_zero, Act.put, List.setIfInBounds_toArray, List.set_cons_zero, List.set_cons_succ]
        refine wpAnyT_one' 11 (by kernel_rfl) (by rfl) (fun K hK => ?_)
        simp only [List.getD_cons_succ, List.getD_cons_zero]
        go_simp
        refine (he1.out _ ((Fr.refl _ _).drew)).mono ?_
        rintro e W6 ⟨rfl, f6⟩
        go_wp2_with fail
        refine hK.out _ _ (hkeep.out _ _ hC f6) ?_
        have hC3 := hkeep.out _ _ hC f6
        clear hK hC
        try simp only [Act.put, List.setIfInBounds_toArray, List.set_cons_zero, List.set_cons_succ]
        refine wpAnyT_takeC' 12 (by kernel_rfl) (fun _ _ _ h => h) (by assumption) (by rfl) (fun w hSw => by simp only [List.getD_cons_succ, List.getD_cons_zero]; (try dsimp only at hSw); go_simp; try with_reducible rfl) ?_
        try simp only [List.getD_cons_succ, List.getD_cons_zero, Act.put, List.setIfInBounds_toArray, List.set_cons_zero, List.set_cons_succ]
        refine wpAnyT_takeC' 13 (by kernel_rfl) (fun _ _ _ h => h) (by assumption) (by rfl) (fun w hSw => by simp only [List.getD_cons_succ, List.getD_cons_zero]; (try dsimp only at hSw); go_simp; try with_reducible rfl) ?_
        try simp only [List.getD_cons_succ, List.getD_cons_zero, Act.put, List.setIfInBounds_toArray, List.set_cons_zero, List.set_cons_succ]
        refine wpAnyT_takeC' 14 (by kernel_rfl) (fun _ _ _ h => h) (by assumption) (by rfl) (fun w hSw => by simp only [List.getD_cons_succ, List.getD_cons_zero]; (try dsimp only at hSw); go_simp; try with_reducible rfl) ?_
        try simp only [List.getD_cons_succ, List.getD_cons_zero, Act.put, List.setIfInBounds_toArray, List.set_cons_zero, List.set_cons_succ]
        refine wpAnyT_takeC' 15 (by kernel_rfl) (fun _ _ _ h => h) (by assumption) (by rfl) (fun w hSw => by simp only [List.getD_cons_succ, List.getD_cons_zero]; (try dsimp only at hSw); go_simp; try with_reducible rfl) ?_
        try simp only [List.getD_cons_succ, List.getD_cons_zero, Act.put, List.setIfInBounds_toArray, List.set_cons_zero, List.set_cons_succ]
        refine wpAnyT_takeP' 16 (v := .int .i64 p) (by kernel_rfl) (fun _ _ _ h => h) (by assumption) (by rfl) (fun w => by simp only [List.getD_cons_succ, List.getD_cons_zero]; clear hq2 hpl hp3; go_simp) ?_
        try simp only [List.getD_cons_succ, List.getD_cons_zero, Act.put, List.setIfInBounds_toArray, List.set_cons_zero, List.set_cons_succ]
        refine wpAnyT_takeC' 17 (by kernel_rfl) (fun _ _ _ h => h) (by assumption) (by rfl) (fun w hSw => by simp only [List.getD_cons_succ, List.getD_cons_zero]; (try dsimp only at hSw); go_simp; try with_reducible rfl) ?_
        try simp only [List.getD_cons_succ, List.getD_cons_zero, Act.put, List.setIfInBounds_toArray, List.set_cons_zero, List.set_cons_succ]
        refine wpAnyT_takeC' 18 (by kernel_rfl) (fun _ _ _ h => h) (by assumption) (by rfl) (fun w hSw => by simp only [List.getD_cons_succ, List.getD_cons_zero]; (try dsimp only at hSw); go_simp; try with_reducible rfl) ?_
        try simp only [List.getD_cons_succ, List.getD_cons_zero, Act.put, List.setIfInBounds_toArray, List.set_cons_zero, List.set_cons_succ]
        refine wpAnyT_takeC' 19 (by kernel_rfl) (fun _ _ _ h => h) (by assumption) (by rfl) (fun w hSw => by simp only [List.getD_cons_succ, List.getD_cons_zero]; (try dsimp only at hSw); go_simp; try with_reducible rfl) ?_
        try simp only [List.getD_cons_succ, List.getD_cons_zero, Act.put, List.setIfInBounds_toArray, List.set_cons_zero, List.set_cons_succ]
        refine wpAnyT_takeP' 20 (v := .int .i64 p) (by kernel_rfl) (fun _ _ _ h => h) (by assumption) (by rfl) (fun w => by simp only [List.getD_cons_succ, List.getD_cons_zero]; clear hq2 hpl hp3; go_simp) ?_
        try simp only [List.getD_cons_succ, List.getD_cons_zero, Act.put, List.setIfInBounds_toArray, List.set_cons_zero, List.set_cons_succ]
        refine wpAnyT_takeC' 21 (by kernel_rfl) (fun _ _ _ h => h) (by assumption) (by rfl) (fun w hSw => by simp only [List.getD_cons_succ, List.getD_cons_zero]; (try dsimp only at hSw); go_simp; try with_reducible rfl) ?_
        try simp only [List.getD_cons_succ, List.getD_cons_zero, Act.put, List.setIfInBounds_toArray, List.set_cons_zero, List.set_cons_succ]
        refine wpAnyT_takeC' 22 (by kernel_rfl) (fun _ _ _ h => h) (by assumption) (by rfl) (fun w hSw => by simp only [List.getD_cons_succ, List.getD_cons_zero]; (try dsimp only at hSw); go_simp; try with_reducible rfl) ?_
        try simp only [List.getD_cons_succ, List.getD_cons_zero, Act.put, List.setIfInBounds_toArray, List.set_cons_zero, List.set_cons_succ]
        refine wpAnyT_one' 23 (by kernel_rfl) (by rfl) (fun K hK => ?_)
        simp only [List.getD_cons_succ, List.getD_cons_zero]
        go_simp
        refine (he2.out _ hC3.2.2.2.2.2).mono ?_
        rintro e W7 ⟨rfl, f7⟩
        go_wp2_with fail
        have hC4 := hkeep.out _ _ hC3 f7
        refine hK.out _ _ hC4 ?_
        clear hK hC3
        try simp only [Act.put, List.setIfInBounds_toArray, List.set_cons_zero, List.set_cons_succ]
        refine wpAnyT_takeC' 24 (by kernel_rfl) (fun _ _ _ h => h) (by assumption) (by rfl) (fun w hSw => by simp only [List.getD_cons_succ, List.getD_cons_zero]; (try dsimp only at hSw); go_simp; try with_reducible rfl) ?_
        try simp only [List.getD_cons_succ, List.getD_cons_zero, Act.put, List.setIfInBounds_toArray, List.set_cons_zero, List.set_cons_succ]
        refine wpAnyT_takeC' 25 (by kernel_rfl) (fun _ _ _ h => h) (by assumption) (by rfl) (fun w hSw => by simp only [List.getD_cons_succ, List.getD_cons_zero]; (try dsimp only at hSw); go_simp; try with_reducible rfl) ?_
        try simp only [List.getD_cons_succ, List.getD_cons_zero, Act.put, List.setIfInBounds_toArray, List.set_cons_zero, List.set_cons_succ]
        refine wpAnyT_done (by kernel_rfl) ?_ _
        rw [onlyN_normal]
        have K7 := Lib.hid (K3.out.fr0 hC4.2.2.2.2.2)
        gi_wp2_with fail
        gi_roundg (gk - 1)
        case measure => omega
        case rel => exact ⟨j + 1, _, _, _, _, _, _, _, _, _, by omega, by omega, by omega, by go_num, rfl, rfl, rfl, hx3, hr3, K7⟩
    · -- what was kept is ranged over
      as_aux_lemma =>
        clear hdo hran
        obtain ⟨i0, hi, hz0, hz1, hz2⟩ := info_parts infoi
        gi_wp2_with fail
        obtain ⟨kb, hkb⟩ : ∃ kb, W1.heap.size = kb := ⟨_, rfl⟩
        obtain ⟨W5', hW5⟩ : ∃ W5', W1.alloc (.cells #[.slice none 0 0] 22) = W5' := ⟨_, rfl⟩
        have f5 : Fr [] W1 W5' := by rw [← hW5]; exact (Fr.refl _ _).alloc _
        have B0 : Blk W5' kb 22 [.slice none 0 0] := by rw [← hW5, ← hkb]; exact Blk.new W1 _ [_]
        have z5 : W5'.heap.size = kb + 1 := by rw [← hW5, ← hkb]; simp
        have K5 := Lib.hid (HKa.out.fr0 f5)
        have B5 := Lib.hid (hB.out.fr f5 (by simp))
        have hlen : (xs of).length ≤ 900 := by have := hxl of HK.out.of2; omega
        have hof := HK.out.of2
        rw [hW5, hkb]
        have HKB := Lib.hid hkb
        clear hW5 hkb
        have hseq : SeqF Try.prog 66 #[.pointer (some ⟨hb, 0, none⟩)] enti (xs of).zipIdx W5' := seq_i (K5.out.ring of hof) K5.out.hold
        have hlocI : Loc W5'.heap.size (fun S (pre : List (Int × Nat)) W => ∃ v S1, S = kb :: S1 ∧ kb ∉ S1 ∧ Blk W kb 22 [v] ∧ OwnS W 3 1 v pre.length ((pre.map (·.1)).flatMap encI) S1) := by
          intro S pre A B T ⟨v, S1, hS, hn, hb, ho⟩ f ht
          subst hS
          exact ⟨v, S1, rfl, hn, hb.fr f (fun hm => (ht _ hm).2 (by simp)), ho.fr f (fun b hb hm => (ht _ hm).2 (by simp [hb]))⟩
        refine wp_rangeF1 (gf := 66) (lb := #[.pointer (some ⟨hb, 0, none⟩)]) rfl (enters_of Try.func66 (by kernel_rfl) rfl) hseq (fun _ => rfl)
          (fun S (pre : List (Int × Nat)) W => ∃ v S1, S = kb :: S1 ∧ kb ∉ S1 ∧ Blk W kb 22 [v] ∧ OwnS W 3 1 v pre.length ((pre.map (·.1)).flatMap encI) S1)
          (fun _ _ _ _ => False) [kb] (by simp; omega) hlocI (fun _ _ _ _ _ _ h _ _ => h) ⟨_, [], rfl, by simp, B0, OwnS.nil _ _ _⟩
          ?_ ?assignW ?bodyW ?doneW ?stopW
        case assignW =>
          intro l x W K hK
          simp only [enti]
          gi_wp2
          exact hK
        case stopW => intro _ _ _ _ _ _ _ _ _ _ _ _ h _; exact h.elim
        case bodyW =>
          rintro l pre x post S1' W hx hz hg hf hl hnl hr ⟨v, S2, rfl, hnS, hb, ho⟩
          have hpl : pre.length < (xs of).length := by
            have := congrArg List.length hx
            simp at this
            omega
          have hc0 : W.cell? ⟨kb, 0, none⟩ = some v := by simpa using hb.cell 0
          have hf0 := hb.frz 0
          have hlt := hb.lt
          clear hx hr
          gi_wp2_with (gi_at_builtin; refine wpListIn_append_S _ rfl (.tmp 88) (.tmp 90) 22 rfl 3 i0 (.int .i64 0) 1 8 Try.underlying22 hi hz0 hz1 hz2 rfl _ _ _ _ rfl ((ho.alloc _ : OwnS (W.alloc _) _ _ _ _ _ _)) ⟨W.heap.size, 0, none⟩ 1 1 [.int .i64 x.1] rfl rfl ?c1 ?c2 ?c3 ?c4 ?_)
          case c1 => intro k u hk; match k, hk with | 0, hk => simp at hk; subst hk; simp [Addr.add]
          case c2 => intro u hu; simp at hu; subst hu; rfl
          case c3 => unfold maxLen; omega
          case c4 => omega
          intro v' w2 S' hown' hgr' hfr'
          obtain ⟨g', cap', hv', hS'⟩ := hown'.head (by omega)
          have hfa : Fr [] W (W.alloc (.cells #[.int .i64 x.1] 3)) := (Fr.refl _ _).alloc _
          have hbA : Blk w2 kb 22 [v] := (hb.alloc _).fr hfr' hnS
          have hca : w2.cell? ⟨kb, 0, none⟩ = some v := by simpa using hbA.cell 0
          have hfza := hbA.frz 0
          have hsz2 := hfr'.size
          have hlt2 := hbA.lt
          have hbset := hbA.set 0 v'
          have hnS' : kb ∉ S' := hgr'.notMem (by simp; omega) hnS
          have hfin : postF (fun S (pre : List (Int × Nat)) W => ∃ v S1, S = kb :: S1 ∧ kb ∉ S1 ∧ Blk W kb 22 [v] ∧ OwnS W 3 1 v pre.length ((pre.map (·.1)).flatMap encI) S1) (fun _ _ _ _ => False) (kb :: S2) (pre ++ [x]) W .normal ⟨#[], []⟩ (w2.setCell ⟨kb, 0, none⟩ v') := by
            refine ⟨kb :: S', Gr.cons _ (hgr'.size (by simp)), ?_, v', S', rfl, hnS', by simpa using hbset, ?_⟩
            · exact ((hfa.mono (T := kb :: S2) (by simp)).trans (Gr.of_sub (by simp)) (hfr'.mono (T := kb :: S2) (by intro b hb; simp [hb]))).setCell _ (.inl (by simp))
            · exact ownS_snoc_i (hown'.fr ((Fr.refl [kb] w2).setCell v' (.inl (by simp))) (by intro b hb2 hm; simp at hm; subst hm; exact hnS' hb2))
          have HF := Lib.hid hfin
          clear hfin hbset hown' hgr' hfr' hbA ho hb
          subst hv'
          gi_wp2
          exact HF.out
        case doneW =>
          rintro D S' W hD hDS hg hf ⟨v', S1', rfl, hnS, hb', ho'⟩ hKD
          rw [show ((xs of).zipIdx.map (·.1)) = xs of from by simp, List.length_zipIdx] at ho'
          have fW : Fr [] W1 W := f5.trans (fun x hx => by simp at hx; subst hx; exact .inr (Nat.le_of_eq HKB.out)) hf
          have K6 := Lib.hid (HKa.out.mark fW (by have := f5.size; omega) hKD)
          have B6 := Lib.hid (hB.out.fr fW (by simp))
          have OV := Lib.hid ho'
          have c12 : W.cell? ⟨kb, 0, none⟩ = some v' := by simpa using hb'.cell 0
          have c14 := (K6.out.cells hof).2
          have hof3 : (of : Int) < 2 := by omega
          clear hb' ho' hf hg hKD fW
          gi_wp2_with fail
          refine wpIn_wide.2 ?_
          have hS0 : W.drew.cell? ⟨kb, 0, none⟩ = some v' ∧ W.drew.cell? ⟨A3 + 1, of, none⟩ = some (v of) ∧ Fr [] W W.drew := ⟨c12, c14, (Fr.refl _ _).drew⟩
          have hkeep : Hid (∀ X Y, (X.cell? ⟨kb, 0, none⟩ = some v' ∧ X.cell? ⟨A3 + 1, of, none⟩ = some (v of) ∧ Fr [] W X) → Fr [] X Y → (Y.cell? ⟨kb, 0, none⟩ = some v' ∧ Y.cell? ⟨A3 + 1, of, none⟩ = some (v of) ∧ Fr [] W Y)) := by
            rintro X Y ⟨h1, h2, h3⟩ f
            exact ⟨(f.cell (World.block_lt_of_cell? _ _ h1) (by simp)).trans h1, (f.cell (World.block_lt_of_cell? _ _ h2) (by simp)).trans h2, h3.trans' f⟩
          have hsame := Lib.hid (fun X (f : Fr [] W X) => same_own (OV.out.fr f (by simp)) ((K6.out.list of hof).fr f (by simp)) (by omega))
          go_region_held3 (fun w' => w'.cell? ⟨kb, 0, none⟩ = some v' ∧ w'.cell? ⟨A3 + 1, of, none⟩ = some (v of) ∧ Fr [] W w')
            (first | exact hS0 | exact hkeep.out _ _ (by assumption) (by assumption))
            (first | (go_at_call 30; refine (hsame.out _ (And.right (And.right (by assumption)))).mono ?_; rintro e W3 ⟨rfl, f3⟩))
          have f3' : Fr [] W W3 := ((Fr.refl [] W).drew).trans' f3
          have K3 := Lib.hid (K6.out.fr0 f3')
          have B3 := Lib.hid (B6.out.fr f3' (by simp))
          have hx3 : ∀ o', o' < 2 → (xs o').length ≤ 3 * (j + 1) := fun o' ho' => by have := hxl o' ho'; omega
          have hr3 : rows.length ≤ 2 * (j + 1) := by omega
          obtain ⟨v3, hv3⟩ : ∃ v3, v = v3 := ⟨_, rfl⟩
          rw [hv3] at K3
          clear hv3 f3 f3' hS0 hkeep hsame OV c12 c14 K6 B6
          clear c3 c4 d0 d1 d2 d3 y0 y1 y2 y3
          -- the tail
          obtain ⟨p, hp⟩ : ∃ p, p = 1 - o := ⟨_, rfl⟩
          have hpl : p < 2 := by omega
          have hw1 : IntKind.i64.wrap (1 - (o : Int)) = (p : Int) := by rw [IntKind.wrap_i64]; omega
          have hp3 : (p : Int) < 2 := by omega
          have hq2 : 1 - o = p := hp.symm
          clear hp
          obtain ⟨t3, t4⟩ := K3.out.cells (show o < 2 by omega)
          obtain ⟨t5, t6⟩ := K3.out.cells (show p < 2 by omega)
          have t2 := B3.out.cell 2
          simp only [List.getElem?_cons_zero, List.getElem?_cons_succ] at t2
          have he1 := Lib.hid (fun X (f : Fr [] W3 X) => ends_ok ((K3.out.ring o (by omega)).fr f (by simp)) ((K3.out.list o (by omega)).fr f (by simp)) (by have := hx3 o (by omega); omega) nn)
          have he2 := Lib.hid (fun X (f : Fr [] W3 X) => ends_ok ((K3.out.ring p (by omega)).fr f (by simp)) ((K3.out.list p (by omega)).fr f (by simp)) (by have := hx3 p (by omega); omega) 0)
          gi_wp2_with fail
          refine wpIn_wide.2 ?_
          have hS0 : W3.drew.cell? ⟨A3, o, none⟩ = some (.pointer (some ⟨r o, 0, none⟩)) ∧ W3.drew.cell? ⟨A3 + 1, o, none⟩ = some (v3 o) ∧ W3.drew.cell? ⟨A3, p, none⟩ = some (.pointer (some ⟨r p, 0, none⟩)) ∧ W3.drew.cell? ⟨A3 + 1, p, none⟩ = some (v3 p) ∧ W3.drew.cell? ⟨wr.heap.size, 2, none⟩ = some (.int .i64 nn) ∧ Fr [] W3 W3.drew := ⟨t3, t4, t5, t6, t2, (Fr.refl _ _).drew⟩
          have hkeep : Hid (∀ X Y, (X.cell? ⟨A3, o, none⟩ = some (.pointer (some ⟨r o, 0, none⟩)) ∧ X.cell? ⟨A3 + 1, o, none⟩ = some (v3 o) ∧ X.cell? ⟨A3, p, none⟩ = some (.pointer (some ⟨r p, 0, none⟩)) ∧ X.cell? ⟨A3 + 1, p, none⟩ = some (v3 p) ∧ X.cell? ⟨wr.heap.size, 2, none⟩ = some (.int .i64 nn) ∧ Fr [] W3 X) → Fr [] X Y →
              (Y.cell? ⟨A3, o, none⟩ = some (.pointer (some ⟨r o, 0, none⟩)) ∧ Y.cell? ⟨A3 + 1, o, none⟩ = some (v3 o) ∧ Y.cell? ⟨A3, p, none⟩ = some (.pointer (some ⟨r p, 0, none⟩)) ∧ Y.cell? ⟨A3 + 1, p, none⟩ = some (v3 p) ∧ Y.cell? ⟨wr.heap.size, 2, none⟩ = some (.int .i64 nn) ∧ Fr [] W3 Y)) := by
            rintro X Y ⟨h1, h2, h3, h4, h5, h6⟩ f
            exact ⟨(f.cell (World.block_lt_of_cell? _ _ h1) (by simp)).trans h1, (f.cell (World.block_lt_of_cell? _ _ h2) (by simp)).trans h2, (f.cell (World.block_lt_of_cell? _ _ h3) (by simp)).trans h3, (f.cell (World.block_lt_of_cell? _ _ h4) (by simp)).trans h4, (f.cell (World.block_lt_of_cell? _ _ h5) (by simp)).trans h5, h6.trans' f⟩
          refine wp_T [] (fun w' => w'.cell? ⟨A3, o, none⟩ = some (.pointer (some ⟨r o, 0, none⟩)) ∧ w'.cell? ⟨A3 + 1, o, none⟩ = some (v3 o) ∧ w'.cell? ⟨A3, p, none⟩ = some (.pointer (some ⟨r p, 0, none⟩)) ∧ w'.cell? ⟨A3 + 1, p, none⟩ = some (v3 p) ∧ w'.cell? ⟨wr.heap.size, 2, none⟩ = some (.int .i64 nn) ∧ Fr [] W3 w') (by kernel_rfl) (fun hC => ?_) hS0
          refine wpAnyT_takeC' 0 (by kernel_rfl) (fun _ _ _ h => h) (by assumption) (by rfl) (fun w hSw => by simp only [List.getD_cons_succ, List.getD_cons_zero]; (try dsimp only at hSw); go_simp; try with_reducible rfl) ?_
          try simp only [List.getD_cons_succ, List.getD_cons_zero, Act.put, List.setIfInBounds_toArray, List.set_cons_zero, List.set_cons_succ]
          refine wpAnyT_takeC' 1 (by kernel_rfl) (fun _ _ _ h => h) (by assumption) (by rfl) (fun w hSw => by simp only [List.getD_cons_succ, List.getD_cons_zero]; (try dsimp only at hSw); go_simp; try with_reducible rfl) ?_
          try simp only [List.getD_cons_succ, List.getD_cons_zero, Act.put, List.setIfInBounds_toArray, List.set_cons_zero, List.set_cons_succ]
          refine wpAnyT_takeC' 2 (by kernel_rfl) (fun _ _ _ h => h) (by assumption) (by rfl) (fun w hSw => by simp only [List.getD_cons_succ, List.getD_cons_zero]; (try dsimp only at hSw); go_simp; try with_reducible rfl) ?_
          try simp only [List.getD_cons_succ, List.getD_cons_zero, Act.put, List.setIfInBounds_toArray, List.set_cons_zero, List.set_cons_succ]
          refine wpAnyT_takeC' 3 (by kernel_rfl) (fun _ _ _ h => h) (by assumption) (by rfl) (fun w hSw => by simp only [List.getD_cons_succ, List.getD_cons_zero]; (try dsimp only at hSw); go_simp; try with_reducible rfl) ?_
          try simp only [List.getD_cons_succ, List.getD_cons_zero, Act.put, List.setIfInBounds_toArray, List.set_cons_zero, List.set_cons_succ]
          refine wpAnyT_takeC' 4 (by kernel_rfl) (fun _ _ _ h => h) (by assumption) (by rfl) (fun w hSw => by simp only [List.getD_cons_succ, List.getD_cons_zero]; (try dsimp only at hSw); go_simp; try with_reducible rfl) ?_
          try simp only [List.getD_cons_succ, List.getD_cons_zero, Act.put, List.setIfInBounds_toArray, List.set_cons_zero, List.set_cons_succ]
          refine wpAnyT_takeC' 5 (by kernel_rfl) (fun _ _ _ h => h) (by assumption) (by rfl) (fun w hSw => by simp only [List.getD_cons_succ, List.getD_cons_zero]; (try dsimp only at hSw); go_simp; try with_reducible rfl) ?_
          try simp only [List.getD_cons_succ, List.getD_cons_zero, Act.put, List.setIfInBounds_toArray, List.set_cons_zero, List.set_cons_succ]
          refine wpAnyT_takeC' 6 (by kernel_rfl) (fun _ _ _ h => h) (by assumption) (by rfl) (fun w hSw => by simp only [List.getD_cons_succ, List.getD_cons_zero]; (try dsimp only at hSw); go_simp; try with_reducible rfl) ?_
          try simp only [List.getD_cons_succ, List.getD_cons_zero, Act.put, List.setIfInBounds_toArray, List.set_cons_zero, List.set_cons_succ]
          refine wpAnyT_takeC' 7 (by kernel_rfl) (fun _ _ _ h => h) (by assumption) (by rfl) (fun w hSw => by simp only [List.getD_cons_succ, List.getD_cons_zero]; (try dsimp only at hSw); go_simp; try with_reducible rfl) ?_
          try simp only [List.getD_cons_succ, List.getD_cons_zero, Act.put, List.setIfInBounds_toArray, List.set_cons_zero, List.set_cons_succ]
          refine wpAnyT_takeC' 8 (by kernel_rfl) (fun _ _ _ h => h) (by assumption) (by rfl) (fun w hSw => by simp only [List.getD_cons_succ, List.getD_cons_zero]; (try dsimp only at hSw); go_simp; try with_reducible rfl) ?_
          try simp only [List.getD_cons_succ, List.getD_cons_zero, Act.put, List.setIfInBounds_toArray, List.set_cons_zero, List.set_cons_succ]
          refine wpAnyT_takeC' 9 (by kernel_rfl) (fun _ _ _ h => h) (by assumption) (by rfl) (fun w hSw => by simp only [List.getD_cons_succ, List.getD_cons_zero]; (try dsimp only at hSw); go_simp; try with_reducible rfl) ?_
          try simp only [List.getD_cons_succ, List.getD_cons_zero, Act.put, List.setIfInBounds_toArray, List.set_cons_zero, List.set_cons_succ]
          refine wpAnyT_takeC' 10 (by kernel_rfl) (fun _ _ _ h => h) (by assumption) (by rfl) (fun w hSw => by simp only [List.getD_cons_succ, List.getD_cons_zero]; (try dsimp only at hSw); go_simp; try with_reducible rfl) ?_
          try simp only [List.getD_cons_succ, List.getD_cons_zero, Act.put, List.setIfInBounds_toArray, List.set_cons_zero, List.set_cons_succ]
          refine wpAnyT_one' 11 (by kernel_rfl) (by rfl) (fun K hK => ?_)
          simp only [List.getD_cons_succ, List.getD_cons_zero]
          go_simp
          refine (he1.out _ ((Fr.refl _ _).drew)).mono ?_
          rintro e W6 ⟨rfl, f6⟩
          go_wp2_with fail
          refine hK.out _ _ (hkeep.out _ _ hC f6) ?_
          have hC3 := hkeep.out _ _ hC f6
          clear hK hC
          try simp only [Act.put, List.setIfInBounds_toArray, List.set_cons_zero, List.set_cons_succ]
          refine wpAnyT_takeC' 12 (by kernel_rfl) (fun _ _ _ h => h) (by assumption) (by rfl) (fun w hSw => by simp only [List.getD_cons_succ, List.getD_cons_zero]; (try dsimp only at hSw); go_simp; try with_reducible rfl) ?_
          try simp only [List.getD_cons_succ, List.getD_cons_zero, Act.put, List.setIfInBounds_toArray, List.set_cons_zero, List.set_cons_succ]
          refine wpAnyT_takeC' 13 (by kernel_rfl) (fun _ _ _ h => h) (by assumption) (by rfl) (fun w hSw => by simp only [List.getD_cons_succ, List.getD_cons_zero]; (try dsimp only at hSw); go_simp; try with_reducible rfl) ?_
          try simp only [List.getD_cons_succ, List.getD_cons_zero, Act.put, List.setIfInBounds_toArray, List.set_cons_zero, List.set_cons_succ]
          refine wpAnyT_takeC' 14 (by kernel_rfl) (fun _ _ _ h => h) (by assumption) (by rfl) (fun w hSw => by simp only [List.getD_cons_succ, List.getD_cons_zero]; (try dsimp only at hSw); go_simp; try with_reducible rfl) ?_
          try simp only [List.getD_cons_succ, List.getD_cons_zero, Act.put, List.setIfInBounds_toArray, List.set_cons_zero, List.set_cons_succ]
          refine wpAnyT_takeC' 15 (by kernel_rfl) (fun _ _ _ h => h) (by assumption) (by rfl) (fun w hSw => by simp only [List.getD_cons_succ, List.getD_cons_zero]; (try dsimp only at hSw); go_simp; try with_reducible rfl) ?_
          try simp only [List.getD_cons_succ, List.getD_cons_zero, Act.put, List.setIfInBounds_toArray, List.set_cons_zero, List.set_cons_succ]
          refine wpAnyT_takeP' 16 (v := .int .i64 p) (by kernel_rfl) (fun _ _ _ h => h) (by assumption) (by rfl) (fun w => by simp only [List.getD_cons_succ, List.getD_cons_zero]; clear hq2 hpl hp3; go_simp) ?_
          try simp only [List.getD_cons_succ, List.getD_cons_zero, Act.put, List.setIfInBounds_toArray, List.set_cons_zero, List.set_cons_succ]
          refine wpAnyT_takeC' 17 (by kernel_rfl) (fun _ _ _ h => h) (by assumption) (by rfl) (fun w hSw => by simp only [List.getD_cons_succ, List.getD_cons_zero]; (try dsimp only at hSw); go_simp; try with_reducible rfl) ?_
          try simp only [List.getD_cons_succ, List.getD_cons_zero, Act.put, List.setIfInBounds_toArray, List.set_cons_zero, List.set_cons_succ]
          refine wpAnyT_takeC' 18 (by kernel_rfl) (fun _ _ _ h => h) (by assumption) (by rfl) (fun w hSw => by simp only [List.getD_cons_succ, List.getD_cons_zero]; (try dsimp only at hSw); go_simp; try with_reducible rfl) ?_
          try simp only [List.getD_cons_succ, List.getD_cons_zero, Act.put, List.setIfInBounds_toArray, List.set_cons_zero, List.set_cons_succ]
          refine wpAnyT_takeC' 19 (by kernel_rfl) (fun _ _ _ h => h) (by assumption) (by rfl) (fun w hSw => by simp only [List.getD_cons_succ, List.getD_cons_zero]; (try dsimp only at hSw); go_simp; try with_reducible rfl) ?_
          try simp only [List.getD_cons_succ, List.getD_cons_zero, Act.put, List.setIfInBounds_toArray, List.set_cons_zero, List.set_cons_succ]
          refine wpAnyT_takeP' 20 (v := .int .i64 p) (by kernel_rfl) (fun _ _ _ h => h) (by assumption) (by rfl) (fun w => by simp only [List.getD_cons_succ, List.getD_cons_zero]; clear hq2 hpl hp3; go_simp) ?_
          try simp only [List.getD_cons_succ, List.getD_cons_zero, Act.put, List.setIfInBounds_toArray, List.set_cons_zero, List.set_cons_succ]
          refine wpAnyT_takeC' 21 (by kernel_rfl) (fun _ _ _ h => h) (by assumption) (by rfl) (fun w hSw => by simp only [List.getD_cons_succ, List.getD_cons_zero]; (try dsimp only at hSw); go_simp; try with_reducible rfl) ?_
          try simp only [List.getD_cons_succ, List.getD_cons_zero, Act.put, List.setIfInBounds_toArray, List.set_cons_zero, List.set_cons_succ]
          refine wpAnyT_takeC' 22 (by kernel_rfl) (fun _ _ _ h => h) (by assumption) (by rfl) (fun w hSw => by simp only [List.getD_cons_succ, List.getD_cons_zero]; (try dsimp only at hSw); go_simp; try with_reducible rfl) ?_
          try simp only [List.getD_cons_succ, List.getD_cons_zero, Act.put, List.setIfInBounds_toArray, List.set_cons_zero, List.set_cons_succ]
          refine wpAnyT_one' 23 (by kernel_rfl) (by rfl) (fun K hK => ?_)
          simp only [List.getD_cons_succ, List.getD_cons_zero]
          go_simp
          refine (he2.out _ hC3.2.2.2.2.2).mono ?_
          rintro e W7 ⟨rfl, f7⟩
          go_wp2_with fail
          have hC4 := hkeep.out _ _ hC3 f7
          refine hK.out _ _ hC4 ?_
          clear hK hC3
          try simp only [Act.put, List.setIfInBounds_toArray, List.set_cons_zero, List.set_cons_succ]
          refine wpAnyT_takeC' 24 (by kernel_rfl) (fun _ _ _ h => h) (by assumption) (by rfl) (fun w hSw => by simp only [List.getD_cons_succ, List.getD_cons_zero]; (try dsimp only at hSw); go_simp; try with_reducible rfl) ?_
          try simp only [List.getD_cons_succ, List.getD_cons_zero, Act.put, List.setIfInBounds_toArray, List.set_cons_zero, List.set_cons_succ]
          refine wpAnyT_takeC' 25 (by kernel_rfl) (fun _ _ _ h => h) (by assumption) (by rfl) (fun w hSw => by simp only [List.getD_cons_succ, List.getD_cons_zero]; (try dsimp only at hSw); go_simp; try with_reducible rfl) ?_
          try simp only [List.getD_cons_succ, List.getD_cons_zero, Act.put, List.setIfInBounds_toArray, List.set_cons_zero, List.set_cons_succ]
          refine wpAnyT_done (by kernel_rfl) ?_ _
          rw [onlyN_normal]
          have K7 := Lib.hid (K3.out.fr0 hC4.2.2.2.2.2)
          gi_wp2_with fail
          gi_roundg (gk - 1)
          case measure => omega
          case rel => exact ⟨j + 1, _, _, _, _, _, _, _, _, _, by omega, by omega, by omega, by go_num, rfl, rfl, rfl, hx3, hr3, K7⟩
    · -- the list is asked for twice
      as_aux_lemma =>
        clear hdo hran
        obtain ⟨qa, qc, rfl⟩ := HK.out.lists.val
        obtain ⟨j0, hj0, hjz0, hjz1, hjz2⟩ := info_parts infoLi
        have hr600 : rows.length ≤ 600 := by omega
        have hx900 : (xs o).length ≤ 900 := by have := hxl o (by omega); omega
        have hlist := Lib.hid (fun X (f : Fr [] W1 X) => list_i ((HKa.out.ring o (by omega)).fr f (by simp)))
        have hmark : True := trivial
        gi_wp2_with fail
        refine wpIn_wide.2 ?_
        have hS0 : W1.drew.cell? ⟨A3, o, none⟩ = some (.pointer (some ⟨r o, 0, none⟩)) ∧ Fr [] W1 W1.drew := ⟨c3, (Fr.refl _ _).drew⟩
        have hkeep : Hid (∀ X Y, (X.cell? ⟨A3, o, none⟩ = some (.pointer (some ⟨r o, 0, none⟩)) ∧ Fr [] W1 X) → Fr [] X Y → (Y.cell? ⟨A3, o, none⟩ = some (.pointer (some ⟨r o, 0, none⟩)) ∧ Fr [] W1 Y)) := by
          rintro X Y ⟨h1, h3⟩ f
          exact ⟨(f.cell (World.block_lt_of_cell? _ _ h1) (by simp)).trans h1, h3.trans' f⟩
        go_region_held3 (fun w' => w'.cell? ⟨A3, o, none⟩ = some (.pointer (some ⟨r o, 0, none⟩)) ∧ Fr [] W1 w')
          (first | exact hS0 | exact hkeep.out _ _ (by assumption) (by assumption))
          (first
            | (go_at_call 31; clear hmark; refine (hlist.out _ (And.right (by assumption))).mono ?_; rintro e WA ⟨vA, SA, rfl, oA, gA, fA⟩)
            | (go_at_call 31; refine (hlist.out _ (And.right (by assumption))).mono ?_; rintro e W2 ⟨vB, SB, rfl, oB, gB, fB⟩))
        all_goals
          have oA2 := oA.fr fB (by simp)
          have nA : ∀ x, x ∈ SA → W1.heap.size ≤ x := fun x hx => by rcases gA x hx with h | h; cases h; exact h
          have nB : ∀ x, x ∈ SB → WA.heap.size ≤ x := fun x hx => by rcases gB x hx with h | h; cases h; exact h
          have lA := oA.lt
          have sA := fA.size
          have nB1 : ∀ x, x ∈ SB → W1.heap.size ≤ x := fun x hx => Nat.le_trans sA (nB x hx)
          have dAB : ∀ x, x ∈ SA → x ∉ SB := fun x hx hm => by have h1 := lA x hx; have h2 := nB x hm; omega
          have dBA : ∀ x, x ∈ SB → x ∉ SA := fun x hx hm => dAB x hm hx
          have f12 : Hid (Fr [] W1 W2) := (((Fr.refl [] W1).drew.trans' fA)).trans' fB
          have OA := Lib.hid oA2
          have OB := Lib.hid oB
          clear oA oB oA2 gA gB fA fB lA sA nB hS0 hkeep hlist
        have K2 := Lib.hid (HKa.out.fr0 f12.out)
        have B2 := Lib.hid (hB.out.fr f12.out (by simp))
        obtain ⟨_, e4⟩ := K2.out.cells (show o < 2 by omega)
        gi_wp2_with fail
        refine (wideIn _ (same_own OA.out (K2.out.list o (by omega)) (by omega))).mono ?_
        rintro e W3 ⟨rfl, f3⟩
        have hneg : IntKind.i64.wrap (-7 - (rows.length : Int)) = -7 - (rows.length : Int) := wrap_small (by omega) (by omega)
        gi_wp2_with fail
        refine (wideIn _ (filled_ok (OA.out.fr f3 (by simp)) (by omega) _)).mono ?_
        rintro e W4 ⟨u, T, rfl, o4, g4, f4⟩
        obtain ⟨ua, uc, rfl⟩ := o4.val
        have f14 : Fr [] W1 W4 := (f12.out.trans' f3).trans (fun x hx => .inr (nA x hx)) f4
        have K4 := Lib.hid (HKa.out.fr0 f14)
        have B4 := Lib.hid (hB.out.fr f14 (by simp))
        have OB4 := Lib.hid ((OB.out.fr f3 (by simp)).fr f4 dBA)
        have OU := Lib.hid o4
        have s14 := f14.size
        have s13 := (f12.out.trans' f3).size
        have nT : Hid (∀ x, x ∈ T → W1.heap.size ≤ x) := fun x hx => by
          rcases g4 x hx with h | h
          · exact nA x h
          · exact Nat.le_trans s13 h
        have nTB : Hid (∀ x, x ∈ T → x ∉ SB) := fun x hx hm => by
          have hb3 := OB.out.lt x hm
          have s23 := f3.size
          rcases g4 x hx with h | h
          · exact dAB x h hm
          · omega
        have F14 := Lib.hid f14
        have KL := Lib.hid HKa.out.lt
        have hw1 := Lib.hid HKa.out.fr.size
        clear o4 g4 f4 f3 f14 s13 K2 B2 e4 OA OB f12
        gi_wp2_with (gi_at_builtin; refine wpListIn_append_S _ rfl (.tmp 112) (.tmp 118) 74 rfl 22 j0 (.slice none 0 0) 1 24 Try.underlying74 hj0 hjz0 hjz1 hjz2 rfl _ _ _ _ rfl (K4.out.lists.alloc _) ⟨W4.heap.size, 0, none⟩ 1 1 [.slice ua ((xs o).length + 2) uc] rfl rfl (Blk.new W4 22 [.slice ua ((xs o).length + 2) uc]).news ?l2 ?l3 ?l4 ?_)
        case l2 => intro u hu; simp at hu; subst hu; rfl
        case l3 => unfold maxLen; omega
        case l4 => omega
        intro v8 W5 S8 o8 g8 f8
        obtain ⟨va, vc, rfl⟩ := o8.val
        have fa : Fr [] W4 (W4.alloc (.cells #[.slice ua ((xs o).length + 2) uc] 22)) := (Fr.refl _ _).alloc _
        have K5 : Hid (PL w A3 (A3 + 1) hb of r ds xs v S (.slice va (rows.length + 1) vc) (rows ++ [(.slice ua ((xs o).length + 2) uc, (xs o).length + 2, T)]) S8 Ds W5) := by
          refine (K4.out.fr0 fa).push (OU.out.fr fa (by simp)) (by omega) (fun x hx => ?_) (fun o' ho' x hx hm => ?_) (fun x hx => ⟨fun hm => ?_, fun hm => ?_⟩) o8 f8 g8
          · have h1 := nT.out x hx
            have h2 := hw1.out
            omega
          · have h1 := nT.out x hx
            have h2 := KL.out.1 o' ho' x hm
            omega
          · have h1 := nT.out x hx
            have h2 := KL.out.2.2.1 x hm
            omega
          · have h1 := nT.out x hx
            have h2 := KL.out.2.2.2.2.1
            omega
        have n7 : ∀ x, x ∈ SB → x ∉ S7 := fun x hx hm => by
          have h1 := nB1 x hx
          have h2 := KL.out.2.2.1 x hm
          omega
        have OB5 := Lib.hid ((OB4.out.fr fa (by simp)).fr f8 n7)
        have lB5 := OB4.out.lt
        have n8 : Hid (∀ x, x ∈ SB → x ∉ S8) := fun x hx hm => by
          rcases g8 x hm with h | h
          · exact n7 x hx h
          · have := lB5 x hx
            simp at h
            omega
        have B5 : Hid (Blk W5 wr.heap.size 64 [.int .i64 13, .int .i64 oo, .int .i64 nn, .int .i64 vv]) := by
          refine (B4.out.fr fa (by simp)).fr f8 (fun hm => ?_)
          have h1 := KL.out.2.2.1 _ hm
          have h2 := HK.out.lists.lt _ hm
          omega
        have hl8 := Lib.hid o8.lt
        have nw8 : Hid (wr.heap.size ∉ S8) := fun hm => by
          rcases g8 _ hm with h | h
          · have := HK.out.lists.lt _ h
            omega
          · simp at h
            omega
        have s45 : W4.heap.size < W5.heap.size := by have := f8.size; simp at this; omega
        clear o8 g8 f8 fa n7 lB5 OB4 K4 B4 OU
        obtain ⟨_, e4⟩ := K5.out.cells (show o < 2 by omega)
        gi_wp2_with fail
        refine (wideIn _ (same_own OB5.out (K5.out.list o (by omega)) (by omega))).mono ?_
        rintro e W6 ⟨rfl, f6⟩
        have hneg2 : IntKind.i64.wrap (-7 - ((rows.length : Int) + 1)) = -7 - ((rows.length : Int) + 1) := wrap_small (by omega) (by omega)
        gi_wp2_with fail
        refine (wideIn _ (filled_ok (OB5.out.fr f6 (by simp)) (by omega) (-7 - ((rows.length : Int) + 1)))).mono ?_
        rintro e W7 ⟨u, T7, rfl, o7, g7, f7⟩
        obtain ⟨ub, ud, rfl⟩ := o7.val
        have s56 := f6.size
        have s67 := f7.size
        have nB2 := Lib.hid nB1
        have nT7 : Hid (∀ x, x ∈ T7 → W1.heap.size ≤ x ∧ (x ∈ SB ∨ W6.heap.size ≤ x)) := fun x hx => by
          rcases g7 x hx with h | h
          · exact ⟨nB2.out x h, .inl h⟩
          · exact ⟨by omega, .inr h⟩
        have K7 : Hid (PL w A3 (A3 + 1) hb of r ds xs v S (.slice va (rows.length + 1) vc) (rows ++ [(.slice ua ((xs o).length + 2) uc, (xs o).length + 2, T)]) S8 Ds W7) := by
          obtain ⟨l1, l2, l3, l4, l5, l6, l7, l8⟩ := KL.out
          refine (K5.out.fr0 f6).frs f7 (fun o' ho' x hx hm => ?_) (fun o' ho' x hx hm => ?_) (fun x hx hm => n8.out x hm hx) ⟨fun hm => ?_, fun hm => ?_, fun hm => ?_⟩ (fun D hD hm => ?_) (fun i u n T' h x hx hm => ?_) (fun x hx => ?_)
          · have h1 := nB2.out x hm; have h2 := l1 o' ho' x hx; omega
          · have h1 := nB2.out x hm; have h2 := l2 o' ho' x hx; omega
          · have h1 := nB2.out _ hm; omega
          · have h1 := nB2.out _ hm; omega
          · have h1 := nB2.out _ hm; omega
          · have h1 := nB2.out _ hm; have h2 := l7 D hD; omega
          · rcases Nat.lt_or_ge i rows.length with hi | hi
            · rw [List.getElem?_append_left hi] at h
              have h1 := nB2.out x hm; have h2 := l8 i u n T' h x hx; omega
            · rw [List.getElem?_append_right hi] at h
              obtain ⟨h1, h2⟩ := List.getElem?_eq_some_iff.1 h
              have hi' : i = rows.length := last_row hi h1
              subst hi'
              simp at h
              obtain ⟨rfl, rfl, rfl⟩ := h
              exact nTB.out x hx hm
          · have h1 := nB2.out x hx; have h2 := hw1.out; omega
        have B7 : Hid (Blk W7 wr.heap.size 64 [.int .i64 13, .int .i64 oo, .int .i64 nn, .int .i64 vv]) := by
          refine (B5.out.fr f6 (by simp)).fr f7 (fun hm => ?_)
          have h1 := nB2.out _ hm
          omega
        have OU7 := Lib.hid o7
        have n78 : Hid (∀ x, x ∈ T7 → x ∉ S8) := fun x hx hm => by
          rcases (nT7.out x hx).2 with h | h
          · exact n8.out x h hm
          · have := hl8.out x hm
            omega
        clear o7 g7 f7 f6 K5 B5 OB5
        gi_wp2_with (gi_at_builtin; refine wpListIn_append_S _ rfl (.tmp 128) (.tmp 134) 74 rfl 22 j0 (.slice none 0 0) 1 24 Try.underlying74 hj0 hjz0 hjz1 hjz2 rfl _ (rows.length + 1) ((rows ++ [(Value.slice ua ((xs o).length + 2) uc, (xs o).length + 2, T)]).map (·.1)) _ rfl (by have := K7.out.lists; rw [List.length_append] at this; exact this.alloc _) ⟨W7.heap.size, 0, none⟩ 1 1 [.slice ub ((xs o).length + 2) ud] rfl rfl (Blk.new W7 22 [.slice ub ((xs o).length + 2) ud]).news ?m2 ?m3 ?m4 ?_)
        case m2 => intro u hu; simp at hu; subst hu; rfl
        case m3 => exact small_maxLen hr600
        case m4 => exact small_bytes hr600
        intro v9 W9 S9 o9 g9 f9
        obtain ⟨vd, ve, rfl⟩ := o9.val
        have fa : Fr [] W7 (W7.alloc (.cells #[.slice ub ((xs o).length + 2) ud] 22)) := (Fr.refl _ _).alloc _
        have K9 : Hid (PL w A3 (A3 + 1) hb of r ds xs v S (.slice vd (rows.length + 1 + 1) ve) (rows ++ [(.slice ua ((xs o).length + 2) uc, (xs o).length + 2, T)] ++ [(.slice ub ((xs o).length + 2) ud, (xs o).length + 2, T7)]) S9 Ds W9) := by
          refine (K7.out.fr0 fa).push (by have := OU7.out.fr fa (by simp); simpa [Int.sub_sub, Int.add_comm] using this) (by omega) (fun x hx => ?_) (fun o' ho' x hx hm => ?_) (fun x hx => ⟨fun hm => ?_, fun hm => ?_⟩) (by have := o9; simpa using this) f9 g9
          · have h1 := (nT7.out x hx).1
            have h2 := hw1.out
            omega
          · have h1 := (nT7.out x hx).1
            have h2 := KL.out.1 o' ho' x hm
            omega
          · exact n78.out x hx hm
          · have h1 := (nT7.out x hx).1
            have h2 := KL.out.2.2.2.2.1
            omega
        have B3 : Hid (Blk W9 wr.heap.size 64 [.int .i64 13, .int .i64 oo, .int .i64 nn, .int .i64 vv]) := (B7.out.fr fa (by simp)).fr f9 nw8.out
        have hx3 : ∀ o', o' < 2 → (xs o').length ≤ 3 * (j + 1) := fun o' ho' => Nat.le_trans (hxl o' ho') (Nat.mul_le_mul_left 3 (Nat.le_succ j))
        have hr3 : (rows ++ [(Value.slice ua ((xs o).length + 2) uc, (xs o).length + 2, T)] ++ [(Value.slice ub ((xs o).length + 2) ud, (xs o).length + 2, T7)]).length ≤ 2 * (j + 1) := by
          rw [List.length_append, List.length_append, Nat.add_assoc]
          exact Nat.add_le_add hrl (Nat.le_refl 2)
        obtain ⟨v3, hv3⟩ : ∃ v3, v = v3 := ⟨_, rfl⟩
        obtain ⟨rows3, hrows3⟩ : ∃ rows3, rows ++ [(Value.slice ua ((xs o).length + 2) uc, (xs o).length + 2, T)] ++ [(Value.slice ub ((xs o).length + 2) ud, (xs o).length + 2, T7)] = rows3 := ⟨_, rfl⟩
        rw [hv3, hrows3] at K9
        rw [hrows3] at hr3
        have K3 := K9
        clear K9 K7 B7 fa f9 g9 o9 hv3 hrows3 nw8 n78 hl8 n8 nT7 nB2 nTB nT OU7 KL hw1 F14 hneg hneg2 dAB dBA nA nB1 e4 s56 s67 s45 s14 hr600 hx900
        clear c3 c4 d0 d1 d2 d3 y0 y1 y2 y3
        rename World => W3
        -- the tail
        obtain ⟨p, hp⟩ : ∃ p, p = 1 - o := ⟨_, rfl⟩
        have hpl : p < 2 := by omega
        have hw1 : IntKind.i64.wrap (1 - (o : Int)) = (p : Int) := by rw [IntKind.wrap_i64]; omega
        have hp3 : (p : Int) < 2 := by omega
        have hq2 : 1 - o = p := hp.symm
        clear hp
        obtain ⟨t3, t4⟩ := K3.out.cells (show o < 2 by omega)
        obtain ⟨t5, t6⟩ := K3.out.cells (show p < 2 by omega)
        have t2 := B3.out.cell 2
        simp only [List.getElem?_cons_zero, List.getElem?_cons_succ] at t2
        have he1 := Lib.hid (fun X (f : Fr [] W3 X) => ends_ok ((K3.out.ring o (by omega)).fr f (by simp)) ((K3.out.list o (by omega)).fr f (by simp)) (by have := hx3 o (by omega); omega) nn)
        have he2 := Lib.hid (fun X (f : Fr [] W3 X) => ends_ok ((K3.out.ring p (by omega)).fr f (by simp)) ((K3.out.list p (by omega)).fr f (by simp)) (by have := hx3 p (by omega); omega) 0)
        gi_wp2_with fail
        refine wpIn_wide.2 ?_
        have hS0 : W3.drew.cell? ⟨A3, o, none⟩ = some (.pointer (some ⟨r o, 0, none⟩)) ∧ W3.drew.cell? ⟨A3 + 1, o, none⟩ = some (v3 o) ∧ W3.drew.cell? ⟨A3, p, none⟩ = some (.pointer (some ⟨r p, 0, none⟩)) ∧ W3.drew.cell? ⟨A3 + 1, p, none⟩ = some (v3 p) ∧ W3.drew.cell? ⟨wr.heap.size, 2, none⟩ = some (.int .i64 nn) ∧ Fr [] W3 W3.drew := ⟨t3, t4, t5, t6, t2, (Fr.refl _ _).drew⟩
        have hkeep : Hid (∀ X Y, (X.cell? ⟨A3, o, none⟩ = some (.pointer (some ⟨r o, 0, none⟩)) ∧ X.cell? ⟨A3 + 1, o, none⟩ = some (v3 o) ∧ X.cell? ⟨A3, p, none⟩ = some (.pointer (some ⟨r p, 0, none⟩)) ∧ X.cell? ⟨A3 + 1, p, none⟩ = some (v3 p) ∧ X.cell? ⟨wr.heap.size, 2, none⟩ = some (.int .i64 nn) ∧ Fr [] W3 X) → Fr [] X Y →
            (Y.cell? ⟨A3, o, none⟩ = some (.pointer (some ⟨r o, 0, none⟩)) ∧ Y.cell? ⟨A3 + 1, o, none⟩ = some (v3 o) ∧ Y.cell? ⟨A3, p, none⟩ = some (.pointer (some ⟨r p, 0, none⟩)) ∧ Y.cell? ⟨A3 + 1, p, none⟩ = some (v3 p) ∧ Y.cell? ⟨wr.heap.size, 2, none⟩ = some (.int .i64 nn) ∧ Fr [] W3 Y)) := by
          rintro X Y ⟨h1, h2, h3, h4, h5, h6⟩ f
          exact ⟨(f.cell (World.block_lt_of_cell? _ _ h1) (by simp)).trans h1, (f.cell (World.block_lt_of_cell? _ _ h2) (by simp)).trans h2, (f.cell (World.block_lt_of_cell? _ _ h3) (by simp)).trans h3, (f.cell (World.block_lt_of_cell? _ _ h4) (by simp)).trans h4, (f.cell (World.block_lt_of_cell? _ _ h5) (by simp)).trans h5, h6.trans' f⟩
        refine wp_T [] (fun w' => w'.cell? ⟨A3, o, none⟩ = some (.pointer (some ⟨r o, 0, none⟩)) ∧ w'.cell? ⟨A3 + 1, o, none⟩ = some (v3 o) ∧ w'.cell? ⟨A3, p, none⟩ = some (.pointer (some ⟨r p, 0, none⟩)) ∧ w'.cell? ⟨A3 + 1, p, none⟩ = some (v3 p) ∧ w'.cell? ⟨wr.heap.size, 2, none⟩ = some (.int .i64 nn) ∧ Fr [] W3 w') (by kernel_rfl) (fun hC => ?_) hS0
        refine wpAnyT_takeC' 0 (by kernel_rfl) (fun _ _ _ h => h) (by assumption) (by rfl) (fun w hSw => by simp only [List.getD_cons_succ, List.getD_cons_zero]; (try dsimp only at hSw); go_simp; try with_reducible rfl) ?_
        try simp only [List.getD_cons_succ, List.getD_cons_zero, Act.put, List.setIfInBounds_toArray, List.set_cons_zero, List.set_cons_succ]
        refine wpAnyT_takeC' 1 (by kernel_rfl) (fun _ _ _ h => h) (by assumption) (by rfl) (fun w hSw => by simp only [List.getD_cons_succ, List.getD_cons_zero]; (try dsimp only at hSw); go_simp; try with_reducible rfl) ?_
        try simp only [List.getD_cons_succ, List.getD_cons_zero, Act.put, List.setIfInBounds_toArray, List.set_cons_zero, List.set_cons_succ]
        refine wpAnyT_takeC' 2 (by kernel_rfl) (fun _ _ _ h => h) (by assumption) (by rfl) (fun w hSw => by simp only [List.getD_cons_succ, List.getD_cons_zero]; (try dsimp only at hSw); go_simp; try with_reducible rfl) ?_
        try simp only [List.getD_cons_succ, List.getD_cons_zero, Act.put, List.setIfInBounds_toArray, List.set_cons_zero, List.set_cons_succ]
        refine wpAnyT_takeC' 3 (by kernel_rfl) (fun _ _ _ h => h) (by assumption) (by rfl) (fun w hSw => by simp only [List.getD_cons_succ, List.getD_cons_zero]; (try dsimp only at hSw); go_simp; try with_reducible rfl) ?_
        try simp only [List.getD_cons_succ, List.getD_cons_zero, Act.put, List.setIfInBounds_toArray, List.set_cons_zero, List.set_cons_succ]
        refine wpAnyT_takeC' 4 (by kernel_rfl) (fun _ _ _ h => h) (by assumption) (by rfl) (fun w hSw => by simp only [List.getD_cons_succ, List.getD_cons_zero]; (try dsimp only at hSw); go_simp; try with_reducible rfl) ?_
        try simp only [List.getD_cons_succ, List.getD_cons_zero, Act.put, List.setIfInBounds_toArray, List.set_cons_zero, List.set_cons_succ]
        refine wpAnyT_takeC' 5 (by kernel_rfl) (fun _ _ _ h => h) (by assumption) (by rfl) (fun w hSw => by simp only [List.getD_cons_succ, List.getD_cons_zero]; (try dsimp only at hSw); go_simp; try with_reducible rfl) ?_
        try simp only [List.getD_cons_succ, List.getD_cons_zero, Act.put, List.setIfInBounds_toArray, List.set_cons_zero, List.set_cons_succ]
        refine wpAnyT_takeC' 6 (by kernel_rfl) (fun _ _ _ h => h) (by assumption) (by rfl) (fun w hSw => by simp only [List.getD_cons_succ, List.getD_cons_zero]; (try dsimp only at hSw); go_simp; try with_reducible rfl) ?_
        try simp only [List.getD_cons_succ, List.getD_cons_zero, Act.put, List.setIfInBounds_toArray, List.set_cons_zero, List.set_cons_succ]
        refine wpAnyT_takeC' 7 (by kernel_rfl) (fun _ _ _ h => h) (by assumption) (by rfl) (fun w hSw => by simp only [List.getD_cons_succ, List.getD_cons_zero]; (try dsimp only at hSw); go_simp; try with_reducible rfl) ?_
        try simp only [List.getD_cons_succ, List.getD_cons_zero, Act.put, List.setIfInBounds_toArray, List.set_cons_zero, List.set_cons_succ]
        refine wpAnyT_takeC' 8 (by kernel_rfl) (fun _ _ _ h => h) (by assumption) (by rfl) (fun w hSw => by simp only [List.getD_cons_succ, List.getD_cons_zero]; (try dsimp only at hSw); go_simp; try with_reducible rfl) ?_
        try simp only [List.getD_cons_succ, List.getD_cons_zero, Act.put, List.setIfInBounds_toArray, List.set_cons_zero, List.set_cons_succ]
        refine wpAnyT_takeC' 9 (by kernel_rfl) (fun _ _ _ h => h) (by assumption) (by rfl) (fun w hSw => by simp only [List.getD_cons_succ, List.getD_cons_zero]; (try dsimp only at hSw); go_simp; try with_reducible rfl) ?_
        try simp only [List.getD_cons_succ, List.getD_cons_zero, Act.put, List.setIfInBounds_toArray, List.set_cons_zero, List.set_cons_succ]
        refine wpAnyT_takeC' 10 (by kernel_rfl) (fun _ _ _ h => h) (by assumption) (by rfl) (fun w hSw => by simp only [List.getD_cons_succ, List.getD_cons_zero]; (try dsimp only at hSw); go_simp; try with_reducible rfl) ?_
        try simp only [List.getD_cons_succ, List.getD_cons_zero, Act.put, List.setIfInBounds_toArray, List.set_cons_zero, List.set_cons_succ]
        refine wpAnyT_one' 11 (by kernel_rfl) (by rfl) (fun K hK => ?_)
        simp only [List.getD_cons_succ, List.getD_cons_zero]
        go_simp
        refine (he1.out _ ((Fr.refl _ _).drew)).mono ?_
        rintro e W6 ⟨rfl, f6⟩
        go_wp2_with fail
        refine hK.out _ _ (hkeep.out _ _ hC f6) ?_
        have hC3 := hkeep.out _ _ hC f6
        clear hK hC
        try simp only [Act.put, List.setIfInBounds_toArray, List.set_cons_zero, List.set_cons_succ]
        refine wpAnyT_takeC' 12 (by kernel_rfl) (fun _ _ _ h => h) (by assumption) (by rfl) (fun w hSw => by simp only [List.getD_cons_succ, List.getD_cons_zero]; (try dsimp only at hSw); go_simp; try with_reducible rfl) ?_
        try simp only [List.getD_cons_succ, List.getD_cons_zero, Act.put, List.setIfInBounds_toArray, List.set_cons_zero, List.set_cons_succ]
        refine wpAnyT_takeC' 13 (by kernel_rfl) (fun _ _ _ h => h) (by assumption) (by rfl) (fun w hSw => by simp only [List.getD_cons_succ, List.getD_cons_zero]; (try dsimp only at hSw); go_simp; try with_reducible rfl) ?_
        try simp only [List.getD_cons_succ, List.getD_cons_zero, Act.put, List.setIfInBounds_toArray, List.set_cons_zero, List.set_cons_succ]
        refine wpAnyT_takeC' 14 (by kernel_rfl) (fun _ _ _ h => h) (by assumption) (by rfl) (fun w hSw => by simp only [List.getD_cons_succ, List.getD_cons_zero]; (try dsimp only at hSw); go_simp; try with_reducible rfl) ?_
        try simp only [List.getD_cons_succ, List.getD_cons_zero, Act.put, List.setIfInBounds_toArray, List.set_cons_zero, List.set_cons_succ]
        refine wpAnyT_takeC' 15 (by kernel_rfl) (fun _ _ _ h => h) (by assumption) (by rfl) (fun w hSw => by simp only [List.getD_cons_succ, List.getD_cons_zero]; (try dsimp only at hSw); go_simp; try with_reducible rfl) ?_
        try simp only [List.getD_cons_succ, List.getD_cons_zero, Act.put, List.setIfInBounds_toArray, List.set_cons_zero, List.set_cons_succ]
        refine wpAnyT_takeP' 16 (v := .int .i64 p) (by kernel_rfl) (fun _ _ _ h => h) (by assumption) (by rfl) (fun w => by simp only [List.getD_cons_succ, List.getD_cons_zero]; clear hq2 hpl hp3; go_simp) ?_
        try simp only [List.getD_cons_succ, List.getD_cons_zero, Act.put, List.setIfInBounds_toArray, List.set_cons_zero, List.set_cons_succ]
        refine wpAnyT_takeC' 17 (by kernel_rfl) (fun _ _ _ h => h) (by assumption) (by rfl) (fun w hSw => by simp only [List.getD_cons_succ, List.getD_cons_zero]; (try dsimp only at hSw); go_simp; try with_reducible rfl) ?_
        try simp only [List.getD_cons_succ, List.getD_cons_zero, Act.put, List.setIfInBounds_toArray, List.set_cons_zero, List.set_cons_succ]
        refine wpAnyT_takeC' 18 (by kernel_rfl) (fun _ _ _ h => h) (by assumption) (by rfl) (fun w hSw => by simp only [List.getD_cons_succ, List.getD_cons_zero]; (try dsimp only at hSw); go_simp; try with_reducible rfl) ?_
        try simp only [List.getD_cons_succ, List.getD_cons_zero, Act.put, List.setIfInBounds_toArray, List.set_cons_zero, List.set_cons_succ]
        refine wpAnyT_takeC' 19 (by kernel_rfl) (fun _ _ _ h => h) (by assumption) (by rfl) (fun w hSw => by simp only [List.getD_cons_succ, List.getD_cons_zero]; (try dsimp only at hSw); go_simp; try with_reducible rfl) ?_
        try simp only [List.getD_cons_succ, List.getD_cons_zero, Act.put, List.setIfInBounds_toArray, List.set_cons_zero, List.set_cons_succ]
        refine wpAnyT_takeP' 20 (v := .int .i64 p) (by kernel_rfl) (fun _ _ _ h => h) (by assumption) (by rfl) (fun w => by simp only [List.getD_cons_succ, List.getD_cons_zero]; clear hq2 hpl hp3; go_simp) ?_
        try simp only [List.getD_cons_succ, List.getD_cons_zero, Act.put, List.setIfInBounds_toArray, List.set_cons_zero, List.set_cons_succ]
        refine wpAnyT_takeC' 21 (by kernel_rfl) (fun _ _ _ h => h) (by assumption) (by rfl) (fun w hSw => by simp only [List.getD_cons_succ, List.getD_cons_zero]; (try dsimp only at hSw); go_simp; try with_reducible rfl) ?_
        try simp only [List.getD_cons_succ, List.getD_cons_zero, Act.put, List.setIfInBounds_toArray, List.set_cons_zero, List.set_cons_succ]
        refine wpAnyT_takeC' 22 (by kernel_rfl) (fun _ _ _ h => h) (by assumption) (by rfl) (fun w hSw => by simp only [List.getD_cons_succ, List.getD_cons_zero]; (try dsimp only at hSw); go_simp; try with_reducible rfl) ?_
        try simp only [List.getD_cons_succ, List.getD_cons_zero, Act.put, List.setIfInBounds_toArray, List.set_cons_zero, List.set_cons_succ]
        refine wpAnyT_one' 23 (by kernel_rfl) (by rfl) (fun K hK => ?_)
        simp only [List.getD_cons_succ, List.getD_cons_zero]
        go_simp
        refine (he2.out _ hC3.2.2.2.2.2).mono ?_
        rintro e W7 ⟨rfl, f7⟩
        go_wp2_with fail
        have hC4 := hkeep.out _ _ hC3 f7
        refine hK.out _ _ hC4 ?_
        clear hK hC3
        try simp only [Act.put, List.setIfInBounds_toArray, List.set_cons_zero, List.set_cons_succ]
        refine wpAnyT_takeC' 24 (by kernel_rfl) (fun _ _ _ h => h) (by assumption) (by rfl) (fun w hSw => by simp only [List.getD_cons_succ, List.getD_cons_zero]; (try dsimp only at hSw); go_simp; try with_reducible rfl) ?_
        try simp only [List.getD_cons_succ, List.getD_cons_zero, Act.put, List.setIfInBounds_toArray, List.set_cons_zero, List.set_cons_succ]
        refine wpAnyT_takeC' 25 (by kernel_rfl) (fun _ _ _ h => h) (by assumption) (by rfl) (fun w hSw => by simp only [List.getD_cons_succ, List.getD_cons_zero]; (try dsimp only at hSw); go_simp; try with_reducible rfl) ?_
        try simp only [List.getD_cons_succ, List.getD_cons_zero, Act.put, List.setIfInBounds_toArray, List.set_cons_zero, List.set_cons_succ]
        refine wpAnyT_done (by kernel_rfl) ?_ _
        rw [onlyN_normal]
        have K7 := Lib.hid (K3.out.fr0 hC4.2.2.2.2.2)
        gi_wp2_with fail
        gi_roundg (gk - 1)
        case measure => omega
        case rel => exact ⟨j + 1, _, _, _, _, _, _, _, _, _, by omega, by omega, by omega, by go_num, rfl, rfl, rfl, hx3, hr3, K7⟩
    · as_aux_lemma =>
        gi_wp2_with fail
        refine wpIn_wide.2 ?_
        refine wp_T [13] (fun w' => w'.cell? ⟨A3, o, none⟩ = some (.pointer (some ⟨r o, 0, none⟩)) ∧ w'.cell? ⟨A3 + 1, o, none⟩ = some (v o) ∧ w'.cell? ⟨wr.heap.size, 0, none⟩ = some (.int .i64 kk) ∧ w'.cell? ⟨wr.heap.size, 1, none⟩ = some (.int .i64 oo) ∧ w'.cell? ⟨wr.heap.size, 2, none⟩ = some (.int .i64 nn) ∧ w'.cell? ⟨wr.heap.size, 3, none⟩ = some (.int .i64 vv)) (by kernel_rfl) (fun hC => ?_) ⟨c3, c4, d0, d1, d2, d3⟩
        refine wpAnyT_takeC' 0 (by kernel_rfl) (fun _ _ _ h => h) (by assumption) (by rfl) (fun w hSw => by simp only [List.getD_cons_succ, List.getD_cons_zero]; (try dsimp only at hSw); go_simp; try with_reducible rfl) ?_
        try simp only [List.getD_cons_succ, List.getD_cons_zero, Act.put, List.setIfInBounds_toArray, List.set_cons_zero, List.set_cons_succ]
        refine wpAnyT_takeC' 1 (by kernel_rfl) (fun _ _ _ h => h) (by assumption) (by rfl) (fun w hSw => by simp only [List.getD_cons_succ, List.getD_cons_zero]; (try dsimp only at hSw); go_simp; try with_reducible rfl) ?_
        try simp only [List.getD_cons_succ, List.getD_cons_zero, Act.put, List.setIfInBounds_toArray, List.set_cons_zero, List.set_cons_succ]
        refine wpAnyT_takeC' 2 (by kernel_rfl) (fun _ _ _ h => h) (by assumption) (by rfl) (fun w hSw => by simp only [List.getD_cons_succ, List.getD_cons_zero]; (try dsimp only at hSw); go_simp; try with_reducible rfl) ?_
        try simp only [List.getD_cons_succ, List.getD_cons_zero, Act.put, List.setIfInBounds_toArray, List.set_cons_zero, List.set_cons_succ]
        refine wpAnyT_takeC' 3 (by kernel_rfl) (fun _ _ _ h => h) (by assumption) (by rfl) (fun w hSw => by simp only [List.getD_cons_succ, List.getD_cons_zero]; (try dsimp only at hSw); go_simp; try with_reducible rfl) ?_
        try simp only [List.getD_cons_succ, List.getD_cons_zero, Act.put, List.setIfInBounds_toArray, List.set_cons_zero, List.set_cons_succ]
        refine wpAnyT_takeC' 4 (by kernel_rfl) (fun _ _ _ h => h) (by assumption) (by rfl) (fun w hSw => by simp only [List.getD_cons_succ, List.getD_cons_zero]; (try dsimp only at hSw); go_simp; try with_reducible rfl) ?_
        try simp only [List.getD_cons_succ, List.getD_cons_zero, Act.put, List.setIfInBounds_toArray, List.set_cons_zero, List.set_cons_succ]
        refine wpAnyT_takeC' 5 (by kernel_rfl) (fun _ _ _ h => h) (by assumption) (by rfl) (fun w hSw => by simp only [List.getD_cons_succ, List.getD_cons_zero]; (try dsimp only at hSw); go_simp; try with_reducible rfl) ?_
        try simp only [List.getD_cons_succ, List.getD_cons_zero, Act.put, List.setIfInBounds_toArray, List.set_cons_zero, List.set_cons_succ]
        refine wpAnyT_takeC' 6 (by kernel_rfl) (fun _ _ _ h => h) (by assumption) (by rfl) (fun w hSw => by simp only [List.getD_cons_succ, List.getD_cons_zero]; (try dsimp only at hSw); go_simp; try with_reducible rfl) ?_
        try simp only [List.getD_cons_succ, List.getD_cons_zero, Act.put, List.setIfInBounds_toArray, List.set_cons_zero, List.set_cons_succ]
        refine wpAnyT_takeC' 7 (by kernel_rfl) (fun _ _ _ h => h) (by assumption) (by rfl) (fun w hSw => by simp only [List.getD_cons_succ, List.getD_cons_zero]; (try dsimp only at hSw); go_simp; try with_reducible rfl) ?_
        try simp only [List.getD_cons_succ, List.getD_cons_zero, Act.put, List.setIfInBounds_toArray, List.set_cons_zero, List.set_cons_succ]
        refine wpAnyT_one' 8 (by kernel_rfl) (by rfl) (fun K hK => ?_)
        simp only [List.getD_cons_succ, List.getD_cons_zero]
        go_simp
        refine (hdo.out _ ((Fr.refl _ _).drew) kk oo nn vv).mono ?_
        rintro e W2 ⟨u, S2, ds2, xs2, rfl, k2, o2, f2, g2, gs2, ap2, hl2⟩
        obtain ⟨ua, uc, rfl⟩ := o2.val
        go_wp2_with fail
        have k1 := HKa.out.fr0 (Fr.refl [] W1).drew
        obtain ⟨n3, n4, n34⟩ := HKa.out.far (show o < 2 by omega)
        have n9 : wr.heap.size ∉ r o :: ds o := fun hm => by have := hlr.out _ hm; omega
        have a4' := k1.a4.fr f2 n4
        have B9 := hB.out.drew.fr f2 n9
        have hC2 : W2.cell? ⟨A3, o, none⟩ = some (.pointer (some ⟨r o, 0, none⟩)) ∧ W2.cell? ⟨A3 + 1, o, none⟩ = some (v o) ∧ W2.cell? ⟨wr.heap.size, 0, none⟩ = some (.int .i64 kk) ∧ W2.cell? ⟨wr.heap.size, 1, none⟩ = some (.int .i64 oo) ∧ W2.cell? ⟨wr.heap.size, 2, none⟩ = some (.int .i64 nn) ∧ W2.cell? ⟨wr.heap.size, 3, none⟩ = some (.int .i64 vv) :=
          ⟨(f2.cell (p := ⟨A3, o, none⟩) k1.a3.lt n3).trans c3, (f2.cell (p := ⟨A3 + 1, o, none⟩) k1.a4.lt n4).trans c4, B9.cell 0, B9.cell 1, B9.cell 2, B9.cell 3⟩
        have K3 := Lib.hid (k1.did (show o < 2 by omega) k2 o2 f2 g2 gs2 ap2)
        have B3 := Lib.hid (B9.other (p := ⟨A3 + 1, o, none⟩) (.slice ua xs2.length uc) (by have := hlA.out; simp; omega))
        have q4 := a4'.frz o
        have e4 := hC2.2.1
        have hx3 : ∀ o', o' < 2 → ((upd xs o xs2) o').length ≤ 3 * (j + 1) := fun o' ho' => by
          have := hxl o' ho'
          have := hxl o (by omega)
          unfold upd
          split <;> omega
        have hr3 : rows.length ≤ 2 * (j + 1) := by omega
        refine hK.out _ _ hC2 ?_
        clear hK k1 k2 o2 f2 g2 gs2 ap2 a4' B9
        try simp only [Act.put, List.setIfInBounds_toArray, List.set_cons_zero, List.set_cons_succ]
        refine wpAnyT_takeP' 9 (by kernel_rfl) (fun _ _ _ h => h) (by assumption) (by rfl) (fun w => by simp only [List.getD_cons_succ, List.getD_cons_zero]; go_simp; try with_reducible rfl) ?_
        try simp only [List.getD_cons_succ, List.getD_cons_zero, Act.put, List.setIfInBounds_toArray, List.set_cons_zero, List.set_cons_succ]
        refine wpAnyT_takeP' 10 (by kernel_rfl) (fun _ _ _ h => h) (by assumption) (by rfl) (fun w => by simp only [List.getD_cons_succ, List.getD_cons_zero]; go_simp; try with_reducible rfl) ?_
        try simp only [List.getD_cons_succ, List.getD_cons_zero, Act.put, List.setIfInBounds_toArray, List.set_cons_zero, List.set_cons_succ]
        refine wpAnyT_takeP' 11 (by kernel_rfl) (fun _ _ _ h => h) (by assumption) (by rfl) (fun w => by simp only [List.getD_cons_succ, List.getD_cons_zero]; go_simp; try with_reducible rfl) ?_
        try simp only [List.getD_cons_succ, List.getD_cons_zero, Act.put, List.setIfInBounds_toArray, List.set_cons_zero, List.set_cons_succ]
        refine wpAnyT_takeC' 12 (by kernel_rfl) (fun _ _ _ h => h) (by assumption) (by rfl) (fun w hSw => by simp only [List.getD_cons_succ, List.getD_cons_zero]; (try dsimp only at hSw); go_simp; try with_reducible rfl) ?_
        try simp only [List.getD_cons_succ, List.getD_cons_zero, Act.put, List.setIfInBounds_toArray, List.set_cons_zero, List.set_cons_succ]
        refine wpAnyT_last 13 rfl (by kernel_rfl) ?_
        simp only [List.drop_succ_cons, List.drop_zero]
        go_wp2
        rw [onlyN_normal]
        obtain ⟨W3, hW3⟩ : ∃ W3, W2.setCell ⟨A3 + 1, o, none⟩ (.slice ua xs2.length uc) = W3 := ⟨_, rfl⟩
        obtain ⟨ds3, hds3⟩ : ∃ ds3, upd ds o ds2 = ds3 := ⟨_, rfl⟩
        obtain ⟨xs3, hxs3⟩ : ∃ xs3, upd xs o xs2 = xs3 := ⟨_, rfl⟩
        obtain ⟨v3, hv3⟩ : ∃ v3, upd v o (.slice ua xs2.length uc) = v3 := ⟨_, rfl⟩
        obtain ⟨S3, hS3⟩ : ∃ S3, upd S o S2 = S3 := ⟨_, rfl⟩
        rw [hW3] at K3 B3 ⊢
        rw [hds3, hxs3, hv3, hS3] at K3
        rw [hxs3] at hx3
        clear hW3 hds3 hxs3 hv3 hS3 hC2 q4 e4 hC hdo hran n3 n4 n34 n9
        clear c3 c4 d0 d1 d2 d3 y0 y1 y2 y3
        -- the tail
        obtain ⟨p, hp⟩ : ∃ p, p = 1 - o := ⟨_, rfl⟩
        have hpl : p < 2 := by omega
        have hw1 : IntKind.i64.wrap (1 - (o : Int)) = (p : Int) := by rw [IntKind.wrap_i64]; omega
        have hp3 : (p : Int) < 2 := by omega
        have hq2 : 1 - o = p := hp.symm
        clear hp
        obtain ⟨t3, t4⟩ := K3.out.cells (show o < 2 by omega)
        obtain ⟨t5, t6⟩ := K3.out.cells (show p < 2 by omega)
        have t2 := B3.out.cell 2
        simp only [List.getElem?_cons_zero, List.getElem?_cons_succ] at t2
        have he1 := Lib.hid (fun X (f : Fr [] W3 X) => ends_ok ((K3.out.ring o (by omega)).fr f (by simp)) ((K3.out.list o (by omega)).fr f (by simp)) (by have := hx3 o (by omega); omega) nn)
        have he2 := Lib.hid (fun X (f : Fr [] W3 X) => ends_ok ((K3.out.ring p (by omega)).fr f (by simp)) ((K3.out.list p (by omega)).fr f (by simp)) (by have := hx3 p (by omega); omega) 0)
        gi_wp2_with fail
        refine wpIn_wide.2 ?_
        have hS0 : W3.drew.cell? ⟨A3, o, none⟩ = some (.pointer (some ⟨r o, 0, none⟩)) ∧ W3.drew.cell? ⟨A3 + 1, o, none⟩ = some (v3 o) ∧ W3.drew.cell? ⟨A3, p, none⟩ = some (.pointer (some ⟨r p, 0, none⟩)) ∧ W3.drew.cell? ⟨A3 + 1, p, none⟩ = some (v3 p) ∧ W3.drew.cell? ⟨wr.heap.size, 2, none⟩ = some (.int .i64 nn) ∧ Fr [] W3 W3.drew := ⟨t3, t4, t5, t6, t2, (Fr.refl _ _).drew⟩
        have hkeep : Hid (∀ X Y, (X.cell? ⟨A3, o, none⟩ = some (.pointer (some ⟨r o, 0, none⟩)) ∧ X.cell? ⟨A3 + 1, o, none⟩ = some (v3 o) ∧ X.cell? ⟨A3, p, none⟩ = some (.pointer (some ⟨r p, 0, none⟩)) ∧ X.cell? ⟨A3 + 1, p, none⟩ = some (v3 p) ∧ X.cell? ⟨wr.heap.size, 2, none⟩ = some (.int .i64 nn) ∧ Fr [] W3 X) → Fr [] X Y →
            (Y.cell? ⟨A3, o, none⟩ = some (.pointer (some ⟨r o, 0, none⟩)) ∧ Y.cell? ⟨A3 + 1, o, none⟩ = some (v3 o) ∧ Y.cell? ⟨A3, p, none⟩ = some (.pointer (some ⟨r p, 0, none⟩)) ∧ Y.cell? ⟨A3 + 1, p, none⟩ = some (v3 p) ∧ Y.cell? ⟨wr.heap.size, 2, none⟩ = some (.int .i64 nn) ∧ Fr [] W3 Y)) := by
          rintro X Y ⟨h1, h2, h3, h4, h5, h6⟩ f
          exact ⟨(f.cell (World.block_lt_of_cell? _ _ h1) (by simp)).trans h1, (f.cell (World.block_lt_of_cell? _ _ h2) (by simp)).trans h2, (f.cell (World.block_lt_of_cell? _ _ h3) (by simp)).trans h3, (f.cell (World.block_lt_of_cell? _ _ h4) (by simp)).trans h4, (f.cell (World.block_lt_of_cell? _ _ h5) (by simp)).trans h5, h6.trans' f⟩
        refine wp_T [] (fun w' => w'.cell? ⟨A3, o, none⟩ = some (.pointer (some ⟨r o, 0, none⟩)) ∧ w'.cell? ⟨A3 + 1, o, none⟩ = some (v3 o) ∧ w'.cell? ⟨A3, p, none⟩ = some (.pointer (some ⟨r p, 0, none⟩)) ∧ w'.cell? ⟨A3 + 1, p, none⟩ = some (v3 p) ∧ w'.cell? ⟨wr.heap.size, 2, none⟩ = some (.int .i64 nn) ∧ Fr [] W3 w') (by kernel_rfl) (fun hC => ?_) hS0
        refine wpAnyT_takeC' 0 (by kernel_rfl) (fun _ _ _ h => h) (by assumption) (by rfl) (fun w hSw => by simp only [List.getD_cons_succ, List.getD_cons_zero]; (try dsimp only at hSw); go_simp; try with_reducible rfl) ?_
        try simp only [List.getD_cons_succ, List.getD_cons_zero, Act.put, List.setIfInBounds_toArray, List.set_cons_zero, List.set_cons_succ]
        refine wpAnyT_takeC' 1 (by kernel_rfl) (fun _ _ _ h => h) (by assumption) (by rfl) (fun w hSw => by simp only [List.getD_cons_succ, List.getD_cons_zero]; (try dsimp only at hSw); go_simp; try with_reducible rfl) ?_
        try simp only [List.getD_cons_succ, List.getD_cons_zero, Act.put, List.setIfInBounds_toArray, List.set_cons_zero, List.set_cons_succ]
        refine wpAnyT_takeC' 2 (by kernel_rfl) (fun _ _ _ h => h) (by assumption) (by rfl) (fun w hSw => by simp only [List.getD_cons_succ, List.getD_cons_zero]; (try dsimp only at hSw); go_simp; try with_reducible rfl) ?_
        try simp only [List.getD_cons_succ, List.getD_cons_zero, Act.put, List.setIfInBounds_toArray, List.set_cons_zero, List.set_cons_succ]
        refine wpAnyT_takeC' 3 (by kernel_rfl) (fun _ _ _ h => h) (by assumption) (by rfl) (fun w hSw => by simp only [List.getD_cons_succ, List.getD_cons_zero]; (try dsimp only at hSw); go_simp; try with_reducible rfl) ?_
        try simp only [List.getD_cons_succ, List.getD_cons_zero, Act.put, List.setIfInBounds_toArray, List.set_cons_zero, List.set_cons_succ]
        refine wpAnyT_takeC' 4 (by kernel_rfl) (fun _ _ _ h => h) (by assumption) (by rfl) (fun w hSw => by simp only [List.getD_cons_succ, List.getD_cons_zero]; (try dsimp only at hSw); go_simp; try with_reducible rfl) ?_
        try simp only [List.getD_cons_succ, List.getD_cons_zero, Act.put, List.setIfInBounds_toArray, List.set_cons_zero, List.set_cons_succ]
        refine wpAnyT_takeC' 5 (by kernel_rfl) (fun _ _ _ h => h) (by assumption) (by rfl) (fun w hSw => by simp only [List.getD_cons_succ, List.getD_cons_zero]; (try dsimp only at hSw); go_simp; try with_reducible rfl) ?_
        try simp only [List.getD_cons_succ, List.getD_cons_zero, Act.put, List.setIfInBounds_toArray, List.set_cons_zero, List.set_cons_succ]
        refine wpAnyT_takeC' 6 (by kernel_rfl) (fun _ _ _ h => h) (by assumption) (by rfl) (fun w hSw => by simp only [List.getD_cons_succ, List.getD_cons_zero]; (try dsimp only at hSw); go_simp; try with_reducible rfl) ?_
        try simp only [List.getD_cons_succ, List.getD_cons_zero, Act.put, List.setIfInBounds_toArray, List.set_cons_zero, List.set_cons_succ]
        refine wpAnyT_takeC' 7 (by kernel_rfl) (fun _ _ _ h => h) (by assumption) (by rfl) (fun w hSw => by simp only [List.getD_cons_succ, List.getD_cons_zero]; (try dsimp only at hSw); go_simp; try with_reducible rfl) ?_
        try simp only [List.getD_cons_succ, List.getD_cons_zero, Act.put, List.setIfInBounds_toArray, List.set_cons_zero, List.set_cons_succ]
        refine wpAnyT_takeC' 8 (by kernel_rfl) (fun _ _ _ h => h) (by assumption) (by rfl) (fun w hSw => by simp only [List.getD_cons_succ, List.getD_cons_zero]; (try dsimp only at hSw); go_simp; try with_reducible rfl) ?_
        try simp only [List.getD_cons_succ, List.getD_cons_zero, Act.put, List.setIfInBounds_toArray, List.set_cons_zero, List.set_cons_succ]
        refine wpAnyT_takeC' 9 (by kernel_rfl) (fun _ _ _ h => h) (by assumption) (by rfl) (fun w hSw => by simp only [List.getD_cons_succ, List.getD_cons_zero]; (try dsimp only at hSw); go_simp; try with_reducible rfl) ?_
        try simp only [List.getD_cons_succ, List.getD_cons_zero, Act.put, List.setIfInBounds_toArray, List.set_cons_zero, List.set_cons_succ]
        refine wpAnyT_takeC' 10 (by kernel_rfl) (fun _ _ _ h => h) (by assumption) (by rfl) (fun w hSw => by simp only [List.getD_cons_succ, List.getD_cons_zero]; (try dsimp only at hSw); go_simp; try with_reducible rfl) ?_
        try simp only [List.getD_cons_succ, List.getD_cons_zero, Act.put, List.setIfInBounds_toArray, List.set_cons_zero, List.set_cons_succ]
        refine wpAnyT_one' 11 (by kernel_rfl) (by rfl) (fun K hK => ?_)
        simp only [List.getD_cons_succ, List.getD_cons_zero]
        go_simp
        refine (he1.out _ ((Fr.refl _ _).drew)).mono ?_
        rintro e W6 ⟨rfl, f6⟩
        go_wp2_with fail
        refine hK.out _ _ (hkeep.out _ _ hC f6) ?_
        have hC3 := hkeep.out _ _ hC f6
        clear hK hC
        try simp only [Act.put, List.setIfInBounds_toArray, List.set_cons_zero, List.set_cons_succ]
        refine wpAnyT_takeC' 12 (by kernel_rfl) (fun _ _ _ h => h) (by assumption) (by rfl) (fun w hSw => by simp only [List.getD_cons_succ, List.getD_cons_zero]; (try dsimp only at hSw); go_simp; try with_reducible rfl) ?_
        try simp only [List.getD_cons_succ, List.getD_cons_zero, Act.put, List.setIfInBounds_toArray, List.set_cons_zero, List.set_cons_succ]
        refine wpAnyT_takeC' 13 (by kernel_rfl) (fun _ _ _ h => h) (by assumption) (by rfl) (fun w hSw => by simp only [List.getD_cons_succ, List.getD_cons_zero]; (try dsimp only at hSw); go_simp; try with_reducible rfl) ?_
        try simp only [List.getD_cons_succ, List.getD_cons_zero, Act.put, List.setIfInBounds_toArray, List.set_cons_zero, List.set_cons_succ]
        refine wpAnyT_takeC' 14 (by kernel_rfl) (fun _ _ _ h => h) (by assumption) (by rfl) (fun w hSw => by simp only [List.getD_cons_succ, List.getD_cons_zero]; (try dsimp only at hSw); go_simp; try with_reducible rfl) ?_
        try simp only [List.getD_cons_succ, List.getD_cons_zero, Act.put, List.setIfInBounds_toArray, List.set_cons_zero, List.set_cons_succ]
        refine wpAnyT_takeC' 15 (by kernel_rfl) (fun _ _ _ h => h) (by assumption) (by rfl) (fun w hSw => by simp only [List.getD_cons_succ, List.getD_cons_zero]; (try dsimp only at hSw); go_simp; try with_reducible rfl) ?_
        try simp only [List.getD_cons_succ, List.getD_cons_zero, Act.put, List.setIfInBounds_toArray, List.set_cons_zero, List.set_cons_succ]
        refine wpAnyT_takeP' 16 (v := .int .i64 p) (by kernel_rfl) (fun _ _ _ h => h) (by assumption) (by rfl) (fun w => by simp only [List.getD_cons_succ, List.getD_cons_zero]; clear hq2 hpl hp3; go_simp) ?_
        try simp only [List.getD_cons_succ, List.getD_cons_zero, Act.put, List.setIfInBounds_toArray, List.set_cons_zero, List.set_cons_succ]
        refine wpAnyT_takeC' 17 (by kernel_rfl) (fun _ _ _ h => h) (by assumption) (by rfl) (fun w hSw => by simp only [List.getD_cons_succ, List.getD_cons_zero]; (try dsimp only at hSw); go_simp; try with_reducible rfl) ?_
        try simp only [List.getD_cons_succ, List.getD_cons_zero, Act.put, List.setIfInBounds_toArray, List.set_cons_zero, List.set_cons_succ]
        refine wpAnyT_takeC' 18 (by kernel_rfl) (fun _ _ _ h => h) (by assumption) (by rfl) (fun w hSw => by simp only [List.getD_cons_succ, List.getD_cons_zero]; (try dsimp only at hSw); go_simp; try with_reducible rfl) ?_
        try simp only [List.getD_cons_succ, List.getD_cons_zero, Act.put, List.setIfInBounds_toArray, List.set_cons_zero, List.set_cons_succ]
        refine wpAnyT_takeC' 19 (by kernel_rfl) (fun _ _ _ h => h) (by assumption) (by rfl) (fun w hSw => by simp only [List.getD_cons_succ, List.getD_cons_zero]; (try dsimp only at hSw); go_simp; try with_reducible rfl) ?_
        try simp only [List.getD_cons_succ, List.getD_cons_zero, Act.put, List.setIfInBounds_toArray, List.set_cons_zero, List.set_cons_succ]
        refine wpAnyT_takeP' 20 (v := .int .i64 p) (by kernel_rfl) (fun _ _ _ h => h) (by assumption) (by rfl) (fun w => by simp only [List.getD_cons_succ, List.getD_cons_zero]; clear hq2 hpl hp3; go_simp) ?_
        try simp only [List.getD_cons_succ, List.getD_cons_zero, Act.put, List.setIfInBounds_toArray, List.set_cons_zero, List.set_cons_succ]
        refine wpAnyT_takeC' 21 (by kernel_rfl) (fun _ _ _ h => h) (by assumption) (by rfl) (fun w hSw => by simp only [List.getD_cons_succ, List.getD_cons_zero]; (try dsimp only at hSw); go_simp; try with_reducible rfl) ?_
        try simp only [List.getD_cons_succ, List.getD_cons_zero, Act.put, List.setIfInBounds_toArray, List.set_cons_zero, List.set_cons_succ]
        refine wpAnyT_takeC' 22 (by kernel_rfl) (fun _ _ _ h => h) (by assumption) (by rfl) (fun w hSw => by simp only [List.getD_cons_succ, List.getD_cons_zero]; (try dsimp only at hSw); go_simp; try with_reducible rfl) ?_
        try simp only [List.getD_cons_succ, List.getD_cons_zero, Act.put, List.setIfInBounds_toArray, List.set_cons_zero, List.set_cons_succ]
        refine wpAnyT_one' 23 (by kernel_rfl) (by rfl) (fun K hK => ?_)
        simp only [List.getD_cons_succ, List.getD_cons_zero]
        go_simp
        refine (he2.out _ hC3.2.2.2.2.2).mono ?_
        rintro e W7 ⟨rfl, f7⟩
        go_wp2_with fail
        have hC4 := hkeep.out _ _ hC3 f7
        refine hK.out _ _ hC4 ?_
        clear hK hC3
        try simp only [Act.put, List.setIfInBounds_toArray, List.set_cons_zero, List.set_cons_succ]
        refine wpAnyT_takeC' 24 (by kernel_rfl) (fun _ _ _ h => h) (by assumption) (by rfl) (fun w hSw => by simp only [List.getD_cons_succ, List.getD_cons_zero]; (try dsimp only at hSw); go_simp; try with_reducible rfl) ?_
        try simp only [List.getD_cons_succ, List.getD_cons_zero, Act.put, List.setIfInBounds_toArray, List.set_cons_zero, List.set_cons_succ]
        refine wpAnyT_takeC' 25 (by kernel_rfl) (fun _ _ _ h => h) (by assumption) (by rfl) (fun w hSw => by simp only [List.getD_cons_succ, List.getD_cons_zero]; (try dsimp only at hSw); go_simp; try with_reducible rfl) ?_
        try simp only [List.getD_cons_succ, List.getD_cons_zero, Act.put, List.setIfInBounds_toArray, List.set_cons_zero, List.set_cons_succ]
        refine wpAnyT_done (by kernel_rfl) ?_ _
        rw [onlyN_normal]
        have K7 := Lib.hid (K3.out.fr0 hC4.2.2.2.2.2)
        gi_wp2_with fail
        gi_roundg (gk - 1)
        case measure => omega
        case rel => exact ⟨j + 1, _, _, _, _, _, _, _, _, _, by omega, by omega, by omega, by go_num, rfl, rfl, rfl, hx3, hr3, K7⟩
  · have hx9 := Lib.hid (fun o (ho : o < 2) => show (xs o).length ≤ 65536 by have := hxl o ho; omega)
    clear hxl
    have hend : la ≤ j ∨ (j < la ∧ j = 300) := by omega
    obtain ⟨qa, qc, rfl⟩ := HK.out.lists.val
    have hr600 : rows.length ≤ 600 := by omega
    rcases hend with hend | ⟨hend, rfl⟩
    all_goals
      gi_wp2_with fail
      gi_loopg [17] (rows.length + 1) (fun k iv W => ∃ i : Nat, k + i = rows.length + 1 ∧ i ≤ rows.length ∧ iv = .int .i64 i ∧ W = wr)
      case atStart => exact ⟨0, by omega, by omega, rfl, rfl⟩
      case round =>
        obtain ⟨i, hik, hil, rfl, rfl⟩ := hrel
        by_cases hin : i < rows.length
        · obtain ⟨⟨u, n, T⟩, hrow⟩ : ∃ x, rows[i]? = some x := ⟨rows[i], by simp [hin]⟩
          obtain ⟨hu, hn⟩ := HK.out.rowsok i u n T hrow
          obtain ⟨ua, uc, rfl⟩ := hu.val
          obtain ⟨g, gc, hgv, _⟩ := HK.out.lists.head (by omega)
          cases hgv
          have cg : wr.cell? ⟨g, i, none⟩ = some (.slice ua n uc) := by
            rw [HK.out.lists.cellAt i (by omega), List.getElem?_map, hrow]
            rfl
          have HU := Lib.hid hu
          clear hu hrow
          gi_wp2_with fail
          gi_loopg [18] (n + 1) (fun kk iv W => ∃ q : Nat, kk + q = n + 1 ∧ q ≤ n ∧ iv = .int .i64 q ∧ W = wr)
          case atStart => exact ⟨0, by omega, by omega, rfl, rfl⟩
          case round =>
            obtain ⟨q, hqk, hqn, rfl, rfl⟩ := hrel
            by_cases hq : q < n
            · obtain ⟨g2, gc2, hgv, _⟩ := HU.out.head (by omega)
              cases hgv
              have cq : wr.cell? ⟨g2, q, none⟩ = some (.int .i64 (-7 - (i : Int))) := by
                rw [HU.out.cellAt q (by omega), List.getElem?_replicate, if_pos hq]
              have hneg : IntKind.i64.wrap (-7 - (i : Int)) = -7 - (i : Int) := wrap_small (by omega) (by omega)
              gi_wp2_with fail
              gi_roundg (n - q)
              case measure => omega
              case rel => exact ⟨q + 1, by omega, by omega, by go_num, rfl⟩
            · obtain rfl : q = n := by omega
              gi_wp2_with fail
              gi_roundg (rows.length - i)
              case measure => omega
              case rel => exact ⟨i + 1, by omega, by omega, by go_num, rfl⟩
        · obtain rfl : i = rows.length := by omega
          obtain ⟨x3, x4⟩ := HK.out.cells (show 0 < 2 by omega)
          obtain ⟨x5, x6⟩ := HK.out.cells (show 1 < 2 by omega)
          gi_wp2_with fail
          refine wpIn_wide.2 ?_
          have hS0 : wr.drew.cell? ⟨A3, 0, none⟩ = some (.pointer (some ⟨r 0, 0, none⟩)) ∧ wr.drew.cell? ⟨A3 + 1, 0, none⟩ = some (v 0) ∧ wr.drew.cell? ⟨A3, 1, none⟩ = some (.pointer (some ⟨r 1, 0, none⟩)) ∧ wr.drew.cell? ⟨A3 + 1, 1, none⟩ = some (v 1) ∧ Fr [] wr wr.drew := ⟨x3, x4, x5, x6, (Fr.refl _ _).drew⟩
          have hkeep : Hid (∀ X Y, (X.cell? ⟨A3, 0, none⟩ = some (.pointer (some ⟨r 0, 0, none⟩)) ∧ X.cell? ⟨A3 + 1, 0, none⟩ = some (v 0) ∧ X.cell? ⟨A3, 1, none⟩ = some (.pointer (some ⟨r 1, 0, none⟩)) ∧ X.cell? ⟨A3 + 1, 1, none⟩ = some (v 1) ∧ Fr [] wr X) → Fr [] X Y →
              (Y.cell? ⟨A3, 0, none⟩ = some (.pointer (some ⟨r 0, 0, none⟩)) ∧ Y.cell? ⟨A3 + 1, 0, none⟩ = some (v 0) ∧ Y.cell? ⟨A3, 1, none⟩ = some (.pointer (some ⟨r 1, 0, none⟩)) ∧ Y.cell? ⟨A3 + 1, 1, none⟩ = some (v 1) ∧ Fr [] wr Y)) := by
            rintro X Y ⟨h1, h2, h3, h4, h6⟩ f
            exact ⟨(f.cell (World.block_lt_of_cell? _ _ h1) (by simp)).trans h1, (f.cell (World.block_lt_of_cell? _ _ h2) (by simp)).trans h2, (f.cell (World.block_lt_of_cell? _ _ h3) (by simp)).trans h3, (f.cell (World.block_lt_of_cell? _ _ h4) (by simp)).trans h4, h6.trans' f⟩
          have hli := Lib.hid (fun o (ho : o < 2) X (f : Fr [] wr X) => list_i ((HK.out.ring o ho).fr f (by simp)))
          have hsa := Lib.hid (fun o (ho : o < 2) X (f : Fr [] wr X) (q : Value) (Sq : List Nat) (hq : OwnS X 3 1 q (xs o).length ((xs o).flatMap encI) Sq) => same_own hq ((HK.out.list o ho).fr f (by simp)) (hx9.out o ho))
          go_region_held3 (fun w' => w'.cell? ⟨A3, 0, none⟩ = some (.pointer (some ⟨r 0, 0, none⟩)) ∧ w'.cell? ⟨A3 + 1, 0, none⟩ = some (v 0) ∧ w'.cell? ⟨A3, 1, none⟩ = some (.pointer (some ⟨r 1, 0, none⟩)) ∧ w'.cell? ⟨A3 + 1, 1, none⟩ = some (v 1) ∧ Fr [] wr w')
            (first | exact hS0 | exact hkeep.out _ _ (by assumption) (by assumption))
            (first
              | (go_at_call_of 31 (Value.pointer (some ⟨r 0, 0, none⟩)); refine (hli.out 0 (by omega) _ (And.right (And.right (And.right (And.right (by assumption)))))).mono ?_; rintro e WA ⟨vA, SA, rfl, oA, gA, fA⟩)
              | (go_at_call_of 31 (Value.pointer (some ⟨r 1, 0, none⟩)); refine (hli.out 1 (by omega) _ (And.right (And.right (And.right (And.right (by assumption)))))).mono ?_; rintro e WB ⟨vB, SB, rfl, oB, gB, fB⟩)
              | (go_at_call_of 30 vB; refine (hsa.out 1 (by omega) _ (And.right (And.right (And.right (And.right (by assumption))))) _ _ (by assumption)).mono ?_; rintro e WD ⟨rfl, fD⟩)
              | (go_at_call_of 30 vA; refine (hsa.out 0 (by omega) _ (And.right (And.right (And.right (And.right (by assumption))))) _ _ (by assumption)).mono ?_; rintro e WC ⟨rfl, fC⟩))
          have fwd : Fr [] wr WD := (((((Fr.refl [] wr).drew).trans' fA).trans' fC).trans' fB).trans' fD
          have KD := Lib.hid (HK.out.fr0 fwd)
          clear fwd fA fB fC fD oA oB gA gB hsa hli hkeep hS0 x3 x4 x5 x6
          gi_wp2_with fail
          refine leaves_marks Ds _ KD.out.nodup KD.out.marks (fun W' fW => ?_)
          refine ⟨.bool true, by simp [results, Try.results8, go_sem], rfl, ?_⟩
          exact KD.out.leave fW
end Go.Proofs.Ytoodgjmgkjhpoaa
