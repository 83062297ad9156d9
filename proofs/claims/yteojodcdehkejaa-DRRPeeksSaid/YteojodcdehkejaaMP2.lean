/- The discipline's Peek: a copy's turns are taken. -/
import Derived.Test.YteojodcdehkejaaMP1
import Derived.Test.YteojodcdehkejaaMA9
import Derived.Test.YteojodcdehkejaaMA10
import Derived.Deep.DeepCutAuto
set_option linter.unusedVariables false
namespace Go.Proofs.Yteojodcdehkejaa
open Go Go.RowKit
attribute [local go_sem] calmQ_normal wide_fn wide_depth Oper.semAt_some run_store_func
theorem permA1 {α : Type} (a r b x : α) (D : List α) : (((([a] ++ D) ++ [r]) ++ [b]) ++ [x]).Perm ([x, b, r, a] ++ D) := by
  classical
  rw [List.perm_iff_count]
  intro y
  simp only [List.count_append, List.count_cons, List.count_nil]
  omega
theorem permA2 {α : Type} (a r b x : α) (D : List α) : (((([a] ++ D) ++ [r]) ++ [x]) ++ [b]).Perm ([x, b, r, a] ++ D) := by
  classical
  rw [List.perm_iff_count]
  intro y
  simp only [List.count_append, List.count_cons, List.count_nil]
  omega
theorem permB {α : Type} (a r b x : α) (D : List α) : (((([a] ++ D) ++ [x]) ++ [r]) ++ [b]).Perm ([x, b, r, a] ++ D) := by
  classical
  rw [List.perm_iff_count]
  intro y
  simp only [List.count_append, List.count_cons, List.count_nil]
  omega
theorem permP {α : Type} (a x b r p : α) (D : List α) : ([a] ++ ([x, b, r, p] ++ D)).Perm ([r] ++ ([p, a, x, b] ++ D)) := by
  classical
  rw [List.perm_iff_count]
  intro y
  simp only [List.count_append, List.count_cons, List.count_nil]
  omega
theorem permQ {α : Type} (r p m a x b h c g : α) (cs st q cq rq : List α) (hq : q.Perm (cq ++ rq)) : (((r :: cs) ++ [m]) ++ ([p, a, x, b] ++ ([h, c, g] ++ (st ++ q)))).Perm (([b, r] ++ (cs ++ cq)) ++ ([p, m, a, x, h, c, g] ++ (st ++ rq))) := by
  classical
  rw [List.perm_iff_count]
  intro y
  have := hq.count_eq y
  simp only [List.count_append, List.count_cons, List.count_nil] at this ⊢
  omega
theorem permS {α : Type} (p : α) (cc zs : List α) : (cc ++ ((p :: zs))).Perm ([p] ++ (cc ++ zs)) := by
  classical
  rw [List.perm_iff_count]
  intro y
  simp only [List.count_append, List.count_cons, List.count_nil]
  omega
theorem permR {α : Type} (r p m a x b h c g : α) (cs st q cq rq : List α) (hq : q.Perm (cq ++ rq)) : ([p] ++ ((([b, r] ++ (cs ++ cq))) ++ ([m, a, x, h, c, g] ++ (st ++ rq)))).Perm (([h, c, g] ++ (st ++ q)) ++ ([b, r, p, m, a, x] ++ cs)) := by
  classical
  rw [List.perm_iff_count]
  intro y
  have := hq.count_eq y
  simp only [List.count_append, List.count_cons, List.count_nil] at this ⊢
  omega
set_option maxRecDepth 100000 in
set_option maxHeartbeats 4000000 in
theorem dpeek {w : World} {d : Dr} (h : Holds w d.chunks) {ri : List Nat} (hri : d.ring = blocksOf d.fl ri) (hf : FineAt d.fl ri) (hn : ri.Nodup) (hl : ri.length ≤ 1048576) (t : Int) :
    Calls Try.prog 25 #[.pointer (some ⟨d.b, 0, none⟩), .int .i64 t] w fun e w' =>
      Sep w (Chunks.bs d.chunks) w' d.chunks ∧ (ri = [] ∧ e = .returned (.tuple #[aggp6 zerop6, .bool false]) ∨ ∃ j f p qs, NT (ri.map (tlOf d.fl)) d.turn j ∧ d.fl[j]? = some f ∧ f.q = p :: qs ∧ e = .returned (.tuple #[aggp6 p, .bool true])) := by
  have HRI := Lib.hid hri
  have HF := Lib.hid hf
  obtain ⟨RB, hRB⟩ : ∃ RB, w.heap.size = RB := ⟨_, rfl⟩
  have K0 := Lib.hid (Dr.inbox (Sep.start h) 34 (encP6 zerop6))
  rw [hRB] at K0
  have hb := (show Blk w d.b 92 d.head from h.get (i := 0) rfl)
  have HB := Lib.hid (fun X (fX : Fr [] w X) => (hb.fr fX (by simp)).cell 2)
  have lb := hb.lt
  have HLT := Lib.hid h.lt
  obtain ⟨W0, hW0⟩ : ∃ W0, w.alloc (.cells (encP6 zerop6).toArray 34) = W0 := ⟨_, rfl⟩
  rw [hW0] at K0
  have hW0' : w.alloc (.cells #[.int .i64 0, .int .i64 0, .int .i64 0, .int .i64 0, .int .i64 0, .int .i64 0] 34) = W0 := hW0
  have K0F := Lib.hid (show Fr [] w W0 from by rw [← hW0]; exact (Fr.refl [] w).alloc _)
  clear h hri hf hb hW0
  refine callsIn_wide.1 (callsIn_of_wp_marks (n := 0) (F := Fence.wide) Try.func25 rfl trivial ?_ rfl)
  simp only [Try.ntmps25, List.size_toArray, List.length_cons, List.length_nil, Nat.reduceAdd, Nat.reduceSub, Array.replicate_succ, Array.replicate_zero, List.push_toArray, List.append_toArray, List.nil_append, List.cons_append]
  gi_wp2_with fail
  refine wpIn_wide.2 ?_
  go_upto_region 1 with (fail)
  go_cut [6] from 11 to 17 (fun s6 wx => ∃ XX, s6 = .pointer (some ⟨XX, 0, none⟩) ∧ ∃ XB XR wy, wx = wy ∧ Hid (Sep w (Chunks.bs d.chunks) wy ([Chunk.blk XX 22 [.pointer (some ⟨XB, 0, none⟩)], Chunk.blk XB 92 [.slice none 0 0, .pointer (some ⟨XR, 0, none⟩), .bool d.turn, .int .i64 0, .int .i64 0, .int .i64 0], CRingq XR [] [], Chunk.blk RB 34 (encP6 zerop6)] ++ d.chunks)))
  case first =>
    refine wp_T [8] (fun X => X.cell? ⟨d.b, 2, none⟩ = some (.bool d.turn)) (by kernel_rfl) (fun hC => ?_) (HB.out _ K0F.out.drew)
    refine wpAnyT_takeP' 1 (by kernel_rfl) (fun _ _ _ h => h) (by assumption) (by rfl) (fun w => by simp only [List.getD_cons_succ, List.getD_cons_zero]; go_simp; try with_reducible rfl) ?_
    try simp only [List.getD_cons_succ, List.getD_cons_zero, Act.put, List.setIfInBounds_toArray, List.set_cons_zero, List.set_cons_succ]
    refine wpAnyT_takeP' 2 (by kernel_rfl) (fun _ _ _ h => h) (by assumption) (by rfl) (fun w => by simp only [List.getD_cons_succ, List.getD_cons_zero]; go_simp; try with_reducible rfl) ?_
    try simp only [List.getD_cons_succ, List.getD_cons_zero, Act.put, List.setIfInBounds_toArray, List.set_cons_zero, List.set_cons_succ]
    refine wpAnyT_takeP' 3 (by kernel_rfl) (fun _ _ _ h => h) (by assumption) (by rfl) (fun w => by simp only [List.getD_cons_succ, List.getD_cons_zero]; go_simp; try with_reducible rfl) ?_
    try simp only [List.getD_cons_succ, List.getD_cons_zero, Act.put, List.setIfInBounds_toArray, List.set_cons_zero, List.set_cons_succ]
    refine wpAnyT_takeC' 4 (by kernel_rfl) (fun _ _ _ h => h) (by assumption) (by rfl) (fun w hSw => by simp only [List.getD_cons_succ, List.getD_cons_zero]; (try dsimp only at hSw); go_simp; try with_reducible rfl) ?_
    try simp only [List.getD_cons_succ, List.getD_cons_zero, Act.put, List.setIfInBounds_toArray, List.set_cons_zero, List.set_cons_succ]
    refine wpAnyT_two' 0 7 (by kernel_rfl) (by rfl) (by rfl) ?two0 ?two7
    all_goals intro K hK
    all_goals simp only [List.getD_cons_succ, List.getD_cons_zero]
    · go_simp
      refine (new_q _).mono ?_
      rintro er W1 ⟨rfl, hr1, f1, hs1⟩
      have F1 := Lib.hid ((K0F.out.drew).trans' f1)
      have K1 := Lib.hid (K0.out.drew.call0 (Sep.of_one0 (c := CRingq _ [] []) f1 hr1 (fun b hb => by simp [Chunk.ring] at hb; subst hb; exact .inr (Nat.le_refl _))))
      refine hK.out _ _ (HB.out _ F1.out) ?_
      have hC := HB.out _ F1.out
      obtain ⟨XR, hXR⟩ : ∃ XR, W0.drew.heap.size = XR := ⟨_, rfl⟩
      have hXR' : W0.heap.size = XR := hXR
      rw [hXR] at K1
      try rw [hXR]
      try rw [hXR']
      clear hK hr1 f1 hs1 hXR hXR'
      try simp only [Act.put, List.setIfInBounds_toArray, List.set_cons_zero, List.set_cons_succ]
      refine wpAnyT_takeP' 5 (by kernel_rfl) (fun _ _ _ h => h) (by assumption) (by rfl) (fun w => by simp only [List.getD_cons_succ, List.getD_cons_zero]; go_simp; try with_reducible rfl) ?_
      try simp only [List.getD_cons_succ, List.getD_cons_zero, Act.put, List.setIfInBounds_toArray, List.set_cons_zero, List.set_cons_succ]
      refine wpAnyT_two' 6 7 (by kernel_rfl) (by rfl) (by rfl) ?tw6 ?tw7
      all_goals intro K hK
      all_goals simp only [List.getD_cons_succ, List.getD_cons_zero]
      · go_simp
        have F2 := Lib.hid (F1.out.alloc (.cells #[.slice none 0 0, .pointer (some ⟨XR, 0, none⟩), .bool d.turn, .int .i64 0, .int .i64 0, .int .i64 0] 92))
        refine hK.out _ _ (HB.out _ F2.out) ?_
        clear hK hC
        have hC := HB.out _ F2.out
        try simp only [Act.put, List.setIfInBounds_toArray, List.set_cons_zero, List.set_cons_succ]
        refine wpAnyT_one' 7 (by kernel_rfl) (by rfl) (fun K hK => ?_)
        simp only [List.getD_cons_succ, List.getD_cons_zero]
        go_simp
        have F3 := Lib.hid (F2.out.alloc (.cells #[.pointer none] 22))
        refine hK.out _ _ (HB.out _ F3.out) ?_
        have K3 := Lib.hid (((K1.out.alloc 92 [.slice none 0 0, .pointer (some ⟨XR, 0, none⟩), .bool d.turn, .int .i64 0, .int .i64 0, .int .i64 0]).alloc 22 [.pointer none]).perm (permA1 _ _ _ _ _))
        obtain ⟨XB, hXB⟩ : ∃ XB, W1.heap.size = XB := ⟨_, rfl⟩
        have hXX : (W1.alloc (.cells [.slice none 0 0, .pointer (some ⟨XR, 0, none⟩), .bool d.turn, .int .i64 0, .int .i64 0, .int .i64 0].toArray 92)).heap.size = XB + 1 := by simp [hXB]
        rw [hXX, hXB] at K3
        rw [hXB]
        clear hK hC hXX hXB K1 F1 F2 F3
        try simp only [Act.put, List.setIfInBounds_toArray, List.set_cons_zero, List.set_cons_succ]
        have z0 := (K3.out.blk 0 rfl).frz 0
        have c0 := (K3.out.blk 0 rfl).cell 0
        have l0 := (K3.out.blk 0 rfl).lt
        have K4 := Lib.hid (K3.out.set 0 rfl 0 (.pointer (some ⟨XB, 0, none⟩)))
        refine wpAnyT_last 8 rfl (by kernel_rfl) ?_
        simp only [List.drop_succ_cons, List.drop_zero]
        go_wp2
        rw [onlyN_normal]
        go_wp2
        go_meet
        exact ⟨(XB + 1), rfl, XB, XR, _, rfl, K4⟩
      · go_simp
        have F2 := Lib.hid (F1.out.alloc (.cells #[.pointer none] 22))
        refine hK.out _ _ (HB.out _ F2.out) ?_
        clear hK hC
        have hC := HB.out _ F2.out
        try simp only [Act.put, List.setIfInBounds_toArray, List.set_cons_zero, List.set_cons_succ]
        refine wpAnyT_one' 6 (by kernel_rfl) (by rfl) (fun K hK => ?_)
        simp only [List.getD_cons_succ, List.getD_cons_zero]
        go_simp
        have F3 := Lib.hid (F2.out.alloc (.cells #[.slice none 0 0, .pointer (some ⟨XR, 0, none⟩), .bool d.turn, .int .i64 0, .int .i64 0, .int .i64 0] 92))
        refine hK.out _ _ (HB.out _ F3.out) ?_
        have K3 := Lib.hid (((K1.out.alloc 22 [.pointer none]).alloc 92 [.slice none 0 0, .pointer (some ⟨XR, 0, none⟩), .bool d.turn, .int .i64 0, .int .i64 0, .int .i64 0]).perm (permA2 _ _ _ _ _))
        obtain ⟨XX, hXX⟩ : ∃ XX, W1.heap.size = XX := ⟨_, rfl⟩
        have hXB : (W1.alloc (.cells [Value.pointer none].toArray 22)).heap.size = XX + 1 := by simp [hXX]
        rw [hXX, hXB] at K3
        rw [hXX]
        obtain ⟨XB, hXB2⟩ : ∃ XB, XX + 1 = XB := ⟨_, rfl⟩
        rw [hXB2] at K3 ⊢
        clear hK hC hXX hXB hXB2 K1 F1 F2 F3
        try simp only [Act.put, List.setIfInBounds_toArray, List.set_cons_zero, List.set_cons_succ]
        have z0 := (K3.out.blk 0 rfl).frz 0
        have c0 := (K3.out.blk 0 rfl).cell 0
        have l0 := (K3.out.blk 0 rfl).lt
        have K4 := Lib.hid (K3.out.set 0 rfl 0 (.pointer (some ⟨XB, 0, none⟩)))
        refine wpAnyT_last 8 rfl (by kernel_rfl) ?_
        simp only [List.drop_succ_cons, List.drop_zero]
        go_wp2
        rw [onlyN_normal]
        go_wp2
        go_meet
        exact ⟨XX, rfl, XB, XR, _, rfl, K4⟩
    · go_simp
      have F1 := Lib.hid (K0F.out.alloc (.cells #[.pointer none] 22)).drew
      refine hK.out _ _ (HB.out _ F1.out) ?_
      clear hK hC
      have hC := HB.out _ F1.out
      have K1 := Lib.hid (K0.out.alloc 22 [.pointer none]).drew
      try simp only [Act.put, List.setIfInBounds_toArray, List.set_cons_zero, List.set_cons_succ]
      refine wpAnyT_one' 0 (by kernel_rfl) (by rfl) (fun K hK => ?_)
      simp only [List.getD_cons_zero]
      go_simp
      refine (new_q _).mono ?_
      rintro er W1 ⟨rfl, hr1, f1, hs1⟩
      have F2 := Lib.hid (F1.out.trans' f1)
      have K2 := Lib.hid (K1.out.call0 (Sep.of_one0 (c := CRingq _ [] []) f1 hr1 (fun b hb => by simp [Chunk.ring] at hb; subst hb; exact .inr (by simp))))
      refine hK.out _ _ (HB.out _ F2.out) ?_
      clear hK hC
      have hC := HB.out _ F2.out
      obtain ⟨XX, hXX⟩ : ∃ XX, W0.heap.size = XX := ⟨_, rfl⟩
      have hXR : ((W0.alloc (.cells #[.pointer none] 22)).drew).heap.size = XX + 1 := by show (W0.alloc _).heap.size = _; simp [hXX]
      rw [hXX] at K2
      rw [hXR] at K2 ⊢
      rw [hXX]
      obtain ⟨XR, hXR2⟩ : ∃ XR, XX + 1 = XR := ⟨_, rfl⟩
      rw [hXR2] at K2 ⊢
      clear hr1 f1 hs1 hXX hXR hXR2 K1
      try simp only [Act.put, List.setIfInBounds_toArray, List.set_cons_zero, List.set_cons_succ]
      refine wpAnyT_takeP' 5 (by kernel_rfl) (fun _ _ _ h => h) (by assumption) (by rfl) (fun w => by simp only [List.getD_cons_succ, List.getD_cons_zero]; go_simp; try with_reducible rfl) ?_
      try simp only [List.getD_cons_succ, List.getD_cons_zero, Act.put, List.setIfInBounds_toArray, List.set_cons_zero, List.set_cons_succ]
      refine wpAnyT_one' 6 (by kernel_rfl) (by rfl) (fun K hK => ?_)
      simp only [List.getD_cons_succ, List.getD_cons_zero]
      go_simp
      have F3 := Lib.hid (F2.out.alloc (.cells #[.slice none 0 0, .pointer (some ⟨XR, 0, none⟩), .bool d.turn, .int .i64 0, .int .i64 0, .int .i64 0] 92))
      refine hK.out _ _ (HB.out _ F3.out) ?_
      have K3 := Lib.hid ((K2.out.alloc 92 [.slice none 0 0, .pointer (some ⟨XR, 0, none⟩), .bool d.turn, .int .i64 0, .int .i64 0, .int .i64 0]).perm (permB _ _ _ _ _))
      obtain ⟨XB, hXB⟩ : ∃ XB, W1.heap.size = XB := ⟨_, rfl⟩
      rw [hXB] at K3
      rw [hXB]
      clear hK hC hXB K2 F1 F2 F3
      try simp only [Act.put, List.setIfInBounds_toArray, List.set_cons_zero, List.set_cons_succ]
      have z0 := (K3.out.blk 0 rfl).frz 0
      have c0 := (K3.out.blk 0 rfl).cell 0
      have l0 := (K3.out.blk 0 rfl).lt
      have K4 := Lib.hid (K3.out.set 0 rfl 0 (.pointer (some ⟨XB, 0, none⟩)))
      refine wpAnyT_last 8 rfl (by kernel_rfl) ?_
      simp only [List.drop_succ_cons, List.drop_zero]
      go_wp2
      rw [onlyN_normal]
      go_wp2
      go_meet
      exact ⟨XX, rfl, XB, XR, _, rfl, K4⟩
  case rest =>
    clear K0 K0F HB hW0'
    obtain ⟨XX, rfl, XB, XR, wy, hwx, K⟩ := hcut
    rw [hwx]
    clear hwx W0
    have b1 : wy.cell? ⟨d.b, 1, none⟩ = some (.pointer (some ⟨d.rb, 0, none⟩)) := (Dr.hds K.out).cell 1
    have lb := (Dr.hds K.out).lt
    have K0 := Lib.hid ((K.out.alloc 87 [.pointer (some ⟨d.rb, 0, none⟩)]).perm List.perm_append_comm)
    obtain ⟨A, hA⟩ : ∃ A, wy.heap.size = A := ⟨_, rfl⟩
    rw [hA] at K0
    gi_wp2_with (gi_at_call 46; refine (wideIn _ (all_q _ d.rb)).mono ?_; rintro er w' ⟨rfl, rfl⟩)
    obtain ⟨W, hW⟩ : ∃ W, wy.alloc (.cells #[.pointer (some ⟨d.rb, 0, none⟩)] 87) = W := ⟨_, rfl⟩
    have KW : Hid (Sep w (Chunks.bs d.chunks) W ([Chunk.blk A 87 [.pointer (some ⟨d.rb, 0, none⟩)]] ++ ([Chunk.blk XX 22 [.pointer (some ⟨XB, 0, none⟩)], Chunk.blk XB 92 [.slice none 0 0, .pointer (some ⟨XR, 0, none⟩), .bool d.turn, .int .i64 0, .int .i64 0, .int .i64 0], CRingq XR [] [], Chunk.blk RB 34 (encP6 zerop6)] ++ d.chunks))) := by rw [← hW]; exact K0
    rw [hW]
    clear hW K0 K b1 lb hA
    have x1 : W.cell? ⟨A, 0, none⟩ = some (.pointer (some ⟨d.rb, 0, none⟩)) := (KW.out.blk 0 rfl).cell 0
    have hH : Holds W d.chunks := KW.out.hs.right.right
    have hring : Rgq W d.rb d.rds (d.ring.map some) := hH.get (i := 2) rfl
    have hseq := seq_q hring x1
    have HFL : Hid (∀ i, i ∈ ri → ∃ f, d.fl[i]? = some f) := Lib.hid (fun i hi => by obtain ⟨f, hf, _⟩ := HF.out i hi; exact ⟨f, hf⟩)
    have hR0 : Holds W [CRingq XR [] []] := Holds.one (c := CRingq XR [] []) (KW.out.hs.get (i := 3) rfl)
    have cXX : W.cell? ⟨XX, 0, none⟩ = some (.pointer (some ⟨XB, 0, none⟩)) := (KW.out.blk 1 rfl).cell 0
    have cXB : W.cell? ⟨XB, 1, none⟩ = some (.pointer (some ⟨XR, 0, none⟩)) := (KW.out.blk 2 rfl).cell 1
    have lXX := (KW.out.blk 1 rfl).lt
    have lXB := (KW.out.blk 2 rfl).lt
    have nXX : XX ∉ Chunks.bs [CRingq XR [] []] := fun hm => KW.out.hs.apart (i := 1) (j := 3) (by omega) rfl rfl XX (by simp [Chunk.blk]) (by simpa [Chunks.bs] using hm)
    have nXB : XB ∉ Chunks.bs [CRingq XR [] []] := fun hm => KW.out.hs.apart (i := 2) (j := 3) (by omega) rfl rfl XB (by simp [Chunk.blk]) (by simpa [Chunks.bs] using hm)
    have nFL : Hid (∀ (i : Nat) (f : Fl), d.fl[i]? = some f → f.b ∉ Chunks.bs [CRingq XR [] []]) := Lib.hid (fun i f hf hm => KW.out.hs.apart (i := 5 + (3 + i)) (j := 3) (by omega) (by
      rw [List.getElem?_append_right (by first | (simp; done) | (simp; omega)), List.getElem?_append_right (by first | (simp; done) | (simp; omega))]
      simp only [List.length_cons, List.length_nil, Nat.zero_add, Nat.reduceAdd]
      rw [show 5 + (3 + i) - 1 - 4 = 3 + i from by omega]
      exact Dr.str_at hf) rfl f.b (by simp [CStr, Chunk.blk]) (by simpa [Chunks.bs] using hm))
    obtain ⟨φ, hφ⟩ : ∃ φ : List (Option Nat × Nat) → List Chunk → Prop, Hid (φ = fun pre cs => ∃ (cfl : List Fl) (rds : List Nat), cfl.length = pre.length ∧ Cp d.fl ri cfl ∧ cs = CRingq XR rds (cfl.map (·.b)) :: cfl.map CStr) := ⟨_, Lib.hid rfl⟩
    obtain ⟨J, hJ⟩ : ∃ J : List Nat → List (Option Nat × Nat) → World → Prop, Hid (J = fun S s X => ∃ cs, S = Chunks.bs cs ∧ Holds X cs ∧ φ s cs) := ⟨_, Lib.hid rfl⟩
    have locJ : Loc W.heap.size J := by rw [hJ.out]; exact loc_holds φ
    refine wp_rangeF1 (gf := 83) (lb := #[.pointer (some ⟨A, 0, none⟩)]) rfl (enters_of Try.func83 (by kernel_rfl) rfl) hseq (fun _ => rfl)
      J (fun _ _ _ _ => False) (Chunks.bs [CRingq XR [] []]) (hR0.lt) locJ (fun _ _ _ _ _ _ h _ _ => h) (by rw [hJ.out]; exact ⟨_, rfl, hR0, by rw [hφ.out]; exact ⟨[], [], rfl, (fun k c h => by simp at h), rfl⟩⟩)
      (fun x => { tmps := #[.pointer (some ⟨d.b, 0, none⟩), .int .i64 t, undef, undef, .pointer (some ⟨RB, 0, none⟩), .bool false, .pointer (some ⟨XX, 0, none⟩), undef, ptrV x.1, undef, undef, u11, u12, u13, u14, u15, u16, u17, .pointer (some ⟨d.b, 0, none⟩), .pointer (some ⟨d.b, 0, none⟩), .pointer (some ⟨d.b, 1, none⟩), .pointer (some ⟨d.rb, 0, none⟩), .func (.func 83) #[] #[.pointer (some ⟨A, 0, none⟩)], .int .i64 x.2, ptrV x.1, undef, undef, undef, undef, undef, undef, undef, undef, undef, undef, undef, undef, undef, undef, undef, undef, undef, undef, undef, undef], defers := [] })
      ?assign1 ?body1 ?done1 ?stop1
    case assign1 =>
      intro l x X K hK
      simp only [entq]
      gi_wp2
      exact hK
    case body1 =>
      rintro l pre x post S1 X hx hz hg hf hlw hnl hr hj
      rw [hJ.out] at hj
      obtain ⟨cs, rfl, hcs, hph⟩ := hj
      rw [hφ.out] at hph
      obtain ⟨cfl, rds, hlen, hcp, rfl⟩ := hph
      obtain ⟨bb, hbb, rfl⟩ := zipr hx
      have hpl : pre.length < ri.length := by
        have := some_lt hbb
        rw [HRI.out] at this
        simpa [blocksOf] using this
      obtain ⟨i, hik⟩ : ∃ i, ri[pre.length]? = some i := ⟨ri[pre.length], by simp [hpl]⟩
      obtain ⟨f, hfi⟩ := HFL.out i (List.mem_of_getElem? hik)
      have hbf : bb = f.b := by
        have := hbb
        rw [HRI.out] at this
        simp [blocksOf, List.getElem?_map, hik, hfi] at this
        exact this.symm
      subst hbf
      have hS : Blk W f.b 95 f.cells := hH.get (Dr.str_at hfi)
      have BF : Blk X f.b 95 f.cells := by
        have hb := hS.lt
        unfold Blk at hS ⊢
        rw [← hS]
        exact hf.block f.b hb (nFL.out i f hfi)
      have y0 : X.cell? ⟨f.b, 0, none⟩ = some (.int .i64 f.slot) := BF.cell 0
      have y1 : X.cell? ⟨f.b, 1, none⟩ = some (.int .i64 f.gen) := BF.cell 1
      have y2 : X.cell? ⟨f.b, 2, none⟩ = some (.int .i64 f.wt) := BF.cell 2
      have y3 : X.cell? ⟨f.b, 3, none⟩ = some (.int .i64 f.qt) := BF.cell 3
      have y4 : X.cell? ⟨f.b, 4, none⟩ = some (.int .i64 f.df) := BF.cell 4
      have y5 : X.cell? ⟨f.b, 5, none⟩ = some (.pointer (some ⟨f.r, 0, none⟩)) := BF.cell 5
      have y6 : X.cell? ⟨f.b, 6, none⟩ = some (.int .i64 f.by_) := BF.cell 6
      have lf := BF.lt
      have dXX : X.cell? ⟨XX, 0, none⟩ = some (.pointer (some ⟨XB, 0, none⟩)) := (hf.cell (p := ⟨XX, 0, none⟩) lXX nXX).trans cXX
      have dXB : X.cell? ⟨XB, 1, none⟩ = some (.pointer (some ⟨XR, 0, none⟩)) := (hf.cell (p := ⟨XB, 1, none⟩) lXB nXB).trans cXB
      have lX2 : XX < X.heap.size := Nat.lt_of_lt_of_le lXX hz
      have lX3 : XB < X.heap.size := Nat.lt_of_lt_of_le lXB hz
      have KX := Lib.hid ((Sep.start hcs).alloc 95 f.cells)
      have HCP := Lib.hid hcp
      have HLN := Lib.hid hlen
      have HIK := Lib.hid hik
      have HFI := Lib.hid hfi
      have HPL := Lib.hid hpl
      clear hx hr hS BF hg hf hlw hnl hz hcs hcp hbb hseq hring hH hR0 hlen hik hfi hpl
      simp only [ptrV, Option.map_some]
      gi_wp2_with fail
      have hrg : Rgq (X.alloc (.cells f.cells.toArray 95)) XR rds ((cfl.map (·.b)).map some) := KX.out.hs.get (i := 0) rfl
      refine (wideIn _ (pushB_q hrg (by have := HLN.out; have := HPL.out; simp; omega) (some X.heap.size))).mono ?_
      rintro er Z1 ⟨rfl, rds', hr1, f1, g1⟩
      obtain ⟨CB, hCB⟩ : ∃ CB, X.heap.size = CB := ⟨_, rfl⟩
      rw [hCB] at KX hr1
      have KZ := Lib.hid (KX.out.ring1 0 rfl hr1 f1 g1)
      have hfin : Hid (postF J (fun _ _ _ _ => False) (Chunks.bs (CRingq XR rds (cfl.map (·.b)) :: cfl.map CStr)) (pre ++ [(some f.b, pre.length)]) X .normal ⟨#[], []⟩ Z1) := by
        have e1 : (cfl.map (·.b)).map some ++ [some CB] = ((cfl ++ [({ f with b := CB } : Fl)]).map (fun c : Fl => c.b)).map some := by simp
        have kz : Sep X (Chunks.bs (CRingq XR rds (cfl.map (·.b)) :: cfl.map CStr)) Z1 (CRingq XR rds' ((cfl ++ [({ f with b := CB } : Fl)]).map (fun c : Fl => c.b)) :: (cfl ++ [({ f with b := CB } : Fl)]).map CStr) := by
          have k := KZ.out
          rw [e1] at k
          rw [List.map_append (f := CStr)]
          exact k
        refine ⟨_, kz.gr, kz.fr, ?_⟩
        rw [hJ.out]
        refine ⟨_, rfl, kz.hs, ?_⟩
        rw [hφ.out]
        refine ⟨cfl ++ [({ f with b := CB } : Fl)], rds', by simp [HLN.out], fun k c hk => ?_, rfl⟩
        by_cases hkl : k < cfl.length
        · rw [List.getElem?_append_left hkl] at hk
          exact HCP.out k c hk
        · rw [List.getElem?_append_right (by omega)] at hk
          have hk0 : k = cfl.length := by have := some_lt hk; simp at this; omega
          subst hk0
          simp at hk
          subst hk
          exact ⟨i, f, by rw [HLN.out]; exact HIK.out, HFI.out, rfl⟩
      clear hrg hr1 f1 g1 KX KZ hCB
      gi_wp2
      exact hfin.out
    case done1 =>
      rintro D S' X hD hDS hg hf hj hKD
      rw [hJ.out] at hj
      obtain ⟨cs, rfl, hcs, hph⟩ := hj
      rw [hφ.out] at hph
      obtain ⟨cfl, rds, hlen, hcp, rfl⟩ := hph
      have hlr : cfl.length = ri.length := by rw [hlen, HRI.out]; simp [blocksOf]
      have KM := Sep.ranged hf hg rfl hcs hD hDS hKD
      have KS := Sep.frame (cs := [CRingq XR [] []]) (KW.out.perm (permP _ _ _ _ _ _)) KM
      obtain ⟨rq, hrq⟩ := hcp.q_perm hlr hn
      obtain ⟨dx, hdx⟩ : ∃ dx : Dr, ({ b := XB, fv := .slice none 0 0, fS := [], fl := cfl, rb := XR, rds := rds, ring := cfl.map (·.b), turn := d.turn, seq := 0, came := 0, n := 0 } : Dr) = dx := ⟨_, rfl⟩
      have hfl : dx.fl = cfl := by rw [← hdx]
      have hdb : dx.b = XB := by rw [← hdx]
      have K2 : Hid (Sep w (Chunks.bs d.chunks) X (dx.cch (List.range cfl.length) ++ ([Chunk.blk RB 34 (encP6 zerop6), Chunk.mark D, Chunk.blk A 87 [.pointer (some ⟨d.rb, 0, none⟩)], Chunk.blk XX 22 [.pointer (some ⟨XB, 0, none⟩)], CHd d, CFs d, CRingq d.rb d.rds d.ring] ++ (d.fl.map CStr ++ rq)))) := by
        refine Lib.hid (KS.perm ?_)
        rw [← hdx]
        unfold Dr.cch
        rw [blocksOf_range]
        unfold Dr.chunks
        exact permQ _ _ _ _ _ _ _ _ _ _ _ _ _ _ hrq
      have hch := dchoose K2.out.hs.left (by rw [hfl]; exact hcp.fine hlr HF.out) List.nodup_range (by rw [List.length_range, hlr]; exact hl)
      rw [hdb] at hch
      have HCH := Lib.hid hch
      have HCP := Lib.hid hcp
      have HLR := Lib.hid hlr
      have HRQ := Lib.hid hrq
      have HDX := Lib.hid hdx
      have cX : X.cell? ⟨XX, 0, none⟩ = some (.pointer (some ⟨XB, 0, none⟩)) := by
        exact (show Blk X XX 22 [.pointer (some ⟨XB, 0, none⟩)] from K2.out.hs.ok (Chunk.blk XX 22 [.pointer (some ⟨XB, 0, none⟩)]) (by simp)).cell 0
      have lX : XX < X.heap.size := Nat.lt_of_lt_of_le lXX hf.size
      clear hcp hlr hrq hdx KM KS hch hf hg hcs hlen hD hDS hKD hseq hring hH hR0 cXX cXB nXX nXB nFL x1 lXX lXB hfl hdb
      gi_wp2_with fail
      refine (wideIn _ HCH.out).mono ?_
      clear HCH
      rintro er Y (⟨h0, rfl, rds', ks⟩ | ⟨fl, tt, i, rest, f, rds', htr, hnd, hfine, hfi, hsz, rfl, ks⟩)
      · have hri0 : ri = [] := by
          have hc0 : cfl.length = 0 := by have := congrArg List.length h0; simpa using this
          exact List.eq_nil_of_length_eq_zero (by rw [← HLR.out]; exact hc0)
        have ks' : Sep X (Chunks.bs (dx.cch (List.range cfl.length))) Y ([Chunk.blk XB 92 [.slice none 0 0, .pointer (some ⟨XR, 0, none⟩), .bool d.turn, .int .i64 0, .int .i64 0, .int .i64 0], CRingq XR rds' (blocksOf cfl (List.range cfl.length))] ++ (cfl.map CStr ++ cfl.map CQ)) := by
          rw [← HDX.out] at ks ⊢; exact ks
        have K3 := Lib.hid ((Sep.frame K2.out ks').perm (permS _ _ _))
        have HR0 := Lib.hid hri0
        clear ks ks' K2 h0 hri0
        have BP := K3.out.blk 0 (b := RB) (t := 34) (vs := encP6 zerop6) rfl
        gi_wp2_with (refine wpListIn_store_S rfl _ (.tmp 4) (.tmp 37) rfl RB 0 34 (encP6 zerop6) (encP6 zerop6) rfl rfl BP (by kernel_rfl) (by simp [encP6]) (fun u hu => one_p6 [zerop6] u (by simpa using hu)) ?_; intro w6 b6 f6 z6; have K8 := Lib.hid (K3.out.call1' 0 rfl (Sep.of_one (c := Chunk.blk RB 34 (encP6 zerop6)) f6 b6 (Gr.refl _ _))); clear b6 f6 z6)
        have K9 := Lib.hid (K8.out.perm (permR _ _ _ _ _ _ _ _ _ _ _ _ _ _ HRQ.out))
        have hD8 : w6.heap[D]? = some (.deferred (some [])) := K8.out.hs.ok (Chunk.mark D) (by simp)
        have RBk : Blk w6 RB 34 (encP6 zerop6) := K8.out.blk 0 rfl
        have hne : RB ≠ D := fun e => by
          have h1 := RBk
          unfold Blk at h1
          rw [e, hD8] at h1
          cases h1
        have fP : Fr [D] w6 (w6.putObj D (.deferred none)) := (Fr.refl _ _).putObj _ (.inl (by simp))
        have p0 : (w6.putObj D (.deferred none)).cell? ⟨RB, 0, none⟩ = some (.int .i64 zerop6.f0) := (fP.cell RBk.lt (by simpa using hne)).trans (RBk.cell 0)
        have p1 : (w6.putObj D (.deferred none)).cell? ⟨RB, 1, none⟩ = some (.int .i64 zerop6.f1) := (fP.cell RBk.lt (by simpa using hne)).trans (RBk.cell 1)
        have p2 : (w6.putObj D (.deferred none)).cell? ⟨RB, 2, none⟩ = some (.int .i64 zerop6.f2) := (fP.cell RBk.lt (by simpa using hne)).trans (RBk.cell 2)
        have p3 : (w6.putObj D (.deferred none)).cell? ⟨RB, 3, none⟩ = some (.int .i64 zerop6.f3) := (fP.cell RBk.lt (by simpa using hne)).trans (RBk.cell 3)
        have p4 : (w6.putObj D (.deferred none)).cell? ⟨RB, 4, none⟩ = some (.int .i64 zerop6.f4) := (fP.cell RBk.lt (by simpa using hne)).trans (RBk.cell 4)
        have p5 : (w6.putObj D (.deferred none)).cell? ⟨RB, 5, none⟩ = some (.int .i64 zerop6.f5) := (fP.cell RBk.lt (by simpa using hne)).trans (RBk.cell 5)
        refine ⟨by simp, .inl ⟨_, _, rfl, run_takeDeferred hD8, ?_⟩⟩
        refine ⟨.tuple #[aggp6 zerop6, .bool false], by simp [results, Try.results25, go_sem, p0, p1, p2, p3, p4, p5, aggp6], ?_⟩
        exact ⟨Sep.gone K9.out fP (fun b hb => by simp at hb; subst hb; simp [Chunks.bs, Chunk.mark]), (.inl ⟨HR0.out, rfl⟩)⟩
      · obtain ⟨g, hg⟩ : ∃ g : Int, (if tt then 0 else f.qt) = g := ⟨_, rfl⟩
        rw [hg] at ks hsz
        have hfl : dx.fl = cfl := by rw [← HDX.out]
        rw [hfl] at htr
        have hcore : (fl.set i (f.add g)).map Fl.core = cfl.map Fl.core := (map_set_same (y := f.add g) Fl.core hfi rfl).trans htr.core
        have hcq : (fl.set i (f.add g)).map CQ = cfl.map CQ := core_map hcore CQ (fun _ => rfl)
        have hnt := nt_turns htr rfl List.nodup_range hfi (by rw [hg]; exact hsz)
        have htn : dx.turn = d.turn := by rw [← HDX.out]
        rw [htn] at hnt
        obtain ⟨j, c, f2, hj, hc, hf2, hcf, hnt2⟩ := HCP.out.nt HLR.out hnt
        have hqf : f.q = f2.q := by
          have h1 : (fl.map Fl.core)[i]? = (cfl.map Fl.core)[i]? := by rw [htr.core]
          rw [List.getElem?_map, List.getElem?_map, hfi, hc] at h1
          have h2 := congrArg Fl.q (Option.some.inj h1)
          rw [hcf] at h2
          exact h2
        obtain ⟨p, qs, hq⟩ : ∃ p qs, f.q = p :: qs := by
          obtain ⟨f', hf', hff⟩ := hfine i (by simp)
          rw [hfi] at hf'
          cases hf'
          have := hff.q
          cases hq : f.q with
          | nil => exact absurd hq this
          | cons a b => exact ⟨a, b, rfl⟩
        have HRES : Hid (∃ j f p' qs, NT (ri.map (tlOf d.fl)) d.turn j ∧ d.fl[j]? = some f ∧ f.q = p' :: qs ∧ Ending.returned (.tuple #[aggp6 p, .bool true]) = Ending.returned (.tuple #[aggp6 p', .bool true])) := Lib.hid ⟨j, f2, p, qs, hnt2, hf2, hqf ▸ hq, rfl⟩
        have hat : (fl.set i (f.add g))[i]? = some (f.add g) := List.getElem?_set_self (some_lt hfi)
        obtain ⟨fl2, hfl2⟩ : ∃ fl2, fl.set i (f.add g) = fl2 := ⟨_, rfl⟩
        rw [hfl2] at ks hat hcq
        have ks' : Sep X (Chunks.bs (dx.cch (List.range cfl.length))) Y ([Chunk.blk XB 92 [.slice none 0 0, .pointer (some ⟨XR, 0, none⟩), .bool true, .int .i64 0, .int .i64 0, .int .i64 0], CRingq XR rds' (blocksOf fl2 (i :: rest))] ++ (fl2.map CStr ++ cfl.map CQ)) := by
          rw [← hcq]
          rw [← HDX.out] at ks ⊢; exact ks
        have K3 := Lib.hid ((Sep.frame K2.out ks').perm (permS _ _ _))
        have hst : Blk Y f.b 95 (f.add g).cells := K3.out.hs.ok (CStr (f.add g)) (by
          have hm : CStr (f.add g) ∈ fl2.map CStr := List.mem_map.2 ⟨_, List.mem_of_getElem? hat, rfl⟩
          simp [hm])
        have hqe : Rgp6 Y f.r f.ds (p :: qs) := by
          rw [← hq]
          exact K3.out.hs.ok (CQ (f.add g)) (by
            have hm : CQ (f.add g) ∈ cfl.map CQ := by rw [← hcq]; exact List.mem_map.2 ⟨_, List.mem_of_getElem? hat, rfl⟩
            simp [hm])
        have s5 : Y.cell? ⟨f.b, 5, none⟩ = some (.pointer (some ⟨f.r, 0, none⟩)) := hst.cell 5
        have lf := hst.lt
        have HFR := Lib.hid (front_p6 hqe)
        clear ks ks' K2 htr hnd hfine hfi hsz hg hfl hcore hcq hnt htn hj hc hf2 hcf hnt2 hqf hq hat hfl2 hst hqe
        gi_wp2_with fail
        refine (wideIn _ HFR.out).mono ?_
        rintro er Y2 ⟨rfl, f2⟩
        have K4 := Lib.hid (K3.out.same f2)
        clear f2 K3 HFR s5 lf
        have BP := K4.out.blk 0 (b := RB) (t := 34) (vs := encP6 zerop6) rfl
        gi_wp2_with (refine wpListIn_store_S rfl _ (.tmp 4) (.tmp 43) rfl RB 0 34 (encP6 zerop6) (encP6 p) rfl rfl BP (by kernel_rfl) (by simp [encP6]) (fun u hu => one_p6 [p] u (by simpa using hu)) ?_; intro w6 b6 f6 z6; have K8 := Lib.hid (K4.out.call1' 0 rfl (Sep.of_one (c := Chunk.blk RB 34 (encP6 p)) f6 b6 (Gr.refl _ _))); clear b6 f6 z6)
        have K9 := Lib.hid (K8.out.perm (permR _ _ _ _ _ _ _ _ _ _ _ _ _ _ HRQ.out))
        have hD8 : w6.heap[D]? = some (.deferred (some [])) := K8.out.hs.ok (Chunk.mark D) (by simp)
        have RBk : Blk w6 RB 34 (encP6 p) := K8.out.blk 0 rfl
        have hne : RB ≠ D := fun e => by
          have h1 := RBk
          unfold Blk at h1
          rw [e, hD8] at h1
          cases h1
        have fP : Fr [D] w6 (w6.putObj D (.deferred none)) := (Fr.refl _ _).putObj _ (.inl (by simp))
        have p0 : (w6.putObj D (.deferred none)).cell? ⟨RB, 0, none⟩ = some (.int .i64 p.f0) := (fP.cell RBk.lt (by simpa using hne)).trans (RBk.cell 0)
        have p1 : (w6.putObj D (.deferred none)).cell? ⟨RB, 1, none⟩ = some (.int .i64 p.f1) := (fP.cell RBk.lt (by simpa using hne)).trans (RBk.cell 1)
        have p2 : (w6.putObj D (.deferred none)).cell? ⟨RB, 2, none⟩ = some (.int .i64 p.f2) := (fP.cell RBk.lt (by simpa using hne)).trans (RBk.cell 2)
        have p3 : (w6.putObj D (.deferred none)).cell? ⟨RB, 3, none⟩ = some (.int .i64 p.f3) := (fP.cell RBk.lt (by simpa using hne)).trans (RBk.cell 3)
        have p4 : (w6.putObj D (.deferred none)).cell? ⟨RB, 4, none⟩ = some (.int .i64 p.f4) := (fP.cell RBk.lt (by simpa using hne)).trans (RBk.cell 4)
        have p5 : (w6.putObj D (.deferred none)).cell? ⟨RB, 5, none⟩ = some (.int .i64 p.f5) := (fP.cell RBk.lt (by simpa using hne)).trans (RBk.cell 5)
        refine ⟨by simp, .inl ⟨_, _, rfl, run_takeDeferred hD8, ?_⟩⟩
        refine ⟨.tuple #[aggp6 p, .bool true], by simp [results, Try.results25, go_sem, p0, p1, p2, p3, p4, p5, aggp6], ?_⟩
        exact ⟨Sep.gone K9.out fP (fun b hb => by simp at hb; subst hb; simp [Chunks.bs, Chunk.mark]), (.inr HRES.out)⟩
    case stop1 =>
      rintro D c S' pre x post X hD hDS hg hf hx hj hKD
      exact hj.elim
end Go.Proofs.Yteojodcdehkejaa
