/- A discipline by turns: Join. -/
import Derived.Test.YteojodcdehkejaaDrrSteps
namespace Go.Proofs.Yteojodcdehkejaa
open Go Go.RowKit
attribute [local go_sem] calmQ_normal wide_fn wide_depth Oper.semAt_some run_store_func

theorem oper_append_S {P : Program} (w : World) {o : Oper} {a : Act} {K : Act → World → Prop} {Q : Exit → Act → World → Prop} (s x : Operand) (t : TypeId)
    (ho : o.op = .call { callee := .builtin .append, args := #[s, x], argTypes := #[t, t] })
    (e : TypeId) (i : TypeInfo) (z : Value) (size bytes : Nat) (ht : P.underlying t = some (.slice e)) (hi : P.info? e = some i) (hz : i.zero = some z)
    (hsize : i.size = size) (hby : i.bytes = bytes) (hzs : z.cells.size = size)
    (v : Value) (n : Nat) (xs : List Value) (S : List Nat) (hs : a.eval s = v) (hown : OwnS w e size v n xs S)
    (ad : Addr) (m c : Nat) (news : List Value) (hx : a.eval x = .slice (some ad) m c) (hl : news.length = m * size) (hnews : ∀ j u, news[j]? = some u → w.cell? (ad.add j) = some u) (h1 : ∀ u ∈ news, u.oneCell' = true)
    (h63 : n + m ≤ maxLen) (hbytes : (n + m) * bytes ≤ 140737488355328)
    (h : ∀ v' w' S', OwnS w' e size v' (n + m) (xs ++ news) S' → Gr w S S' → Fr S w w' → K (a.put o.dst v') w') : o.wp P a w K Q := by
  obtain ⟨v', w', S', hr, h2, h3, h4⟩ := run_append_S (P := P) w t o.type e i z size bytes ht hi hz hsize hby hzs v n xs S hown ad m c news hl hnews h1 h63 hbytes
  unfold Oper.wp execOp
  simp only [ho, resolve, invoke, builtin, Sem.run_bind, Sem.run_pure, Result.andThen_ok, List.map_toArray, List.map_cons, List.map_nil, hs, hx, hr]
  exact h v' w' S' h2 h3 h4
theorem perm_join {α : Type} (P A S Q : List α) (cq cs nb : α) : (P ++ (A ++ (S ++ Q)) ++ [cq, cs, nb]).Perm ((A ++ ((S ++ [cs]) ++ (Q ++ [cq]))) ++ (P ++ [nb])) := by
  classical
  rw [List.perm_iff_count]
  intro a
  simp only [List.count_append, List.count_cons, List.count_nil]
  omega
theorem infoPf : (Try.prog.info? 89).map (fun i => (i.zero, i.size, i.bytes)) = some (some (.pointer none), 1, 8) := by kernel_rfl
/-- a quantum within its bounds -/
def clampQ (x : Int) : Int := if x < 1 then 1 else if 1073741824 < x then 1073741824 else x
def Fl.new (b r : Nat) (s g wt qu : Int) : Fl := { b := b, slot := s, gen := g, wt := wt, qt := clampQ qu, df := 0, r := r, ds := [], q := [], by_ := 0 }
theorem joined_chunks {d : Dr} {fv : Value} {fS : List Nat} {b r : Nat} {s g wt qu qv : Int} (h : clampQ qu = qv) : ({ d with fv := fv, fS := fS, fl := d.fl ++ [Fl.new b r s g wt qu] } : Dr).chunks =
    [Chunk.blk d.b 92 (d.head.set 0 fv), Chunk.own 89 1 fv (d.fl.length + 1) ((d.fl.map fun f => ptrV (some f.b)) ++ [Value.pointer (some ⟨b, 0, none⟩)]) fS, CRingq d.rb d.rds d.ring] ++
      ((d.fl.map CStr ++ [Chunk.blk b 95 [.int .i64 s, .int .i64 g, .int .i64 wt, .int .i64 qv, .int .i64 0, .pointer (some ⟨r, 0, none⟩), .int .i64 0]]) ++ (d.fl.map CQ ++ [CRingp6 r [] []])) := by
  simp only [Dr.chunks, CHd, CFs, Dr.head, List.map_append, List.map_cons, List.map_nil, List.length_append, List.length_singleton, Fl.new, CStr, CQ, Fl.cells, h]
  rfl
set_option maxRecDepth 100000 in
set_option maxHeartbeats 4000000 in
theorem djoin {w : World} {d : Dr} (h : Holds w d.chunks) (s g wt qu : Int) (a2 a3 a4 a5 a6 a7 : Value) (t : Int) (hno : ∀ (j : Nat) (f : Fl), d.fl[j]? = some f → f.slot ≠ s) (hlen : d.fl.length ≤ 1048576) :
    Calls Try.prog 12 #[.pointer (some ⟨d.b, 0, none⟩), .agg #[.int .i64 s, .int .i64 g], .agg #[.int .i64 wt, .int .i64 qu, a2, a3, a4, a5, a6, a7], .int .i64 t] w fun e w' => e = .returned (.int .i64 0) ∧
      ∃ fv fS b r, Sep w (Chunks.bs d.chunks) w' (({ d with fv := fv, fS := fS, fl := d.fl ++ [Fl.new b r s g wt qu] } : Dr).chunks) := by
  have hO : OwnS w 89 1 d.fv d.fl.length (d.fl.map fun f => ptrV (some f.b)) d.fS := h.get (i := 1) rfl
  obtain ⟨va, vc, hv⟩ := hO.val
  obtain ⟨i0, hi, hz0, hz1, hz2⟩ := info_parts infoPf
  have K0 := Lib.hid (Dr.inbox2 (Dr.inbox (Sep.start h) 26 [.int .i64 s, .int .i64 g]) 31 [.int .i64 wt, .int .i64 qu, a2, a3, a4, a5, a6, a7])
  rw [World.size_alloc] at K0
  have h0 : w.cell? ⟨d.b, 0, none⟩ = some (.slice va d.fl.length vc) := by
    rw [← hv]; exact (show Blk w d.b 92 d.head from h.get (i := 0) rfl).cell 0
  have hl := (show Blk w d.b 92 d.head from h.get (i := 0) rfl).lt
  have hl1 : d.b < w.heap.size + 1 := by omega
  have HNO := Lib.hid hno
  clear h hO hno
  go_enter Try.func12, Try.ntmps12
  go_wp2
  obtain ⟨W, hW⟩ : ∃ W, (w.alloc (.cells #[.int .i64 s, .int .i64 g] 26)).alloc (.cells #[.int .i64 wt, .int .i64 qu, a2, a3, a4, a5, a6, a7] 31) = W := ⟨_, rfl⟩
  have KW : Hid (Sep w (Chunks.bs d.chunks) W ([Chunk.blk (w.heap.size + 1) 31 [.int .i64 wt, .int .i64 qu, a2, a3, a4, a5, a6, a7], Chunk.blk w.heap.size 26 [.int .i64 s, .int .i64 g]] ++ d.chunks)) := by
    rw [← hW]; exact K0.out
  rw [hW]
  have x0 : W.cell? ⟨w.heap.size, 0, none⟩ = some (.int .i64 s) := (KW.out.blk 1 rfl).cell 0
  have p1 : W.cell? ⟨w.heap.size + 1, 1, none⟩ = some (.int .i64 qu) := (KW.out.blk 0 rfl).cell 1
  have hOW : OwnS W 89 1 (.slice va d.fl.length vc) d.fl.length (d.fl.map fun f => ptrV (some f.b)) d.fS := by
    rw [← hv]; exact KW.out.hs.right.get (i := 1) rfl
  have HOW := Lib.hid hOW
  clear hW hOW K0 h0 hl hl1
  go_loopg [17] (d.fl.length + 1) (fun k i wr => ∃ j : Nat, k + j = d.fl.length + 1 ∧ j ≤ d.fl.length ∧ i = .int .i64 j ∧ ∃ q, wr = W.drewN q)
  case atStart => exact ⟨0, by omega, by omega, rfl, 0, rfl⟩
  case round =>
    obtain ⟨j, hk, hj, rfl, q, rfl⟩ := hrel
    by_cases hjn : j < d.fl.length
    · obtain ⟨f, hf⟩ : ∃ f, d.fl[j]? = some f := ⟨d.fl[j], by simp [hjn]⟩
      obtain ⟨gb, gc, hgv, _⟩ := HOW.out.head (by omega)
      cases hgv
      have c0 : W.cell? ⟨gb, j, none⟩ = some (.pointer (some ⟨f.b, 0, none⟩)) := by
        rw [HOW.out.cellAt j (by omega), List.getElem?_map, hf]; rfl
      have hS : Blk W f.b 95 f.cells := KW.out.hs.right.get (Dr.str_at hf)
      have s0 : W.cell? ⟨f.b, 0, none⟩ = some (.int .i64 f.slot) := hS.cell 0
      have hb1 : (f.slot == s) = false := by rw [beq_eq_false_iff_ne]; exact HNO.out j f hf
      clear hS hf
      go_wp2
      go_quiet (fail)
      go_wp2
      go_roundg (gk - 1)
      case measure => omega
      case rel => exact ⟨j + 1, by omega, by omega, by go_num, _, rfl⟩
    · obtain rfl : j = d.fl.length := by omega
      by_cases hq1 : qu < 1
      · have e1 : max qu 1 = 1 := by omega
        go_wp2_with fail
        have hM : Hid (∀ X, Holds X ([Chunk.blk (w.heap.size + 1) 31 [.int .i64 wt, .int .i64 qu, a2, a3, a4, a5, a6, a7], Chunk.blk w.heap.size 26 [.int .i64 s, .int .i64 g]] ++ d.chunks) →
            X.cell? ⟨d.b, 0, none⟩ = some (.slice va d.fl.length vc) ∧ X.cell? ⟨w.heap.size, 0, none⟩ = some (.int .i64 s) ∧ X.cell? ⟨w.heap.size, 1, none⟩ = some (.int .i64 g) ∧ X.cell? ⟨w.heap.size + 1, 0, none⟩ = some (.int .i64 wt)) := fun X hX => by
          have h0 : X.cell? ⟨d.b, 0, none⟩ = some d.fv := (show Blk X d.b 92 d.head from hX.right.get (i := 0) rfl).cell 0
          rw [hv] at h0
          exact ⟨h0, (show Blk X w.heap.size 26 [.int .i64 s, .int .i64 g] from hX.get (i := 1) rfl).cell 0, (show Blk X w.heap.size 26 [.int .i64 s, .int .i64 g] from hX.get (i := 1) rfl).cell 1, (show Blk X (w.heap.size + 1) 31 [.int .i64 wt, .int .i64 qu, a2, a3, a4, a5, a6, a7] from hX.get (i := 0) rfl).cell 0⟩
        have KD := Lib.hid (KW.out.drewN q)
        obtain ⟨WD, hWD⟩ : ∃ WD, W.drewN q = WD := ⟨_, rfl⟩
        rw [hWD] at KD ⊢
        obtain ⟨hb, hhb⟩ : ∃ hb, w.heap.size = hb := ⟨_, rfl⟩
        rw [hhb] at KD hM ⊢
        refine wp_T [16] (fun X => X.cell? ⟨d.b, 0, none⟩ = some (.slice va d.fl.length vc) ∧ X.cell? ⟨hb, 0, none⟩ = some (.int .i64 s) ∧ X.cell? ⟨hb, 1, none⟩ = some (.int .i64 g) ∧ X.cell? ⟨hb + 1, 0, none⟩ = some (.int .i64 wt)) (by kernel_rfl) (fun hC => ?_) (hM.out _ KD.out.drew.hs)
        refine wpAnyT_takeC' 0 (by kernel_rfl) (fun _ _ _ h => h) (by assumption) (by rfl) (fun w hSw => by simp only [List.getD_cons_succ, List.getD_cons_zero]; (try dsimp only at hSw); go_simp; try with_reducible rfl) ?_
        try simp only [List.getD_cons_succ, List.getD_cons_zero, Act.put, List.setIfInBounds_toArray, List.set_cons_zero, List.set_cons_succ]
        refine wpAnyT_takeC' 1 (by kernel_rfl) (fun _ _ _ h => h) (by assumption) (by rfl) (fun w hSw => by simp only [List.getD_cons_succ, List.getD_cons_zero]; (try dsimp only at hSw); go_simp; try with_reducible rfl) ?_
        try simp only [List.getD_cons_succ, List.getD_cons_zero, Act.put, List.setIfInBounds_toArray, List.set_cons_zero, List.set_cons_succ]
        refine wpAnyT_takeC' 2 (by kernel_rfl) (fun _ _ _ h => h) (by assumption) (by rfl) (fun w hSw => by simp only [List.getD_cons_succ, List.getD_cons_zero]; (try dsimp only at hSw); go_simp; try with_reducible rfl) ?_
        try simp only [List.getD_cons_succ, List.getD_cons_zero, Act.put, List.setIfInBounds_toArray, List.set_cons_zero, List.set_cons_succ]
        refine wpAnyT_takeC' 3 (by kernel_rfl) (fun _ _ _ h => h) (by assumption) (by rfl) (fun w hSw => by simp only [List.getD_cons_succ, List.getD_cons_zero]; (try dsimp only at hSw); go_simp; try with_reducible rfl) ?_
        try simp only [List.getD_cons_succ, List.getD_cons_zero, Act.put, List.setIfInBounds_toArray, List.set_cons_zero, List.set_cons_succ]
        refine wpAnyT_takeC' 4 (by kernel_rfl) (fun _ _ _ h => h) (by assumption) (by rfl) (fun w hSw => by simp only [List.getD_cons_succ, List.getD_cons_zero]; (try dsimp only at hSw); go_simp; try with_reducible rfl) ?_
        try simp only [List.getD_cons_succ, List.getD_cons_zero, Act.put, List.setIfInBounds_toArray, List.set_cons_zero, List.set_cons_succ]
        refine wpAnyT_takeC' 5 (by kernel_rfl) (fun _ _ _ h => h) (by assumption) (by rfl) (fun w hSw => by simp only [List.getD_cons_succ, List.getD_cons_zero]; (try dsimp only at hSw); go_simp; try with_reducible rfl) ?_
        try simp only [List.getD_cons_succ, List.getD_cons_zero, Act.put, List.setIfInBounds_toArray, List.set_cons_zero, List.set_cons_succ]
        refine wpAnyT_takeC' 6 (by kernel_rfl) (fun _ _ _ h => h) (by assumption) (by rfl) (fun w hSw => by simp only [List.getD_cons_succ, List.getD_cons_zero]; (try dsimp only at hSw); go_simp; try with_reducible rfl) ?_
        try simp only [List.getD_cons_succ, List.getD_cons_zero, Act.put, List.setIfInBounds_toArray, List.set_cons_zero, List.set_cons_succ]
        refine wpAnyT_takeC' 7 (by kernel_rfl) (fun _ _ _ h => h) (by assumption) (by rfl) (fun w hSw => by simp only [List.getD_cons_succ, List.getD_cons_zero]; (try dsimp only at hSw); go_simp; try with_reducible rfl) ?_
        try simp only [List.getD_cons_succ, List.getD_cons_zero, Act.put, List.setIfInBounds_toArray, List.set_cons_zero, List.set_cons_succ]
        refine wpAnyT_takeC' 8 (by kernel_rfl) (fun _ _ _ h => h) (by assumption) (by rfl) (fun w hSw => by simp only [List.getD_cons_succ, List.getD_cons_zero]; (try dsimp only at hSw); go_simp; try with_reducible rfl) ?_
        try simp only [List.getD_cons_succ, List.getD_cons_zero, Act.put, List.setIfInBounds_toArray, List.set_cons_zero, List.set_cons_succ]
        refine wpAnyT_one' 9 (by kernel_rfl) (by rfl) (fun K hK => ?_)
        simp only [List.getD_cons_succ, List.getD_cons_zero]
        go_simp
        refine (new_p6 _).mono ?_
        rintro er Z1 ⟨rfl, hr, f1, z1⟩
        have K1 := Lib.hid (KD.out.drew.call0 (news := [CRingp6 WD.drew.heap.size [] []]) (Sep.of_one0 f1 hr (fun b hm => .inr (Nat.le_of_eq (List.mem_singleton.1 hm).symm))))
        obtain ⟨rb, hrb⟩ : ∃ rb, WD.drew.heap.size = rb := ⟨_, rfl⟩
        have hrb2 : WD.heap.size = rb := hrb
        rw [hrb] at K1
        clear hr f1 z1 hC
        go_wp2_with fail
        try (first | rw [hrb] | rw [hrb2])
        have hC := hM.out _ K1.out.hs.left
        refine hK.out _ _ hC ?_
        clear hK
        try simp only [Act.put, List.setIfInBounds_toArray, List.set_cons_zero, List.set_cons_succ]
        refine wpAnyT_takeC' 10 (by kernel_rfl) (fun _ _ _ h => h) (by assumption) (by rfl) (fun w hSw => by simp only [List.getD_cons_succ, List.getD_cons_zero]; (try dsimp only at hSw); go_simp; try with_reducible rfl) ?_
        try simp only [List.getD_cons_succ, List.getD_cons_zero, Act.put, List.setIfInBounds_toArray, List.set_cons_zero, List.set_cons_succ]
        refine wpAnyT_one' 11 (by kernel_rfl) (by rfl) (fun K hK => ?_)
        simp only [List.getD_cons_succ, List.getD_cons_zero]
        go_simp
        have K2 := Lib.hid (K1.out.alloc 95 [.int .i64 s, .int .i64 g, .int .i64 wt, .int .i64 (1), .int .i64 0, .pointer (some ⟨rb, 0, none⟩), .int .i64 0])
        have hC2 := hM.out _ K2.out.hs.left.left
        refine hK.out _ _ hC2 ?_
        clear hK hC
        have hC := hC2
        clear hC2
        try simp only [Act.put, List.setIfInBounds_toArray, List.set_cons_zero, List.set_cons_succ]
        obtain ⟨fb, hfb⟩ : ∃ fb, Z1.heap.size = fb := ⟨_, rfl⟩
        obtain ⟨Z2, hZ2⟩ : ∃ Z2, Z1.alloc (.cells #[.int .i64 s, .int .i64 g, .int .i64 wt, .int .i64 (1), .int .i64 0, .pointer (some ⟨rb, 0, none⟩), .int .i64 0] 95) = Z2 := ⟨_, rfl⟩
        have K2' : Hid (Sep w (Chunks.bs d.chunks) Z2 ([Chunk.blk (hb + 1) 31 [.int .i64 wt, .int .i64 qu, a2, a3, a4, a5, a6, a7], Chunk.blk hb 26 [.int .i64 s, .int .i64 g]] ++ d.chunks ++ [CRingp6 rb [] []] ++ [Chunk.blk fb 95 [.int .i64 s, .int .i64 g, .int .i64 wt, .int .i64 (1), .int .i64 0, .pointer (some ⟨rb, 0, none⟩), .int .i64 0]])) := by
          rw [← hZ2, ← hfb]; exact K2.out
        rw [hfb, hZ2]
        rw [hZ2] at hC
        clear hZ2 hfb K2 K1
        refine wpAnyT_one' 12 (by kernel_rfl) (by rfl) (fun K hK => ?_)
        simp only [List.getD_cons_succ, List.getD_cons_zero]
        go_simp
        have K3 := Lib.hid (K2'.out.alloc 89 [.pointer (some ⟨fb, 0, none⟩)])
        have hC2 := hM.out _ K3.out.hs.left.left.left
        refine hK.out _ _ hC2 ?_
        clear hK hC
        have hC := hC2
        clear hC2
        try simp only [Act.put, List.setIfInBounds_toArray, List.set_cons_zero, List.set_cons_succ]
        obtain ⟨nb, hnb⟩ : ∃ nb, Z2.heap.size = nb := ⟨_, rfl⟩
        obtain ⟨Z3, hZ3⟩ : ∃ Z3, Z2.alloc (.cells #[.pointer (some ⟨fb, 0, none⟩)] 89) = Z3 := ⟨_, rfl⟩
        have K3s : Sep w (Chunks.bs d.chunks) Z3 ([Chunk.blk (hb + 1) 31 [.int .i64 wt, .int .i64 qu, a2, a3, a4, a5, a6, a7], Chunk.blk hb 26 [.int .i64 s, .int .i64 g]] ++ d.chunks ++ [CRingp6 rb [] [], Chunk.blk fb 95 [.int .i64 s, .int .i64 g, .int .i64 wt, .int .i64 (1), .int .i64 0, .pointer (some ⟨rb, 0, none⟩), .int .i64 0], Chunk.blk nb 89 [.pointer (some ⟨fb, 0, none⟩)]]) := by
          rw [← hZ3, ← hnb]
          have := K3.out
          simpa only [List.append_assoc, List.cons_append, List.nil_append] using this
        have K3' := Lib.hid K3s
        clear K3s
        rw [hnb, hZ3]
        rw [hZ3] at hC
        have hnew : Blk Z3 nb 89 [.pointer (some ⟨fb, 0, none⟩)] := by
          rw [← hZ3, ← hnb]; exact Blk.new Z2 _ [_]
        clear hZ3 hnb K3 K2'
        have hown : OwnS Z3 89 1 (.slice va d.fl.length vc) d.fl.length (d.fl.map fun f => ptrV (some f.b)) d.fS := by
          rw [← hv]; exact K3'.out.hs.left.right.get (i := 1) rfl
        refine wpAnyT_one' 13 (by kernel_rfl) (by rfl) (fun K hK => ?_)
        simp only [List.getD_cons_succ, List.getD_cons_zero]
        refine oper_append_S _ (.tmp 38) (.tmp 46) 90 rfl 89 i0 (.pointer none) 1 8 Try.underlying90 hi hz0 hz1 hz2 rfl _ _ _ _ rfl hown ⟨nb, 0, none⟩ 1 1 [.pointer (some ⟨fb, 0, none⟩)] rfl rfl hnew.news (fun u hu => by simp at hu; subst hu; rfl) (by unfold maxLen; omega) (by omega) ?_
        intro v8 Z4 S8 o8 g8 f8
        obtain ⟨va8, vc8, rfl⟩ := o8.val
        have K4 := Lib.hid (K3'.out.call1' 3 rfl (Sep.of_one (c := Chunk.own 89 1 (.slice va8 (d.fl.length + 1) vc8) (d.fl.length + 1) ((d.fl.map fun f => ptrV (some f.b)) ++ [Value.pointer (some ⟨fb, 0, none⟩)]) S8) f8 o8 g8))
        have hd4 : Blk Z4 d.b 92 d.head := K4.out.get (i := 2) rfl
        have hC2 : Z4.cell? ⟨d.b, 0, none⟩ = some (.slice va d.fl.length vc) ∧ Z4.cell? ⟨hb, 0, none⟩ = some (.int .i64 s) ∧ Z4.cell? ⟨hb, 1, none⟩ = some (.int .i64 g) ∧ Z4.cell? ⟨hb + 1, 0, none⟩ = some (.int .i64 wt) := by
          have h0 : Z4.cell? ⟨d.b, 0, none⟩ = some d.fv := hd4.cell 0
          rw [hv] at h0
          exact ⟨h0, (show Blk Z4 hb 26 [.int .i64 s, .int .i64 g] from K4.out.get (i := 1) rfl).cell 0, (show Blk Z4 hb 26 [.int .i64 s, .int .i64 g] from K4.out.get (i := 1) rfl).cell 1, (show Blk Z4 (hb + 1) 31 [.int .i64 wt, .int .i64 qu, a2, a3, a4, a5, a6, a7] from K4.out.get (i := 0) rfl).cell 0⟩
        refine hK.out _ _ hC2 ?_
        have q0 := hd4.frz 0
        have h40 := hC2.1
        clear hK hC
        have hC := hC2
        clear hC2
        try simp only [Act.put, List.setIfInBounds_toArray, List.set_cons_zero, List.set_cons_succ]
        refine wpAnyT_takeP' 14 (by kernel_rfl) (fun _ _ _ h => h) (by assumption) (by rfl) (fun w => by simp only [List.getD_cons_succ, List.getD_cons_zero]; go_simp; try with_reducible rfl) ?_
        try simp only [List.getD_cons_succ, List.getD_cons_zero, Act.put, List.setIfInBounds_toArray, List.set_cons_zero, List.set_cons_succ]
        refine wpAnyT_takeP' 15 (by kernel_rfl) (fun _ _ _ h => h) (by assumption) (by rfl) (fun w => by simp only [List.getD_cons_succ, List.getD_cons_zero]; go_simp; try with_reducible rfl) ?_
        try simp only [List.getD_cons_succ, List.getD_cons_zero, Act.put, List.setIfInBounds_toArray, List.set_cons_zero, List.set_cons_succ]
        refine wpAnyT_last 16 rfl (by kernel_rfl) ?_
        simp only [List.drop_succ_cons, List.drop_zero]
        have K5 := Lib.hid (K4.out.set 2 rfl 0 (.slice va8 (d.fl.length + 1) vc8))
        clear K4 K3' o8 g8 f8 hd4 hown hnew
        go_wp2
        rw [onlyN_normal]
        go_wp2
        go_ret
        refine ⟨rfl, .slice va8 (d.fl.length + 1) vc8, S8, fb, rb, ?_⟩
        have K5s : Sep w (Chunks.bs d.chunks) (Z4.setCell ⟨d.b, 0, none⟩ (.slice va8 (d.fl.length + 1) vc8)) ([Chunk.blk (hb + 1) 31 [.int .i64 wt, .int .i64 qu, a2, a3, a4, a5, a6, a7], Chunk.blk hb 26 [.int .i64 s, .int .i64 g]] ++
          ([Chunk.blk d.b 92 (d.head.set 0 (.slice va8 (d.fl.length + 1) vc8)), Chunk.own 89 1 (.slice va8 (d.fl.length + 1) vc8) (d.fl.length + 1) ((d.fl.map fun f => ptrV (some f.b)) ++ [Value.pointer (some ⟨fb, 0, none⟩)]) S8, CRingq d.rb d.rds d.ring] ++ (d.fl.map CStr ++ d.fl.map CQ)) ++
          [CRingp6 rb [] [], Chunk.blk fb 95 [.int .i64 s, .int .i64 g, .int .i64 wt, .int .i64 (1), .int .i64 0, .pointer (some ⟨rb, 0, none⟩), .int .i64 0], Chunk.blk nb 89 [.pointer (some ⟨fb, 0, none⟩)]]) := K5.out
        have hfin := (K5s.perm (cs' := (([Chunk.blk d.b 92 (d.head.set 0 (.slice va8 (d.fl.length + 1) vc8)), Chunk.own 89 1 (.slice va8 (d.fl.length + 1) vc8) (d.fl.length + 1) ((d.fl.map fun f => ptrV (some f.b)) ++ [Value.pointer (some ⟨fb, 0, none⟩)]) S8, CRingq d.rb d.rds d.ring] ++
          ((d.fl.map CStr ++ [Chunk.blk fb 95 [.int .i64 s, .int .i64 g, .int .i64 wt, .int .i64 (1), .int .i64 0, .pointer (some ⟨rb, 0, none⟩), .int .i64 0]]) ++ (d.fl.map CQ ++ [CRingp6 rb [] []]))) ++
          ([Chunk.blk (hb + 1) 31 [.int .i64 wt, .int .i64 qu, a2, a3, a4, a5, a6, a7], Chunk.blk hb 26 [.int .i64 s, .int .i64 g]] ++ [Chunk.blk nb 89 [.pointer (some ⟨fb, 0, none⟩)]]))) (perm_join _ _ _ _ _ _ _)).sub (List.sublist_append_left _ _)
        have hcl : clampQ qu = (1) := by unfold clampQ; rw [if_pos (by omega)]
        rw [joined_chunks hcl]
        exact hfin
      · by_cases hq2 : 1073741824 < qu
        · have e1 : max qu 1 = qu := by omega
          have e2 : min qu 1073741824 = 1073741824 := by omega
          go_wp2_with fail
          have hM : Hid (∀ X, Holds X ([Chunk.blk (w.heap.size + 1) 31 [.int .i64 wt, .int .i64 qu, a2, a3, a4, a5, a6, a7], Chunk.blk w.heap.size 26 [.int .i64 s, .int .i64 g]] ++ d.chunks) →
              X.cell? ⟨d.b, 0, none⟩ = some (.slice va d.fl.length vc) ∧ X.cell? ⟨w.heap.size, 0, none⟩ = some (.int .i64 s) ∧ X.cell? ⟨w.heap.size, 1, none⟩ = some (.int .i64 g) ∧ X.cell? ⟨w.heap.size + 1, 0, none⟩ = some (.int .i64 wt)) := fun X hX => by
            have h0 : X.cell? ⟨d.b, 0, none⟩ = some d.fv := (show Blk X d.b 92 d.head from hX.right.get (i := 0) rfl).cell 0
            rw [hv] at h0
            exact ⟨h0, (show Blk X w.heap.size 26 [.int .i64 s, .int .i64 g] from hX.get (i := 1) rfl).cell 0, (show Blk X w.heap.size 26 [.int .i64 s, .int .i64 g] from hX.get (i := 1) rfl).cell 1, (show Blk X (w.heap.size + 1) 31 [.int .i64 wt, .int .i64 qu, a2, a3, a4, a5, a6, a7] from hX.get (i := 0) rfl).cell 0⟩
          have KD := Lib.hid (KW.out.drewN q)
          obtain ⟨WD, hWD⟩ : ∃ WD, W.drewN q = WD := ⟨_, rfl⟩
          rw [hWD] at KD ⊢
          obtain ⟨hb, hhb⟩ : ∃ hb, w.heap.size = hb := ⟨_, rfl⟩
          rw [hhb] at KD hM ⊢
          refine wp_T [16] (fun X => X.cell? ⟨d.b, 0, none⟩ = some (.slice va d.fl.length vc) ∧ X.cell? ⟨hb, 0, none⟩ = some (.int .i64 s) ∧ X.cell? ⟨hb, 1, none⟩ = some (.int .i64 g) ∧ X.cell? ⟨hb + 1, 0, none⟩ = some (.int .i64 wt)) (by kernel_rfl) (fun hC => ?_) (hM.out _ KD.out.drew.hs)
          refine wpAnyT_takeC' 0 (by kernel_rfl) (fun _ _ _ h => h) (by assumption) (by rfl) (fun w hSw => by simp only [List.getD_cons_succ, List.getD_cons_zero]; (try dsimp only at hSw); go_simp; try with_reducible rfl) ?_
          try simp only [List.getD_cons_succ, List.getD_cons_zero, Act.put, List.setIfInBounds_toArray, List.set_cons_zero, List.set_cons_succ]
          refine wpAnyT_takeC' 1 (by kernel_rfl) (fun _ _ _ h => h) (by assumption) (by rfl) (fun w hSw => by simp only [List.getD_cons_succ, List.getD_cons_zero]; (try dsimp only at hSw); go_simp; try with_reducible rfl) ?_
          try simp only [List.getD_cons_succ, List.getD_cons_zero, Act.put, List.setIfInBounds_toArray, List.set_cons_zero, List.set_cons_succ]
          refine wpAnyT_takeC' 2 (by kernel_rfl) (fun _ _ _ h => h) (by assumption) (by rfl) (fun w hSw => by simp only [List.getD_cons_succ, List.getD_cons_zero]; (try dsimp only at hSw); go_simp; try with_reducible rfl) ?_
          try simp only [List.getD_cons_succ, List.getD_cons_zero, Act.put, List.setIfInBounds_toArray, List.set_cons_zero, List.set_cons_succ]
          refine wpAnyT_takeC' 3 (by kernel_rfl) (fun _ _ _ h => h) (by assumption) (by rfl) (fun w hSw => by simp only [List.getD_cons_succ, List.getD_cons_zero]; (try dsimp only at hSw); go_simp; try with_reducible rfl) ?_
          try simp only [List.getD_cons_succ, List.getD_cons_zero, Act.put, List.setIfInBounds_toArray, List.set_cons_zero, List.set_cons_succ]
          refine wpAnyT_takeC' 4 (by kernel_rfl) (fun _ _ _ h => h) (by assumption) (by rfl) (fun w hSw => by simp only [List.getD_cons_succ, List.getD_cons_zero]; (try dsimp only at hSw); go_simp; try with_reducible rfl) ?_
          try simp only [List.getD_cons_succ, List.getD_cons_zero, Act.put, List.setIfInBounds_toArray, List.set_cons_zero, List.set_cons_succ]
          refine wpAnyT_takeC' 5 (by kernel_rfl) (fun _ _ _ h => h) (by assumption) (by rfl) (fun w hSw => by simp only [List.getD_cons_succ, List.getD_cons_zero]; (try dsimp only at hSw); go_simp; try with_reducible rfl) ?_
          try simp only [List.getD_cons_succ, List.getD_cons_zero, Act.put, List.setIfInBounds_toArray, List.set_cons_zero, List.set_cons_succ]
          refine wpAnyT_takeC' 6 (by kernel_rfl) (fun _ _ _ h => h) (by assumption) (by rfl) (fun w hSw => by simp only [List.getD_cons_succ, List.getD_cons_zero]; (try dsimp only at hSw); go_simp; try with_reducible rfl) ?_
          try simp only [List.getD_cons_succ, List.getD_cons_zero, Act.put, List.setIfInBounds_toArray, List.set_cons_zero, List.set_cons_succ]
          refine wpAnyT_takeC' 7 (by kernel_rfl) (fun _ _ _ h => h) (by assumption) (by rfl) (fun w hSw => by simp only [List.getD_cons_succ, List.getD_cons_zero]; (try dsimp only at hSw); go_simp; try with_reducible rfl) ?_
          try simp only [List.getD_cons_succ, List.getD_cons_zero, Act.put, List.setIfInBounds_toArray, List.set_cons_zero, List.set_cons_succ]
          refine wpAnyT_takeC' 8 (by kernel_rfl) (fun _ _ _ h => h) (by assumption) (by rfl) (fun w hSw => by simp only [List.getD_cons_succ, List.getD_cons_zero]; (try dsimp only at hSw); go_simp; try with_reducible rfl) ?_
          try simp only [List.getD_cons_succ, List.getD_cons_zero, Act.put, List.setIfInBounds_toArray, List.set_cons_zero, List.set_cons_succ]
          refine wpAnyT_one' 9 (by kernel_rfl) (by rfl) (fun K hK => ?_)
          simp only [List.getD_cons_succ, List.getD_cons_zero]
          go_simp
          refine (new_p6 _).mono ?_
          rintro er Z1 ⟨rfl, hr, f1, z1⟩
          have K1 := Lib.hid (KD.out.drew.call0 (news := [CRingp6 WD.drew.heap.size [] []]) (Sep.of_one0 f1 hr (fun b hm => .inr (Nat.le_of_eq (List.mem_singleton.1 hm).symm))))
          obtain ⟨rb, hrb⟩ : ∃ rb, WD.drew.heap.size = rb := ⟨_, rfl⟩
          have hrb2 : WD.heap.size = rb := hrb
          rw [hrb] at K1
          clear hr f1 z1 hC
          go_wp2_with fail
          try (first | rw [hrb] | rw [hrb2])
          have hC := hM.out _ K1.out.hs.left
          refine hK.out _ _ hC ?_
          clear hK
          try simp only [Act.put, List.setIfInBounds_toArray, List.set_cons_zero, List.set_cons_succ]
          refine wpAnyT_takeC' 10 (by kernel_rfl) (fun _ _ _ h => h) (by assumption) (by rfl) (fun w hSw => by simp only [List.getD_cons_succ, List.getD_cons_zero]; (try dsimp only at hSw); go_simp; try with_reducible rfl) ?_
          try simp only [List.getD_cons_succ, List.getD_cons_zero, Act.put, List.setIfInBounds_toArray, List.set_cons_zero, List.set_cons_succ]
          refine wpAnyT_one' 11 (by kernel_rfl) (by rfl) (fun K hK => ?_)
          simp only [List.getD_cons_succ, List.getD_cons_zero]
          go_simp
          have K2 := Lib.hid (K1.out.alloc 95 [.int .i64 s, .int .i64 g, .int .i64 wt, .int .i64 (1073741824), .int .i64 0, .pointer (some ⟨rb, 0, none⟩), .int .i64 0])
          have hC2 := hM.out _ K2.out.hs.left.left
          refine hK.out _ _ hC2 ?_
          clear hK hC
          have hC := hC2
          clear hC2
          try simp only [Act.put, List.setIfInBounds_toArray, List.set_cons_zero, List.set_cons_succ]
          obtain ⟨fb, hfb⟩ : ∃ fb, Z1.heap.size = fb := ⟨_, rfl⟩
          obtain ⟨Z2, hZ2⟩ : ∃ Z2, Z1.alloc (.cells #[.int .i64 s, .int .i64 g, .int .i64 wt, .int .i64 (1073741824), .int .i64 0, .pointer (some ⟨rb, 0, none⟩), .int .i64 0] 95) = Z2 := ⟨_, rfl⟩
          have K2' : Hid (Sep w (Chunks.bs d.chunks) Z2 ([Chunk.blk (hb + 1) 31 [.int .i64 wt, .int .i64 qu, a2, a3, a4, a5, a6, a7], Chunk.blk hb 26 [.int .i64 s, .int .i64 g]] ++ d.chunks ++ [CRingp6 rb [] []] ++ [Chunk.blk fb 95 [.int .i64 s, .int .i64 g, .int .i64 wt, .int .i64 (1073741824), .int .i64 0, .pointer (some ⟨rb, 0, none⟩), .int .i64 0]])) := by
            rw [← hZ2, ← hfb]; exact K2.out
          rw [hfb, hZ2]
          rw [hZ2] at hC
          clear hZ2 hfb K2 K1
          refine wpAnyT_one' 12 (by kernel_rfl) (by rfl) (fun K hK => ?_)
          simp only [List.getD_cons_succ, List.getD_cons_zero]
          go_simp
          have K3 := Lib.hid (K2'.out.alloc 89 [.pointer (some ⟨fb, 0, none⟩)])
          have hC2 := hM.out _ K3.out.hs.left.left.left
          refine hK.out _ _ hC2 ?_
          clear hK hC
          have hC := hC2
          clear hC2
          try simp only [Act.put, List.setIfInBounds_toArray, List.set_cons_zero, List.set_cons_succ]
          obtain ⟨nb, hnb⟩ : ∃ nb, Z2.heap.size = nb := ⟨_, rfl⟩
          obtain ⟨Z3, hZ3⟩ : ∃ Z3, Z2.alloc (.cells #[.pointer (some ⟨fb, 0, none⟩)] 89) = Z3 := ⟨_, rfl⟩
          have K3s : Sep w (Chunks.bs d.chunks) Z3 ([Chunk.blk (hb + 1) 31 [.int .i64 wt, .int .i64 qu, a2, a3, a4, a5, a6, a7], Chunk.blk hb 26 [.int .i64 s, .int .i64 g]] ++ d.chunks ++ [CRingp6 rb [] [], Chunk.blk fb 95 [.int .i64 s, .int .i64 g, .int .i64 wt, .int .i64 (1073741824), .int .i64 0, .pointer (some ⟨rb, 0, none⟩), .int .i64 0], Chunk.blk nb 89 [.pointer (some ⟨fb, 0, none⟩)]]) := by
            rw [← hZ3, ← hnb]
            have := K3.out
            simpa only [List.append_assoc, List.cons_append, List.nil_append] using this
          have K3' := Lib.hid K3s
          clear K3s
          rw [hnb, hZ3]
          rw [hZ3] at hC
          have hnew : Blk Z3 nb 89 [.pointer (some ⟨fb, 0, none⟩)] := by
            rw [← hZ3, ← hnb]; exact Blk.new Z2 _ [_]
          clear hZ3 hnb K3 K2'
          have hown : OwnS Z3 89 1 (.slice va d.fl.length vc) d.fl.length (d.fl.map fun f => ptrV (some f.b)) d.fS := by
            rw [← hv]; exact K3'.out.hs.left.right.get (i := 1) rfl
          refine wpAnyT_one' 13 (by kernel_rfl) (by rfl) (fun K hK => ?_)
          simp only [List.getD_cons_succ, List.getD_cons_zero]
          refine oper_append_S _ (.tmp 38) (.tmp 46) 90 rfl 89 i0 (.pointer none) 1 8 Try.underlying90 hi hz0 hz1 hz2 rfl _ _ _ _ rfl hown ⟨nb, 0, none⟩ 1 1 [.pointer (some ⟨fb, 0, none⟩)] rfl rfl hnew.news (fun u hu => by simp at hu; subst hu; rfl) (by unfold maxLen; omega) (by omega) ?_
          intro v8 Z4 S8 o8 g8 f8
          obtain ⟨va8, vc8, rfl⟩ := o8.val
          have K4 := Lib.hid (K3'.out.call1' 3 rfl (Sep.of_one (c := Chunk.own 89 1 (.slice va8 (d.fl.length + 1) vc8) (d.fl.length + 1) ((d.fl.map fun f => ptrV (some f.b)) ++ [Value.pointer (some ⟨fb, 0, none⟩)]) S8) f8 o8 g8))
          have hd4 : Blk Z4 d.b 92 d.head := K4.out.get (i := 2) rfl
          have hC2 : Z4.cell? ⟨d.b, 0, none⟩ = some (.slice va d.fl.length vc) ∧ Z4.cell? ⟨hb, 0, none⟩ = some (.int .i64 s) ∧ Z4.cell? ⟨hb, 1, none⟩ = some (.int .i64 g) ∧ Z4.cell? ⟨hb + 1, 0, none⟩ = some (.int .i64 wt) := by
            have h0 : Z4.cell? ⟨d.b, 0, none⟩ = some d.fv := hd4.cell 0
            rw [hv] at h0
            exact ⟨h0, (show Blk Z4 hb 26 [.int .i64 s, .int .i64 g] from K4.out.get (i := 1) rfl).cell 0, (show Blk Z4 hb 26 [.int .i64 s, .int .i64 g] from K4.out.get (i := 1) rfl).cell 1, (show Blk Z4 (hb + 1) 31 [.int .i64 wt, .int .i64 qu, a2, a3, a4, a5, a6, a7] from K4.out.get (i := 0) rfl).cell 0⟩
          refine hK.out _ _ hC2 ?_
          have q0 := hd4.frz 0
          have h40 := hC2.1
          clear hK hC
          have hC := hC2
          clear hC2
          try simp only [Act.put, List.setIfInBounds_toArray, List.set_cons_zero, List.set_cons_succ]
          refine wpAnyT_takeP' 14 (by kernel_rfl) (fun _ _ _ h => h) (by assumption) (by rfl) (fun w => by simp only [List.getD_cons_succ, List.getD_cons_zero]; go_simp; try with_reducible rfl) ?_
          try simp only [List.getD_cons_succ, List.getD_cons_zero, Act.put, List.setIfInBounds_toArray, List.set_cons_zero, List.set_cons_succ]
          refine wpAnyT_takeP' 15 (by kernel_rfl) (fun _ _ _ h => h) (by assumption) (by rfl) (fun w => by simp only [List.getD_cons_succ, List.getD_cons_zero]; go_simp; try with_reducible rfl) ?_
          try simp only [List.getD_cons_succ, List.getD_cons_zero, Act.put, List.setIfInBounds_toArray, List.set_cons_zero, List.set_cons_succ]
          refine wpAnyT_last 16 rfl (by kernel_rfl) ?_
          simp only [List.drop_succ_cons, List.drop_zero]
          have K5 := Lib.hid (K4.out.set 2 rfl 0 (.slice va8 (d.fl.length + 1) vc8))
          clear K4 K3' o8 g8 f8 hd4 hown hnew
          go_wp2
          rw [onlyN_normal]
          go_wp2
          go_ret
          refine ⟨rfl, .slice va8 (d.fl.length + 1) vc8, S8, fb, rb, ?_⟩
          have K5s : Sep w (Chunks.bs d.chunks) (Z4.setCell ⟨d.b, 0, none⟩ (.slice va8 (d.fl.length + 1) vc8)) ([Chunk.blk (hb + 1) 31 [.int .i64 wt, .int .i64 qu, a2, a3, a4, a5, a6, a7], Chunk.blk hb 26 [.int .i64 s, .int .i64 g]] ++
            ([Chunk.blk d.b 92 (d.head.set 0 (.slice va8 (d.fl.length + 1) vc8)), Chunk.own 89 1 (.slice va8 (d.fl.length + 1) vc8) (d.fl.length + 1) ((d.fl.map fun f => ptrV (some f.b)) ++ [Value.pointer (some ⟨fb, 0, none⟩)]) S8, CRingq d.rb d.rds d.ring] ++ (d.fl.map CStr ++ d.fl.map CQ)) ++
            [CRingp6 rb [] [], Chunk.blk fb 95 [.int .i64 s, .int .i64 g, .int .i64 wt, .int .i64 (1073741824), .int .i64 0, .pointer (some ⟨rb, 0, none⟩), .int .i64 0], Chunk.blk nb 89 [.pointer (some ⟨fb, 0, none⟩)]]) := K5.out
          have hfin := (K5s.perm (cs' := (([Chunk.blk d.b 92 (d.head.set 0 (.slice va8 (d.fl.length + 1) vc8)), Chunk.own 89 1 (.slice va8 (d.fl.length + 1) vc8) (d.fl.length + 1) ((d.fl.map fun f => ptrV (some f.b)) ++ [Value.pointer (some ⟨fb, 0, none⟩)]) S8, CRingq d.rb d.rds d.ring] ++
            ((d.fl.map CStr ++ [Chunk.blk fb 95 [.int .i64 s, .int .i64 g, .int .i64 wt, .int .i64 (1073741824), .int .i64 0, .pointer (some ⟨rb, 0, none⟩), .int .i64 0]]) ++ (d.fl.map CQ ++ [CRingp6 rb [] []]))) ++
            ([Chunk.blk (hb + 1) 31 [.int .i64 wt, .int .i64 qu, a2, a3, a4, a5, a6, a7], Chunk.blk hb 26 [.int .i64 s, .int .i64 g]] ++ [Chunk.blk nb 89 [.pointer (some ⟨fb, 0, none⟩)]]))) (perm_join _ _ _ _ _ _ _)).sub (List.sublist_append_left _ _)
          have hcl : clampQ qu = (1073741824) := by unfold clampQ; rw [if_neg (by omega), if_pos (by omega)]
          rw [joined_chunks hcl]
          exact hfin
        · have e1 : max qu 1 = qu := by omega
          have e2 : min qu 1073741824 = qu := by omega
          go_wp2_with fail
          have hM : Hid (∀ X, Holds X ([Chunk.blk (w.heap.size + 1) 31 [.int .i64 wt, .int .i64 qu, a2, a3, a4, a5, a6, a7], Chunk.blk w.heap.size 26 [.int .i64 s, .int .i64 g]] ++ d.chunks) →
              X.cell? ⟨d.b, 0, none⟩ = some (.slice va d.fl.length vc) ∧ X.cell? ⟨w.heap.size, 0, none⟩ = some (.int .i64 s) ∧ X.cell? ⟨w.heap.size, 1, none⟩ = some (.int .i64 g) ∧ X.cell? ⟨w.heap.size + 1, 0, none⟩ = some (.int .i64 wt)) := fun X hX => by
            have h0 : X.cell? ⟨d.b, 0, none⟩ = some d.fv := (show Blk X d.b 92 d.head from hX.right.get (i := 0) rfl).cell 0
            rw [hv] at h0
            exact ⟨h0, (show Blk X w.heap.size 26 [.int .i64 s, .int .i64 g] from hX.get (i := 1) rfl).cell 0, (show Blk X w.heap.size 26 [.int .i64 s, .int .i64 g] from hX.get (i := 1) rfl).cell 1, (show Blk X (w.heap.size + 1) 31 [.int .i64 wt, .int .i64 qu, a2, a3, a4, a5, a6, a7] from hX.get (i := 0) rfl).cell 0⟩
          have KD := Lib.hid (KW.out.drewN q)
          obtain ⟨WD, hWD⟩ : ∃ WD, W.drewN q = WD := ⟨_, rfl⟩
          rw [hWD] at KD ⊢
          obtain ⟨hb, hhb⟩ : ∃ hb, w.heap.size = hb := ⟨_, rfl⟩
          rw [hhb] at KD hM ⊢
          refine wp_T [16] (fun X => X.cell? ⟨d.b, 0, none⟩ = some (.slice va d.fl.length vc) ∧ X.cell? ⟨hb, 0, none⟩ = some (.int .i64 s) ∧ X.cell? ⟨hb, 1, none⟩ = some (.int .i64 g) ∧ X.cell? ⟨hb + 1, 0, none⟩ = some (.int .i64 wt)) (by kernel_rfl) (fun hC => ?_) (hM.out _ KD.out.drew.hs)
          refine wpAnyT_takeC' 0 (by kernel_rfl) (fun _ _ _ h => h) (by assumption) (by rfl) (fun w hSw => by simp only [List.getD_cons_succ, List.getD_cons_zero]; (try dsimp only at hSw); go_simp; try with_reducible rfl) ?_
          try simp only [List.getD_cons_succ, List.getD_cons_zero, Act.put, List.setIfInBounds_toArray, List.set_cons_zero, List.set_cons_succ]
          refine wpAnyT_takeC' 1 (by kernel_rfl) (fun _ _ _ h => h) (by assumption) (by rfl) (fun w hSw => by simp only [List.getD_cons_succ, List.getD_cons_zero]; (try dsimp only at hSw); go_simp; try with_reducible rfl) ?_
          try simp only [List.getD_cons_succ, List.getD_cons_zero, Act.put, List.setIfInBounds_toArray, List.set_cons_zero, List.set_cons_succ]
          refine wpAnyT_takeC' 2 (by kernel_rfl) (fun _ _ _ h => h) (by assumption) (by rfl) (fun w hSw => by simp only [List.getD_cons_succ, List.getD_cons_zero]; (try dsimp only at hSw); go_simp; try with_reducible rfl) ?_
          try simp only [List.getD_cons_succ, List.getD_cons_zero, Act.put, List.setIfInBounds_toArray, List.set_cons_zero, List.set_cons_succ]
          refine wpAnyT_takeC' 3 (by kernel_rfl) (fun _ _ _ h => h) (by assumption) (by rfl) (fun w hSw => by simp only [List.getD_cons_succ, List.getD_cons_zero]; (try dsimp only at hSw); go_simp; try with_reducible rfl) ?_
          try simp only [List.getD_cons_succ, List.getD_cons_zero, Act.put, List.setIfInBounds_toArray, List.set_cons_zero, List.set_cons_succ]
          refine wpAnyT_takeC' 4 (by kernel_rfl) (fun _ _ _ h => h) (by assumption) (by rfl) (fun w hSw => by simp only [List.getD_cons_succ, List.getD_cons_zero]; (try dsimp only at hSw); go_simp; try with_reducible rfl) ?_
          try simp only [List.getD_cons_succ, List.getD_cons_zero, Act.put, List.setIfInBounds_toArray, List.set_cons_zero, List.set_cons_succ]
          refine wpAnyT_takeC' 5 (by kernel_rfl) (fun _ _ _ h => h) (by assumption) (by rfl) (fun w hSw => by simp only [List.getD_cons_succ, List.getD_cons_zero]; (try dsimp only at hSw); go_simp; try with_reducible rfl) ?_
          try simp only [List.getD_cons_succ, List.getD_cons_zero, Act.put, List.setIfInBounds_toArray, List.set_cons_zero, List.set_cons_succ]
          refine wpAnyT_takeC' 6 (by kernel_rfl) (fun _ _ _ h => h) (by assumption) (by rfl) (fun w hSw => by simp only [List.getD_cons_succ, List.getD_cons_zero]; (try dsimp only at hSw); go_simp; try with_reducible rfl) ?_
          try simp only [List.getD_cons_succ, List.getD_cons_zero, Act.put, List.setIfInBounds_toArray, List.set_cons_zero, List.set_cons_succ]
          refine wpAnyT_takeC' 7 (by kernel_rfl) (fun _ _ _ h => h) (by assumption) (by rfl) (fun w hSw => by simp only [List.getD_cons_succ, List.getD_cons_zero]; (try dsimp only at hSw); go_simp; try with_reducible rfl) ?_
          try simp only [List.getD_cons_succ, List.getD_cons_zero, Act.put, List.setIfInBounds_toArray, List.set_cons_zero, List.set_cons_succ]
          refine wpAnyT_takeC' 8 (by kernel_rfl) (fun _ _ _ h => h) (by assumption) (by rfl) (fun w hSw => by simp only [List.getD_cons_succ, List.getD_cons_zero]; (try dsimp only at hSw); go_simp; try with_reducible rfl) ?_
          try simp only [List.getD_cons_succ, List.getD_cons_zero, Act.put, List.setIfInBounds_toArray, List.set_cons_zero, List.set_cons_succ]
          refine wpAnyT_one' 9 (by kernel_rfl) (by rfl) (fun K hK => ?_)
          simp only [List.getD_cons_succ, List.getD_cons_zero]
          go_simp
          refine (new_p6 _).mono ?_
          rintro er Z1 ⟨rfl, hr, f1, z1⟩
          have K1 := Lib.hid (KD.out.drew.call0 (news := [CRingp6 WD.drew.heap.size [] []]) (Sep.of_one0 f1 hr (fun b hm => .inr (Nat.le_of_eq (List.mem_singleton.1 hm).symm))))
          obtain ⟨rb, hrb⟩ : ∃ rb, WD.drew.heap.size = rb := ⟨_, rfl⟩
          have hrb2 : WD.heap.size = rb := hrb
          rw [hrb] at K1
          clear hr f1 z1 hC
          go_wp2_with fail
          try (first | rw [hrb] | rw [hrb2])
          have hC := hM.out _ K1.out.hs.left
          refine hK.out _ _ hC ?_
          clear hK
          try simp only [Act.put, List.setIfInBounds_toArray, List.set_cons_zero, List.set_cons_succ]
          refine wpAnyT_takeC' 10 (by kernel_rfl) (fun _ _ _ h => h) (by assumption) (by rfl) (fun w hSw => by simp only [List.getD_cons_succ, List.getD_cons_zero]; (try dsimp only at hSw); go_simp; try with_reducible rfl) ?_
          try simp only [List.getD_cons_succ, List.getD_cons_zero, Act.put, List.setIfInBounds_toArray, List.set_cons_zero, List.set_cons_succ]
          refine wpAnyT_one' 11 (by kernel_rfl) (by rfl) (fun K hK => ?_)
          simp only [List.getD_cons_succ, List.getD_cons_zero]
          go_simp
          have K2 := Lib.hid (K1.out.alloc 95 [.int .i64 s, .int .i64 g, .int .i64 wt, .int .i64 (qu), .int .i64 0, .pointer (some ⟨rb, 0, none⟩), .int .i64 0])
          have hC2 := hM.out _ K2.out.hs.left.left
          refine hK.out _ _ hC2 ?_
          clear hK hC
          have hC := hC2
          clear hC2
          try simp only [Act.put, List.setIfInBounds_toArray, List.set_cons_zero, List.set_cons_succ]
          obtain ⟨fb, hfb⟩ : ∃ fb, Z1.heap.size = fb := ⟨_, rfl⟩
          obtain ⟨Z2, hZ2⟩ : ∃ Z2, Z1.alloc (.cells #[.int .i64 s, .int .i64 g, .int .i64 wt, .int .i64 (qu), .int .i64 0, .pointer (some ⟨rb, 0, none⟩), .int .i64 0] 95) = Z2 := ⟨_, rfl⟩
          have K2' : Hid (Sep w (Chunks.bs d.chunks) Z2 ([Chunk.blk (hb + 1) 31 [.int .i64 wt, .int .i64 qu, a2, a3, a4, a5, a6, a7], Chunk.blk hb 26 [.int .i64 s, .int .i64 g]] ++ d.chunks ++ [CRingp6 rb [] []] ++ [Chunk.blk fb 95 [.int .i64 s, .int .i64 g, .int .i64 wt, .int .i64 (qu), .int .i64 0, .pointer (some ⟨rb, 0, none⟩), .int .i64 0]])) := by
            rw [← hZ2, ← hfb]; exact K2.out
          rw [hfb, hZ2]
          rw [hZ2] at hC
          clear hZ2 hfb K2 K1
          refine wpAnyT_one' 12 (by kernel_rfl) (by rfl) (fun K hK => ?_)
          simp only [List.getD_cons_succ, List.getD_cons_zero]
          go_simp
          have K3 := Lib.hid (K2'.out.alloc 89 [.pointer (some ⟨fb, 0, none⟩)])
          have hC2 := hM.out _ K3.out.hs.left.left.left
          refine hK.out _ _ hC2 ?_
          clear hK hC
          have hC := hC2
          clear hC2
          try simp only [Act.put, List.setIfInBounds_toArray, List.set_cons_zero, List.set_cons_succ]
          obtain ⟨nb, hnb⟩ : ∃ nb, Z2.heap.size = nb := ⟨_, rfl⟩
          obtain ⟨Z3, hZ3⟩ : ∃ Z3, Z2.alloc (.cells #[.pointer (some ⟨fb, 0, none⟩)] 89) = Z3 := ⟨_, rfl⟩
          have K3s : Sep w (Chunks.bs d.chunks) Z3 ([Chunk.blk (hb + 1) 31 [.int .i64 wt, .int .i64 qu, a2, a3, a4, a5, a6, a7], Chunk.blk hb 26 [.int .i64 s, .int .i64 g]] ++ d.chunks ++ [CRingp6 rb [] [], Chunk.blk fb 95 [.int .i64 s, .int .i64 g, .int .i64 wt, .int .i64 (qu), .int .i64 0, .pointer (some ⟨rb, 0, none⟩), .int .i64 0], Chunk.blk nb 89 [.pointer (some ⟨fb, 0, none⟩)]]) := by
            rw [← hZ3, ← hnb]
            have := K3.out
            simpa only [List.append_assoc, List.cons_append, List.nil_append] using this
          have K3' := Lib.hid K3s
          clear K3s
          rw [hnb, hZ3]
          rw [hZ3] at hC
          have hnew : Blk Z3 nb 89 [.pointer (some ⟨fb, 0, none⟩)] := by
            rw [← hZ3, ← hnb]; exact Blk.new Z2 _ [_]
          clear hZ3 hnb K3 K2'
          have hown : OwnS Z3 89 1 (.slice va d.fl.length vc) d.fl.length (d.fl.map fun f => ptrV (some f.b)) d.fS := by
            rw [← hv]; exact K3'.out.hs.left.right.get (i := 1) rfl
          refine wpAnyT_one' 13 (by kernel_rfl) (by rfl) (fun K hK => ?_)
          simp only [List.getD_cons_succ, List.getD_cons_zero]
          refine oper_append_S _ (.tmp 38) (.tmp 46) 90 rfl 89 i0 (.pointer none) 1 8 Try.underlying90 hi hz0 hz1 hz2 rfl _ _ _ _ rfl hown ⟨nb, 0, none⟩ 1 1 [.pointer (some ⟨fb, 0, none⟩)] rfl rfl hnew.news (fun u hu => by simp at hu; subst hu; rfl) (by unfold maxLen; omega) (by omega) ?_
          intro v8 Z4 S8 o8 g8 f8
          obtain ⟨va8, vc8, rfl⟩ := o8.val
          have K4 := Lib.hid (K3'.out.call1' 3 rfl (Sep.of_one (c := Chunk.own 89 1 (.slice va8 (d.fl.length + 1) vc8) (d.fl.length + 1) ((d.fl.map fun f => ptrV (some f.b)) ++ [Value.pointer (some ⟨fb, 0, none⟩)]) S8) f8 o8 g8))
          have hd4 : Blk Z4 d.b 92 d.head := K4.out.get (i := 2) rfl
          have hC2 : Z4.cell? ⟨d.b, 0, none⟩ = some (.slice va d.fl.length vc) ∧ Z4.cell? ⟨hb, 0, none⟩ = some (.int .i64 s) ∧ Z4.cell? ⟨hb, 1, none⟩ = some (.int .i64 g) ∧ Z4.cell? ⟨hb + 1, 0, none⟩ = some (.int .i64 wt) := by
            have h0 : Z4.cell? ⟨d.b, 0, none⟩ = some d.fv := hd4.cell 0
            rw [hv] at h0
            exact ⟨h0, (show Blk Z4 hb 26 [.int .i64 s, .int .i64 g] from K4.out.get (i := 1) rfl).cell 0, (show Blk Z4 hb 26 [.int .i64 s, .int .i64 g] from K4.out.get (i := 1) rfl).cell 1, (show Blk Z4 (hb + 1) 31 [.int .i64 wt, .int .i64 qu, a2, a3, a4, a5, a6, a7] from K4.out.get (i := 0) rfl).cell 0⟩
          refine hK.out _ _ hC2 ?_
          have q0 := hd4.frz 0
          have h40 := hC2.1
          clear hK hC
          have hC := hC2
          clear hC2
          try simp only [Act.put, List.setIfInBounds_toArray, List.set_cons_zero, List.set_cons_succ]
          refine wpAnyT_takeP' 14 (by kernel_rfl) (fun _ _ _ h => h) (by assumption) (by rfl) (fun w => by simp only [List.getD_cons_succ, List.getD_cons_zero]; go_simp; try with_reducible rfl) ?_
          try simp only [List.getD_cons_succ, List.getD_cons_zero, Act.put, List.setIfInBounds_toArray, List.set_cons_zero, List.set_cons_succ]
          refine wpAnyT_takeP' 15 (by kernel_rfl) (fun _ _ _ h => h) (by assumption) (by rfl) (fun w => by simp only [List.getD_cons_succ, List.getD_cons_zero]; go_simp; try with_reducible rfl) ?_
          try simp only [List.getD_cons_succ, List.getD_cons_zero, Act.put, List.setIfInBounds_toArray, List.set_cons_zero, List.set_cons_succ]
          refine wpAnyT_last 16 rfl (by kernel_rfl) ?_
          simp only [List.drop_succ_cons, List.drop_zero]
          have K5 := Lib.hid (K4.out.set 2 rfl 0 (.slice va8 (d.fl.length + 1) vc8))
          clear K4 K3' o8 g8 f8 hd4 hown hnew
          go_wp2
          rw [onlyN_normal]
          go_wp2
          go_ret
          refine ⟨rfl, .slice va8 (d.fl.length + 1) vc8, S8, fb, rb, ?_⟩
          have K5s : Sep w (Chunks.bs d.chunks) (Z4.setCell ⟨d.b, 0, none⟩ (.slice va8 (d.fl.length + 1) vc8)) ([Chunk.blk (hb + 1) 31 [.int .i64 wt, .int .i64 qu, a2, a3, a4, a5, a6, a7], Chunk.blk hb 26 [.int .i64 s, .int .i64 g]] ++
            ([Chunk.blk d.b 92 (d.head.set 0 (.slice va8 (d.fl.length + 1) vc8)), Chunk.own 89 1 (.slice va8 (d.fl.length + 1) vc8) (d.fl.length + 1) ((d.fl.map fun f => ptrV (some f.b)) ++ [Value.pointer (some ⟨fb, 0, none⟩)]) S8, CRingq d.rb d.rds d.ring] ++ (d.fl.map CStr ++ d.fl.map CQ)) ++
            [CRingp6 rb [] [], Chunk.blk fb 95 [.int .i64 s, .int .i64 g, .int .i64 wt, .int .i64 (qu), .int .i64 0, .pointer (some ⟨rb, 0, none⟩), .int .i64 0], Chunk.blk nb 89 [.pointer (some ⟨fb, 0, none⟩)]]) := K5.out
          have hfin := (K5s.perm (cs' := (([Chunk.blk d.b 92 (d.head.set 0 (.slice va8 (d.fl.length + 1) vc8)), Chunk.own 89 1 (.slice va8 (d.fl.length + 1) vc8) (d.fl.length + 1) ((d.fl.map fun f => ptrV (some f.b)) ++ [Value.pointer (some ⟨fb, 0, none⟩)]) S8, CRingq d.rb d.rds d.ring] ++
            ((d.fl.map CStr ++ [Chunk.blk fb 95 [.int .i64 s, .int .i64 g, .int .i64 wt, .int .i64 (qu), .int .i64 0, .pointer (some ⟨rb, 0, none⟩), .int .i64 0]]) ++ (d.fl.map CQ ++ [CRingp6 rb [] []]))) ++
            ([Chunk.blk (hb + 1) 31 [.int .i64 wt, .int .i64 qu, a2, a3, a4, a5, a6, a7], Chunk.blk hb 26 [.int .i64 s, .int .i64 g]] ++ [Chunk.blk nb 89 [.pointer (some ⟨fb, 0, none⟩)]]))) (perm_join _ _ _ _ _ _ _)).sub (List.sublist_append_left _ _)
          have hcl : clampQ qu = (qu) := by unfold clampQ; rw [if_neg (by omega), if_neg (by omega)]
          rw [joined_chunks hcl]
          exact hfin
end Go.Proofs.Yteojodcdehkejaa
