/- The discipline's rows: what each flow would still have queued. -/
import Derived.Test.YteojodcdehkejaaMA9
import Derived.Test.YteojodcdehkejaaMP3
import Derived.Test.YteojodcdehkejaaMA10
import Derived.Deep.DeepCutAuto
import Derived.Deep.CutBlock
import Derived.Test.YteojodcdehkejaaMP2
import Derived.Test.YteojodcdehkejaaMA11
set_option linter.unusedVariables false
namespace Go.Proofs.Yteojodcdehkejaa
open Go Go.RowKit
attribute [local go_sem] calmQ_normal wide_fn wide_depth Oper.semAt_some run_store_func

/-- a row: a flow's block, its bytes, its packets that are left -/
structure Rw where
  b : Nat
  by_ : Int
  left : Nat
def encRw (r : Rw) : List Value := [.pointer (some ⟨r.b, 0, none⟩), .int .i64 r.by_, .int .i64 r.left]
theorem infoRw : (Try.prog.info? 143).map (fun i => (i.zero, i.size, i.bytes)) = some (some (.agg #[.pointer none, .int .i64 0, .int .i64 0]), 3, 24) := by kernel_rfl
theorem oneRw (l : List Rw) : ∀ u, u ∈ l.flatMap encRw → u.oneCell' = true := by
  intro u hu
  obtain ⟨r, _, hr⟩ := List.mem_flatMap.1 hu
  simp only [encRw, List.mem_cons, List.not_mem_nil, or_false] at hr
  rcases hr with rfl | rfl | rfl <;> rfl
theorem flat3_len (l : List Rw) : (l.flatMap encRw).length = l.length * 3 := by
  induction l with
  | nil => rfl
  | cons p l ih => rw [List.flatMap_cons, List.length_append, ih]; simp [encRw]; omega
theorem flat3_at {l : List Rw} {i : Nat} {p : Rw} (h : l[i]? = some p) {j : Nat} (hj : j < 3) : (l.flatMap encRw)[i * 3 + j]? = (encRw p)[j]? := by
  induction l generalizing i with
  | nil => simp at h
  | cons q l ih =>
    rw [List.flatMap_cons]
    cases i with
    | zero =>
      simp at h; subst h
      rw [List.getElem?_append_left (by simp [encRw]; omega)]; simp
    | succ i =>
      simp only [List.getElem?_cons_succ] at h
      rw [List.getElem?_append_right (by simp [encRw]; omega), ← ih h]
      congr 1
      simp [encRw]; omega
theorem flat3_set {l : List Rw} {i : Nat} {p : Rw} (h : l[i]? = some p) {j : Nat} (hj : j < 3) {v : Value} {q : Rw} (hq : (encRw p).set j v = encRw q) : (l.flatMap encRw).set (i * 3 + j) v = (l.set i q).flatMap encRw := by
  induction l generalizing i with
  | nil => simp at h
  | cons a l ih =>
    rw [List.flatMap_cons]
    cases i with
    | zero =>
      simp at h; subst h
      rw [List.set_append_left _ _ (by simp [encRw]; omega), List.set_cons_zero, List.flatMap_cons, ← hq]; simp
    | succ i =>
      simp only [List.getElem?_cons_succ] at h
      rw [List.set_append_right _ _ (by simp [encRw]; omega), List.set_cons_succ, List.flatMap_cons, ← ih h]
      congr 2
      simp [encRw]; omega
theorem take_snoc_rw {xs : List Rw} {j : Nat} {x : Rw} (hx : xs[j]? = some x) : (xs.take (j + 1)).flatMap encRw = (xs.take j).flatMap encRw ++ encRw x := by
  rw [List.take_add_one, hx]
  simp
/-- are two flows' pointers one? -/
theorem eql_own {W : World} {b : Nat} {cb : List Value} (hb : Blk W b 95 cb) (o : Option Nat) (ho : ∀ c, o = some c → ∃ cs, Blk W c 95 cs) :
    (binOp .eql 89 (.pointer (some ⟨b, 0, none⟩)) (ptrV o)).run Try.prog W = .ok (.bool (decide (o = some b))) W := by
  obtain ⟨infoFl, infoFl_is, infoFl_sz⟩ := infoFl_ex
  cases o with
  | none =>
    have h : ∀ d : Nat, (Op.equalIn (d + 1) 89 (.pointer (some ⟨b, 0, none⟩)) (.pointer none)).run Try.prog W = .ok false W := fun d => by
      simp [Op.equalIn, run_underlying Try.underlying89]
    simp only [binOp, ptrV]
    simp [Op.equal, Op.maxDepth, h 9999]
  | some c =>
    by_cases e : c = b
    · subst e
      rw [decide_eq_true rfl]
      exact run_eql_ptr_same W _ Try.underlying89 infoFl_is
    · rw [decide_eq_false (by simpa using e)]
      obtain ⟨cs, hc⟩ := ho c rfl
      exact run_eql_ptr_other W Try.underlying89 infoFl_is infoFl_sz (fun h => e (congrArg Addr.block h).symm) hb hc
def rwOf (own : Option Nat) (sz : Int) (f : Fl) : Rw := ⟨f.b, if own = some f.b then f.by_ + sz else f.by_, f.q.length⟩
def Dr.rows (d : Dr) (own : Option Nat) (sz : Int) : List Rw := d.fl.map (rwOf own sz)
theorem add_w3 {a b : Int} (ha : 0 ≤ a ∧ a ≤ 1125899906842624) (hb : 0 ≤ b ∧ b ≤ 1125899906842624) : wrap64 (a + b) = a + b := by unfold wrap64; omega
set_option maxRecDepth 100000 in
set_option maxHeartbeats 4000000 in
theorem drows {w : World} {d : Dr} (h : Holds w d.chunks) (own : Option Nat) (sz : Int) (hsz : 0 ≤ sz ∧ sz ≤ 1125899906842624) (how : ∀ c, own = some c → ∃ (k : Nat) (f : Fl), d.fl[k]? = some f ∧ f.b = c) (hby : ∀ (k : Nat) (f : Fl), d.fl[k]? = some f → 0 ≤ f.by_ ∧ f.by_ ≤ 1125899906842624)
    (hfl : d.fl.length ≤ 1048576) :
    Calls Try.prog 49 #[.pointer (some ⟨d.b, 0, none⟩), ptrV own, .int .i64 sz] w fun e w' => ∃ v S, e = .returned v ∧ OwnS w' 143 3 v d.fl.length ((d.rows own sz).flatMap encRw) S ∧ Gr w [] S ∧ Fr [] w w' := by
  obtain ⟨i0, hi, hz0, hz1, hz2⟩ := info_parts infoRw
  have hB : Blk w d.b 92 d.head := h.get (i := 0) rfl
  have hO : OwnS w 89 1 d.fv d.fl.length (d.fl.map fun f => ptrV (some f.b)) d.fS := h.get (i := 1) rfl
  have h0 : w.cell? ⟨d.b, 0, none⟩ = some d.fv := hB.cell 0
  have hl := hB.lt
  obtain ⟨va, vc, hv⟩ := hO.val
  rw [hv] at h0 hO
  have HO := Lib.hid hO
  have H := Lib.hid h
  have HBY := Lib.hid hby
  have HOW := Lib.hid how
  clear hB h hO hby how
  go_enter Try.func49, Try.ntmps49
  go_wp2
  go_loopg [7, 16] (d.fl.length + 1) (fun k v i wr => ∃ j : Nat, k + j = d.fl.length + 1 ∧ j ≤ d.fl.length ∧ i = .int .i64 j ∧ ∃ S, OwnS wr 143 3 v j (((d.rows own sz).take j).flatMap encRw) S ∧ Gr w [] S ∧ Fr [] w wr)
  case atStart => exact ⟨0, by omega, by omega, rfl, [], by simpa using OwnS.nil w _ _, Gr.nil _ _, Fr.refl _ _⟩
  case round =>
    obtain ⟨j, hk, hj, rfl, S, hown, hgr, hfr⟩ := hrel
    obtain ⟨RV, hRV⟩ : ∃ RV, u7 = RV := ⟨_, rfl⟩
    rw [hRV] at hown ⊢
    clear hRV
    have HR := Lib.hid hown
    have HG := Lib.hid hgr
    have HF := Lib.hid hfr
    clear hown hgr hfr
    by_cases hjn : j < d.fl.length
    · obtain ⟨f, hf⟩ : ∃ f, d.fl[j]? = some f := ⟨d.fl[j], by simp [hjn]⟩
      obtain ⟨gb, gc, hgv, _⟩ := HO.out.head (by omega)
      cases hgv
      have hji : (j : Int) < d.fl.length := by omega
      have HW := Lib.hid (H.out.fr' HF.out (by simp))
      have hOW := HO.out.fr HF.out (by simp)
      have c0 : wr.cell? ⟨gb, j, none⟩ = some (.pointer (some ⟨f.b, 0, none⟩)) := by
        rw [hOW.cellAt j (by omega), List.getElem?_map, hf]; rfl
      have hS : Blk wr f.b 95 f.cells := HW.out.get (Dr.str_at hf)
      have s5 : wr.cell? ⟨f.b, 5, none⟩ = some (.pointer (some ⟨f.r, 0, none⟩)) := hS.cell 5
      have s6 : wr.cell? ⟨f.b, 6, none⟩ = some (.int .i64 f.by_) := hS.cell 6
      have lf := hS.lt
      have hque : Rgp6 wr f.r f.ds f.q := HW.out.get (Dr.que_at hf)
      have HQ := Lib.hid (fun X (fX : Fr [] wr X) => len_p6 (hque.fr fX (by simp)))
      have HFK := Lib.hid hf
      clear hOW hS hque hf
      go_wp2_with fail
      go_upto_region 5 with (fail)
      go_cut [10] (fun s10 wx => ∃ B, s10 = .pointer (some ⟨B, 0, none⟩) ∧ ∃ wy, wx = wy ∧ Hid (Sep w [] wy [Chunk.blk B 143 (encRw ⟨f.b, f.by_, f.q.length⟩), Chunk.own 143 3 RV j (((d.rows own sz).take j).flatMap encRw) S]))
      case first =>
        refine wp_T [12] (fun X => X.cell? ⟨f.b, 5, none⟩ = some (.pointer (some ⟨f.r, 0, none⟩)) ∧ X.cell? ⟨f.b, 6, none⟩ = some (.int .i64 f.by_)) (by kernel_rfl) (fun hC => ?_) ⟨s5, s6⟩
        have HC : Hid (∀ X, Fr [] wr X → X.cell? ⟨f.b, 5, none⟩ = some (.pointer (some ⟨f.r, 0, none⟩)) ∧ X.cell? ⟨f.b, 6, none⟩ = some (.int .i64 f.by_)) := Lib.hid (fun X fX => ⟨(fX.cell lf (by simp)).trans s5, (fX.cell lf (by simp)).trans s6⟩)
        clear s5 s6
        refine wpAnyT_takeP' 0 (by kernel_rfl) (fun _ _ _ h => h) (by assumption) (by rfl) (fun w => by simp only [List.getD_cons_zero]; go_simp; try with_reducible rfl) ?_
        try simp only [List.getD_cons_zero, Act.put, List.setIfInBounds_toArray, List.set_cons_zero, List.set_cons_succ]
        refine wpAnyT_takeP' 1 (by kernel_rfl) (fun _ _ _ h => h) (by assumption) (by rfl) (fun w => by simp only [List.getD_cons_succ, List.getD_cons_zero]; go_simp; try with_reducible rfl) ?_
        try simp only [List.getD_cons_succ, List.getD_cons_zero, Act.put, List.setIfInBounds_toArray, List.set_cons_zero, List.set_cons_succ]
        refine wpAnyT_takeP' 2 (by kernel_rfl) (fun _ _ _ h => h) (by assumption) (by rfl) (fun w => by simp only [List.getD_cons_succ, List.getD_cons_zero]; go_simp; try with_reducible rfl) ?_
        try simp only [List.getD_cons_succ, List.getD_cons_zero, Act.put, List.setIfInBounds_toArray, List.set_cons_zero, List.set_cons_succ]
        refine wpAnyT_takeP' 3 (by kernel_rfl) (fun _ _ _ h => h) (by assumption) (by rfl) (fun w => by simp only [List.getD_cons_succ, List.getD_cons_zero]; go_simp; try with_reducible rfl) ?_
        try simp only [List.getD_cons_succ, List.getD_cons_zero, Act.put, List.setIfInBounds_toArray, List.set_cons_zero, List.set_cons_succ]
        refine wpAnyT_takeC' 4 (by kernel_rfl) (fun _ _ _ h => h) (by assumption) (by rfl) (fun w hSw => by simp only [List.getD_cons_succ, List.getD_cons_zero]; (try dsimp only at hSw); go_simp; try with_reducible rfl) ?_
        try simp only [List.getD_cons_succ, List.getD_cons_zero, Act.put, List.setIfInBounds_toArray, List.set_cons_zero, List.set_cons_succ]
        refine wpAnyT_takeP' 5 (by kernel_rfl) (fun _ _ _ h => h) (by assumption) (by rfl) (fun w => by simp only [List.getD_cons_succ, List.getD_cons_zero]; go_simp; try with_reducible rfl) ?_
        try simp only [List.getD_cons_succ, List.getD_cons_zero, Act.put, List.setIfInBounds_toArray, List.set_cons_zero, List.set_cons_succ]
        refine wpAnyT_takeP' 6 (by kernel_rfl) (fun _ _ _ h => h) (by assumption) (by rfl) (fun w => by simp only [List.getD_cons_succ, List.getD_cons_zero]; go_simp; try with_reducible rfl) ?_
        try simp only [List.getD_cons_succ, List.getD_cons_zero, Act.put, List.setIfInBounds_toArray, List.set_cons_zero, List.set_cons_succ]
        refine wpAnyT_takeP' 7 (by kernel_rfl) (fun _ _ _ h => h) (by assumption) (by rfl) (fun w => by simp only [List.getD_cons_succ, List.getD_cons_zero]; go_simp; try with_reducible rfl) ?_
        try simp only [List.getD_cons_succ, List.getD_cons_zero, Act.put, List.setIfInBounds_toArray, List.set_cons_zero, List.set_cons_succ]
        refine wpAnyT_takeC' 8 (by kernel_rfl) (fun _ _ _ h => h) (by assumption) (by rfl) (fun w hSw => by simp only [List.getD_cons_succ, List.getD_cons_zero]; (try dsimp only at hSw); go_simp; try with_reducible rfl) ?_
        try simp only [List.getD_cons_succ, List.getD_cons_zero, Act.put, List.setIfInBounds_toArray, List.set_cons_zero, List.set_cons_succ]
        refine wpAnyT_two' 9 11 (by kernel_rfl) (by rfl) (by rfl) ?two9 ?two11
        all_goals intro K hK
        all_goals simp only [List.getD_cons_succ, List.getD_cons_zero]
        · go_simp
          have K0 := Lib.hid ((Sep.of_one0 (c := Chunk.own 143 3 RV j (((d.rows own sz).take j).flatMap encRw) S) HF.out HR.out HG.out).drew)
          refine (HQ.out _ (Fr.refl _ _).drew).mono ?_
          rintro er W1 ⟨rfl, rfl⟩
          refine hK.out _ _ hC ?_
          clear hK
          try simp only [Act.put, List.setIfInBounds_toArray, List.set_cons_zero, List.set_cons_succ]
          refine wpAnyT_takeP' 10 (by kernel_rfl) (fun _ _ _ h => h) (by assumption) (by rfl) (fun w => by simp only [List.getD_cons_succ, List.getD_cons_zero]; go_simp; try with_reducible rfl) ?_
          try simp only [List.getD_cons_succ, List.getD_cons_zero, Act.put, List.setIfInBounds_toArray, List.set_cons_zero, List.set_cons_succ]
          refine wpAnyT_one' 11 (by kernel_rfl) (by rfl) (fun K hK => ?_)
          simp only [List.getD_cons_succ, List.getD_cons_zero]
          go_simp
          have K1 : Hid (Sep w [] (wr.alloc (.cells #[.pointer none, .int .i64 0, .int .i64 0] 143)).drew ([Chunk.blk wr.heap.size 143 [.pointer none, .int .i64 0, .int .i64 0]] ++ [Chunk.own 143 3 RV j (((d.rows own sz).take j).flatMap encRw) S])) := Lib.hid (((K0.out.alloc 143 [.pointer none, .int .i64 0, .int .i64 0])).perm List.perm_append_comm)
          have hC2 := HC.out _ ((Fr.refl [] wr).alloc (.cells #[.pointer none, .int .i64 0, .int .i64 0] 143)).drew
          refine hK.out _ _ hC2 ?_
          clear hK K0
          try simp only [Act.put, List.setIfInBounds_toArray, List.set_cons_zero, List.set_cons_succ]
          refine wpAnyT_last 12 rfl (by kernel_rfl) ?_
          simp only [List.drop_succ_cons, List.drop_zero]
          have BP : Blk _ wr.heap.size 143 [.pointer none, .int .i64 0, .int .i64 0] := K1.out.blk 0 rfl
          obtain ⟨A, hA⟩ : ∃ A, wr.heap.size = A := ⟨_, rfl⟩
          rw [hA] at K1 BP ⊢
          clear hA hC
          refine wpList_store_S rfl _ (.tmp 10) (.tmp 30) rfl A 0 143 [.pointer none, .int .i64 0, .int .i64 0] (encRw ⟨f.b, f.by_, f.q.length⟩) ?h1 ?h2 BP (by kernel_rfl) (by simp [encRw]) (fun u hu => oneRw [⟨f.b, f.by_, f.q.length⟩] u (by simpa using hu)) ?_
          case h1 => rfl
          case h2 => (go_simp; first | done | rfl)
          intro W4 b6 f6 z6
          have K4 := Lib.hid (K1.out.call1' 0 rfl (Sep.of_one (c := Chunk.blk A 143 (encRw ⟨f.b, f.by_, f.q.length⟩)) f6 b6 (Gr.refl _ _)))
          clear b6 f6 z6 BP K1
          go_wp2
          rw [onlyN_normal]
          go_wp2
          go_meet
          exact ⟨A, rfl, _, rfl, K4⟩
        · go_simp
          have K1 := Lib.hid ((((Sep.of_one0 (c := Chunk.own 143 3 RV j (((d.rows own sz).take j).flatMap encRw) S) HF.out HR.out HG.out).alloc 143 [.pointer none, .int .i64 0, .int .i64 0]).drew).perm List.perm_append_comm)
          have hC2 := HC.out _ ((Fr.refl [] wr).alloc (.cells #[.pointer none, .int .i64 0, .int .i64 0] 143)).drew
          refine hK.out _ _ hC2 ?_
          clear hK hC
          have hC := hC2
          clear hC2
          try simp only [Act.put, List.setIfInBounds_toArray, List.set_cons_zero, List.set_cons_succ]
          refine wpAnyT_one' 9 (by kernel_rfl) (by rfl) (fun K hK => ?_)
          simp only [List.getD_cons_succ, List.getD_cons_zero]
          go_simp
          refine (HQ.out _ ((Fr.refl _ _).alloc _).drew).mono ?_
          rintro er W1 ⟨rfl, rfl⟩
          refine hK.out _ _ hC ?_
          clear hK
          try simp only [Act.put, List.setIfInBounds_toArray, List.set_cons_zero, List.set_cons_succ]
          refine wpAnyT_takeP' 10 (by kernel_rfl) (fun _ _ _ h => h) (by assumption) (by rfl) (fun w => by simp only [List.getD_cons_succ, List.getD_cons_zero]; go_simp; try with_reducible rfl) ?_
          try simp only [List.getD_cons_succ, List.getD_cons_zero, Act.put, List.setIfInBounds_toArray, List.set_cons_zero, List.set_cons_succ]
          refine wpAnyT_last 12 rfl (by kernel_rfl) ?_
          simp only [List.drop_succ_cons, List.drop_zero]
          have BP : Blk _ wr.heap.size 143 [.pointer none, .int .i64 0, .int .i64 0] := K1.out.blk 0 rfl
          obtain ⟨A, hA⟩ : ∃ A, wr.heap.size = A := ⟨_, rfl⟩
          rw [hA] at K1 BP ⊢
          clear hA hC
          refine wpList_store_S rfl _ (.tmp 10) (.tmp 30) rfl A 0 143 [.pointer none, .int .i64 0, .int .i64 0] (encRw ⟨f.b, f.by_, f.q.length⟩) ?h1 ?h2 BP (by kernel_rfl) (by simp [encRw]) (fun u hu => oneRw [⟨f.b, f.by_, f.q.length⟩] u (by simpa using hu)) ?_
          case h1 => rfl
          case h2 => (go_simp; first | done | rfl)
          intro W4 b6 f6 z6
          have K4 := Lib.hid (K1.out.call1' 0 rfl (Sep.of_one (c := Chunk.blk A 143 (encRw ⟨f.b, f.by_, f.q.length⟩)) f6 b6 (Gr.refl _ _)))
          clear b6 f6 z6 BP K1
          go_wp2
          rw [onlyN_normal]
          go_wp2
          go_meet
          exact ⟨A, rfl, _, rfl, K4⟩
      case rest =>
        obtain ⟨B, rfl, wy, hwx, K⟩ := hcut
        rw [hwx]
        clear hwx s5 s6 c0 HR HG HF
        have hH := H.out.fr' K.out.fr (by simp)
        have hbin := eql_own (hH.get (Dr.str_at HFK.out)) own (fun c hc => by obtain ⟨k, g, hg, rfl⟩ := HOW.out c hc; exact ⟨_, hH.get (Dr.str_at hg)⟩)
        have hbb := HBY.out j f HFK.out
        clear hH HQ HW
        by_cases ho : own = some f.b
        · rw [decide_eq_true ho] at hbin
          obtain ⟨RZ, hRZ⟩ : ∃ RZ : Rw, RZ = ⟨f.b, f.by_ + sz, f.q.length⟩ := ⟨_, rfl⟩
          have HRZ : Hid ((d.rows own sz)[j]? = some RZ) := Lib.hid (by unfold Dr.rows; rw [List.getElem?_map, HFK.out, hRZ]; simp [rwOf, ho])
          have hw := add_w3 hbb hsz
          have y1 := (K.out.blk 0 rfl).cell 1
          have fz := (K.out.blk 0 rfl).frz 1
          simp only [encRw, List.getElem?_cons_zero, List.getElem?_cons_succ] at y1
          have ly := (K.out.blk 0 rfl).lt
          have ks := K.out.set 0 rfl 1 (.int .i64 (f.by_ + sz))
          obtain ⟨WZ, hWZ⟩ : ∃ WZ, wy.setCell ⟨B, 1, none⟩ (.int .i64 (f.by_ + sz)) = WZ := ⟨_, rfl⟩
          have KZ : Hid (Sep w [] WZ [Chunk.blk B 143 (encRw RZ), Chunk.own 143 3 RV j (((d.rows own sz).take j).flatMap encRw) S]) := by rw [← hWZ, hRZ]; exact Lib.hid ks
          have HO := Lib.hid ho
          clear ks K hbb ho hRZ
          -- world WZ, block B holds the row RV2, K : Sep w [] WZ [blk B .. , own ..]
          have z0 := (KZ.out.blk 0 rfl).cell 0
          have z1 := (KZ.out.blk 0 rfl).cell 1
          have z2 := (KZ.out.blk 0 rfl).cell 2
          simp only [encRw, List.getElem?_cons_zero, List.getElem?_cons_succ] at z0 z1 z2
          have lz := (KZ.out.blk 0 rfl).lt
          have hown : OwnS WZ 143 3 RV j (((d.rows own sz).take j).flatMap encRw) S := KZ.out.get (i := 1) rfl
          have hgr : Gr w [] S := fun b hb => KZ.out.gr b (by simp [Chunks.bs, Chunk.own, hb])
          have hfr := KZ.out.fr
          have HG := Lib.hid hgr
          have HF := Lib.hid hfr
          clear KZ hgr hfr
          go_wp2_with (at_builtin; refine wpList_append_S _ rfl (.tmp 39) (.tmp 41) 110 rfl 143 i0 (.agg #[.pointer none, .int .i64 0, .int .i64 0]) 3 24 Try.underlying110 hi hz0 hz1 hz2 rfl _ _ _ _ rfl ((hown.alloc _ : OwnS (WZ.alloc _) _ _ _ _ _ _)) ⟨WZ.heap.size, 0, none⟩ 1 1 (encRw RZ) rfl rfl (Blk.new WZ 143 (encRw RZ)).news ?c2 ?c3 ?c4 ?_)
          case c2 => intro u hu; exact oneRw [RZ] u (by simpa using hu)
          case c3 => unfold maxLen; omega
          case c4 => omega
          intro v' w1 S' hown' hgr' hfr'
          have hrow : (d.rows own sz)[j]? = some RZ := HRZ.out
          have hown2 := hown'
          rw [← take_snoc_rw hrow] at hown2
          have f1 : Fr [] WZ (WZ.alloc (.cells (encRw RZ).toArray 143)) := (Fr.refl [] WZ).alloc _
          have hg2 : Gr w [] S' := HG.out.trans (by have := HF.out.size; simp; omega) hgr'
          have hf2 : Fr [] w w1 := (HF.out.trans' f1).trans HG.out hfr'
          have HO2 := Lib.hid hown2
          have HG2 := Lib.hid hg2
          have HF2 := Lib.hid hf2
          clear hown hown' hown2 hgr' hfr' hrow f1 hg2 hf2 z0 z1 z2 lz
          go_wp2
          go_roundg (gk - 1)
          case measure => omega
          case rel => exact ⟨j + 1, by omega, by omega, by go_num, S', HO2.out, HG2.out, HF2.out⟩
        · rw [decide_eq_false ho] at hbin
          obtain ⟨RZ, hRZ⟩ : ∃ RZ : Rw, RZ = ⟨f.b, f.by_, f.q.length⟩ := ⟨_, rfl⟩
          have HRZ : Hid ((d.rows own sz)[j]? = some RZ) := Lib.hid (by unfold Dr.rows; rw [List.getElem?_map, HFK.out, hRZ]; simp [rwOf, ho])
          obtain ⟨WZ, hWZ⟩ : ∃ WZ, wy = WZ := ⟨_, rfl⟩
          rw [hWZ] at K hbin ⊢
          have KZ : Hid (Sep w [] WZ [Chunk.blk B 143 (encRw RZ), Chunk.own 143 3 RV j (((d.rows own sz).take j).flatMap encRw) S]) := by rw [hRZ]; exact K
          have HO := Lib.hid ho
          clear K hbb ho hWZ hRZ
          -- world WZ, block B holds the row RV2, K : Sep w [] WZ [blk B .. , own ..]
          have z0 := (KZ.out.blk 0 rfl).cell 0
          have z1 := (KZ.out.blk 0 rfl).cell 1
          have z2 := (KZ.out.blk 0 rfl).cell 2
          simp only [encRw, List.getElem?_cons_zero, List.getElem?_cons_succ] at z0 z1 z2
          have lz := (KZ.out.blk 0 rfl).lt
          have hown : OwnS WZ 143 3 RV j (((d.rows own sz).take j).flatMap encRw) S := KZ.out.get (i := 1) rfl
          have hgr : Gr w [] S := fun b hb => KZ.out.gr b (by simp [Chunks.bs, Chunk.own, hb])
          have hfr := KZ.out.fr
          have HG := Lib.hid hgr
          have HF := Lib.hid hfr
          clear KZ hgr hfr
          go_wp2_with (at_builtin; refine wpList_append_S _ rfl (.tmp 39) (.tmp 41) 110 rfl 143 i0 (.agg #[.pointer none, .int .i64 0, .int .i64 0]) 3 24 Try.underlying110 hi hz0 hz1 hz2 rfl _ _ _ _ rfl ((hown.alloc _ : OwnS (WZ.alloc _) _ _ _ _ _ _)) ⟨WZ.heap.size, 0, none⟩ 1 1 (encRw RZ) rfl rfl (Blk.new WZ 143 (encRw RZ)).news ?c2 ?c3 ?c4 ?_)
          case c2 => intro u hu; exact oneRw [RZ] u (by simpa using hu)
          case c3 => unfold maxLen; omega
          case c4 => omega
          intro v' w1 S' hown' hgr' hfr'
          have hrow : (d.rows own sz)[j]? = some RZ := HRZ.out
          have hown2 := hown'
          rw [← take_snoc_rw hrow] at hown2
          have f1 : Fr [] WZ (WZ.alloc (.cells (encRw RZ).toArray 143)) := (Fr.refl [] WZ).alloc _
          have hg2 : Gr w [] S' := HG.out.trans (by have := HF.out.size; simp; omega) hgr'
          have hf2 : Fr [] w w1 := (HF.out.trans' f1).trans HG.out hfr'
          have HO2 := Lib.hid hown2
          have HG2 := Lib.hid hg2
          have HF2 := Lib.hid hf2
          clear hown hown' hown2 hgr' hfr' hrow f1 hg2 hf2 z0 z1 z2 lz
          go_wp2
          go_roundg (gk - 1)
          case measure => omega
          case rel => exact ⟨j + 1, by omega, by omega, by go_num, S', HO2.out, HG2.out, HF2.out⟩
    · obtain rfl : j = d.fl.length := by omega
      go_wp2
      go_ret
      refine ⟨RV, S, rfl, ?_, HG.out, HF.out⟩
      have := HR.out
      rwa [List.take_of_length_le (by unfold Dr.rows; simp)] at this
end Go.Proofs.Yteojodcdehkejaa
/- The worst of the rows, in plain terms. -/
namespace Go.Proofs.Yteojodcdehkejaa
open Go Go.RowKit

def canR (own : Option Nat) (r : Rw) : Bool := decide (0 < r.left) || decide (own = some r.b)
def wrsR (r : Rw) (f : Fl) (r2 : Rw) (f2 : Fl) : Bool := wrs r.by_ f.qt f.slot r2.by_ f2.qt f2.slot
/-- the worst of the first k rows -/
def pick (own : Option Nat) (R : List Rw) (F : List Fl) : Nat → Option Nat
  | 0 => none
  | k + 1 => match R[k]?, F[k]? with
    | some r, some f => if canR own r then (match pick own R F k with
        | none => some k
        | some w => match R[w]?, F[w]? with
          | some r2, some f2 => if wrsR r f r2 f2 then some k else some w
          | _, _ => none) else pick own R F k
    | _, _ => pick own R F k
section
variable {own : Option Nat} {R : List Rw} {F : List Fl} {k w : Nat} {r r2 : Rw} {f f2 : Fl}
theorem pick_no (hr : R[k]? = some r) (hc : canR own r = false) : pick own R F (k + 1) = pick own R F k := by
  simp only [pick, hr]
  cases F[k]? <;> simp [hc]
theorem pick_first (hr : R[k]? = some r) (hf : F[k]? = some f) (hc : canR own r = true) (hp : pick own R F k = none) : pick own R F (k + 1) = some k := by
  simp only [pick, hr, hf, hc, hp]; simp
theorem pick_yes (hr : R[k]? = some r) (hf : F[k]? = some f) (hc : canR own r = true) (hp : pick own R F k = some w) (hr2 : R[w]? = some r2) (hf2 : F[w]? = some f2) (hw : wrsR r f r2 f2 = true) : pick own R F (k + 1) = some k := by
  simp only [pick, hr, hf, hc, hp, hr2, hf2, hw]; simp
theorem pick_keep (hr : R[k]? = some r) (hf : F[k]? = some f) (hc : canR own r = true) (hp : pick own R F k = some w) (hr2 : R[w]? = some r2) (hf2 : F[w]? = some f2) (hw : wrsR r f r2 f2 = false) : pick own R F (k + 1) = some w := by
  simp only [pick, hr, hf, hc, hp, hr2, hf2, hw]; simp
end
theorem pick_lt {own : Option Nat} {R : List Rw} {F : List Fl} (hl : R.length = F.length) : ∀ {k w : Nat}, pick own R F k = some w → w < k ∧ ∃ r, R[w]? = some r ∧ canR own r = true := by
  intro k
  induction k with
  | zero => intro w h; cases h
  | succ k ih =>
    intro w h
    cases hr : R[k]? with
    | none =>
      simp only [pick, hr] at h
      have := ih h
      exact ⟨by omega, this.2⟩
    | some r =>
      obtain ⟨f, hf⟩ : ∃ f, F[k]? = some f := ⟨F[k]'(by have := some_lt hr; omega), by simp⟩
      cases hc : canR own r with
      | false =>
        rw [pick_no hr hc] at h
        have := ih h
        exact ⟨by omega, this.2⟩
      | true =>
        cases hp : pick own R F k with
        | none =>
          rw [pick_first hr hf hc hp] at h
          cases h
          exact ⟨by omega, r, hr, hc⟩
        | some w' =>
          obtain ⟨h1, r2, hr2, hc2⟩ := ih hp
          obtain ⟨f2, hf2⟩ : ∃ f, F[w']? = some f := ⟨F[w']'(by have := some_lt hr2; omega), by simp⟩
          cases hw : wrsR r f r2 f2 with
          | true => rw [pick_yes hr hf hc hp hr2 hf2 hw] at h; cases h; exact ⟨by omega, r, hr, hc⟩
          | false => rw [pick_keep hr hf hc hp hr2 hf2 hw] at h; cases h; exact ⟨by omega, r2, hr2, hc2⟩
/-- what found tells, and the rows behind it -/
def FoundR (d : Dr) (R : List Rw) (own : Option Nat) (p : P6) (ok : Bool) (R' : List Rw) : Prop :=
  (ok = false ∧ p = zerop6 ∧ R' = R ∧ (pick own R d.fl R.length = none ∨ ∃ w r, pick own R d.fl R.length = some w ∧ R[w]? = some r ∧ own = some r.b)) ∨
  (ok = true ∧ ∃ (w : Nat) (r : Rw) (f : Fl), pick own R d.fl R.length = some w ∧ R[w]? = some r ∧ d.fl[w]? = some f ∧ own ≠ some r.b ∧ 0 < r.left ∧ f.q[r.left - 1]? = some p ∧ R' = R.set w ⟨r.b, r.by_ - p.f3, r.left - 1⟩)
/-- rows that speak of the flows -/
structure RowsOk (d : Dr) (R : List Rw) : Prop where
  len : R.length = d.fl.length
  at_ : ∀ (i : Nat) (r : Rw) (f : Fl), R[i]? = some r → d.fl[i]? = some f → r.b = f.b ∧ r.left ≤ f.q.length ∧ 0 ≤ r.by_ ∧ r.by_ ≤ 1125899906842624 ∧ 0 ≤ f.qt ∧ f.qt ≤ 1125899906842624
end Go.Proofs.Yteojodcdehkejaa
/- found: the worst packet of the rows is put aside. -/
namespace Go.Proofs.Yteojodcdehkejaa
open Go Go.RowKit
attribute [local go_sem] calmQ_normal wide_fn wide_depth Oper.semAt_some run_store_func
def pv : Option Nat → Int
  | none => -1
  | some k => k
theorem worse_int {w : World} {a b : Nat} {A B qa qb sa sb la lb : Int} (a0 : w.cell? ⟨a, 0, none⟩ = some (.int .i64 sa)) (a3 : w.cell? ⟨a, 3, none⟩ = some (.int .i64 qa)) (hla : a < w.heap.size)
    (b0 : w.cell? ⟨b, 0, none⟩ = some (.int .i64 sb)) (b3 : w.cell? ⟨b, 3, none⟩ = some (.int .i64 qb)) (hlb : b < w.heap.size) (hA : 0 ≤ A ∧ A ≤ 1125899906842624) (hB : 0 ≤ B ∧ B ≤ 1125899906842624) (hqa : 0 ≤ qa ∧ qa ≤ 1125899906842624) (hqb : 0 ≤ qb ∧ qb ≤ 1125899906842624) :
    Calls Try.prog 86 #[aggr a A la, aggr b B lb] w fun e w' => e = .returned (.bool (wrs A qa sa B qb sb)) ∧ Fr [] w w' := by
  obtain ⟨A', rfl⟩ : ∃ A' : Nat, A = A' := ⟨A.toNat, by omega⟩
  obtain ⟨B', rfl⟩ : ∃ B' : Nat, B = B' := ⟨B.toNat, by omega⟩
  obtain ⟨qa', rfl⟩ : ∃ q' : Nat, qa = q' := ⟨qa.toNat, by omega⟩
  obtain ⟨qb', rfl⟩ : ∃ q' : Nat, qb = q' := ⟨qb.toNat, by omega⟩
  exact worse_ok a0 a3 hla b0 b3 hlb (by omega) (by omega) (by omega) (by omega)
theorem Sep.setO {w0 w : World} {S0 S : List Nat} {cs : List Chunk} {e sz g n cap : Nat} {xs : List Value} (h : Sep w0 S0 w cs) (i : Nat) (hi : cs[i]? = some (Chunk.own e sz (.slice (some ⟨g, 0, none⟩) n cap) n xs S)) (hS : S = [g]) (k : Nat) (v : Value) :
    Sep w0 S0 (w.setCell ⟨g, k, none⟩ v) (cs.set i (Chunk.own e sz (.slice (some ⟨g, 0, none⟩) n cap) n (xs.set k v) S)) :=
  h.call1' i hi (Sep.of_one ((Fr.refl _ w).setCell v (.inl (by subst hS; simp [Chunk.own]))) ((h.own i hi).set k v) (Gr.refl _ _))
theorem pre_sub {n : Nat} (h : n ≤ 1125899906842624) : wrap64 (n : Int) = n := by unfold wrap64; omega
theorem sub_w5 {a b : Int} (ha : 0 ≤ a ∧ a ≤ 1125899906842624) (hb : 0 ≤ b ∧ b ≤ 1125899906842624) : wrap64 (a - b) = a - b := by unfold wrap64; omega
set_option maxRecDepth 100000 in
set_option maxHeartbeats 8000000 in
theorem dfound {w : World} {d : Dr} {R : List Rw} {v : Value} {S : List Nat} (hd : Holds w d.chunks) (hown : OwnS w 143 3 v R.length (R.flatMap encRw) S) (hdis : ∀ b, b ∈ S → b ∉ Chunks.bs d.chunks) (hok : RowsOk d R)
    (own : Option Nat) (how : ∀ c, own = some c → ∃ (k : Nat) (f : Fl), d.fl[k]? = some f ∧ f.b = c) (hfl : d.fl.length ≤ 1048576) (hqb : ∀ (k : Nat) (f : Fl), d.fl[k]? = some f → f.q.length ≤ 1125899906842624) (hsz : ∀ (k : Nat) (f : Fl) (v : P6), d.fl[k]? = some f → v ∈ f.q → 0 ≤ v.f3 ∧ v.f3 ≤ 1125899906842624) :
    Calls Try.prog 50 #[v, ptrV own] w fun e w' => ∃ p ok R', FoundR d R own p ok R' ∧ e = .returned (.tuple #[aggp6 p, .bool ok]) ∧ OwnS w' 143 3 v R.length (R'.flatMap encRw) S ∧ Fr S w w' := by
  obtain ⟨va, vc, hv⟩ := hown.val
  subst hv
  have H := Lib.hid hd
  have HO := Lib.hid hown
  have HDIS := Lib.hid hdis
  have HOK := Lib.hid hok
  have HOW := Lib.hid how
  have HQB := Lib.hid hqb
  have HSZ := Lib.hid hsz
  have hRl := hok.len
  obtain ⟨n, hn⟩ : ∃ n, R.length = n := ⟨_, rfl⟩
  have HN := Lib.hid hn
  have hnl : n ≤ 1048576 := by omega
  rw [hn] at HO ⊢
  clear hd hown hdis hok how hRl hn hfl hqb hsz
  go_enter Try.func50, Try.ntmps50
  go_wp2
  obtain ⟨PB, hPB⟩ : ∃ PB, w.heap.size = PB := ⟨_, rfl⟩
  have K0 := Lib.hid ((Sep.start (Holds.nil w)).alloc 34 (encP6 zerop6))
  rw [hPB] at K0 ⊢
  obtain ⟨W0, hW0⟩ : ∃ W0, w.alloc (.cells (encP6 zerop6).toArray 34) = W0 := ⟨_, rfl⟩
  rw [hW0] at K0
  have hW0' : w.alloc (.cells #[.int .i64 0, .int .i64 0, .int .i64 0, .int .i64 0, .int .i64 0, .int .i64 0] 34) = W0 := hW0
  rw [hW0']
  clear hW0 hW0' hPB
  go_loopg [6, 13] (n + 1) (fun k x i wr => ∃ j : Nat, k + j = n + 1 ∧ j ≤ n ∧ i = .int .i64 j ∧ x = .int .i64 (pv (pick own R d.fl j)) ∧ Hid (Sep w [] wr [Chunk.blk PB 34 (encP6 zerop6)]))
  case atStart => exact ⟨0, by omega, by omega, rfl, rfl, K0⟩
  case round =>
    clear K0 W0
    obtain ⟨j, hk, hj, rfl, rfl, K⟩ := hrel
    obtain ⟨ow, how⟩ : ∃ ow, pick own R d.fl j = ow := ⟨_, rfl⟩
    have HPK := Lib.hid how
    rw [how]
    clear how
    by_cases hjn : j < n
    · have hji : (j : Int) < n := by omega
      obtain ⟨r, hr⟩ : ∃ r, R[j]? = some r := ⟨R[j]'(by have := HN.out; omega), by simp⟩
      obtain ⟨f, hf⟩ : ∃ f, d.fl[j]? = some f := ⟨d.fl[j]'(by have := HN.out; have := HOK.out.len; omega), by simp⟩
      obtain ⟨gb, gc, hgv, hSg⟩ := HO.out.head (by omega)
      cases hgv
      have hO := HO.out.fr K.out.fr (by simp)
      have hcell : ∀ t, t < 3 → wr.cell? ⟨gb, j * 3 + t, none⟩ = (encRw r)[t]? := fun t ht => by rw [hO.cellAt _ (by omega)]; exact flat3_at hr ht
      have r0 : wr.cell? ⟨gb, j * 3, none⟩ = some (.pointer (some ⟨r.b, 0, none⟩)) := hcell 0 (by omega)
      have r1 : wr.cell? ⟨gb, j * 3 + 1, none⟩ = some (.int .i64 r.by_) := hcell 1 (by omega)
      have r2 : wr.cell? ⟨gb, j * 3 + 2, none⟩ = some (.int .i64 r.left) := hcell 2 (by omega)
      have HR := Lib.hid hr
      have HF := Lib.hid hf
      have K1 := Lib.hid (K.out.alloc 143 (encRw r))
      obtain ⟨W1, hW1⟩ : ∃ W1, wr.alloc (.cells #[.pointer (some ⟨r.b, 0, none⟩), .int .i64 r.by_, .int .i64 r.left] 143) = W1 := ⟨_, rfl⟩
      have K2 : Hid (Sep w [] W1 ([Chunk.blk PB 34 (encP6 zerop6)] ++ [Chunk.blk wr.heap.size 143 (encRw r)])) := by rw [← hW1]; exact K1
      clear hcell hO hr hf K1
      go_wp2_with fail
      have hH := H.out.fr' K2.out.fr (by simp)
      obtain ⟨hrb, hrl, hrp, hrp2, hfq, hfq2⟩ := HOK.out.at_ j r f HR.out HF.out
      have hbin : ∀ q, (binOp .eql 89 (.pointer (some ⟨r.b, 0, none⟩)) (ptrV own)).run Try.prog (W1.drewN q) = .ok (.bool (decide (own = some r.b))) (W1.drewN q) := fun q => eql_own (W := W1.drewN q) (b := r.b) (by rw [hrb]; exact hH.get (Dr.str_at HF.out)) own (fun c hc => by obtain ⟨k, g, hg, rfl⟩ := HOW.out c hc; exact ⟨_, hH.get (Dr.str_at hg)⟩)
      have x0 : W1.cell? ⟨wr.heap.size, 0, none⟩ = some (.pointer (some ⟨r.b, 0, none⟩)) := (K2.out.blk 1 rfl).cell 0
      have x1 : W1.cell? ⟨wr.heap.size, 1, none⟩ = some (.int .i64 r.by_) := (K2.out.blk 1 rfl).cell 1
      have x2 : W1.cell? ⟨wr.heap.size, 2, none⟩ = some (.int .i64 r.left) := (K2.out.blk 1 rfl).cell 2
      have lx := (K2.out.blk 1 rfl).lt
      obtain ⟨B, hB⟩ : ∃ B, wr.heap.size = B := ⟨_, rfl⟩
      rw [hB] at x0 x1 x2 lx K2 ⊢
      have HRF := Lib.hid (And.intro hrb (And.intro hrp (And.intro hrp2 (And.intro hfq hfq2))))
      clear hW1 hB hH r0 r1 r2 K hrb hrl hrp hrp2 hfq hfq2
      by_cases hl : 0 < r.left
      · have HCAN : Hid (canR own r = true) := Lib.hid (by unfold canR; simp [hl])
        obtain ⟨lf, hlf⟩ : ∃ lf, r.left = lf := ⟨_, rfl⟩
        rw [hlf] at hl x2
        have hl2 : (0 : Int) < lf := by omega
        have hl3 : decide ((0 : Int) < lf) = true := decide_eq_true hl2
        clear hlf
        -- HCAN : canR own r = true ; the guard's facts lie at hand
        cases ow with
        | none =>
          have hp : pick own R d.fl (j + 1) = some j := pick_first HR.out HF.out HCAN.out HPK.out
          have HP := Lib.hid hp
          clear hp
          simp only [pv]
          go_quiet (fail)
          go_wp2
          go_roundg (gk - 1)
          case measure => omega
          case rel => exact ⟨j + 1, by omega, by omega, by go_num, by rw [HP.out]; rfl, Lib.hid ((K2.out.drewN _).take 1)⟩
        | some z =>
          simp only [pv]
          obtain ⟨hz, s, hs, _⟩ := pick_lt HOK.out.len HPK.out
          have hzn : (z : Int) < n := by omega
          have hz0 : ¬ (z : Int) < 0 := by omega
          have hz1 : decide ((z : Int) < 0) = false := decide_eq_false hz0
          obtain ⟨g, hg⟩ : ∃ g, d.fl[z]? = some g := ⟨d.fl[z]'(by have := some_lt hs; have := HOK.out.len; omega), by simp⟩
          have hO := HO.out.fr K2.out.fr (by simp)
          have hcell : ∀ t, t < 3 → W1.cell? ⟨gb, z * 3 + t, none⟩ = (encRw s)[t]? := fun t ht => by rw [hO.cellAt _ (by omega)]; exact flat3_at hs ht
          have y0 : W1.cell? ⟨gb, z * 3, none⟩ = some (.pointer (some ⟨s.b, 0, none⟩)) := hcell 0 (by omega)
          have y1 : W1.cell? ⟨gb, z * 3 + 1, none⟩ = some (.int .i64 s.by_) := hcell 1 (by omega)
          have y2 : W1.cell? ⟨gb, z * 3 + 2, none⟩ = some (.int .i64 s.left) := hcell 2 (by omega)
          have HS := Lib.hid hs
          have HG := Lib.hid hg
          clear hcell hO hs hg
          refine wp_region_quiet_tail 18 (by kernel_rfl) (by kernel_rfl) ?_
          simp only [List.take_succ_cons, List.take_zero, List.drop_succ_cons, List.drop_zero]
          repeat (first | go_big_quiet_step (fail) | quiet_step (fail))
          refine wpQuiet_nil ?_
          rintro _ ⟨nq, rfl⟩
          go_wp2_with fail
          clear y0 y1 y2 x0 x1 x2 hz0 hz1 hzn
          have hH := H.out.fr' (K2.out.drewN nq).fr (by simp)
          have hrf := HRF.out
          obtain ⟨hsb, _, hsp, hsp2, hgq, hgq2⟩ := HOK.out.at_ z s g HS.out HG.out
          have bf : Blk (W1.drewN nq) f.b 95 f.cells := hH.get (Dr.str_at HF.out)
          have bg : Blk (W1.drewN nq) g.b 95 g.cells := hH.get (Dr.str_at HG.out)
          rw [← hrf.1] at bf
          rw [← hsb] at bg
          refine (worse_int (bf.cell 0) (bf.cell 3) bf.lt (bg.cell 0) (bg.cell 3) bg.lt ⟨hrf.2.1, hrf.2.2.1⟩ ⟨hsp, hsp2⟩ ⟨hrf.2.2.2.1, hrf.2.2.2.2⟩ ⟨hgq, hgq2⟩).mono ?_
          rintro er w3 ⟨rfl, f3⟩
          have K3 := Lib.hid (((K2.out.drewN nq).same f3).take 1)
          clear hH bf bg f3 hrf hsb hsp hsp2 hgq hgq2 K2 hbin
          cases hw : wrs r.by_ f.qt f.slot s.by_ g.qt g.slot with
          | true =>
            have hp : pick own R d.fl (j + 1) = some j := pick_yes HR.out HF.out HCAN.out HPK.out HS.out HG.out hw
            have HP := Lib.hid hp
            clear hp hw
            go_wp2
            go_roundg (gk - 1)
            case measure => omega
            case rel => exact ⟨j + 1, by omega, by omega, by go_num, by rw [HP.out]; rfl, K3⟩
          | false =>
            have hp : pick own R d.fl (j + 1) = some z := pick_keep HR.out HF.out HCAN.out HPK.out HS.out HG.out hw
            have HP := Lib.hid hp
            clear hp hw
            go_wp2
            go_roundg (gk - 1)
            case measure => omega
            case rel => exact ⟨j + 1, by omega, by omega, by go_num, by rw [HP.out]; rfl, K3⟩
      · have hl0 : r.left = 0 := by omega
        rw [hl0] at x2
        by_cases ho : own = some r.b
        · have HCAN : Hid (canR own r = true) := Lib.hid (by unfold canR; simp [ho])
          simp only [decide_eq_true ho] at hbin
          have HO2 := Lib.hid ho
          clear ho hl hl0
          -- HCAN : canR own r = true ; the guard's facts lie at hand
          cases ow with
          | none =>
            have hp : pick own R d.fl (j + 1) = some j := pick_first HR.out HF.out HCAN.out HPK.out
            have HP := Lib.hid hp
            clear hp
            simp only [pv]
            go_quiet (fail)
            go_wp2
            go_roundg (gk - 1)
            case measure => omega
            case rel => exact ⟨j + 1, by omega, by omega, by go_num, by rw [HP.out]; rfl, Lib.hid ((K2.out.drewN _).take 1)⟩
          | some z =>
            simp only [pv]
            obtain ⟨hz, s, hs, _⟩ := pick_lt HOK.out.len HPK.out
            have hzn : (z : Int) < n := by omega
            have hz0 : ¬ (z : Int) < 0 := by omega
            have hz1 : decide ((z : Int) < 0) = false := decide_eq_false hz0
            obtain ⟨g, hg⟩ : ∃ g, d.fl[z]? = some g := ⟨d.fl[z]'(by have := some_lt hs; have := HOK.out.len; omega), by simp⟩
            have hO := HO.out.fr K2.out.fr (by simp)
            have hcell : ∀ t, t < 3 → W1.cell? ⟨gb, z * 3 + t, none⟩ = (encRw s)[t]? := fun t ht => by rw [hO.cellAt _ (by omega)]; exact flat3_at hs ht
            have y0 : W1.cell? ⟨gb, z * 3, none⟩ = some (.pointer (some ⟨s.b, 0, none⟩)) := hcell 0 (by omega)
            have y1 : W1.cell? ⟨gb, z * 3 + 1, none⟩ = some (.int .i64 s.by_) := hcell 1 (by omega)
            have y2 : W1.cell? ⟨gb, z * 3 + 2, none⟩ = some (.int .i64 s.left) := hcell 2 (by omega)
            have HS := Lib.hid hs
            have HG := Lib.hid hg
            clear hcell hO hs hg
            refine wp_region_quiet_tail 18 (by kernel_rfl) (by kernel_rfl) ?_
            simp only [List.take_succ_cons, List.take_zero, List.drop_succ_cons, List.drop_zero]
            repeat (first | go_big_quiet_step (fail) | quiet_step (fail))
            refine wpQuiet_nil ?_
            rintro _ ⟨nq, rfl⟩
            go_wp2_with fail
            clear y0 y1 y2 x0 x1 x2 hz0 hz1 hzn
            have hH := H.out.fr' (K2.out.drewN nq).fr (by simp)
            have hrf := HRF.out
            obtain ⟨hsb, _, hsp, hsp2, hgq, hgq2⟩ := HOK.out.at_ z s g HS.out HG.out
            have bf : Blk (W1.drewN nq) f.b 95 f.cells := hH.get (Dr.str_at HF.out)
            have bg : Blk (W1.drewN nq) g.b 95 g.cells := hH.get (Dr.str_at HG.out)
            rw [← hrf.1] at bf
            rw [← hsb] at bg
            refine (worse_int (bf.cell 0) (bf.cell 3) bf.lt (bg.cell 0) (bg.cell 3) bg.lt ⟨hrf.2.1, hrf.2.2.1⟩ ⟨hsp, hsp2⟩ ⟨hrf.2.2.2.1, hrf.2.2.2.2⟩ ⟨hgq, hgq2⟩).mono ?_
            rintro er w3 ⟨rfl, f3⟩
            have K3 := Lib.hid (((K2.out.drewN nq).same f3).take 1)
            clear hH bf bg f3 hrf hsb hsp hsp2 hgq hgq2 K2 hbin
            cases hw : wrs r.by_ f.qt f.slot s.by_ g.qt g.slot with
            | true =>
              have hp : pick own R d.fl (j + 1) = some j := pick_yes HR.out HF.out HCAN.out HPK.out HS.out HG.out hw
              have HP := Lib.hid hp
              clear hp hw
              go_wp2
              go_roundg (gk - 1)
              case measure => omega
              case rel => exact ⟨j + 1, by omega, by omega, by go_num, by rw [HP.out]; rfl, K3⟩
            | false =>
              have hp : pick own R d.fl (j + 1) = some z := pick_keep HR.out HF.out HCAN.out HPK.out HS.out HG.out hw
              have HP := Lib.hid hp
              clear hp hw
              go_wp2
              go_roundg (gk - 1)
              case measure => omega
              case rel => exact ⟨j + 1, by omega, by omega, by go_num, by rw [HP.out]; rfl, K3⟩
        · have HCAN : Hid (canR own r = false) := Lib.hid (by unfold canR; simp [hl0, ho])
          simp only [decide_eq_false ho] at hbin
          have hp : pick own R d.fl (j + 1) = ow := by rw [pick_no HR.out HCAN.out]; exact HPK.out
          have HP := Lib.hid hp
          clear ho hl hl0 hp
          go_quiet (fail)
          go_wp2
          go_roundg (gk - 1)
          case measure => omega
          case rel => exact ⟨j + 1, by omega, by omega, by go_num, by rw [HP.out], Lib.hid ((K2.out.drewN _).take 1)⟩
    · obtain rfl : j = n := by omega
      cases ow with
      | none =>
        simp only [pv]
        have BP : Blk wr PB 34 (encP6 zerop6) := K.out.blk 0 rfl
        have HNR : Hid (FoundR d R own zerop6 false R) := Lib.hid (.inl ⟨rfl, rfl, rfl, .inl (by rw [HN.out]; exact HPK.out)⟩)
        go_wp2_with (refine wpList_store_S rfl _ (.tmp 4) (.tmp 52) rfl PB 0 34 (encP6 zerop6) (encP6 zerop6) rfl rfl BP (by kernel_rfl) (by simp [encP6]) (fun u hu => one_p6 [zerop6] u (by simpa using hu)) ?_; intro w6 b6 f6 z6; have K8 := Lib.hid (K.out.call1' 0 rfl (Sep.of_one (c := Chunk.blk PB 34 _) f6 b6 (Gr.refl _ _))); clear b6 f6 z6)
        have RB := K8.out.blk 0 rfl
        have p0 : w6.cell? ⟨PB, 0, none⟩ = some (.int .i64 0) := RB.cell 0
        have p1 : w6.cell? ⟨PB, 1, none⟩ = some (.int .i64 0) := RB.cell 1
        have p2 : w6.cell? ⟨PB, 2, none⟩ = some (.int .i64 0) := RB.cell 2
        have p3 : w6.cell? ⟨PB, 3, none⟩ = some (.int .i64 0) := RB.cell 3
        have p4 : w6.cell? ⟨PB, 4, none⟩ = some (.int .i64 0) := RB.cell 4
        have p5 : w6.cell? ⟨PB, 5, none⟩ = some (.int .i64 0) := RB.cell 5
        exact bodyPost_ret (v := .tuple #[aggp6 zerop6, .bool false]) (by simp [results, Try.results50, go_sem, p0, p1, p2, p3, p4, p5, aggp6, zerop6]) rfl (by first | exact ⟨zerop6, false, R, HNR.out, rfl, HO.out.fr K8.out.fr (by simp), K8.out.fr.mono (by simp)⟩ | exact ⟨zerop6, .inl ⟨R, HNR.out, rfl, HO.out.fr K8.out.fr (by simp), K8.out.fr.mono (by simp)⟩⟩)
      | some z =>
        simp only [pv]
        obtain ⟨hz, s, hs, hcs⟩ := pick_lt HOK.out.len HPK.out
        have hzn : (z : Int) < j := by omega
        have hz0 : ¬ (z : Int) < 0 := by omega
        have hz1 : decide ((z : Int) < 0) = false := decide_eq_false hz0
        obtain ⟨gb, gc, hgv, hSg⟩ := HO.out.head (by omega)
        cases hgv
        have HSG := Lib.hid hSg
        clear hSg
        obtain ⟨g, hg⟩ : ∃ g, d.fl[z]? = some g := ⟨d.fl[z]'(by have := some_lt hs; have := HOK.out.len; omega), by simp⟩
        have hO := HO.out.fr K.out.fr (by simp)
        have hcell : ∀ t, t < 3 → wr.cell? ⟨gb, z * 3 + t, none⟩ = (encRw s)[t]? := fun t ht => by rw [hO.cellAt _ (by omega)]; exact flat3_at hs ht
        have y0 : wr.cell? ⟨gb, z * 3, none⟩ = some (.pointer (some ⟨s.b, 0, none⟩)) := hcell 0 (by omega)
        have y1 : wr.cell? ⟨gb, z * 3 + 1, none⟩ = some (.int .i64 s.by_) := hcell 1 (by omega)
        have y2 : wr.cell? ⟨gb, z * 3 + 2, none⟩ = some (.int .i64 s.left) := hcell 2 (by omega)
        obtain ⟨hsb, hsl, hsp, hsp2, hgq, hgq2⟩ := HOK.out.at_ z s g hs hg
        have hH := H.out.fr' K.out.fr (by simp)
        have hbin := eql_own (W := wr) (b := s.b) (by rw [hsb]; exact hH.get (Dr.str_at hg)) own (fun c hc => by obtain ⟨k, g, hg, rfl⟩ := HOW.out c hc; exact ⟨_, hH.get (Dr.str_at hg)⟩)
        have BP : Blk wr PB 34 (encP6 zerop6) := K.out.blk 0 rfl
        have HS := Lib.hid hs
        have HG := Lib.hid hg
        clear hH hcell hs hg hsb hsl hsp hsp2 hgq hgq2
        by_cases ho : own = some s.b
        · rw [decide_eq_true ho] at hbin
          have HNR : Hid (FoundR d R own zerop6 false R) := Lib.hid (.inl ⟨rfl, rfl, rfl, .inr ⟨z, s, by rw [HN.out]; exact HPK.out, HS.out, ho⟩⟩)
          clear ho hO hcs
          go_wp2_with (refine wpList_store_S rfl _ (.tmp 4) (.tmp 52) rfl PB 0 34 (encP6 zerop6) (encP6 zerop6) rfl rfl BP (by kernel_rfl) (by simp [encP6]) (fun u hu => one_p6 [zerop6] u (by simpa using hu)) ?_; intro w6 b6 f6 z6; have K8 := Lib.hid (K.out.call1' 0 rfl (Sep.of_one (c := Chunk.blk PB 34 _) f6 b6 (Gr.refl _ _))); clear b6 f6 z6)
          have RB := K8.out.blk 0 rfl
          have p0 : w6.cell? ⟨PB, 0, none⟩ = some (.int .i64 0) := RB.cell 0
          have p1 : w6.cell? ⟨PB, 1, none⟩ = some (.int .i64 0) := RB.cell 1
          have p2 : w6.cell? ⟨PB, 2, none⟩ = some (.int .i64 0) := RB.cell 2
          have p3 : w6.cell? ⟨PB, 3, none⟩ = some (.int .i64 0) := RB.cell 3
          have p4 : w6.cell? ⟨PB, 4, none⟩ = some (.int .i64 0) := RB.cell 4
          have p5 : w6.cell? ⟨PB, 5, none⟩ = some (.int .i64 0) := RB.cell 5
          exact bodyPost_ret (v := .tuple #[aggp6 zerop6, .bool false]) (by simp [results, Try.results50, go_sem, p0, p1, p2, p3, p4, p5, aggp6, zerop6]) rfl (by first | exact ⟨zerop6, false, R, HNR.out, rfl, HO.out.fr K8.out.fr (by simp), K8.out.fr.mono (by simp)⟩ | exact ⟨zerop6, .inl ⟨R, HNR.out, rfl, HO.out.fr K8.out.fr (by simp), K8.out.fr.mono (by simp)⟩⟩)
        · rw [decide_eq_false ho] at hbin
          obtain ⟨l1, hl1⟩ : ∃ l1, s.left = l1 + 1 := ⟨s.left - 1, by unfold canR at hcs; simp [ho] at hcs; omega⟩
          have HL := Lib.hid hl1
          rw [hl1] at y2
          have hlq : l1 < g.q.length := by have := (HOK.out.at_ z s g HS.out HG.out).2.1; omega
          obtain ⟨v, hv⟩ : ∃ v, g.q[l1]? = some v := ⟨g.q[l1], by simp⟩
          have HV := Lib.hid hv
          have HO2 := Lib.hid ho
          have ew : wrap64 (l1 : Int) = l1 := pre_sub (by have := HQB.out z g HG.out; omega)
          have fzo := hO.frz (z * 3 + 2)
          have KR : Hid (Sep w S wr ([Chunk.own 143 3 (.slice (some ⟨gb, 0, none⟩) j vc) j (R.flatMap encRw) S] ++ [Chunk.blk PB 34 (encP6 zerop6)])) := Lib.hid ((Sep.start1 (c := Chunk.own 143 3 (.slice (some ⟨gb, 0, none⟩) j vc) j (R.flatMap encRw) S) HO.out).call0 K.out)
          clear ho BP hcs hl1 hlq hv hO
          go_wp2_with fail
          go_upto_region 11 with (fail)
          obtain ⟨W1, hW1⟩ : ∃ W1, wr.setCell ⟨gb, z * 3 + 2, none⟩ (.int .i64 l1) = W1 := ⟨_, rfl⟩
          have K1 : Hid (Sep w S W1 ([Chunk.own 143 3 (.slice (some ⟨gb, 0, none⟩) j vc) j ((R.set z ⟨s.b, s.by_, l1⟩).flatMap encRw) S] ++ [Chunk.blk PB 34 (encP6 zerop6)])) := by
            have k := KR.out.setO 0 rfl HSG.out (z * 3 + 2) (.int .i64 l1)
            rw [flat3_set HS.out (j := 2) (q := ⟨s.b, s.by_, l1⟩) (by omega) (by simp [encRw])] at k
            rw [← hW1]; exact Lib.hid k
          rw [hW1]
          clear KR hW1 y0 y1 y2 fzo ew hbin K
          obtain ⟨R1, hR1⟩ : ∃ R1, R.set z ⟨s.b, s.by_, l1⟩ = R1 := ⟨_, rfl⟩
          have hs1 : R1[z]? = some ⟨s.b, s.by_, l1⟩ := by rw [← hR1]; have := some_lt HS.out; rw [List.getElem?_set_self (by omega)]
          rw [hR1] at K1
          have HR1 := Lib.hid hR1
          have HS1 := Lib.hid hs1
          have hH := H.out.fr' K1.out.fr (fun b hb hs => HDIS.out b hs hb)
          have hO := K1.out.own 0 rfl
          have lgb : gb < W1.heap.size := hO.lt gb (by rw [HSG.out]; simp)
          have hcell : ∀ t, t < 3 → W1.cell? ⟨gb, z * 3 + t, none⟩ = (encRw ⟨s.b, s.by_, l1⟩)[t]? := fun t ht => by rw [hO.cellAt _ (by omega)]; exact flat3_at hs1 ht
          have y0 : W1.cell? ⟨gb, z * 3, none⟩ = some (.pointer (some ⟨s.b, 0, none⟩)) := hcell 0 (by omega)
          have y2 : W1.cell? ⟨gb, z * 3 + 2, none⟩ = some (.int .i64 l1) := hcell 2 (by omega)
          obtain ⟨hsb, _⟩ := HOK.out.at_ z s g HS.out HG.out
          have bg : Blk W1 g.b 95 g.cells := hH.get (Dr.str_at HG.out)
          rw [← hsb] at bg
          have s5 : W1.cell? ⟨s.b, 5, none⟩ = some (.pointer (some ⟨g.r, 0, none⟩)) := bg.cell 5
          have ls := bg.lt
          have hque : Rgp6 W1 g.r g.ds g.q := hH.get (Dr.que_at HG.out)
          have HQ := Lib.hid (fun X (fX : Fr [] W1 X) => at_yes_p6 (hque.fr fX (by simp)) HV.out)
          clear hs1 hR1 hcell hO bg hH hque hsb
          go_cut [9] (fun s9 wx => ∃ B, s9 = .pointer (some ⟨B, 0, none⟩) ∧ ∃ wy, wx = wy ∧ Hid (Sep w S wy ([Chunk.own 143 3 (.slice (some ⟨gb, 0, none⟩) j vc) j (R1.flatMap encRw) S] ++ [Chunk.blk PB 34 (encP6 zerop6)] ++ [Chunk.blk B 34 (encP6 v)])))
          case first =>
            refine wp_T [18] (fun X => X.cell? ⟨gb, z * 3, none⟩ = some (.pointer (some ⟨s.b, 0, none⟩)) ∧ X.cell? ⟨gb, z * 3 + 2, none⟩ = some (.int .i64 l1) ∧ X.cell? ⟨s.b, 5, none⟩ = some (.pointer (some ⟨g.r, 0, none⟩))) (by kernel_rfl) (fun hC => ?_) ⟨y0, y2, s5⟩
            have HC : Hid (∀ X, Fr [] W1 X → X.cell? ⟨gb, z * 3, none⟩ = some (.pointer (some ⟨s.b, 0, none⟩)) ∧ X.cell? ⟨gb, z * 3 + 2, none⟩ = some (.int .i64 l1) ∧ X.cell? ⟨s.b, 5, none⟩ = some (.pointer (some ⟨g.r, 0, none⟩))) := Lib.hid (fun X fX => ⟨(fX.cell lgb (by simp)).trans y0, (fX.cell lgb (by simp)).trans y2, (fX.cell ls (by simp)).trans s5⟩)
            clear y0 y2 s5
            refine wpAnyT_takeP' 0 (by kernel_rfl) (fun _ _ _ h => h) (by assumption) (by rfl) (fun w => by simp only [List.getD_cons_zero]; go_simp; try with_reducible rfl) ?_
            try simp only [List.getD_cons_zero, Act.put, List.setIfInBounds_toArray, List.set_cons_zero, List.set_cons_succ]
            refine wpAnyT_takeP' 1 (by kernel_rfl) (fun _ _ _ h => h) (by assumption) (by rfl) (fun w => by simp only [List.getD_cons_succ, List.getD_cons_zero]; go_simp; try with_reducible rfl) ?_
            try simp only [List.getD_cons_succ, List.getD_cons_zero, Act.put, List.setIfInBounds_toArray, List.set_cons_zero, List.set_cons_succ]
            refine wpAnyT_takeP' 2 (by kernel_rfl) (fun _ _ _ h => h) (by assumption) (by rfl) (fun w => by simp only [List.getD_cons_succ, List.getD_cons_zero]; go_simp; try with_reducible rfl) ?_
            try simp only [List.getD_cons_succ, List.getD_cons_zero, Act.put, List.setIfInBounds_toArray, List.set_cons_zero, List.set_cons_succ]
            refine wpAnyT_takeP' 3 (by kernel_rfl) (fun _ _ _ h => h) (by assumption) (by rfl) (fun w => by simp only [List.getD_cons_succ, List.getD_cons_zero]; go_simp; try with_reducible rfl) ?_
            try simp only [List.getD_cons_succ, List.getD_cons_zero, Act.put, List.setIfInBounds_toArray, List.set_cons_zero, List.set_cons_succ]
            refine wpAnyT_takeC' 4 (by kernel_rfl) (fun _ _ _ h => h) (by assumption) (by rfl) (fun w hSw => by simp only [List.getD_cons_succ, List.getD_cons_zero]; (try dsimp only at hSw); go_simp; try with_reducible rfl) ?_
            try simp only [List.getD_cons_succ, List.getD_cons_zero, Act.put, List.setIfInBounds_toArray, List.set_cons_zero, List.set_cons_succ]
            refine wpAnyT_takeP' 5 (by kernel_rfl) (fun _ _ _ h => h) (by assumption) (by rfl) (fun w => by simp only [List.getD_cons_succ, List.getD_cons_zero]; go_simp; try with_reducible rfl) ?_
            try simp only [List.getD_cons_succ, List.getD_cons_zero, Act.put, List.setIfInBounds_toArray, List.set_cons_zero, List.set_cons_succ]
            refine wpAnyT_takeP' 6 (by kernel_rfl) (fun _ _ _ h => h) (by assumption) (by rfl) (fun w => by simp only [List.getD_cons_succ, List.getD_cons_zero]; go_simp; try with_reducible rfl) ?_
            try simp only [List.getD_cons_succ, List.getD_cons_zero, Act.put, List.setIfInBounds_toArray, List.set_cons_zero, List.set_cons_succ]
            refine wpAnyT_takeC' 7 (by kernel_rfl) (fun _ _ _ h => h) (by assumption) (by rfl) (fun w hSw => by simp only [List.getD_cons_succ, List.getD_cons_zero]; (try dsimp only at hSw); go_simp; try with_reducible rfl) ?_
            try simp only [List.getD_cons_succ, List.getD_cons_zero, Act.put, List.setIfInBounds_toArray, List.set_cons_zero, List.set_cons_succ]
            refine wpAnyT_takeP' 8 (by kernel_rfl) (fun _ _ _ h => h) (by assumption) (by rfl) (fun w => by simp only [List.getD_cons_succ, List.getD_cons_zero]; go_simp; try with_reducible rfl) ?_
            try simp only [List.getD_cons_succ, List.getD_cons_zero, Act.put, List.setIfInBounds_toArray, List.set_cons_zero, List.set_cons_succ]
            refine wpAnyT_takeP' 9 (by kernel_rfl) (fun _ _ _ h => h) (by assumption) (by rfl) (fun w => by simp only [List.getD_cons_succ, List.getD_cons_zero]; go_simp; try with_reducible rfl) ?_
            try simp only [List.getD_cons_succ, List.getD_cons_zero, Act.put, List.setIfInBounds_toArray, List.set_cons_zero, List.set_cons_succ]
            refine wpAnyT_takeP' 10 (by kernel_rfl) (fun _ _ _ h => h) (by assumption) (by rfl) (fun w => by simp only [List.getD_cons_succ, List.getD_cons_zero]; go_simp; try with_reducible rfl) ?_
            try simp only [List.getD_cons_succ, List.getD_cons_zero, Act.put, List.setIfInBounds_toArray, List.set_cons_zero, List.set_cons_succ]
            refine wpAnyT_takeP' 11 (by kernel_rfl) (fun _ _ _ h => h) (by assumption) (by rfl) (fun w => by simp only [List.getD_cons_succ, List.getD_cons_zero]; go_simp; try with_reducible rfl) ?_
            try simp only [List.getD_cons_succ, List.getD_cons_zero, Act.put, List.setIfInBounds_toArray, List.set_cons_zero, List.set_cons_succ]
            refine wpAnyT_takeC' 12 (by kernel_rfl) (fun _ _ _ h => h) (by assumption) (by rfl) (fun w hSw => by simp only [List.getD_cons_succ, List.getD_cons_zero]; (try dsimp only at hSw); go_simp; try with_reducible rfl) ?_
            try simp only [List.getD_cons_succ, List.getD_cons_zero, Act.put, List.setIfInBounds_toArray, List.set_cons_zero, List.set_cons_succ]
            refine wpAnyT_two' 13 17 (by kernel_rfl) (by rfl) (by rfl) ?two13 ?two17
            all_goals intro K hK
            all_goals simp only [List.getD_cons_succ, List.getD_cons_zero]
            · go_simp
              refine (HQ.out _ (Fr.refl _ _).drew).mono ?_
              rintro er W2 ⟨rfl, f2⟩
              have hC2 := HC.out _ ((Fr.refl [] W1).drew.trans' f2)
              refine hK.out _ _ hC2 ?_
              clear hK
              try simp only [Act.put, List.setIfInBounds_toArray, List.set_cons_zero, List.set_cons_succ]
              refine wpAnyT_takeP' 14 (by kernel_rfl) (fun _ _ _ h => h) (by assumption) (by rfl) (fun w => by simp only [List.getD_cons_succ, List.getD_cons_zero]; go_simp; try with_reducible rfl) ?_
              try simp only [List.getD_cons_succ, List.getD_cons_zero, Act.put, List.setIfInBounds_toArray, List.set_cons_zero, List.set_cons_succ]
              refine wpAnyT_takeP' 15 (by kernel_rfl) (fun _ _ _ h => h) (by assumption) (by rfl) (fun w => by simp only [List.getD_cons_succ, List.getD_cons_zero]; go_simp; try with_reducible rfl) ?_
              try simp only [List.getD_cons_succ, List.getD_cons_zero, Act.put, List.setIfInBounds_toArray, List.set_cons_zero, List.set_cons_succ]
              refine wpAnyT_takeP' 16 (by kernel_rfl) (fun _ _ _ h => h) (by assumption) (by rfl) (fun w => by simp only [List.getD_cons_succ, List.getD_cons_zero]; go_simp; try with_reducible rfl) ?_
              try simp only [List.getD_cons_succ, List.getD_cons_zero, Act.put, List.setIfInBounds_toArray, List.set_cons_zero, List.set_cons_succ]
              refine wpAnyT_one' 17 (by kernel_rfl) (by rfl) (fun K hK => ?_)
              simp only [List.getD_cons_succ, List.getD_cons_zero]
              go_simp
              have hC3 := HC.out _ (((Fr.refl [] W1).drew.trans' f2).alloc (.cells (encP6 zerop6).toArray 34))
              refine hK.out _ _ hC3 ?_
              have K3 := Lib.hid (((K1.out.drew).same f2).alloc 34 (encP6 zerop6))
              obtain ⟨A, hA⟩ : ∃ A, W2.heap.size = A := ⟨_, rfl⟩
              clear hK hC hC2 hC3 HC K1 HQ f2
              rw [hA] at K3 ⊢
              have BP := K3.out.blk 2 (b := A) (t := 34) (vs := encP6 zerop6) rfl
              clear hA
              refine wpAnyT_last 18 rfl (by kernel_rfl) ?_
              simp only [List.drop_succ_cons, List.drop_zero]
              refine wpList_store_S rfl _ (.tmp 9) (.tmp 76) rfl A 0 34 (encP6 zerop6) (encP6 v) ?h1 ?h2 BP (by kernel_rfl) (by simp [encP6]) (fun u hu => one_p6 [v] u (by simpa using hu)) ?_
              case h1 => rfl
              case h2 => (go_simp; first | done | rfl)
              intro W4 b6 f6 z6
              have K4 := Lib.hid (K3.out.call1' 2 rfl (Sep.of_one (c := Chunk.blk A 34 (encP6 v)) f6 b6 (Gr.refl _ _)))
              clear b6 f6 z6 BP K3
              go_wp2
              rw [onlyN_normal]
              go_wp2
              go_meet
              exact ⟨A, rfl, _, rfl, K4⟩
            · go_simp
              have hC2 := HC.out _ ((Fr.refl [] W1).alloc (.cells (encP6 zerop6).toArray 34)).drew
              refine hK.out _ _ hC2 ?_
              clear hK hC
              have hC := hC2
              clear hC2
              try simp only [Act.put, List.setIfInBounds_toArray, List.set_cons_zero, List.set_cons_succ]
              refine wpAnyT_one' 13 (by kernel_rfl) (by rfl) (fun K hK => ?_)
              simp only [List.getD_cons_succ, List.getD_cons_zero]
              go_simp
              refine (HQ.out _ ((Fr.refl _ _).alloc _).drew).mono ?_
              rintro er W2 ⟨rfl, f2⟩
              have hC3 := HC.out _ ((((Fr.refl [] W1).alloc (.cells (encP6 zerop6).toArray 34)).drew).trans' f2)
              refine hK.out _ _ hC3 ?_
              have K3 := Lib.hid (((K1.out.alloc 34 (encP6 zerop6)).drew).same f2)
              obtain ⟨A, hA⟩ : ∃ A, W1.heap.size = A := ⟨_, rfl⟩
              clear hK hC HC K1 HQ f2
              try simp only [Act.put, List.setIfInBounds_toArray, List.set_cons_zero, List.set_cons_succ]
              refine wpAnyT_takeP' 14 (by kernel_rfl) (fun _ _ _ h => h) (by assumption) (by rfl) (fun w => by simp only [List.getD_cons_succ, List.getD_cons_zero]; go_simp; try with_reducible rfl) ?_
              try simp only [List.getD_cons_succ, List.getD_cons_zero, Act.put, List.setIfInBounds_toArray, List.set_cons_zero, List.set_cons_succ]
              refine wpAnyT_takeP' 15 (by kernel_rfl) (fun _ _ _ h => h) (by assumption) (by rfl) (fun w => by simp only [List.getD_cons_succ, List.getD_cons_zero]; go_simp; try with_reducible rfl) ?_
              try simp only [List.getD_cons_succ, List.getD_cons_zero, Act.put, List.setIfInBounds_toArray, List.set_cons_zero, List.set_cons_succ]
              refine wpAnyT_takeP' 16 (by kernel_rfl) (fun _ _ _ h => h) (by assumption) (by rfl) (fun w => by simp only [List.getD_cons_succ, List.getD_cons_zero]; go_simp; try with_reducible rfl) ?_
              try simp only [List.getD_cons_succ, List.getD_cons_zero, Act.put, List.setIfInBounds_toArray, List.set_cons_zero, List.set_cons_succ]
              rw [hA] at K3 ⊢
              have BP := K3.out.blk 2 (b := A) (t := 34) (vs := encP6 zerop6) rfl
              clear hA
              refine wpAnyT_last 18 rfl (by kernel_rfl) ?_
              simp only [List.drop_succ_cons, List.drop_zero]
              refine wpList_store_S rfl _ (.tmp 9) (.tmp 76) rfl A 0 34 (encP6 zerop6) (encP6 v) ?h1 ?h2 BP (by kernel_rfl) (by simp [encP6]) (fun u hu => one_p6 [v] u (by simpa using hu)) ?_
              case h1 => rfl
              case h2 => (go_simp; first | done | rfl)
              intro W4 b6 f6 z6
              have K4 := Lib.hid (K3.out.call1' 2 rfl (Sep.of_one (c := Chunk.blk A 34 (encP6 v)) f6 b6 (Gr.refl _ _)))
              clear b6 f6 z6 BP K3
              go_wp2
              rw [onlyN_normal]
              go_wp2
              go_meet
              exact ⟨A, rfl, _, rfl, K4⟩
          case rest =>
            obtain ⟨VB, rfl, wy, hwx, K⟩ := hcut
            rw [hwx]
            clear hwx K1 y0 y2 s5 HQ ls lgb
            have hsv := HSZ.out z g v HG.out (List.mem_of_getElem? HV.out)
            obtain ⟨_, _, hsp, hsp2, _, _⟩ := HOK.out.at_ z s g HS.out HG.out
            have hO := K.out.own 0 rfl
            have y1 : wy.cell? ⟨gb, z * 3 + 1, none⟩ = some (.int .i64 s.by_) := by rw [hO.cellAt _ (by omega)]; exact flat3_at HS1.out (j := 1) (by omega)
            have fzo : wy.frozen? ⟨gb, z * 3 + 1, none⟩ = false := OwnS.frz hO (z * 3 + 1)
            have lgb : gb < wy.heap.size := hO.lt gb (by rw [HSG.out]; simp)
            have p3 : wy.cell? ⟨VB, 3, none⟩ = some (.int .i64 v.f3) := (K.out.blk 2 rfl).cell 3
            have lv := (K.out.blk 2 rfl).lt
            have ew2 : wrap64 (s.by_ - v.f3) = s.by_ - v.f3 := sub_w5 ⟨hsp, hsp2⟩ hsv
            clear hO hsp hsp2 hsv
            go_wp2_with fail
            refine wp_region_quiet_tail 10 (by kernel_rfl) (by kernel_rfl) ?_
            simp only [List.take_succ_cons, List.take_zero, List.drop_succ_cons, List.drop_zero]
            repeat (first | go_big_quiet_step (fail) | quiet_step (fail))
            refine wpQuiet_nil ?_
            rintro _ ⟨nq, rfl⟩
            have K4 : Hid (Sep w S ((wy.drewN nq).setCell ⟨gb, z * 3 + 1, none⟩ (.int .i64 (s.by_ - v.f3))) ([Chunk.own 143 3 (.slice (some ⟨gb, 0, none⟩) j vc) j ((R1.set z ⟨s.b, s.by_ - v.f3, l1⟩).flatMap encRw) S] ++ [Chunk.blk PB 34 (encP6 zerop6)] ++ [Chunk.blk VB 34 (encP6 v)])) := by
              have k := (K.out.drewN nq).setO 0 rfl HSG.out (z * 3 + 1) (.int .i64 (s.by_ - v.f3))
              rw [flat3_set HS1.out (j := 1) (q := ⟨s.b, s.by_ - v.f3, l1⟩) (by omega) (by simp [encRw])] at k
              exact Lib.hid k
            have BV := K4.out.blk 2 (b := VB) (t := 34) (vs := encP6 v) rfl
            have BP := K4.out.blk 1 (b := PB) (t := 34) (vs := encP6 zerop6) rfl
            have y0 : ((wy.drewN nq).setCell ⟨gb, z * 3 + 1, none⟩ (.int .i64 (s.by_ - v.f3))).cell? ⟨VB, 0, none⟩ = some (.int .i64 v.f0) := BV.cell 0
            have y4 : ((wy.drewN nq).setCell ⟨gb, z * 3 + 1, none⟩ (.int .i64 (s.by_ - v.f3))).cell? ⟨VB, 1, none⟩ = some (.int .i64 v.f1) := BV.cell 1
            have e6 : (encP6 zerop6).length = 6 := rfl
            go_wp2_with (first | (refine wpList_load_row rfl _ (.tmp 9) rfl VB rfl 34 (encP6 v).toArray (0, 0) _ BV (Try.underlying34) rfl (by kernel_rfl) ?_) | (refine wpList_store_S rfl _ (.tmp 4) (.tmp 88) rfl PB 0 34 (encP6 zerop6) (encP6 v) rfl rfl BP (by kernel_rfl) (by simp [encP6]) (fun u hu => one_p6 [v] u (by simpa using hu)) ?_; intro w6 b6 f6 z6; have K8 := Lib.hid (K4.out.call1' 1 rfl (Sep.of_one (c := Chunk.blk PB 34 _) f6 b6 (Gr.refl _ _))); clear b6 f6 z6))
            have RB := K8.out.blk 1 rfl
            have p0 : w6.cell? ⟨PB, 0, none⟩ = some (.int .i64 v.f0) := RB.cell 0
            have p1 : w6.cell? ⟨PB, 1, none⟩ = some (.int .i64 v.f1) := RB.cell 1
            have p2 : w6.cell? ⟨PB, 2, none⟩ = some (.int .i64 v.f2) := RB.cell 2
            have p3 : w6.cell? ⟨PB, 3, none⟩ = some (.int .i64 v.f3) := RB.cell 3
            have p4 : w6.cell? ⟨PB, 4, none⟩ = some (.int .i64 v.f4) := RB.cell 4
            have p5 : w6.cell? ⟨PB, 5, none⟩ = some (.int .i64 v.f5) := RB.cell 5
            have hR' : R1.set z ⟨s.b, s.by_ - v.f3, l1⟩ = R.set z ⟨s.b, s.by_ - v.f3, s.left - 1⟩ := by
              rw [← HR1.out, List.set_set]
              have := HL.out
              rw [this]; rfl
            have HFR : Hid (FoundR d R own v true (R1.set z ⟨s.b, s.by_ - v.f3, l1⟩)) := Lib.hid (.inr ⟨rfl, z, s, g, by rw [HN.out]; exact HPK.out, HS.out, HG.out, HO2.out, by rw [HL.out]; omega, by rw [HL.out]; exact HV.out, hR'⟩)
            exact bodyPost_ret (v := .tuple #[aggp6 v, .bool true]) (by simp [results, Try.results50, go_sem, p0, p1, p2, p3, p4, p5, aggp6]) rfl ⟨v, true, _, HFR.out, rfl, K8.out.own 0 rfl, K8.out.fr⟩
end Go.Proofs.Yteojodcdehkejaa
/- What Plan tells, in plain terms. -/
namespace Go.Proofs.Yteojodcdehkejaa
open Go Go.RowKit

/-- flows whose numbers are in their bounds -/
structure FlsOk (d : Dr) : Prop where
  len : d.fl.length ≤ 1048576
  at_ : ∀ (i : Nat) (f : Fl), d.fl[i]? = some f → 0 ≤ f.qt ∧ f.qt ≤ 1125899906842624 ∧ f.by_ = bytesOf f.q ∧ f.q.length ≤ 1048576 ∧ ∀ v, v ∈ f.q → 1 ≤ v.f3 ∧ v.f3 ≤ 65536
/-- rows that count what is left -/
structure RowsIn (d : Dr) (own : Option Nat) (sz : Int) (R : List Rw) : Prop where
  len : R.length = d.fl.length
  at_ : ∀ (i : Nat) (r : Rw) (f : Fl), R[i]? = some r → d.fl[i]? = some f → r.b = f.b ∧ r.left ≤ f.q.length ∧ r.by_ = bytesOf (f.q.take r.left) + (if own = some f.b then sz else 0)
def lsum (R : List Rw) : Nat := (R.map (·.left)).sum
inductive PlanR (d : Dr) (own : Option Nat) : List Rw → Int → Option (List P6) → Prop
  | done {R : List Rw} {need : Int} : need ≤ 0 → PlanR d own R need (some [])
  | refuse {R : List Rw} {need : Int} : 0 < need → FoundR d R own zerop6 false R → PlanR d own R need none
  | take {R R' : List Rw} {need : Int} {v : P6} {o : Option (List P6)} : 0 < need → FoundR d R own v true R' → PlanR d own R' (need - v.f3) o → PlanR d own R need (o.map (v :: ·))

theorem bytes_bd : ∀ (l : List P6), (∀ v, v ∈ l → 1 ≤ v.f3 ∧ v.f3 ≤ 65536) → 0 ≤ bytesOf l ∧ bytesOf l ≤ 65536 * l.length
  | [], _ => by simp [bytes_nil]
  | p :: l, h => by
    have h1 := bytes_bd l (fun v hv => h v (by simp [hv]))
    have h2 := h p (by simp)
    rw [bytes_cons]
    simp only [List.length_cons]
    omega
theorem FlsOk.take_bd {d : Dr} (h : FlsOk d) {i : Nat} {f : Fl} (hf : d.fl[i]? = some f) (n : Nat) : 0 ≤ bytesOf (f.q.take n) ∧ bytesOf (f.q.take n) ≤ 68719476736 := by
  obtain ⟨_, _, _, hl, hv⟩ := h.at_ i f hf
  have := bytes_bd (f.q.take n) (fun v hm => hv v (List.mem_of_mem_take hm))
  have h2 : (f.q.take n).length ≤ 1048576 := by rw [List.length_take]; omega
  omega
theorem RowsIn.ok {d : Dr} {own : Option Nat} {sz : Int} {R : List Rw} (h : RowsIn d own sz R) (hf : FlsOk d) (hs : 0 ≤ sz ∧ sz ≤ 65536) : RowsOk d R := by
  refine ⟨h.len, fun i r f hr hff => ?_⟩
  obtain ⟨h1, h2, h3⟩ := h.at_ i r f hr hff
  have h4 := hf.take_bd hff r.left
  obtain ⟨h5, h6, _⟩ := hf.at_ i f hff
  refine ⟨h1, h2, ?_, ?_, h5, h6⟩ <;> (rw [h3]; split <;> omega)
theorem RowsIn.start {d : Dr} (own : Option Nat) (sz : Int) (hf : FlsOk d) : RowsIn d own sz (d.rows own sz) := by
  refine ⟨by unfold Dr.rows; simp, fun i r f hr hff => ?_⟩
  unfold Dr.rows at hr
  rw [List.getElem?_map, hff] at hr
  have hr2 : rwOf own sz f = r := by simpa using hr
  have hb := (hf.at_ i f hff).2.2.1
  subst hr2
  unfold rwOf
  refine ⟨by simp, by simp, ?_⟩
  simp only [List.take_length]
  rw [hb]
  by_cases e : own = some f.b <;> simp [e]
theorem lsum_set {R : List Rw} {w : Nat} {r r' : Rw} (h : R[w]? = some r) (hl : r.left = r'.left + 1) : lsum R = lsum (R.set w r') + 1 := by
  unfold lsum
  induction R generalizing w with
  | nil => simp at h
  | cons a R ih =>
    cases w with
    | zero => simp at h; subst h; simp; omega
    | succ w =>
      simp at h
      have := ih h
      simp only [List.set_cons_succ, List.map_cons, List.sum_cons]
      omega
theorem RowsIn.found {d : Dr} {own : Option Nat} {sz : Int} {R R' : List Rw} {v : P6} (h : RowsIn d own sz R) (hf : FlsOk d) (hx : FoundR d R own v true R') : RowsIn d own sz R' ∧ lsum R = lsum R' + 1 ∧ 1 ≤ v.f3 ∧ v.f3 ≤ 65536 := by
  rcases hx with ⟨h0, _⟩ | ⟨_, w, r, f, _, hr, hff, ho, hl, hv, rfl⟩
  · cases h0
  · obtain ⟨h1, h2, h3⟩ := h.at_ w r f hr hff
    have hm := (hf.at_ w f hff).2.2.2.2 v (List.mem_of_getElem? hv)
    refine ⟨⟨by simpa using h.len, fun i r2 f2 hr2 hf2 => ?_⟩, lsum_set hr (by show r.left = r.left - 1 + 1; omega), hm.1, hm.2⟩
    by_cases e : w = i
    · subst e
      rw [hff] at hf2; cases hf2
      rw [List.getElem?_set_self (some_lt hr)] at hr2
      cases hr2
      refine ⟨h1, by show r.left - 1 ≤ _; omega, ?_⟩
      show r.by_ - v.f3 = bytesOf (f.q.take (r.left - 1)) + _
      have e2 : f.q.take r.left = f.q.take (r.left - 1) ++ [v] := by
        obtain ⟨n, hn⟩ : ∃ n, r.left = n + 1 := ⟨r.left - 1, by omega⟩
        rw [hn] at hv ⊢
        simp only [Nat.add_sub_cancel] at hv ⊢
        rw [List.take_add_one, hv]; rfl
      rw [h3, e2, bytes_app, bytes_one]
      omega
    · rw [List.getElem?_set_ne e] at hr2
      exact h.at_ i r2 f2 hr2 hf2
theorem RowsIn.no {d : Dr} {own : Option Nat} {R R' : List Rw} {v : P6} (hx : FoundR d R own v false R') : v = zerop6 ∧ R' = R := by
  rcases hx with ⟨_, h1, h2, _⟩ | ⟨h0, _⟩
  · exact ⟨h1, h2⟩
  · cases h0
end Go.Proofs.Yteojodcdehkejaa
/- The discipline's Worst: the worst packet behind n others. -/
namespace Go.Proofs.Yteojodcdehkejaa
open Go Go.RowKit
attribute [local go_sem] calmQ_normal wide_fn wide_depth Oper.semAt_some run_store_func
/-- n packets are found, one behind the other -/
inductive Fnds (d : Dr) (own : Option Nat) : Nat → List Rw → List Rw → Prop
  | zero (R : List Rw) : Fnds d own 0 R R
  | step {n : Nat} {R R' R'' : List Rw} {v : P6} (h : Fnds d own n R R') (f : FoundR d R' own v true R'') : Fnds d own (n + 1) R R''
theorem pick_none {own : Option Nat} {R : List Rw} {F : List Fl} (hl : R.length = F.length) : ∀ k, k ≤ R.length → pick own R F k = none → ∀ i r, i < k → R[i]? = some r → canR own r = false := by
  intro k
  induction k with
  | zero => intro _ _ i r hi; omega
  | succ k ih =>
    intro hk hp i r hi hr
    obtain ⟨r', hr'⟩ : ∃ r, R[k]? = some r := ⟨R[k], by simp⟩
    obtain ⟨f', hf'⟩ : ∃ f, F[k]? = some f := ⟨F[k]'(by omega), by simp⟩
    cases hc : canR own r' with
    | false =>
      rw [pick_no hr' hc] at hp
      by_cases e : i = k
      · subst e; rw [hr'] at hr; cases hr; exact hc
      · exact ih (by omega) hp i r (by omega) hr
    | true =>
      cases hw : pick own R F k with
      | none => rw [pick_first hr' hf' hc hw] at hp; cases hp
      | some w =>
        obtain ⟨_, r2, hr2, _⟩ := pick_lt hl hw
        obtain ⟨f2, hf2⟩ : ∃ f, F[w]? = some f := ⟨F[w]'(by have := some_lt hr2; omega), by simp⟩
        cases hww : wrsR r' f' r2 f2 with
        | true => rw [pick_yes hr' hf' hc hw hr2 hf2 hww] at hp; cases hp
        | false => rw [pick_keep hr' hf' hc hw hr2 hf2 hww] at hp; cases hp
theorem lsum_zero {R : List Rw} (h : ∀ (i : Nat) (r : Rw), R[i]? = some r → r.left = 0) : lsum R = 0 := by
  unfold lsum
  induction R with
  | nil => rfl
  | cons a R ih =>
    have h1 := h 0 a rfl
    have h2 := ih (fun i r hr => h (i + 1) r (by simpa using hr))
    simp [h1, h2]
theorem found_yes {d : Dr} {R R' : List Rw} {v : P6} (hl : R.length = d.fl.length) (hf : FoundR d R none v false R') : lsum R = 0 := by
  rcases hf with ⟨_, _, _, h | ⟨w, r, _, _, h⟩⟩ | ⟨h, _⟩
  · refine lsum_zero fun i r hr => ?_
    have := pick_none hl R.length (Nat.le_refl _) h i r (some_lt hr) hr
    unfold canR at this
    simpa using this
  · cases h
  · cases h
theorem Fnds.ok {d : Dr} {n : Nat} {R R' : List Rw} (h : Fnds d none n R R') (hi : RowsIn d none 0 R) (hf : FlsOk d) : RowsIn d none 0 R' ∧ lsum R = lsum R' + n := by
  induction h with
  | zero R => exact ⟨hi, rfl⟩
  | step _ f ih =>
    obtain ⟨h1, h2⟩ := ih hi
    obtain ⟨h3, h4, _⟩ := h1.found hf f
    exact ⟨h3, by omega⟩
set_option maxRecDepth 100000 in
set_option maxHeartbeats 4000000 in
theorem dworst_no {w : World} {d : Dr} (h : Holds w d.chunks) (n : Int) (hn : n < 0 ∨ d.n ≤ n) :
    Calls Try.prog 28 #[.pointer (some ⟨d.b, 0, none⟩), .int .i64 n] w fun e w' => e = .returned (.tuple #[aggp6 zerop6, .bool false]) ∧ Fr [] w w' := by
  obtain ⟨PB, hPB⟩ : ∃ PB, w.heap.size = PB := ⟨_, rfl⟩
  have K0 := Lib.hid ((Sep.start (Holds.nil w)).alloc 34 (encP6 zerop6))
  have hb := (show Blk w d.b 92 d.head from h.get (i := 0) rfl)
  obtain ⟨W0, hW0⟩ : ∃ W0, w.alloc (.cells (encP6 zerop6).toArray 34) = W0 := ⟨_, rfl⟩
  have hW0' : w.alloc (.cells #[.int .i64 0, .int .i64 0, .int .i64 0, .int .i64 0, .int .i64 0, .int .i64 0] 34) = W0 := hW0
  rw [hPB, hW0] at K0
  have b0 := hb.fr K0.out.fr (by simp [Chunks.bs])
  have c5 : W0.cell? ⟨d.b, 5, none⟩ = some (.int .i64 d.n) := b0.cell 5
  have lb := b0.lt
  clear h hb b0 hW0
  go_enter Try.func28, Try.ntmps28
  by_cases hn0 : n < 0
  · have h1 : decide (n < 0) = true := decide_eq_true hn0
    have BP : Blk W0 PB 34 (encP6 zerop6) := K0.out.blk 0 rfl
    go_wp2_with (refine wpList_store_S rfl _ (.tmp 4) (.tmp 17) rfl PB 0 34 (encP6 zerop6) (encP6 zerop6) rfl rfl BP (by kernel_rfl) (by simp [encP6]) (fun u hu => one_p6 [zerop6] u (by simpa using hu)) ?_; intro w6 b6 f6 z6; have K8 := Lib.hid (K0.out.call1' 0 rfl (Sep.of_one (c := Chunk.blk PB 34 (encP6 zerop6)) f6 b6 (Gr.refl _ _))); clear b6 f6 z6)
    have RBk : Blk w6 PB 34 (encP6 zerop6) := K8.out.blk 0 rfl
    have p0 : w6.cell? ⟨PB, 0, none⟩ = some (.int .i64 zerop6.f0) := RBk.cell 0
    have p1 : w6.cell? ⟨PB, 1, none⟩ = some (.int .i64 zerop6.f1) := RBk.cell 1
    have p2 : w6.cell? ⟨PB, 2, none⟩ = some (.int .i64 zerop6.f2) := RBk.cell 2
    have p3 : w6.cell? ⟨PB, 3, none⟩ = some (.int .i64 zerop6.f3) := RBk.cell 3
    have p4 : w6.cell? ⟨PB, 4, none⟩ = some (.int .i64 zerop6.f4) := RBk.cell 4
    have p5 : w6.cell? ⟨PB, 5, none⟩ = some (.int .i64 zerop6.f5) := RBk.cell 5
    clear RBk
    refine bodyPost_ret (v := .tuple #[aggp6 zerop6, .bool false]) (by simp [results, Try.results28, go_sem, p0, p1, p2, p3, p4, p5, aggp6]) rfl ?_
    exact ⟨rfl, K8.out.fr⟩
  · have h1 : decide (n < 0) = false := decide_eq_false hn0
    have h2 : decide (d.n ≤ n) = true := decide_eq_true (by omega)
    have h3 : d.n ≤ n := by omega
    have BP : Blk W0 PB 34 (encP6 zerop6) := K0.out.blk 0 rfl
    go_wp2_with (refine wpList_store_S rfl _ (.tmp 4) (.tmp 17) rfl PB 0 34 (encP6 zerop6) (encP6 zerop6) rfl rfl BP (by kernel_rfl) (by simp [encP6]) (fun u hu => one_p6 [zerop6] u (by simpa using hu)) ?_; intro w6 b6 f6 z6; have K8 := Lib.hid (K0.out.call1' 0 rfl (Sep.of_one (c := Chunk.blk PB 34 (encP6 zerop6)) f6 b6 (Gr.refl _ _))); clear b6 f6 z6)
    have RBk : Blk w6 PB 34 (encP6 zerop6) := K8.out.blk 0 rfl
    have p0 : w6.cell? ⟨PB, 0, none⟩ = some (.int .i64 zerop6.f0) := RBk.cell 0
    have p1 : w6.cell? ⟨PB, 1, none⟩ = some (.int .i64 zerop6.f1) := RBk.cell 1
    have p2 : w6.cell? ⟨PB, 2, none⟩ = some (.int .i64 zerop6.f2) := RBk.cell 2
    have p3 : w6.cell? ⟨PB, 3, none⟩ = some (.int .i64 zerop6.f3) := RBk.cell 3
    have p4 : w6.cell? ⟨PB, 4, none⟩ = some (.int .i64 zerop6.f4) := RBk.cell 4
    have p5 : w6.cell? ⟨PB, 5, none⟩ = some (.int .i64 zerop6.f5) := RBk.cell 5
    clear RBk
    refine bodyPost_ret (v := .tuple #[aggp6 zerop6, .bool false]) (by simp [results, Try.results28, go_sem, p0, p1, p2, p3, p4, p5, aggp6]) rfl ?_
    exact ⟨rfl, K8.out.fr⟩
set_option maxRecDepth 100000 in
set_option maxHeartbeats 4000000 in
theorem dworst {w : World} {d : Dr} (h : Holds w d.chunks) (hfs : FlsOk d) (n : Nat) (hn : (n : Int) < d.n) (hls : d.n ≤ lsum (d.rows none 0)) (hlb : lsum (d.rows none 0) ≤ 1048576) :
    Calls Try.prog 28 #[.pointer (some ⟨d.b, 0, none⟩), .int .i64 n] w fun e w' => ∃ R p R', Fnds d none n (d.rows none 0) R ∧ FoundR d R none p true R' ∧ e = .returned (.tuple #[aggp6 p, .bool true]) ∧ Fr [] w w' := by
  have hby : ∀ (k : Nat) (f : Fl), d.fl[k]? = some f → 0 ≤ f.by_ ∧ f.by_ ≤ 1125899906842624 := by
    intro k f hf
    have h1 := hfs.take_bd hf f.q.length
    rw [List.take_length, ← (hfs.at_ k f hf).2.2.1] at h1
    omega
  have hrows := Lib.hid (fun X (fX : Fr [] w X) => drows (h.fr' fX (by simp)) none 0 ⟨by omega, by omega⟩ (fun c hc => by cases hc) hby hfs.len)
  obtain ⟨PB, hPB⟩ : ∃ PB, w.heap.size = PB := ⟨_, rfl⟩
  have K0 := Lib.hid ((Sep.start (Holds.nil w)).alloc 34 (encP6 zerop6))
  have hb := (show Blk w d.b 92 d.head from h.get (i := 0) rfl)
  obtain ⟨W0, hW0⟩ : ∃ W0, w.alloc (.cells (encP6 zerop6).toArray 34) = W0 := ⟨_, rfl⟩
  have hW0' : w.alloc (.cells #[.int .i64 0, .int .i64 0, .int .i64 0, .int .i64 0, .int .i64 0, .int .i64 0] 34) = W0 := hW0
  rw [hPB, hW0] at K0
  have b0 := hb.fr K0.out.fr (by simp [Chunks.bs])
  have c5 : W0.cell? ⟨d.b, 5, none⟩ = some (.int .i64 d.n) := b0.cell 5
  have lb := b0.lt
  have H := Lib.hid h
  have HFS := Lib.hid hfs
  have HRI := Lib.hid (RowsIn.start none 0 hfs)
  obtain ⟨R0, hR0⟩ : ∃ R0, d.rows none 0 = R0 := ⟨_, rfl⟩
  rw [hR0] at hrows hls hlb HRI ⊢
  have h1 : decide ((n : Int) < 0) = false := decide_eq_false (by omega)
  have h2 : decide (d.n ≤ (n : Int)) = false := decide_eq_false (by omega)
  have hnl : (n : Int) < lsum R0 := by omega
  clear h hb b0 hW0 hfs hby hR0
  go_enter Try.func28, Try.ntmps28
  go_wp2_with fail
  refine (hrows.out _ K0.out.fr).mono ?_
  rintro er w3 ⟨RV, S1, rfl, ho3, hg3, hf3⟩
  have K3 : Hid (Sep w [] w3 [Chunk.blk PB 34 (encP6 zerop6), Chunk.own 143 3 RV d.fl.length (R0.flatMap encRw) S1]) := Lib.hid (K0.out.call0 (Sep.of_one0 (c := Chunk.own 143 3 RV d.fl.length (R0.flatMap encRw) S1) hf3 ho3 hg3))
  clear ho3 hg3 hf3 hrows c5 lb K0 h1 h2 hls
  go_wp2
  go_loopg [21] (n + 1) (fun k i wr => ∃ (j : Nat) (R : List Rw), k + j = n + 1 ∧ j ≤ n ∧ i = .int .i64 j ∧ Hid (Fnds d none j R0 R) ∧ Hid (Sep w [] wr [Chunk.blk PB 34 (encP6 zerop6), Chunk.own 143 3 RV d.fl.length (R.flatMap encRw) S1]))
  case atStart => exact ⟨0, R0, by omega, by omega, rfl, Lib.hid (Fnds.zero _), K3⟩
  case round =>
    clear K3
    obtain ⟨j, R, hk, hj, rfl, HFN, K⟩ := hrel
    obtain ⟨hri, hlr⟩ := HFN.out.ok HRI.out HFS.out
    have hdis : ∀ b, b ∈ S1 → b ∉ Chunks.bs d.chunks := fun b hb hc => by
      rcases K.out.gr b (by simp [Chunks.bs, Chunk.own, hb]) with h1 | h1
      · cases h1
      · have := H.out.lt b hc; omega
    have hfound := dfound (H.out.fr' K.out.fr (by simp)) (own := none) (v := RV) (R := R) (S := S1) (by rw [hri.len]; exact K.out.own 1 rfl) hdis (hri.ok HFS.out ⟨by omega, by omega⟩) (fun c hc => by cases hc) HFS.out.len (fun k g hg => by have := (HFS.out.at_ k g hg).2.2.2.1; omega) (fun k g v hg hv => by have := (HFS.out.at_ k g hg).2.2.2.2 v hv; omega)
    rw [show ptrV none = .pointer none from rfl, hri.len] at hfound
    have HFO := Lib.hid hfound
    have hlen := Lib.hid hri.len
    clear hfound hdis hri
    by_cases hjn : j < n
    · have hji : (j : Int) < n := by omega
      go_wp2_with fail
      refine HFO.out.mono ?_
      rintro er w4 ⟨v, ok, R', hFR, rfl, ho4, hf4⟩
      cases ok with
      | false =>
        have := found_yes hlen.out hFR
        omega
      | true =>
        have K4 := Lib.hid (K.out.call1' 1 rfl (Sep.of_one (c := Chunk.own 143 3 RV d.fl.length (R'.flatMap encRw) S1) hf4 ho4 (Gr.refl _ _)))
        have HFN' := Lib.hid (HFN.out.step hFR)
        clear ho4 hf4 hFR K HFO
        go_wp2
        go_roundg (gk - 1)
        case measure => omega
        case rel => exact ⟨j + 1, R', by omega, by omega, by go_num, HFN', K4⟩
    · obtain rfl : j = n := by omega
      go_wp2_with fail
      refine HFO.out.mono ?_
      rintro er w4 ⟨v, ok, R', hFR, rfl, ho4, hf4⟩
      cases ok with
      | false =>
        have := found_yes hlen.out hFR
        omega
      | true =>
        have K4 := Lib.hid (K.out.call1' 1 rfl (Sep.of_one (c := Chunk.own 143 3 RV d.fl.length (R'.flatMap encRw) S1) hf4 ho4 (Gr.refl _ _)))
        have HFR := Lib.hid hFR
        clear ho4 hf4 hFR K HFO
        have BP : Blk w4 PB 34 (encP6 zerop6) := K4.out.blk 0 rfl
        go_wp2_with (refine wpList_store_S rfl _ (.tmp 4) (.tmp 28) rfl PB 0 34 (encP6 zerop6) (encP6 v) rfl rfl BP (by kernel_rfl) (by simp [encP6]) (fun u hu => one_p6 [v] u (by simpa using hu)) ?_; intro w6 b6 f6 z6; have K8 := Lib.hid (K4.out.call1' 0 rfl (Sep.of_one (c := Chunk.blk PB 34 (encP6 v)) f6 b6 (Gr.refl _ _))); clear b6 f6 z6)
        have RBk : Blk w6 PB 34 (encP6 v) := K8.out.blk 0 rfl
        have p0 : w6.cell? ⟨PB, 0, none⟩ = some (.int .i64 v.f0) := RBk.cell 0
        have p1 : w6.cell? ⟨PB, 1, none⟩ = some (.int .i64 v.f1) := RBk.cell 1
        have p2 : w6.cell? ⟨PB, 2, none⟩ = some (.int .i64 v.f2) := RBk.cell 2
        have p3 : w6.cell? ⟨PB, 3, none⟩ = some (.int .i64 v.f3) := RBk.cell 3
        have p4 : w6.cell? ⟨PB, 4, none⟩ = some (.int .i64 v.f4) := RBk.cell 4
        have p5 : w6.cell? ⟨PB, 5, none⟩ = some (.int .i64 v.f5) := RBk.cell 5
        clear RBk
        refine bodyPost_ret (v := .tuple #[aggp6 v, .bool true]) (by simp [results, Try.results28, go_sem, p0, p1, p2, p3, p4, p5, aggp6]) rfl ?_
        exact ⟨R, v, R', HFN.out, HFR.out, rfl, K8.out.fr⟩
end Go.Proofs.Yteojodcdehkejaa
/- Who is worst, in plain terms: the rows' pick and the law's loop over the slots find the same flow. -/
namespace Go.Proofs.Yteojodcdehkejaa
open Go Go.RowKit

/-- g has more for its quantum than h, or as much and the greater slot -/
def bt (n Q : Nat → Int) (g h : Nat) : Prop := n h * Q g < n g * Q h ∨ (n h * Q g = n g * Q h ∧ h < g)
theorem bt_tot {n Q : Nat → Int} {g h : Nat} (hne : g ≠ h) (hb : ¬ bt n Q g h) : bt n Q h g := by
  unfold bt at *
  rcases Int.lt_trichotomy (n h * Q g) (n g * Q h) with h1 | h1 | h1
  · exact absurd (.inl h1) hb
  · rcases Nat.lt_or_gt_of_ne hne with h2 | h2
    · exact .inr ⟨h1.symm, h2⟩
    · exact absurd (.inr ⟨h1, h2⟩) hb
  · exact .inl h1
theorem bt_irr {n Q : Nat → Int} {g : Nat} (h : bt n Q g g) : False := by
  rcases h with h | ⟨_, h⟩
  · exact Int.lt_irrefl _ h
  · exact Nat.lt_irrefl _ h
theorem bt_trans {n Q : Nat → Int} {a b c : Nat} (ha : 0 < Q a) (hb : 0 < Q b) (hc : 0 < Q c) (h1 : bt n Q a b) (h2 : bt n Q b c) : bt n Q a c := by
  unfold bt at *
  have e1 : n c * Q b * Q a = n c * Q a * Q b := by ac_rfl
  have e2 : n b * Q c * Q a = n b * Q a * Q c := by ac_rfl
  have e3 : n a * Q b * Q c = n a * Q c * Q b := by ac_rfl
  have w1 : n b * Q a * Q c ≤ n a * Q b * Q c := Int.mul_le_mul_of_nonneg_right (by rcases h1 with h | h <;> omega) (by omega)
  have w2 : n c * Q b * Q a ≤ n b * Q c * Q a := Int.mul_le_mul_of_nonneg_right (by rcases h2 with h | h <;> omega) (by omega)
  rcases h1 with h1 | ⟨h1, l1⟩
  · have s1 : n b * Q a * Q c < n a * Q b * Q c := Int.mul_lt_mul_of_pos_right h1 hc
    exact .inl (Int.lt_of_mul_lt_mul_right (a := Q b) (by rw [← e1, ← e3]; omega) (by omega))
  · rcases h2 with h2 | ⟨h2, l2⟩
    · have s2 : n c * Q b * Q a < n b * Q c * Q a := Int.mul_lt_mul_of_pos_right h2 ha
      exact .inl (Int.lt_of_mul_lt_mul_right (a := Q b) (by rw [← e1, ← e3]; omega) (by omega))
    · refine .inr ⟨Int.eq_of_mul_eq_mul_right (a := Q b) (by omega) ?_, by omega⟩
      rw [← e1, ← e3, h2, e2, h1]
/-- the law's loop: the worst of the first k slots -/
def wl (n Q : Nat → Int) : Nat → Option Nat
  | 0 => none
  | k + 1 => match wl n Q k with
    | none => if 0 < n k then some k else none
    | some M => if 0 < n k ∧ n M * Q k ≤ n k * Q M then some k else some M
theorem wl_max {n Q : Nat → Int} (hQ : ∀ g, g < 4 → 0 < Q g) : ∀ k, k ≤ 4 → (wl n Q k = none → ∀ g, g < k → ¬ 0 < n g) ∧ (∀ M, wl n Q k = some M → M < k ∧ 0 < n M ∧ ∀ g, g < k → g ≠ M → 0 < n g → bt n Q M g) := by
  intro k
  induction k with
  | zero => intro _; exact ⟨fun _ g hg => by omega, fun M h => by cases h⟩
  | succ k ih =>
    intro hk
    obtain ⟨i1, i2⟩ := ih (by omega)
    cases hw : wl n Q k with
    | none =>
      have i1 := i1 hw
      by_cases hn : 0 < n k
      · have e : wl n Q (k + 1) = some k := by simp only [wl, hw, if_pos hn]
        rw [e]
        refine ⟨fun h => (by cases h), fun M h => ?_⟩
        cases h
        exact ⟨by omega, hn, fun g hg hne hg0 => absurd hg0 (i1 g (by omega))⟩
      · have e : wl n Q (k + 1) = none := by simp only [wl, hw, if_neg hn]
        rw [e]
        refine ⟨fun _ g hg => ?_, fun M h => by cases h⟩
        by_cases e2 : g = k
        · subst e2; exact hn
        · exact i1 g (by omega)
    | some M =>
      obtain ⟨j1, j2, j3⟩ := i2 M hw
      by_cases hn : 0 < n k ∧ n M * Q k ≤ n k * Q M
      · have e : wl n Q (k + 1) = some k := by simp only [wl, hw, if_pos hn]
        rw [e]
        refine ⟨fun h => (by cases h), fun M' h => ?_⟩
        cases h
        have hb : bt n Q k M := by
          unfold bt
          rcases Int.lt_or_eq_of_le hn.2 with h | h
          · exact .inl h
          · exact .inr ⟨h, j1⟩
        refine ⟨by omega, hn.1, fun g hg hne hg0 => ?_⟩
        by_cases e2 : g = M
        · subst e2; exact hb
        · exact bt_trans (hQ k (by omega)) (hQ M (by omega)) (hQ g (by omega)) hb (j3 g (by omega) e2 hg0)
      · have e : wl n Q (k + 1) = some M := by simp only [wl, hw, if_neg hn]
        rw [e]
        refine ⟨fun h => (by cases h), fun M' h => ?_⟩
        cases h
        refine ⟨by omega, j2, fun g hg hne hg0 => ?_⟩
        by_cases e2 : g = k
        · subst e2
          refine bt_tot hne fun hb => hn ⟨hg0, ?_⟩
          rcases hb with h | h <;> omega
        · exact j3 g (by omega) hne hg0
theorem pick_slots {own : Option Nat} {l : List Nat} {rw_ : Nat → Rw} {fl : Nat → Fl} {el : Nat → Prop} {B : Nat → Nat → Prop} (nd : l.Nodup) (hc : ∀ s, s ∈ l → (canR own (rw_ s) = true ↔ el s)) (hb : ∀ s t, s ∈ l → t ∈ l → (wrsR (rw_ s) (fl s) (rw_ t) (fl t) = true ↔ B s t))
    (tot : ∀ s t, s ∈ l → t ∈ l → s ≠ t → ¬ B s t → B t s) (tr : ∀ s t u, s ∈ l → t ∈ l → u ∈ l → B s t → B t u → B s u) :
    ∀ k, k ≤ l.length → (pick own (l.map rw_) (l.map fl) k = none → ∀ i, i < k → ∀ s, l[i]? = some s → ¬ el s) ∧
      (∀ w, pick own (l.map rw_) (l.map fl) k = some w → w < k ∧ ∃ M, l[w]? = some M ∧ el M ∧ ∀ i, i < k → i ≠ w → ∀ s, l[i]? = some s → el s → B M s) := by
  intro k
  induction k with
  | zero => intro _; exact ⟨fun _ i hi => by omega, fun w h => by cases h⟩
  | succ k ih =>
    intro hk
    obtain ⟨i1, i2⟩ := ih (by omega)
    obtain ⟨s, hs⟩ : ∃ s, l[k]? = some s := ⟨l[k], by simp⟩
    have hsm := List.mem_of_getElem? hs
    have hr : (l.map rw_)[k]? = some (rw_ s) := by rw [List.getElem?_map, hs]; rfl
    have hf : (l.map fl)[k]? = some (fl s) := by rw [List.getElem?_map, hs]; rfl
    cases hcc : canR own (rw_ s) with
    | false =>
      have hel : ¬ el s := fun h => by have := (hc s hsm).2 h; rw [hcc] at this; cases this
      rw [pick_no hr hcc]
      refine ⟨fun h i hi t ht => ?_, fun w h => ?_⟩
      · by_cases e : i = k
        · subst e; rw [hs] at ht; cases ht; exact hel
        · exact i1 h i (by omega) t ht
      · obtain ⟨h1, M, h2, h3, h4⟩ := i2 w h
        refine ⟨by omega, M, h2, h3, fun i hi hne t ht he => ?_⟩
        by_cases e : i = k
        · subst e; rw [hs] at ht; cases ht; exact absurd he hel
        · exact h4 i (by omega) hne t ht he
    | true =>
      have hel : el s := (hc s hsm).1 hcc
      cases hp : pick own (l.map rw_) (l.map fl) k with
      | none =>
        rw [pick_first hr hf hcc hp]
        refine ⟨fun h => (by cases h), fun w h => ?_⟩
        cases h
        refine ⟨by omega, s, hs, hel, fun i hi hne t ht he => absurd he (i1 hp i (by omega) t ht)⟩
      | some w =>
        obtain ⟨h1, M, h2, h3, h4⟩ := i2 w hp
        have hmm := List.mem_of_getElem? h2
        have hr2 : (l.map rw_)[w]? = some (rw_ M) := by rw [List.getElem?_map, h2]; rfl
        have hf2 : (l.map fl)[w]? = some (fl M) := by rw [List.getElem?_map, h2]; rfl
        have hne0 : s ≠ M := fun e => by
          subst e
          have := (List.getElem?_inj (some_lt h2) nd).1 (h2.trans hs.symm)
          omega
        cases hw : wrsR (rw_ s) (fl s) (rw_ M) (fl M) with
        | true =>
          have hB := (hb s M hsm hmm).1 hw
          rw [pick_yes hr hf hcc hp hr2 hf2 hw]
          refine ⟨fun h => (by cases h), fun w' h => ?_⟩
          cases h
          refine ⟨by omega, s, hs, hel, fun i hi hne t ht he => ?_⟩
          by_cases e : i = w
          · subst e; rw [h2] at ht; cases ht; exact hB
          · exact tr s M t hsm hmm (List.mem_of_getElem? ht) hB (h4 i (by omega) e t ht he)
        | false =>
          have hB : ¬ B s M := fun h => by have := (hb s M hsm hmm).2 h; rw [hw] at this; cases this
          rw [pick_keep hr hf hcc hp hr2 hf2 hw]
          refine ⟨fun h => (by cases h), fun w' h => ?_⟩
          cases h
          refine ⟨by omega, M, h2, h3, fun i hi hne t ht he => ?_⟩
          by_cases e : i = k
          · subst e; rw [hs] at ht; cases ht; exact tot s M hsm hmm hne0 hB
          · exact h4 i (by omega) hne t ht he
end Go.Proofs.Yteojodcdehkejaa
/- What Plan tells of the law's world: the worst slot's last packet, or nothing if that slot is the packet's own. -/
namespace Go.Proofs.Yteojodcdehkejaa
open Go Go.RowKit

def nz (x : Wd) (f : Nat) (z : Int) (g : Nat) : Int := bytesOf (x.L g) + (if g = f then z else 0)
section
variable {w : World} {x : Wd} {N : Nat}
theorem Wf.sz (h : Wf x N) {s : Nat} (hs : s < 4) : ∀ v, v ∈ x.L s → 1 ≤ v.f3 ∧ v.f3 ≤ 65536 := fun v hv => by
  have := h.pk s hs v hv
  have := h.mo
  omega
theorem bytes_pos {l : List P6} (h : ∀ v, v ∈ l → 1 ≤ v.f3 ∧ v.f3 ≤ 65536) : 0 < bytesOf l ↔ l ≠ [] := by
  cases l with
  | nil => simp [bytes_nil]
  | cons p l =>
    have h1 := bytes_bd l (fun v hv => h v (by simp [hv]))
    have h2 := h p (by simp)
    rw [bytes_cons]
    simp
    omega
theorem Wf.flsok (h : Wf x N) : FlsOk x.dr := by
  refine ⟨?_, fun i f hf => ?_⟩
  · show (x.sl.map x.fl).length ≤ _
    rw [List.length_map, h.len4]; omega
  · have hf' : (x.sl.map x.fl)[i]? = some f := hf
    rw [List.getElem?_map] at hf'
    cases hs : x.sl[i]? with
    | none => rw [hs] at hf'; cases hf'
    | some s =>
      rw [hs] at hf'
      have e : x.fl s = f := by simpa using hf'
      subst e
      have hs4 := h.mem_sl.1 (List.mem_of_getElem? hs)
      have hq := h.q s hs4
      have hl := h.len s hs4
      have hN := h.N
      exact ⟨by show 0 ≤ x.Q s; omega, by show x.Q s ≤ _; omega, rfl, by show (x.L s).length ≤ _; omega, h.sz hs4⟩
theorem lsum_le {R : List Rw} {m : Nat} (h : ∀ r, r ∈ R → r.left ≤ m) : lsum R ≤ R.length * m := by
  unfold lsum
  induction R with
  | nil => simp
  | cons a R ih =>
    have h1 := h a (by simp)
    have h2 := ih (fun r hr => h r (by simp [hr]))
    simp only [List.map_cons, List.sum_cons, List.length_cons, Nat.succ_mul]
    omega
theorem Wf.rows_le (h : Wf x N) (own : Option Nat) (z : Int) (hN : N ≤ 200000) : lsum (x.dr.rows own z) ≤ 1048576 := by
  have hl : (x.dr.rows own z).length = 4 := by show ((x.sl.map x.fl).map _).length = 4; simp [h.len4]
  have := lsum_le (R := x.dr.rows own z) (m := N) (fun r hr => by
    have hr' : r ∈ (x.sl.map x.fl).map (rwOf own z) := hr
    rw [List.map_map, List.mem_map] at hr'
    obtain ⟨s, hs, rfl⟩ := hr'
    exact h.len s (h.mem_sl.1 hs))
  rw [hl] at this
  omega
theorem own_iff (h : Wf x N) (hw : Holds w x.dr.chunks) {f s : Nat} (hf : f < 4) (hs : s < 4) : (some (x.B f) = some (x.fl s).b) ↔ s = f :=
  ⟨fun e => (h.binj hw hf hs (Option.some.inj e)).symm, fun e => by rw [e]; rfl⟩
theorem rw_by (h : Wf x N) (hw : Holds w x.dr.chunks) {f s : Nat} (hf : f < 4) (hs : s < 4) (z : Int) : (rwOf (some (x.B f)) z (x.fl s)).by_ = nz x f z s := by
  unfold rwOf nz
  show (if some (x.B f) = some (x.fl s).b then bytesOf (x.L s) + z else bytesOf (x.L s)) = _
  by_cases e : s = f
  · rw [if_pos ((own_iff h hw hf hs).2 e), if_pos e]
  · rw [if_neg (fun hh => e ((own_iff h hw hf hs).1 hh)), if_neg e]; omega
theorem can_iff (h : Wf x N) (hw : Holds w x.dr.chunks) {f s : Nat} (hf : f < 4) (hs : s < 4) {z : Int} (hz : 1 ≤ z) : canR (some (x.B f)) (rwOf (some (x.B f)) z (x.fl s)) = true ↔ 0 < nz x f z s := by
  have hp := bytes_pos (h.sz hs)
  have hb := bytes_bd _ (h.sz hs)
  have ho := own_iff h hw hf hs
  unfold canR nz
  show (decide (0 < (x.L s).length) || decide (some (x.B f) = some (x.fl s).b)) = true ↔ _
  rw [Bool.or_eq_true, decide_eq_true_iff, decide_eq_true_iff, ho, List.length_pos_iff, ← hp]
  by_cases e : s = f
  · simp only [if_pos e]; constructor
    · intro _; omega
    · intro _; exact .inr e
  · simp only [if_neg e]; constructor
    · rintro (h | h)
      · omega
      · exact absurd h e
    · intro h; exact .inl (by omega)
theorem wrs_iff (h : Wf x N) (hw : Holds w x.dr.chunks) {f s t : Nat} (hf : f < 4) (hs : s < 4) (ht : t < 4) {z : Int} : wrsR (rwOf (some (x.B f)) z (x.fl s)) (x.fl s) (rwOf (some (x.B f)) z (x.fl t)) (x.fl t) = true ↔ bt (nz x f z) x.Q s t := by
  unfold wrsR wrs bt
  rw [rw_by h hw hf hs, rw_by h hw hf ht]
  show (decide (nz x f z t * x.Q s < nz x f z s * x.Q t) || (decide (nz x f z s * x.Q t = nz x f z t * x.Q s) && decide ((t : Int) < s))) = true ↔ _
  rw [Bool.or_eq_true, Bool.and_eq_true, decide_eq_true_iff, decide_eq_true_iff, decide_eq_true_iff]
  constructor
  · rintro (h | ⟨h, g⟩)
    · exact .inl h
    · exact .inr ⟨h.symm, by omega⟩
  · rintro (h | ⟨h, g⟩)
    · exact .inl h
    · exact .inr ⟨h.symm, by omega⟩
/-- the row picked is the law's slot -/
theorem pick_wl (h : Wf x N) (hw : Holds w x.dr.chunks) {f : Nat} (hf : f < 4) {z : Int} (hz : 1 ≤ z) : ∃ M, M < 4 ∧ wl (nz x f z) x.Q 4 = some M ∧ pick (some (x.B f)) (x.dr.rows (some (x.B f)) z) x.dr.fl (x.dr.rows (some (x.B f)) z).length = some (x.idx M) ∧ 0 < nz x f z M := by
  have hQ : ∀ g, g < 4 → 0 < x.Q g := fun g hg => by have := (h.q g hg).1; omega
  obtain ⟨a1, a2⟩ := wl_max (n := nz x f z) hQ 4 (by omega)
  have ps := pick_slots (own := some (x.B f)) (l := x.sl) (rw_ := fun s => rwOf (some (x.B f)) z (x.fl s)) (fl := x.fl) (el := fun s => 0 < nz x f z s) (B := bt (nz x f z) x.Q) h.nodup (fun s hs => can_iff h hw hf (h.mem_sl.1 hs) hz)
    (fun s t hs ht => wrs_iff h hw hf (h.mem_sl.1 hs) (h.mem_sl.1 ht)) (fun s t _ _ hne hb => bt_tot hne hb) (fun s t u hs ht hu h1 h2 => bt_trans (hQ s (h.mem_sl.1 hs)) (hQ t (h.mem_sl.1 ht)) (hQ u (h.mem_sl.1 hu)) h1 h2) 4 (by rw [h.len4]; exact Nat.le_refl _)
  have e1 : x.dr.rows (some (x.B f)) z = x.sl.map (fun s => rwOf (some (x.B f)) z (x.fl s)) := by
    show (x.sl.map x.fl).map _ = _
    rw [List.map_map]; rfl
  have hlen : (x.dr.rows (some (x.B f)) z).length = 4 := by rw [e1, List.length_map, h.len4]
  have hnf : 0 < nz x f z f := by
    have := (bytes_bd _ (h.sz hf)).1
    unfold nz
    rw [if_pos rfl]; omega
  rw [hlen, e1]
  show ∃ M, M < 4 ∧ _ ∧ pick _ _ (x.sl.map x.fl) 4 = some (x.idx M) ∧ _
  cases hw4 : wl (nz x f z) x.Q 4 with
  | none => exact absurd hnf (a1 hw4 f hf)
  | some M =>
    obtain ⟨b1, b2, b3⟩ := a2 M hw4
    refine ⟨M, b1, rfl, ?_, b2⟩
    cases hpk : pick (some (x.B f)) (x.sl.map (fun s => rwOf (some (x.B f)) z (x.fl s))) (x.sl.map x.fl) 4 with
    | none => 
      have hif := some_lt (h.sl_at hf)
      rw [h.len4] at hif
      exact absurd hnf (ps.1 hpk (x.idx f) hif f (h.sl_at hf))
    | some k =>
      obtain ⟨c1, M', c2, c3, c4⟩ := ps.2 k hpk
      have hM4 := h.mem_sl.1 (List.mem_of_getElem? c2)
      have hk : x.idx M' = k := idx_of h.nodup c2
      by_cases e : M' = M
      · rw [← e, hk]
      · have hiM := some_lt (h.sl_at b1)
        rw [h.len4] at hiM
        have d1 := c4 (x.idx M) hiM (fun e2 => e (by
          have := h.sl_at b1
          rw [e2, c2] at this
          exact Option.some.inj this)) M (h.sl_at b1) b2
        have d2 := b3 M' hM4 e c3
        exact absurd (bt_trans (hQ M' hM4) (hQ M b1) (hQ M' hM4) d1 d2) (fun hh => bt_irr hh)
theorem worst_plan (h : Wf x N) (hw : Holds w x.dr.chunks) {f : Nat} (hf : f < 4) {z : Int} (hz : 1 ≤ z) {o : Option (List P6)} (hp : PlanR x.dr (some (x.B f)) (x.dr.rows (some (x.B f)) z) 1 o) :
    ∃ M, M < 4 ∧ wl (nz x f z) x.Q 4 = some M ∧ (M = f ∧ o = none ∨ M ≠ f ∧ ∃ (n : Nat) (v : P6), (x.L M).length = n + 1 ∧ (x.L M)[n]? = some v ∧ o = some [v]) := by
  obtain ⟨M, hM, hwl, hpk, _⟩ := pick_wl h hw hf hz
  refine ⟨M, hM, hwl, ?_⟩
  have hri := RowsIn.start (some (x.B f)) z h.flsok
  have hrow : (x.dr.rows (some (x.B f)) z)[x.idx M]? = some (rwOf (some (x.B f)) z (x.fl M)) := by
    show ((x.sl.map x.fl).map _)[x.idx M]? = _
    rw [List.getElem?_map, List.getElem?_map, h.sl_at hM]; rfl
  have hfl := h.at_ hM
  cases hp with
  | done hn => omega
  | refuse _ hF =>
    rcases hF with ⟨_, _, _, h1 | ⟨k, r, h1, h2, h3⟩⟩ | ⟨h0, _⟩
    · rw [hpk] at h1; cases h1
    · rw [hpk] at h1; cases h1
      rw [hrow] at h2; cases h2
      exact .inl ⟨(own_iff h hw hf hM).1 h3, rfl⟩
    · cases h0
  | take _ hF hrest =>
    have hv1 := (hri.found h.flsok hF).2.2.1
    rcases hF with ⟨h0, _⟩ | ⟨_, k, r, g, h1, h2, h3, h4, h5, h6, _⟩
    · cases h0
    · rw [hpk] at h1; cases h1
      rw [hrow] at h2; cases h2
      rw [hfl] at h3; cases h3
      have hne : M ≠ f := fun e => h4 ((own_iff h hw hf hM).2 e)
      have h5' : 0 < (x.L M).length := h5
      obtain ⟨n, hn⟩ : ∃ n, (x.L M).length = n + 1 := ⟨(x.L M).length - 1, by omega⟩
      have h6' : (x.L M)[(x.L M).length - 1]? = some _ := h6
      rw [hn] at h6'
      refine .inr ⟨hne, n, _, hn, h6', ?_⟩
      cases hrest with
      | done _ => rfl
      | refuse h7 _ => omega
      | take h7 _ _ => omega
end
end Go.Proofs.Yteojodcdehkejaa
/- A move of the law's world: a packet is told; the rows' memory stays as it was. -/
namespace Go.Proofs.Yteojodcdehkejaa
open Go Go.RowKit
attribute [local go_sem] calmQ_normal wide_fn wide_depth Oper.semAt_some run_store_func

section
variable {x : Wd} {w0 w w' : World} {S0 : List Nat} {pre post : List Chunk}
theorem Wd.wdc (K : Sep w0 S0 w (pre ++ ([CWd x] ++ post))) : Blk w x.b 52 x.cells := K.hs.right.get (i := 0) rfl
theorem Wd.putC (K : Sep w0 S0 w (pre ++ ([CWd x] ++ post))) (o : Nat) (v : Value) {y : Wd} (hb : y.b = x.b) (hc : x.cells.set o v = y.cells) : Sep w0 S0 (w.setCell ⟨x.b, o, none⟩ v) (pre ++ ([CWd y] ++ post)) := by
  have h := K.set (pre.length + 0) (pre_get (c := CWd x) rfl) o v
  rw [pre_set1] at h
  have e : ([CWd x] ++ post).set 0 (Chunk.blk x.b 52 (x.cells.set o v)) = [CWd y] ++ post := by
    show Chunk.blk x.b 52 (x.cells.set o v) :: post = CWd y :: post
    rw [hc, ← hb]
  rw [e] at h
  exact h
theorem Wd.sub_c (x : Wd) : ([CWd x] ++ x.dr.chunks).Sublist x.chunks :=
  List.Sublist.cons_cons _ (List.Sublist.cons _ (List.Sublist.cons _ (List.Sublist.cons _ (List.Sublist.cons _ (List.Sublist.refl _)))))
theorem Wd.perm_c (x : Wd) : x.chunks.Perm (([CWd x] ++ x.dr.chunks) ++ [CRow x 0, CRow x 1, CRow x 2, CRow x 3]) := by
  show (CWd x :: ([CRow x 0, CRow x 1, CRow x 2, CRow x 3] ++ x.dr.chunks)).Perm (CWd x :: (x.dr.chunks ++ [CRow x 0, CRow x 1, CRow x 2, CRow x 3]))
  exact List.Perm.cons _ List.perm_append_comm
theorem Wd.apart_row (K : Holds w x.chunks) {t : Nat} (ht : t < 4) : ∀ b, b ∈ x.S t → b ∉ Chunks.bs ([CWd x] ++ x.dr.chunks) := by
  have h := (K.perm (Wd.perm_c x)).cross
  intro b hb hm
  refine h b hm ?_
  have hr : ([CRow x 0, CRow x 1, CRow x 2, CRow x 3])[t]? = some (CRow x t) := four (P := fun t => ([CRow x 0, CRow x 1, CRow x 2, CRow x 3])[t]? = some (CRow x t)) rfl rfl rfl rfl ht
  exact Chunks.mem_bs.2 ⟨_, List.mem_of_getElem? hr, hb⟩
theorem Wd.rejoin {x' : Wd} (K : Holds w x.chunks) {y : Wd} (k : Sep w (Chunks.bs ([CWd x] ++ x.dr.chunks)) w' ([CWd y] ++ x'.dr.chunks)) (hr : ∀ t, t < 4 → RowS w' (x'.V t) (x'.L t) (x.S t)) (hS : x'.S = x.S) (hy : CWd y = CWd x' := by rfl) : Sep w (Chunks.bs x.chunks) w' x'.chunks := by
  have h1 := Sep.frame ((Sep.start K).perm (Wd.perm_c x)) k
  rw [hy] at h1
  have h2 := (h1.perm List.perm_append_comm).re 0 (c := CRow x 0) (c' := Chunk.row (x'.V 0) (x'.L 0) (x.S 0)) rfl rfl (hr 0 (by omega))
  have h3 := h2.re 1 (c := CRow x 1) (c' := Chunk.row (x'.V 1) (x'.L 1) (x.S 1)) rfl rfl (hr 1 (by omega))
  have h4 := h3.re 2 (c := CRow x 2) (c' := Chunk.row (x'.V 2) (x'.L 2) (x.S 2)) rfl rfl (hr 2 (by omega))
  have h5 := h4.re 3 (c := CRow x 3) (c' := Chunk.row (x'.V 3) (x'.L 3) (x.S 3)) rfl rfl (hr 3 (by omega))
  have e : ∀ t, CRow x' t = Chunk.row (x'.V t) (x'.L t) (x.S t) := fun t => by unfold CRow; rw [hS]
  refine h5.perm (List.Perm.trans ?_ (Wd.perm_c x').symm)
  rw [e 0, e 1, e 2, e 3]
  exact (show ([Chunk.row (x'.V 0) (x'.L 0) (x.S 0), Chunk.row (x'.V 1) (x'.L 1) (x.S 1), Chunk.row (x'.V 2) (x'.L 2) (x.S 2), Chunk.row (x'.V 3) (x'.L 3) (x.S 3)] ++ ([CWd x'] ++ x'.dr.chunks)).Perm _ from List.perm_append_comm)
end
set_option maxRecDepth 100000 in
set_option maxHeartbeats 4000000 in
theorem mv1_keep {w : World} {x : Wd} {N : Nat} (h : Wf x N) (hN : N + 1 ≤ 1000000) (K : Holds w x.chunks) (fl sz : Int) {f : Nat} (hf : f < 4) (he : bits .and .i64 fl 3 = (f : Int)) (hr : x.ring ≠ []) :
    Calls Try.prog 17 #[.pointer (some ⟨x.b, 0, none⟩), .agg #[.int .i64 1, .int .i64 fl, .int .i64 sz]] w fun e w' => Moved (fun x' => NxR x x') x N w e w' ∧ ∀ t, t < 4 → ∀ b, b ∈ x.S t → w'.heap[b]? = w.heap[b]? := by
  have hrw : ∀ t, t < 4 → RowS w (x.V t) (x.L t) (x.S t) := fun t ht => Wd.rowf (pre := []) (Sep.start K) ht
  have hdj : ∀ t, t < 4 → ∀ b, b ∈ x.S t → b ∉ Chunks.bs ([CWd x] ++ x.dr.chunks) := fun t ht b hb hm => Wd.apart_row K ht b hb hm
  have HK := Lib.hid K
  have HRW := Lib.hid hrw
  have HDJ := Lib.hid hdj
  have kc : Holds w ([CWd x] ++ x.dr.chunks) := K.sub (Wd.sub_c x)
  have K0 := Lib.hid (((Sep.start kc).alloc 45 [.int .i64 1, .int .i64 fl, .int .i64 sz]).perm List.perm_append_comm)
  have HH := Lib.hid h
  have HR := Lib.hid hr
  have hB : Blk w x.b 52 x.cells := K.get (i := 0) rfl
  have c0 : w.cell? ⟨x.b, 0, none⟩ = some (.pointer (some ⟨x.db, 0, none⟩)) := hB.cell 0
  have lb := hB.lt
  clear K h hr hB hrw hdj kc
  go_enter Try.func17, Try.ntmps17
  go_wp2_with fail
  obtain ⟨A, hA⟩ : ∃ A, w.heap.size = A := ⟨_, rfl⟩
  rw [hA] at K0 lb
  obtain ⟨W0, hW0⟩ : ∃ W0, w.alloc (.cells #[.int .i64 1, .int .i64 fl, .int .i64 sz] 45) = W0 := ⟨_, rfl⟩
  have K1 : Hid (Sep w (Chunks.bs ([CWd x] ++ x.dr.chunks)) W0 ([Chunk.blk A 45 [.int .i64 1, .int .i64 fl, .int .i64 sz]] ++ ([CWd x] ++ x.dr.chunks))) := by rw [← hW0]; exact K0
  rw [hA, hW0]
  clear hW0 K0 hA lb c0
  refine (x_next HH.out K1.out.hs.right.right HR.out 0).mono ?_
  rintro er W1 ⟨df1, s, rest, t1, p, qs, rds, ns, rfl, k1⟩
  have NS := Lib.hid ns
  have hs : s < 4 := (Wf.mt ns.mt rfl rfl rfl rfl rfl HH.out).lt (s := s) (by simp)
  have hq := ns.q
  have hp := HH.out.pk s hs p (by rw [hq]; simp)
  have hp0 : p.f0 = s := hp.1
  have hp3 : 1 ≤ p.f3 := hp.2.2.2.1
  have hp4 : p.f3 ≤ 1024 := by have := hp.2.2.2.2.1; have := HH.out.mo.2; omega
  have hse := HH.out.se s hs
  have htl := HH.out.tl
  have hs1 := hse.1
  have hs2 : x.sent s ≤ 1024000000 := by have := hse.2; omega
  have ht1 := htl.1
  have ht2 : x.told ≤ 1000000 := by have := htl.2; omega
  have hand := and3 hs
  have hsi : (s : Int) < 4 := by omega
  have K2 := Lib.hid (Sep.call_pre K1.out k1)
  have hl := HH.out.len s hs
  have hrow0 := HRW.out s hs
  obtain ⟨a, cap, hv, hcc, hcm⟩ := hrow0.val
  rw [hq] at hrow0 hcc hl
  have HV0 := Lib.hid hv
  rw [hv, hq] at hrow0
  rw [List.length_cons] at hrow0 hcc hl
  obtain ⟨g, off, rfl, htail⟩ := hrow0.tail
  obtain ⟨_, _, hgo, hgS, hlt0, hcl0⟩ := hrow0.at_ (i := 0) rfl
  cases hgo
  have HT := Lib.hid htail
  have HQ := Lib.hid hq
  have HV : Hid (x.V s = .slice (some ⟨g, off, none⟩) (x.L s).length cap) := HV0
  have hgk : W1.heap[g]? = w.heap[g]? := K2.out.fr.block g hlt0 (HDJ.out s hs g hgS)
  have hlt : g < W1.heap.size := Nat.lt_of_lt_of_le hlt0 K2.out.fr.size
  have hcl : ∀ j, j < 6 → W1.cell? ⟨g, off + (0 * 6 + j), none⟩ = (encP6 p)[j]? := fun j hj => (World.cell?_of_block (w := w) hgk).trans (hcl0 j hj)
  have b0 := Wd.wdc K2.out
  have c5 : W1.cell? ⟨x.b, 5 + s, none⟩ = some (.slice (some ⟨g, off, none⟩) (qs.length + 1) cap) := by rw [b0.cell, x.cV hs, hv, hq, List.length_cons]
  have c13 : W1.cell? ⟨x.b, 13 + s, none⟩ = some (.int .i64 (x.sent s)) := by rw [b0.cell]; exact x.cS hs
  have c18 : W1.cell? ⟨x.b, 18, none⟩ = some (.int .i64 x.told) := b0.cell 18
  have z5 := b0.frz (5 + s)
  have z13 := b0.frz (13 + s)
  have z18 := b0.frz 18
  have lb := b0.lt
  have q0 : W1.cell? ⟨g, off, none⟩ = some (.int .i64 p.f0) := by simpa [encP6] using hcl 0 (by omega)
  have q1 : W1.cell? ⟨g, off + 1, none⟩ = some (.int .i64 p.f1) := by simpa [encP6] using hcl 1 (by omega)
  have q2 : W1.cell? ⟨g, off + 2, none⟩ = some (.int .i64 p.f2) := by simpa [encP6] using hcl 2 (by omega)
  have q3 : W1.cell? ⟨g, off + 3, none⟩ = some (.int .i64 p.f3) := by simpa [encP6] using hcl 3 (by omega)
  have q4 : W1.cell? ⟨g, off + 4, none⟩ = some (.int .i64 p.f4) := by simpa [encP6] using hcl 4 (by omega)
  have q5 : W1.cell? ⟨g, off + 5, none⟩ = some (.int .i64 p.f5) := by simpa [encP6] using hcl 5 (by omega)
  rw [hp0] at q0
  have hz : (((qs.length : Int) + 1) == 0) = false := by rw [beq_eq_false_iff_ne]; omega
  have HP0 := Lib.hid hp0
  unfold maxLen at hcm
  clear ns hq hp k1 K1 hv hcl hcl0 hlt0 hgk hgS hrow0 htail b0 hse htl
  simp only [aggp6]
  rw [hp0]
  clear hp0
  go_wp2_with fail
  have K3 := Lib.hid ((K2.out.alloc 34 (encP6 p)).perm List.perm_append_comm)
  go_quiet (fail)
  obtain ⟨P, hP⟩ : ∃ P, W1.heap.size = P := ⟨_, rfl⟩
  rw [hP] at K3 ⊢
  obtain ⟨W2, hW2⟩ : ∃ W2, (W1.alloc (.cells #[.int .i64 s, .int .i64 p.f1, .int .i64 p.f2, .int .i64 p.f3, .int .i64 p.f4, .int .i64 p.f5] 34)).drewN nq = W2 := ⟨_, rfl⟩
  have K4 : Hid (Sep w (Chunks.bs ([CWd x] ++ x.dr.chunks)) W2 ([Chunk.blk P 34 (encP6 p), Chunk.blk A 45 [.int .i64 1, .int .i64 fl, .int .i64 sz]] ++ ([CWd x] ++ (x.nexted df1 s rest (if t1 then 0 else x.Q s) p qs rds (.slice none 0 0)).dr.chunks))) := by
    rw [← hW2, ← HP0.out]
    exact Lib.hid (K3.out.drewN nq)
  rw [hW2]
  clear hW2 K3 K2 hP c5 c13 c18 z5 z13 z18 lb q0 q1 q2 q3 q4 q5 hlt
  have b0 := Wd.wdc K4.out
  have c5 : W2.cell? ⟨x.b, 5 + s, none⟩ = some (.slice (some ⟨g, off, none⟩) (qs.length + 1) cap) := by rw [b0.cell, x.cV hs, HV.out, HQ.out, List.length_cons]
  have c13 : W2.cell? ⟨x.b, 13 + s, none⟩ = some (.int .i64 (x.sent s)) := by rw [b0.cell]; exact x.cS hs
  have c18 : W2.cell? ⟨x.b, 18, none⟩ = some (.int .i64 x.told) := b0.cell 18
  have z5 := b0.frz (5 + s)
  have z13 := b0.frz (13 + s)
  have z18 := b0.frz 18
  have lb := b0.lt
  have r3 : W2.cell? ⟨P, 3, none⟩ = some (.int .i64 p.f3) := (K4.out.blk 0 rfl).cell 3
  have lP := (K4.out.blk 0 rfl).lt
  clear b0
  by_cases hc1 : cap = 1
  · subst hc1
    have hq0 : qs.length = 0 := by omega
    rw [if_pos rfl] at HT
    obtain rfl : qs = [] := List.eq_nil_of_length_eq_zero hq0
    have HT3 : Hid (RowS w (.slice (some ⟨g, off, none⟩) 0 0) [] (x.S s)) := HT
    have c51 : W2.cell? ⟨x.b, 5 + s, none⟩ = some (.slice (some ⟨g, off, none⟩) 1 1) := c5
    clear HT c5 hq0 hz hl hcc hcm
    have HT := HT3
    have c5 := c51
    clear HT3 c51
    go_wp2_with fail
    refine wp_region_quiet_tail 12 (by kernel_rfl) (by kernel_rfl) ?_
    simp only [List.take_succ_cons, List.take_zero, List.drop_succ_cons, List.drop_zero]
    repeat (first | go_big_quiet_step (fail) | quiet_step (fail))
    refine wpQuiet_nil ?_
    rintro _ ⟨nq, rfl⟩
    have ks := Wd.putC (K4.out.drewN nq) (5 + s) (.slice (some ⟨g, off, none⟩) 0 0) (y := { x with V := upd x.V s (.slice (some ⟨g, off, none⟩) 0 0), L := upd x.L s [] }) rfl (Wd.sV _ hs _)
    obtain ⟨W3, hW3⟩ : ∃ W3, (W2.drewN nq).setCell ⟨x.b, 5 + s, none⟩ (.slice (some ⟨g, off, none⟩) 0 0) = W3 := ⟨_, rfl⟩
    rw [hW3] at ks
    have K5 := Lib.hid ks
    clear ks K4
    go_wp2_with fail
    clear hW3 c5 c13 c18 z5 z13 z18 lb r3 lP
    have b1 := Wd.wdc K5.out
    have c13 : W3.cell? ⟨x.b, 13 + s, none⟩ = some (.int .i64 (x.sent s)) := by rw [b1.cell]; exact Wd.cS _ hs
    have c18 : W3.cell? ⟨x.b, 18, none⟩ = some (.int .i64 x.told) := b1.cell 18
    have z13 := b1.frz (13 + s)
    have z18 := b1.frz 18
    have lb := b1.lt
    have r3 : W3.cell? ⟨P, 3, none⟩ = some (.int .i64 p.f3) := (K5.out.blk 0 rfl).cell 3
    have lP := (K5.out.blk 0 rfl).lt
    clear b1
    refine wp_region_quiet_tail 14 (by kernel_rfl) (by kernel_rfl) ?_
    simp only [List.take_succ_cons, List.take_zero, List.drop_succ_cons, List.drop_zero]
    repeat (first | go_big_quiet_step (fail) | quiet_step (fail))
    refine wpQuiet_nil ?_
    rintro _ ⟨nq, rfl⟩
    have ks := Wd.putC (y := { x with V := upd x.V s (.slice (some ⟨g, off, none⟩) 0 0), L := upd x.L s [], sent := upd x.sent s (x.sent s + p.f3) }) (K5.out.drewN nq) (13 + s) (.int .i64 (x.sent s + p.f3)) rfl (Wd.sS _ hs _)
    obtain ⟨W4, hW4⟩ : ∃ W4, (W3.drewN nq).setCell ⟨x.b, 13 + s, none⟩ (.int .i64 (x.sent s + p.f3)) = W4 := ⟨_, rfl⟩
    have kt := Wd.putC (y := { x with V := upd x.V s (.slice (some ⟨g, off, none⟩) 0 0), L := upd x.L s [], sent := upd x.sent s (x.sent s + p.f3), told := x.told + 1 }) ks 18 (.int .i64 (x.told + 1)) rfl rfl
    have K6 := Lib.hid kt
    clear ks kt K5 hW4
    go_wp2
    go_ret
    have NS := NS.out
    have k6 := K6.out.sub (List.sublist_append_right _ _)
    have hkeep : ∀ t, t < 4 → ∀ b, b ∈ x.S t → _ := fun t ht b hb => k6.fr.block b ((HRW.out t ht).1 b hb) (HDJ.out t ht b hb)
    have HTF : RowS _ (.slice (some ⟨g, off, none⟩) 0 0) [] (x.S s) := HT.out.kept (fun b hb => hkeep s hs b hb)
    refine ⟨⟨rfl, x.nexted df1 s rest (if t1 then 0 else x.Q s) p [] rds (.slice (some ⟨g, off, none⟩) 0 0), .inr ⟨df1, s, rest, t1, p, [], NS, rfl⟩, HH.out.nexted NS hN rds _, rfl, ?_⟩, hkeep⟩
    exact Wd.rejoin HK.out k6 (fun t ht => by
      by_cases e : t = s
      · subst e
        show RowS _ (upd x.V t (.slice (some ⟨g, off, none⟩) 0 0) t) (upd x.L t [] t) _
        rw [upd_self, upd_self]; exact HTF
      · show RowS _ (upd x.V s (.slice (some ⟨g, off, none⟩) 0 0) t) (upd x.L s [] t) _
        rw [upd_ne _ _ e, upd_ne _ _ e]
        exact (HRW.out t ht).kept (fun b hb => hkeep t ht b hb)) rfl
  · rw [if_neg hc1] at HT
    go_wp2_with fail
    refine wp_region_quiet_tail 12 (by kernel_rfl) (by kernel_rfl) ?_
    simp only [List.take_succ_cons, List.take_zero, List.drop_succ_cons, List.drop_zero]
    repeat (first | go_big_quiet_step (fail) | quiet_step (fail))
    refine wpQuiet_nil ?_
    rintro _ ⟨nq, rfl⟩
    have ks := Wd.putC (K4.out.drewN nq) (5 + s) (.slice (some ⟨g, off + 6, none⟩) qs.length (cap - 1)) (y := { x with V := upd x.V s (.slice (some ⟨g, off + 6, none⟩) qs.length (cap - 1)), L := upd x.L s qs }) rfl (Wd.sV _ hs _)
    obtain ⟨W3, hW3⟩ : ∃ W3, (W2.drewN nq).setCell ⟨x.b, 5 + s, none⟩ (.slice (some ⟨g, off + 6, none⟩) qs.length (cap - 1)) = W3 := ⟨_, rfl⟩
    rw [hW3] at ks
    have K5 := Lib.hid ks
    clear ks K4
    go_wp2_with fail
    clear hW3 c5 c13 c18 z5 z13 z18 lb r3 lP
    have b1 := Wd.wdc K5.out
    have c13 : W3.cell? ⟨x.b, 13 + s, none⟩ = some (.int .i64 (x.sent s)) := by rw [b1.cell]; exact Wd.cS _ hs
    have c18 : W3.cell? ⟨x.b, 18, none⟩ = some (.int .i64 x.told) := b1.cell 18
    have z13 := b1.frz (13 + s)
    have z18 := b1.frz 18
    have lb := b1.lt
    have r3 : W3.cell? ⟨P, 3, none⟩ = some (.int .i64 p.f3) := (K5.out.blk 0 rfl).cell 3
    have lP := (K5.out.blk 0 rfl).lt
    clear b1
    refine wp_region_quiet_tail 14 (by kernel_rfl) (by kernel_rfl) ?_
    simp only [List.take_succ_cons, List.take_zero, List.drop_succ_cons, List.drop_zero]
    repeat (first | go_big_quiet_step (fail) | quiet_step (fail))
    refine wpQuiet_nil ?_
    rintro _ ⟨nq, rfl⟩
    have ks := Wd.putC (y := { x with V := upd x.V s (.slice (some ⟨g, off + 6, none⟩) qs.length (cap - 1)), L := upd x.L s qs, sent := upd x.sent s (x.sent s + p.f3) }) (K5.out.drewN nq) (13 + s) (.int .i64 (x.sent s + p.f3)) rfl (Wd.sS _ hs _)
    obtain ⟨W4, hW4⟩ : ∃ W4, (W3.drewN nq).setCell ⟨x.b, 13 + s, none⟩ (.int .i64 (x.sent s + p.f3)) = W4 := ⟨_, rfl⟩
    have kt := Wd.putC (y := { x with V := upd x.V s (.slice (some ⟨g, off + 6, none⟩) qs.length (cap - 1)), L := upd x.L s qs, sent := upd x.sent s (x.sent s + p.f3), told := x.told + 1 }) ks 18 (.int .i64 (x.told + 1)) rfl rfl
    have K6 := Lib.hid kt
    clear ks kt K5 hW4
    go_wp2
    go_ret
    have NS := NS.out
    have k6 := K6.out.sub (List.sublist_append_right _ _)
    have hkeep : ∀ t, t < 4 → ∀ b, b ∈ x.S t → _ := fun t ht b hb => k6.fr.block b ((HRW.out t ht).1 b hb) (HDJ.out t ht b hb)
    have HTF : RowS _ (.slice (some ⟨g, off + 6, none⟩) qs.length (cap - 1)) qs (x.S s) := HT.out.kept (fun b hb => hkeep s hs b hb)
    refine ⟨⟨rfl, x.nexted df1 s rest (if t1 then 0 else x.Q s) p qs rds (.slice (some ⟨g, off + 6, none⟩) qs.length (cap - 1)), .inr ⟨df1, s, rest, t1, p, qs, NS, rfl⟩, HH.out.nexted NS hN rds _, rfl, ?_⟩, hkeep⟩
    exact Wd.rejoin HK.out k6 (fun t ht => by
      by_cases e : t = s
      · subst e
        show RowS _ (upd x.V t (.slice (some ⟨g, off + 6, none⟩) qs.length (cap - 1)) t) (upd x.L t qs t) _
        rw [upd_self, upd_self]; exact HTF
      · show RowS _ (upd x.V s (.slice (some ⟨g, off + 6, none⟩) qs.length (cap - 1)) t) (upd x.L s qs t) _
        rw [upd_ne _ _ e, upd_ne _ _ e]
        exact (HRW.out t ht).kept (fun b hb => hkeep t ht b hb)) rfl
end Go.Proofs.Yteojodcdehkejaa
/- Peek and Worst by slots. -/
namespace Go.Proofs.Yteojodcdehkejaa
open Go Go.RowKit
theorem x_peek {w : World} {x : Wd} {N : Nat} (h : Wf x N) (hw : Holds w x.dr.chunks) (t : Int) :
    Calls Try.prog 25 #[.pointer (some ⟨x.db, 0, none⟩), .int .i64 t] w fun e w' => Sep w (Chunks.bs x.dr.chunks) w' x.dr.chunks ∧
      (x.ring = [] ∧ e = .returned (.tuple #[aggp6 zerop6, .bool false]) ∨ ∃ s p qs, s ∈ x.ring ∧ NT (x.ring.map (slOf x.Q x.L x.df)) x.turn s ∧ x.L s = p :: qs ∧ e = .returned (.tuple #[aggp6 p, .bool true])) := by
  have hrl := h.rlen
  refine (dpeek hw h.blocks h.fineAt h.ringNodup (by simp; omega) t).mono ?_
  rintro e w' ⟨ks, ⟨h0, he⟩ | ⟨j, f, p, qs, hn, hf, hq, he⟩⟩
  · exact ⟨ks, .inl ⟨by simpa using h0, he⟩⟩
  · obtain ⟨s, hs, hj, hn2⟩ := nt_slot h hn
    have hfs : f = x.fl s := by
      rw [← hj, h.at_ (h.lt hs)] at hf
      exact (Option.some.inj hf).symm
    subst hfs
    exact ⟨ks, .inr ⟨s, p, qs, hs, hn2, hq, he⟩⟩
theorem NxR.peeked {x x' : Wd} {N : Nat} (h : Wf x N) (hR : NxR x x') (hr : x.ring ≠ []) {s : Nat} {p : P6} {qs : List P6} (hn : NT (x.ring.map (slOf x.Q x.L x.df)) x.turn s) (hq : x.L s = p :: qs) : x'.L = upd x.L s qs := by
  rcases hR with ⟨h0, _⟩ | ⟨df1, s', rest, t1, p', qs', hN, hd⟩
  · exact absurd h0 hr
  · have e := NT.det hn (hN.nt h)
    subst e
    have hq' := hN.q
    rw [hq] at hq'
    cases hq'
    show x'.dat.L = _
    rw [hd]; rfl
/-- what is left of a slot's row -/
def lef (x : Wd) (R : List Rw) (t : Nat) : Nat := ((R[x.idx t]?).map (·.left)).getD 0
theorem FoundR.det {d : Dr} {R R1 R2 : List Rw} {own : Option Nat} {v1 v2 : P6} (h1 : FoundR d R own v1 true R1) (h2 : FoundR d R own v2 true R2) : v1 = v2 ∧ R1 = R2 := by
  rcases h1 with ⟨h, _⟩ | ⟨_, w, r, f, a1, a2, a3, _, _, a6, a7⟩
  · cases h
  rcases h2 with ⟨h, _⟩ | ⟨_, w', r', f', b1, b2, b3, _, _, b6, b7⟩
  · cases h
  rw [a1] at b1; cases b1
  rw [a2] at b2; cases b2
  rw [a3] at b3; cases b3
  rw [a6] at b6; cases b6
  exact ⟨rfl, by rw [a7, b7]⟩
theorem Fnds.det {d : Dr} {own : Option Nat} {n : Nat} {R R1 R2 : List Rw} (h1 : Fnds d own n R R1) (h2 : Fnds d own n R R2) : R1 = R2 := by
  induction h1 generalizing R2 with
  | zero R => cases h2; rfl
  | step h f ih =>
    cases h2 with
    | step h' f' =>
      have := ih h'
      subst this
      exact (FoundR.det f f').2
theorem nth_start {x : Wd} {N : Nat} (h : Wf x N) {t : Nat} (ht : t < 4) : lef x (x.dr.rows none 0) t = (x.L t).length := by
  unfold lef
  have : (x.dr.rows none 0)[x.idx t]? = some (rwOf none 0 (x.fl t)) := by
    show ((x.sl.map x.fl).map _)[x.idx t]? = _
    rw [List.getElem?_map, List.getElem?_map, h.sl_at ht]; rfl
  rw [this]; rfl
theorem nth_step {x : Wd} {N : Nat} (h : Wf x N) {R R' : List Rw} {p : P6} (hf : FoundR x.dr R none p true R') :
    ∃ (s l : Nat), s < 4 ∧ lef x R s = l + 1 ∧ p.f0 = s ∧ (x.L s)[l]? = some p ∧ ∀ t, t < 4 → lef x R' t = if t = s then l else lef x R t := by
  rcases hf with ⟨h0, _⟩ | ⟨_, w, r, f, a1, a2, a3, _, a5, a6, a7⟩
  · cases h0
  have hf' : (x.sl.map x.fl)[w]? = some f := a3
  rw [List.getElem?_map] at hf'
  cases hs : x.sl[w]? with
  | none => rw [hs] at hf'; cases hf'
  | some s =>
    rw [hs] at hf'
    have e : x.fl s = f := by simpa using hf'
    subst e
    have hs4 := h.mem_sl.1 (List.mem_of_getElem? hs)
    have hw : x.idx s = w := idx_of h.nodup hs
    obtain ⟨l, hl⟩ : ∃ l, r.left = l + 1 := ⟨r.left - 1, by omega⟩
    have hq : (x.L s)[l]? = some p := by
      have : (x.L s)[r.left - 1]? = some p := a6
      rwa [hl] at this
    refine ⟨s, l, hs4, by unfold lef; rw [hw, a2]; exact hl, (h.pk s hs4 p (List.mem_of_getElem? hq)).1, hq, fun t ht => ?_⟩
    unfold lef
    rw [a7]
    by_cases e : t = s
    · subst e
      rw [if_pos rfl, hw, List.getElem?_set_self (some_lt a2)]
      show r.left - 1 = l
      omega
    · rw [if_neg e, List.getElem?_set_ne (fun e2 => e (h.idx_inj ht hs4 (by rw [hw, e2])))]
end Go.Proofs.Yteojodcdehkejaa
/- Turn and Worst by slots, whatever the turn. -/
namespace Go.Proofs.Yteojodcdehkejaa
open Go Go.RowKit
theorem x_turn {x : Wd} {N : Nat} (h : Wf x N) : ∃ (th tg : Int) (tb : Bool), ∀ w, Holds w x.dr.chunks → Calls Try.prog 19 #[.pointer (some ⟨x.db, 0, none⟩)] w fun e w' => e = .returned (.tuple #[.agg #[.int .i64 th, .int .i64 tg], .bool tb]) ∧ Fr [] w w' := by
  cases ht : x.turn with
  | false => exact ⟨0, 0, false, fun w hw => x_turn_no hw ht⟩
  | true =>
    cases hr : x.ring with
    | nil => exact absurd hr (h.turn ht)
    | cons s rest => exact ⟨s, x.G s, true, fun w hw => x_turn_yes h hw ht hr⟩
theorem rows_sum {x : Wd} {N : Nat} (h : Wf x N) (own : Option Nat) (z : Int) : lsum (x.dr.rows own z) = x.cnt := by
  unfold lsum
  have e : (x.dr.rows own z).map (·.left) = x.sl.map (fun s => (x.L s).length) := by
    show ((x.sl.map x.fl).map (rwOf own z)).map _ = _
    rw [List.map_map, List.map_map]
    rfl
  rw [e, (h.sl.map (fun s => (x.L s).length)).sum_nat]
  unfold Wd.cnt
  simp
  omega
theorem x_worst {w : World} {x : Wd} {N : Nat} (h : Wf x N) (hN : N ≤ 200000) (hw : Holds w x.dr.chunks) (n : Nat) (hn : n < x.cnt) :
    Calls Try.prog 28 #[.pointer (some ⟨x.db, 0, none⟩), .int .i64 n] w fun e w' => ∃ R p R', Fnds x.dr none n (x.dr.rows none 0) R ∧ FoundR x.dr R none p true R' ∧ e = .returned (.tuple #[aggp6 p, .bool true]) ∧ Fr [] w w' :=
  dworst (d := x.dr) hw h.flsok n (show (n : Int) < (x.cnt : Int) by omega) (show (x.cnt : Int) ≤ lsum _ by rw [rows_sum h]; exact Int.le_refl _) (h.rows_le _ _ hN)
theorem x_worst_no {w : World} {x : Wd} (hw : Holds w x.dr.chunks) (n : Int) (hn : n < 0 ∨ (x.cnt : Int) ≤ n) :
    Calls Try.prog 28 #[.pointer (some ⟨x.db, 0, none⟩), .int .i64 n] w fun e w' => e = .returned (.tuple #[aggp6 zerop6, .bool false]) ∧ Fr [] w w' := dworst_no (d := x.dr) hw n hn
end Go.Proofs.Yteojodcdehkejaa
/- The law's handles: two lists of handles that are alike. -/
namespace Go.Proofs.Yteojodcdehkejaa
open Go Go.RowKit
attribute [local go_sem] calmQ_normal wide_fn wide_depth Oper.semAt_some run_store_func
theorem hdsx_at {G : Nat → Int} {l : List Nat} {j s : Nat} (h : l[j]? = some s) : (hds G l)[j * 2]? = some (.int .i64 (s : Int)) ∧ (hds G l)[j * 2 + 1]? = some (.int .i64 (G s)) := by
  induction l generalizing j with
  | nil => simp at h
  | cons a l ih =>
    cases j with
    | zero => simp at h; subst h; simp [hds]
    | succ j =>
      have := ih (by simpa using h)
      unfold hds at this ⊢
      rw [List.flatMap_cons, List.getElem?_append_right (by simp; omega), List.getElem?_append_right (by simp; omega)]
      simp only [List.length_cons, List.length_nil, Nat.zero_add, Nat.reduceAdd]
      rw [show (j + 1) * 2 - 2 = j * 2 from by omega, show (j + 1) * 2 + 1 - 2 = j * 2 + 1 from by omega]
      exact this
set_option maxRecDepth 100000 in
set_option maxHeartbeats 1000000 in
theorem handles_ok {w : World} {a b : Value} {G : Nat → Int} {l : List Nat} {Sa Sb : List Nat} (ha : OwnS w 26 2 a l.length (hds G l) Sa) (hb : OwnS w 26 2 b l.length (hds G l) Sb) (hl : l.length ≤ 1048576) :
    Calls Try.prog 26 #[a, b] w fun e w' => e = .returned (.bool true) ∧ ∃ q, w' = w.drewN q := by
  obtain ⟨n, hn⟩ : ∃ n, l.length = n := ⟨_, rfl⟩
  rw [hn] at ha hb hl
  obtain ⟨aa, ac, rfl⟩ := ha.val
  obtain ⟨ba, bc, rfl⟩ := hb.val
  have HA := Lib.hid ha
  have HB := Lib.hid hb
  have HN := Lib.hid hn
  clear ha hb hn
  go_enter Try.func26, Try.ntmps26
  go_wp2
  go_loopg [5] (n + 1) (fun k i wr => ∃ j : Nat, k + j = n + 1 ∧ j ≤ n ∧ i = .int .i64 j ∧ ∃ q, wr = w.drewN q)
  case atStart => exact ⟨0, by omega, by omega, rfl, 0, rfl⟩
  case round =>
    obtain ⟨j, hk, hj, rfl, q, rfl⟩ := hrel
    by_cases hjn : j < n
    · have hji : (j : Int) < n := by omega
      obtain ⟨s, hs⟩ : ∃ s, l[j]? = some s := ⟨l[j]'(by have := HN.out; omega), by simp⟩
      obtain ⟨h1, h2⟩ := hdsx_at (G := G) hs
      obtain ⟨ga, gac, hga, -⟩ := HA.out.head (by omega)
      obtain ⟨gb, gbc, hgb, -⟩ := HB.out.head (by omega)
      cases hga
      cases hgb
      have a0 : w.cell? ⟨ga, j * 2, none⟩ = some (.int .i64 (s : Int)) := by rw [HA.out.cellAt _ (by omega)]; exact h1
      have a1 : w.cell? ⟨ga, j * 2 + 1, none⟩ = some (.int .i64 (G s)) := by rw [HA.out.cellAt _ (by omega)]; exact h2
      have b0 : w.cell? ⟨gb, j * 2, none⟩ = some (.int .i64 (s : Int)) := by rw [HB.out.cellAt _ (by omega)]; exact h1
      have b1 : w.cell? ⟨gb, j * 2 + 1, none⟩ = some (.int .i64 (G s)) := by rw [HB.out.cellAt _ (by omega)]; exact h2
      have la := HA.out.lt ga
      have e0 : ((s : Int) == s) = true := by simp
      have e1 : (G s == G s) = true := by simp
      clear h1 h2 hs
      go_wp2
      go_quiet (fail)
      go_wp2
      go_roundg (gk - 1)
      case measure => omega
      case rel => exact ⟨j + 1, by omega, by omega, by go_num, _, rfl⟩
    · obtain rfl : j = n := by omega
      go_wp2
      go_ret
      exact ⟨rfl, _, rfl⟩
end Go.Proofs.Yteojodcdehkejaa
/- A move that tells a packet, after a Peek. -/
namespace Go.Proofs.Yteojodcdehkejaa
open Go Go.RowKit
def PkS (x : Wd) (PV : P6) (IS : Bool) : Prop := x.ring = [] ∧ PV = zerop6 ∧ IS = false ∨ ∃ s qs, s ∈ x.ring ∧ NT (x.ring.map (slOf x.Q x.L x.df)) x.turn s ∧ x.L s = PV :: qs ∧ IS = true
theorem NxR.none {x x' : Wd} (hR : NxR x x') (hr : x.ring = []) : x'.L = x.L := by
  rcases hR with ⟨_, hd⟩ | ⟨df1, s', rest, t1, p', qs', hN, _⟩
  · show x'.dat.L = _
    rw [hd]; rfl
  · have h := hN.mt
    rw [hr] at h
    cases h
def PkD (x x' : Wd) (PV : P6) (IS : Bool) (w' : World) : Prop :=
  (IS = false ∧ PV = zerop6 ∧ x'.cnt = x.cnt) ∨ (IS = true ∧ ∃ (s : Nat) (qs : List P6), s < 4 ∧ PV.f0 = s ∧ x.L s = PV :: qs ∧ (x'.L s).length = qs.length ∧ x'.cnt + 1 = x.cnt ∧ RowS w' (x.V s) (x.L s) (x.S s))
theorem mv1_peek {w : World} {x : Wd} {N : Nat} (h : Wf x N) (hN : N + 1 ≤ 1000000) (K : Holds w x.chunks) (fl sz : Int) {PV : P6} {IS : Bool} (hpk : PkS x PV IS) :
    Calls Try.prog 17 #[.pointer (some ⟨x.b, 0, none⟩), .agg #[.int .i64 1, .int .i64 fl, .int .i64 sz]] w fun e w' => e = .returned (.bool true) ∧ ∃ x', Wf x' (N + 1) ∧ x'.b = x.b ∧ Sep w (Chunks.bs x.chunks) w' x'.chunks ∧ PkD x x' PV IS w' := by
  obtain ⟨f, he0, hf⟩ := and_range fl 3 (by omega)
  have he : bits .and .i64 fl 3 = (f : Int) := he0
  have hf4 : f < 4 := by omega
  rcases hpk with ⟨hr, hp, hi⟩ | ⟨s, qs, hs, hn, hq, hi⟩
  · refine (mv1_no h hN K fl sz hf4 he hr).mono ?_
    rintro e w' ⟨h1, x', h2, h3, h4, h5⟩
    exact ⟨h1, x', h3, h4, h5, .inl ⟨hi, hp, by unfold Wd.cnt; rw [h2.none hr]⟩⟩
  · have hr : x.ring ≠ [] := fun e => by rw [e] at hs; cases hs
    have hs4 := h.lt hs
    refine (mv1_keep h hN K fl sz hf4 he hr).mono ?_
    rintro e w' ⟨⟨h1, x', h2, h3, h4, h5⟩, hk⟩
    have hL := h2.peeked h hr hn hq
    have hc := cnt_upd (L := x.L) (L' := x'.L) (k := -1) hs4 (fun t ht => by rw [hL, upd_ne _ _ ht]) (by rw [hL, upd_self, hq, List.length_cons]; omega)
    refine ⟨h1, x', h3, h4, h5, .inr ⟨hi, s, qs, hs4, (h.pk s hs4 PV (by rw [hq]; simp)).1, hq, by rw [hL, upd_self], ?_, ?_⟩⟩
    · have hc' : ((x'.cnt : Nat) : Int) = (x.cnt : Nat) + (-1) := hc
      omega
    · exact (Wd.rowf (pre := []) (Sep.start K) hs4).kept (fun b hb => hk s hs4 b hb)
end Go.Proofs.Yteojodcdehkejaa
/- DRRFair: what the walk keeps of the pairs. -/
namespace Go.Proofs.Yteojodcdehkejaa
open Go Go.RowKit
attribute [local go_sem] calmQ_normal wide_fn wide_depth Oper.semAt_some run_store_func

def ints (ls : Nat → Int) : List Value := (List.range 16).map fun k => .int .i64 (ls k)
def bools (on : Nat → Bool) : List Value := (List.range 16).map fun k => .bool (on k)
theorem ints_at (ls : Nat → Int) {k : Nat} (hk : k < 16) : (ints ls)[k]? = some (.int .i64 (ls k)) := by simp [ints, hk]
theorem bools_at (on : Nat → Bool) {k : Nat} (hk : k < 16) : (bools on)[k]? = some (.bool (on k)) := by simp [bools, hk]
theorem ints_set (ls : Nat → Int) {k : Nat} (hk : k < 16) (v : Int) : (ints ls).set k (.int .i64 v) = ints (upd ls k v) := by
  have := map_set_upd (l := List.range 16) (i := k) (s := k) List.nodup_range (by simp [hk]) (g := fun k => Value.int .i64 (ls k)) (g' := fun i => Value.int .i64 (upd ls k v i)) (fun t ht => by simp only [upd_ne _ _ ht])
  simp only [upd_self] at this
  exact this
theorem bools_set (on : Nat → Bool) {k : Nat} (hk : k < 16) (v : Bool) : (bools on).set k (.bool v) = bools (upd on k v) := by
  have := map_set_upd (l := List.range 16) (i := k) (s := k) List.nodup_range (by simp [hk]) (g := fun k => Value.bool (on k)) (g' := fun i => Value.bool (upd on k v i)) (fun t ht => by simp only [upd_ne _ _ ht])
  simp only [upd_self] at this
  exact this
/-- no move ahead of j has a packet above M -/
def UpTo (w : World) (ao : Option Addr) (j : Nat) (M : Int) : Prop := ∀ t, t < j → ∀ b off z, ao = some ⟨b, off, none⟩ → w.cell? ⟨b, off + (t * 3 + 2), none⟩ = some (.int .i64 z) → wrap64 (bits .and .i64 z 1023 + 1) ≤ M
theorem UpTo.zero (w : World) (ao : Option Addr) (M : Int) : UpTo w ao 0 M := fun t ht => absurd ht (by omega)
theorem UpTo.succ {w : World} {b off j : Nat} {M z zz : Int} (h : UpTo w (some ⟨b, off, none⟩) j M) (hc : w.cell? ⟨b, off + (j * 3 + 2), none⟩ = some (.int .i64 zz)) (hz : wrap64 (bits .and .i64 zz 1023 + 1) = z) : UpTo w (some ⟨b, off, none⟩) (j + 1) (max M z) := by
  intro t ht b' off' z' ha hc'
  cases ha
  by_cases e : t = j
  · subst e
    rw [hc] at hc'
    simp at hc'
    subst hc'
    omega
  · have := h t (by omega) b off z' rfl hc'
    omega
/-- a pair behind the move that is being looked at, not yet looked at -/
def PM (x : Wd) (M : Int) (on : Nat → Bool) (ls : Nat → Int) (k : Nat) : Prop := on k = true → k / 4 ≠ k % 4 ∧ (k / 4 ∈ x.ring → k % 4 ∈ x.ring → Str x M (ls k) (k / 4) (k % 4))
/-- .. and one that has been looked at -/
def PN (x : Wd) (M : Int) (on : Nat → Bool) (ls : Nat → Int) (k : Nat) : Prop := on k = true → k / 4 ≠ k % 4 ∧ k / 4 ∈ x.ring ∧ k % 4 ∈ x.ring ∧ Str x M (ls k) (k / 4) (k % 4)
theorem PN.mid {x : Wd} {M : Int} {on : Nat → Bool} {ls : Nat → Int} {k : Nat} (h : PN x M on ls k) : PM x M on ls k := fun ho => ⟨(h ho).1, fun _ _ => (h ho).2.2.2⟩
theorem PN.move {x x' : Wd} {N : Nat} (hw : Wf x N) {kd fl sz : Int} (hR : MvR kd fl sz x x') {M : Int} {on : Nat → Bool} {ls : Nat → Int} {k : Nat} (h : PN x M on ls k) : PM x' M on ls k := fun ho => by
  obtain ⟨h1, h2, h3, h4⟩ := h ho
  exact ⟨h1, fun ha hb => h4.move hw hR hR.Q h1 h2 h3 ha hb⟩
theorem PM.off {x : Wd} {M : Int} {on : Nat → Bool} {ls : Nat → Int} {k i : Nat} (h : PM x M on ls i) : PM x M (upd on k false) ls i := fun ho => by
  by_cases e : i = k
  · subst e; rw [upd_self] at ho; cases ho
  · rw [upd_ne _ _ e] at ho; exact h ho
theorem PN.off {x : Wd} {M : Int} {on : Nat → Bool} {ls : Nat → Int} {k i : Nat} (h : i ≠ k → PN x M on ls i) : PN x M (upd on k false) ls i := fun ho => by
  by_cases e : i = k
  · subst e; rw [upd_self] at ho; cases ho
  · rw [upd_ne _ _ e] at ho; exact h e ho
theorem PM.on {x : Wd} {M v : Int} {on : Nat → Bool} {ls : Nat → Int} {k i : Nat} (h : PM x M on ls i) (hk : PN x M (upd on k true) (upd ls k v) k) : PM x M (upd on k true) (upd ls k v) i := by
  by_cases e : i = k
  · subst e; exact hk.mid
  · intro ho
    rw [upd_ne _ _ e] at ho
    rw [upd_ne _ _ e]
    exact h ho
theorem PN.on {x : Wd} {M v : Int} {on : Nat → Bool} {ls : Nat → Int} {k i : Nat} (h : i ≠ k → PN x M on ls i) (hk : PN x M (upd on k true) (upd ls k v) k) : PN x M (upd on k true) (upd ls k v) i := by
  by_cases e : i = k
  · subst e; exact hk
  · intro ho
    rw [upd_ne _ _ e] at ho
    rw [upd_ne _ _ e]
    exact h e ho
theorem upd_true {on : Nat → Bool} {k : Nat} (h : on k = true) : upd on k true = on := by rw [← h, upd_id]
/-- the numbers of the check stay small -/
structure Small (x : Wd) (a b : Nat) : Prop where
  p1 : 0 ≤ x.sent a * x.Q b ∧ x.sent a * x.Q b ≤ 1000000000
  p2 : 0 ≤ x.sent b * x.Q a ∧ x.sent b * x.Q a ≤ 1000000000
  p3 : 0 ≤ x.Q a * x.Q b ∧ x.Q a * x.Q b ≤ 1000000
theorem mul_bd {s q S T : Int} (h0 : 0 ≤ s) (h1 : s ≤ S) (q0 : 0 ≤ q) (q1 : q ≤ T) : 0 ≤ s * q ∧ s * q ≤ S * T :=
  ⟨Int.mul_nonneg h0 q0, Int.le_trans (Int.mul_le_mul_of_nonneg_right h1 q0) (Int.mul_le_mul_of_nonneg_left q1 (by omega))⟩
theorem Wf.small {x : Wd} {N : Nat} (h : Wf x N) (hN : N ≤ 200) {a b : Nat} (ha : a < 4) (hb : b < 4) : Small x a b := by
  have sa := h.se a ha
  have sb := h.se b hb
  have qa := h.q a ha
  have qb := h.q b hb
  have h1 := mul_bd (S := 204800) (T := 1000) sa.1 (by omega) (by omega : 0 ≤ x.Q b) qb.2
  have h2 := mul_bd (S := 204800) (T := 1000) sb.1 (by omega) (by omega : 0 ≤ x.Q a) qa.2
  have h3 := mul_bd (S := 1000) (T := 1000) (by omega : 0 ≤ x.Q a) qa.2 (by omega : 0 ≤ x.Q b) qb.2
  exact ⟨⟨h1.1, by omega⟩, ⟨h2.1, by omega⟩, ⟨h3.1, by omega⟩⟩
end Go.Proofs.Yteojodcdehkejaa
