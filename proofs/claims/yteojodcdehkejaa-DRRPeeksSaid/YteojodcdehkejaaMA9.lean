/- The row of a discipline's flows without one of them: slices.DeleteFunc by identity. -/
import Derived.Test.YteojodcdehkejaaMA8
import Derived.Shelf.SlicesE.DeleteFunc
import Derived.Ground.SlgfProg
import Derived.Lib.SliceRun
import Derived.LaidEqlPtr
set_option linter.unusedVariables false
namespace Go.Proofs.Yteojodcdehkejaa
open Go Go.RowKit
attribute [local go_sem] calmQ_normal wide_fn wide_depth Oper.semAt_some run_store_func
def ldel_ren : Go.Shelf.Ren := ⟨fun | 10 => 80 | 6 => 100 | n => n, fun | 0 => 0 | 3 => 3 | 4 => 4 | 22 => 90 | 23 => 89 | 25 => 138 | n => n, fun n => n⟩
theorem ldel : SlLaysH.n10 Try.prog ldel_ren := {
  mixed := by kernel_rfl
  f6 := ⟨Try.f100.name, by decide, Try.func100.trans (congrArg some (by kernel_rfl))⟩
  f10 := ⟨Try.f80.name, by decide, Try.func80.trans (congrArg some (by kernel_rfl))⟩
  t0 := Try.underlying0
  a0 := Try.isAgg0
  z0 := Try.sizeOf0
  v0 := Try.zeroValue0
  t3 := Try.underlying3
  a3 := Try.isAgg3
  z3 := Try.sizeOf3
  v3 := Try.zeroValue3
  t4 := Try.underlying4
  a4 := Try.isAgg4
  z4 := Try.sizeOf4
  v4 := Try.zeroValue4
  t22 := Try.underlying90
  a22 := Try.isAgg90
  z22 := Try.sizeOf90
  v22 := Try.zeroValue90
  a23 := Try.isAgg89
  z23 := Try.sizeOf89
  t25 := Try.underlying138
  a25 := Try.isAgg138
  z25 := Try.sizeOf138
  v25 := Try.zeroValue138 }

/-- a pointer to a block of a flow, or none -/
abbrev FlP (w : World) : Type := Option { b : Nat // ∃ cs, Blk w b 95 cs }
def encFP {w : World} : FlP w → Value
  | none => .pointer none
  | some x => .pointer (some ⟨x.1, 0, none⟩)
def isFP {w : World} (fb : Nat) : FlP w → Bool
  | none => false
  | some x => decide (x.1 = fb)

theorem isFP_some {w : World} (fb b : Nat) (h : ∃ cs, Blk w b 95 cs) : isFP fb (some ⟨b, h⟩ : FlP w) = decide (b = fb) := rfl
theorem encFP_some {w : World} (b : Nat) (h : ∃ cs, Blk w b 95 cs) : encFP (some ⟨b, h⟩ : FlP w) = .pointer (some ⟨b, 0, none⟩) := rfl
set_option maxRecDepth 100000 in
theorem dclo0 {W : World} {A fb : Nat} (hA : W.cell? ⟨A, 0, none⟩ = some (.pointer (some ⟨fb, 0, none⟩))) :
    Calls Try.prog 81 #[.pointer none, .pointer (some ⟨A, 0, none⟩)] W fun e w' => e = .returned (.bool false) ∧ ∃ q, w' = W.drewN q := by
  have hbin : (binOp .eql 89 (.pointer none) (.pointer (some ⟨fb, 0, none⟩))).run Try.prog W = .ok (.bool false) W := by
    have h : ∀ d : Nat, (Op.equalIn (d + 1) 89 (.pointer none) (.pointer (some ⟨fb, 0, none⟩))).run Try.prog W = .ok false W := fun d => by
      simp [Op.equalIn, run_underlying Try.underlying89]
    simp only [binOp]
    simp [Op.equal, Op.maxDepth, h 9999]
  go_enter Try.func81, Try.ntmps81
  go_wp2
  go_ret
  exact ⟨rfl, 0, rfl⟩
set_option maxRecDepth 100000 in
theorem dclo1 {W : World} {A fb b : Nat} (hA : W.cell? ⟨A, 0, none⟩ = some (.pointer (some ⟨fb, 0, none⟩))) {cf cb : List Value} (hf : Blk W fb 95 cf) (hb : Blk W b 95 cb) :
    Calls Try.prog 81 #[.pointer (some ⟨b, 0, none⟩), .pointer (some ⟨A, 0, none⟩)] W fun e w' => e = .returned (.bool (decide (b = fb))) ∧ ∃ q, w' = W.drewN q := by
  obtain ⟨infoFl, infoFl_is, infoFl_sz⟩ := infoFl_ex
  by_cases e : b = fb
  · subst e
    have hbin : (binOp .eql 89 (.pointer (some ⟨b, 0, none⟩)) (.pointer (some ⟨b, 0, none⟩))).run Try.prog W = .ok (.bool true) W :=
      run_eql_ptr_same W _ Try.underlying89 infoFl_is
    clear hf hb
    go_enter Try.func81, Try.ntmps81
    go_wp2
    go_ret
    exact ⟨by simp, 0, rfl⟩
  · have hbin : (binOp .eql 89 (.pointer (some ⟨b, 0, none⟩)) (.pointer (some ⟨fb, 0, none⟩))).run Try.prog W = .ok (.bool false) W :=
      run_eql_ptr_other W Try.underlying89 infoFl_is infoFl_sz (fun h => e (congrArg Addr.block h)) hb hf
    have he := Lib.hid e
    clear hf hb e
    go_enter Try.func81, Try.ntmps81
    go_wp2
    go_ret
    exact ⟨by simp [he.out], 0, rfl⟩
theorem dclo {w W : World} {A fb : Nat} (hA : W.cell? ⟨A, 0, none⟩ = some (.pointer (some ⟨fb, 0, none⟩))) {cf : List Value} (hf : Blk W fb 95 cf) (x : FlP w) (hx : ∀ b cs, Blk w b 95 cs → ∃ cs', Blk W b 95 cs') :
    FnGives Try.prog 81 #[.pointer (some ⟨A, 0, none⟩)] #[encFP x] (.bool (isFP fb x)) W := by
  cases x with
  | none => exact dclo0 hA
  | some x =>
    obtain ⟨b, cs, hb⟩ := x
    obtain ⟨cs', hb'⟩ := hx b cs hb
    exact dclo1 hA hf hb'

theorem putRow_fr {α : Type} [Inhabited α] (enc : α → Value) (w : World) (q blk off : Nat) (d : Array α) : Fr [blk] w (Go.Sort.putRow enc (Go.Sort.ahead w q) blk off d) := by
  refine ⟨rfl, rfl, rfl, by simp, fun b _ hn => ?_⟩
  simp only [Go.Sort.putRow, Go.Sort.mapBlock, Go.Sort.heap_ahead, Array.getElem?_modify]
  rw [if_neg (fun e => hn (by simp [e]))]
theorem putRow_at {α : Type} [Inhabited α] (enc : α → Value) (w : World) (q blk off : Nat) (d : Array α) {cur : Array Value} {e : TypeId} (h : w.heap[blk]? = some (.cells cur e (0, 0))) :
    (Go.Sort.putRow enc (Go.Sort.ahead w q) blk off d).heap[blk]? = some (.cells (Go.Sort.putCells enc off d cur) e (0, 0)) := by
  simp [Go.Sort.putRow, Go.Sort.mapBlock, Array.getElem?_modify, h, Go.Sort.onCells]
theorem putCells_take {α : Type} [Inhabited α] (enc : α → Value) (xs ys : List α) (cur : Array Value) (h : xs.length + ys.length ≤ cur.size) :
    (Go.Sort.putCells enc 0 (xs ++ ys).toArray cur).toList.take xs.length = xs.map enc := by
  refine List.ext_getElem? fun i => ?_
  by_cases hi : i < xs.length
  · rw [List.getElem?_take_of_lt hi, List.getElem?_map, List.getElem?_eq_getElem hi]
    have hc : i < cur.size := by omega
    simp only [Go.Sort.putCells, Array.getElem?_toList, Array.getElem?_mapIdx, Array.getElem?_eq_getElem hc, Option.map_some]
    rw [if_pos ⟨by omega, by simp; omega⟩]
    congr 1
    rw [Nat.sub_zero, getElem!_pos _ i (by simp; omega)]
    simp [List.getElem_append_left hi]
  · rw [List.getElem?_eq_none (by simp; omega), List.getElem?_eq_none (by simp; omega)]

theorem fp_attach (w : World) (T : TypeId) : ∀ (bs : List Nat), (∀ b, b ∈ bs → ∃ cs, Blk w b 95 cs) → ∃ l : List (FlP w), l.map encFP = bs.map (fun b => ptrV (some b)) ∧ ∀ fb, (l.filter fun x => !isFP fb x).map encFP = (bs.filter fun b => !decide (b = fb)).map (fun b => ptrV (some b))
  | [], _ => ⟨[], rfl, fun _ => rfl⟩
  | b :: bs, h => by
    obtain ⟨l, h1, h2⟩ := fp_attach w T bs (fun x hx => h x (by simp [hx]))
    refine ⟨some ⟨b, h b (by simp)⟩ :: l, by simp [h1, encFP], fun fb => ?_⟩
    by_cases e : b = fb
    · rw [List.filter_cons_of_neg (by rw [isFP_some]; simp [e]), List.filter_cons_of_neg (by simp [e])]
      exact h2 fb
    · rw [List.filter_cons_of_pos (by rw [isFP_some]; simp [e]), List.filter_cons_of_pos (by simp [e]), List.map_cons, List.map_cons, h2 fb, encFP_some]
      rfl

set_option maxRecDepth 100000 in
theorem ddel {w : World} {v : Value} {n : Nat} {bs : List Nat} {S : List Nat} (h : OwnS w 89 1 v n (bs.map fun b => ptrV (some b)) S) (hb : ∀ b, b ∈ bs → ∃ cs, Blk w b 95 cs) (hn : 0 < n)
    {A fb : Nat} {t : TypeId} (hA : Blk w A t [.pointer (some ⟨fb, 0, none⟩)]) {cf : List Value} (hf : Blk w fb 95 cf) (hS1 : A ∉ S) (hS2 : ∀ b, b ∈ bs → b ∉ S) (hS3 : fb ∉ S) :
    Calls Try.prog 80 #[v, .func (.func 81) #[] #[.pointer (some ⟨A, 0, none⟩)]] w fun e w' =>
      ∃ v', e = .returned v' ∧ OwnS w' 89 1 v' (bs.filter fun b => !decide (b = fb)).length ((bs.filter fun b => !decide (b = fb)).map fun b => ptrV (some b)) S ∧ Fr S w w' := by
  rcases h.2 with ⟨_, h0, _⟩ | ⟨g, cap, cur, rfl, rfl, hg, hnc, hcm, hcs, ht⟩
  · omega
  have hlen : bs.length = n := by have := h.1; simpa using this
  obtain ⟨l, hl1, hl2⟩ := fp_attach w 0 bs hb
  have hll : l.length = bs.length := by have := congrArg List.length hl1; simpa using this
  have hH : Go.Sort.Holds encFP w g 0 l.toArray := fun j hj => by
    have hj' : j < l.length := by simpa using hj
    refine ⟨?_, by simp [World.frozen?, hg]⟩
    have h1 := h.cellAt j (by omega)
    rw [Nat.zero_add, h1, ← hl1, List.getElem?_map, List.getElem?_eq_getElem hj']
    simp [hj']
  have hz : ∀ w : World, (zeroValue 89).run Try.prog w = .ok (encFP (none : FlP w)) w := fun w => by
    obtain ⟨i0, hi, hz0, _⟩ := info_parts infoPf
    simp [zeroValue, typeInfo, hi, hz0, encFP]
  have eg : ∀ args w, (callFunc 81 args).run Try.prog w = .ok (.enter 81 args) w := enters_of Try.func81 (by kernel_rfl) rfl
  have hp : PredAt Try.prog 81 #[.pointer (some ⟨A, 0, none⟩)] (encFP (w := w)) (isFP fb) w := fun W x hB =>
    dclo ((hB.cell (p := ⟨A, 0, none⟩) hA.lt).trans (hA.cell 0)) ((hB.block fb hf.lt).trans hf) x (fun b cs hb => ⟨cs, (hB.block b hb.lt).trans hb⟩)
  have hpo : PredOver Try.prog 81 #[.pointer (some ⟨A, 0, none⟩)] (encFP (w := w)) (isFP fb) g 0 l.toArray.size w := fun nn os dk x _ => by
    have fr : Fr [g] w (sortWorld encFP w g 0 nn dk os) := by
      refine ⟨rfl, rfl, rfl, ?_, fun b hb hn => ?_⟩
      · show w.heap.size ≤ ((Go.Sort.putRow encFP (Go.Sort.ahead w nn) g 0 dk).heap ++ os).size
        rw [Array.size_append, Go.Sort.size_putRow]; simp
      · unfold sortWorld
        rw [Go.Sort.heap_grow_old _ _ (by rw [Go.Sort.size_putRow]; exact hb)]
        exact (putRow_fr encFP w nn g 0 dk).block b hb hn
    have hne : ∀ b cs, Blk w b 95 cs → b ∉ [g] := fun b cs hb hm => by
      simp at hm; subst hm
      unfold Blk at hb
      rw [hg] at hb
      simp at hb
    exact dclo ((fr.cell (p := ⟨A, 0, none⟩) hA.lt hS1).trans (hA.cell 0)) (hf.fr fr (hne _ _ hf)) x (fun b cs hb => ⟨cs, hb.fr fr (hne b cs hb)⟩)
  have hcon := AnyE.slices_DeleteFunc ldel encFP (fun x => by cases x <;> rfl) (isFP fb) 81 #[.pointer (some ⟨A, 0, none⟩)] eg (none : FlP w) hz g 0 cap l.toArray w hp hpo hH (by simp; unfold maxLen at hcm; omega) (by simp; omega)
  have e1 : l.toArray.size = n := by simp; omega
  rw [e1] at hcon
  refine hcon.mono ?_
  rintro e w' ⟨rfl, q, rfl⟩
  obtain ⟨fl, hfl⟩ : ∃ fl, (l.filter fun x => !isFP fb x) = fl := ⟨_, rfl⟩
  have hfe := hl2 fb
  have hle : fl.length ≤ n := by rw [← hfl]; have := List.length_filter_le (fun x => !isFP fb x) l; omega
  rw [hfl] at hfe
  have hfl2 : fl.length = (bs.filter fun b => !decide (b = fb)).length := by have := congrArg List.length hfe; simpa using this
  simp only [hfl]
  have hat := putRow_at encFP w q g 0 (fl ++ List.replicate (n - fl.length) (none : FlP w)).toArray hg
  refine ⟨_, rfl, ⟨by rw [← hfl2]; simp [← hfe], .inr ⟨g, cap, _, by rw [hfl2], rfl, hat, by omega, hcm, ?_, ?_⟩⟩, putRow_fr _ _ _ _ _ _⟩
  · simp only [Go.Sort.putCells, Array.size_mapIdx]; exact hcs
  · rw [← hfl2, Nat.mul_one, ← hfe]
    exact putCells_take encFP fl (List.replicate (n - fl.length) none) cur (by simp; omega)
end Go.Proofs.Yteojodcdehkejaa
/- A discipline by turns: out, of a flow that does not stand in the ring. -/
namespace Go.Proofs.Yteojodcdehkejaa
open Go Go.RowKit
attribute [local go_sem] calmQ_normal wide_fn wide_depth Oper.semAt_some run_store_func

set_option maxRecDepth 100000 in
set_option maxHeartbeats 4000000 in
theorem dout_no {w : World} {d : Dr} (h : Holds w d.chunks) {k : Nat} {f : Fl} (hf : d.fl[k]? = some f) (hb : ∀ j : Nat, d.ring[j]? ≠ some f.b) (hrl : d.ring.length ≤ 1048576) (hrw : ∀ b, b ∈ d.ring → ∃ (j : Nat) (g : Fl), d.fl[j]? = some g ∧ g.b = b) :
    Calls Try.prog 42 #[.pointer (some ⟨d.b, 0, none⟩), .pointer (some ⟨f.b, 0, none⟩)] w fun e w' => e = .returned (.tuple #[]) ∧ Sep w (Chunks.bs d.chunks) w' (d.setF k { f with df := 0 }).chunks := by
  have K0 := Lib.hid (Dr.inbox2 (Dr.inbox2 (Dr.inbox (Dr.set1 (pre := []) (by simpa using Sep.start h) hf { f with df := 0 } 4 (.int .i64 0) rfl rfl rfl) 22 [.pointer (some ⟨d.b, 0, none⟩)]) 89 [.pointer (some ⟨f.b, 0, none⟩)]) 87 [.pointer (some ⟨d.rb, 0, none⟩)])
  simp only [World.size_alloc, World.size_setCell] at K0
  have HF := Lib.hid hf
  have HBF := Lib.hid hb
  have HRW := Lib.hid hrw
  have hclt := Lib.hid h.lt
  have s4 : w.cell? ⟨f.b, 4, none⟩ = some (.int .i64 f.df) := (show Blk w f.b 95 f.cells from h.get (Dr.str_at hf)).cell 4
  have q4 := (show Blk w f.b 95 f.cells from h.get (Dr.str_at hf)).frz 4
  have lf := (show Blk w f.b 95 f.cells from h.get (Dr.str_at hf)).lt
  have b1 : w.cell? ⟨d.b, 1, none⟩ = some (.pointer (some ⟨d.rb, 0, none⟩)) := (show Blk w d.b 92 d.head from h.get (i := 0) rfl).cell 1
  have lb := (show Blk w d.b 92 d.head from h.get (i := 0) rfl).lt
  have nfd : f.b ≠ d.b := fun e => h.apart (i := 0) (j := 3 + k) (by omega) rfl (Dr.str_at hf) d.b (List.mem_singleton.2 rfl) (List.mem_singleton.2 e.symm)
  have ndf := Ne.symm nfd
  have l1 : w.heap.size < w.heap.size + 1 := by omega
  have lf1 : f.b < w.heap.size + 1 := by omega
  have lb1 : d.b < w.heap.size + 1 := by omega
  clear h hf hb hrw
  obtain ⟨infoFl, infoFl_is, infoFl_sz⟩ := infoFl_ex
  refine callsIn_wide.1 (callsIn_of_wp_marks (n := 0) (F := Fence.wide) Try.func42 rfl trivial ?_ rfl)
  simp only [Try.ntmps42, List.size_toArray, List.length_cons, List.length_nil, Nat.reduceAdd, Nat.reduceSub, Array.replicate_succ, Array.replicate_zero, List.push_toArray, List.append_toArray, List.nil_append, List.cons_append]
  gi_wp2_with (gi_at_call 46; refine (wideIn _ (all_q _ d.rb)).mono ?_; rintro er w' ⟨rfl, rfl⟩)
  obtain ⟨W, hW⟩ : ∃ W, ((((w.setCell ⟨f.b, 4, none⟩ (.int .i64 0)).alloc (.cells #[.pointer (some ⟨d.b, 0, none⟩)] 22)).alloc (.cells #[.pointer (some ⟨f.b, 0, none⟩)] 89)).alloc (.cells #[.pointer (some ⟨d.rb, 0, none⟩)] 87)) = W := ⟨_, rfl⟩
  obtain ⟨A, hA⟩ : ∃ A, w.heap.size = A := ⟨_, rfl⟩
  have KW : Hid (Sep w (Chunks.bs d.chunks) W ([Chunk.blk (A + 1 + 1) 87 [.pointer (some ⟨d.rb, 0, none⟩)], Chunk.blk (A + 1) 89 [.pointer (some ⟨f.b, 0, none⟩)], Chunk.blk A 22 [.pointer (some ⟨d.b, 0, none⟩)]] ++ (d.setF k { f with df := 0 }).chunks)) := by
    rw [← hW, ← hA]; exact K0.out
  have hclA : ∀ b, b ∈ Chunks.bs d.chunks → b < A := by rw [← hA]; exact hclt.out
  rw [hW, hA]
  clear hW hA K0 hclt s4 q4 lf b1 lb l1 lf1 lb1 nfd ndf
  have x0 : W.cell? ⟨A, 0, none⟩ = some (.pointer (some ⟨d.b, 0, none⟩)) := (KW.out.blk 2 rfl).cell 0
  have x1 : W.cell? ⟨A + 1, 0, none⟩ = some (.pointer (some ⟨f.b, 0, none⟩)) := (KW.out.blk 1 rfl).cell 0
  have x2 : W.cell? ⟨A + 1 + 1, 0, none⟩ = some (.pointer (some ⟨d.rb, 0, none⟩)) := (KW.out.blk 0 rfl).cell 0
  have hlW : A + 1 + 1 < W.heap.size := (KW.out.blk 0 rfl).lt
  obtain ⟨d2, hd2⟩ : ∃ d2 : Dr, Hid (d.setF k { f with df := 0 } = d2) := ⟨_, Lib.hid rfl⟩
  have hH : Holds W d2.chunks := by rw [← hd2.out]; exact KW.out.hs.right
  have hcl2 : ∀ b, b ∈ Chunks.bs d2.chunks → b < A := by
    have e : Chunks.bs d2.chunks = Chunks.bs d.chunks := by rw [← hd2.out]; exact Dr.bs_setF HF.out rfl rfl
    rw [e]; exact hclA
  have hring : Rgq W d.rb d.rds (d.ring.map some) := by have := hH.get (i := 2) rfl; rw [← hd2.out] at this; exact this
  have hseq := seq_q hring x2
  obtain ⟨J, hJ⟩ : ∃ J : List Nat → List (Option Nat × Nat) → World → Prop, Hid (J = fun S1 pre X => S1 = Chunks.bs d2.chunks ∧ Holds X d2.chunks) := ⟨_, Lib.hid rfl⟩
  have locJ : Loc W.heap.size J := by
    rw [hJ.out]
    rintro S1 pre X Y T ⟨rfl, hh⟩ fr ht
    exact ⟨rfl, hh.fr' fr (fun b hb hm => (ht b hm).2 hb)⟩
  refine wp_rangeF1 (gf := 83) (lb := #[.pointer (some ⟨A + 1 + 1, 0, none⟩)]) rfl (enters_of Try.func83 (by kernel_rfl) rfl) hseq (fun _ => rfl)
    J (fun _ _ _ _ => False) (Chunks.bs d2.chunks) (fun b hb => by have := hcl2 b hb; omega) locJ (fun _ _ _ _ _ _ h _ _ => h) (by rw [hJ.out]; exact ⟨rfl, hH⟩)
    (fun x => { tmps := #[.pointer (some ⟨d.b, 0, none⟩), .pointer (some ⟨f.b, 0, none⟩), .pointer (some ⟨A, 0, none⟩), .pointer (some ⟨A + 1, 0, none⟩), .int .i64 x.2, ptrV x.1, .pointer (some ⟨f.b, 0, none⟩), .pointer (some ⟨f.b, 0, none⟩), .pointer (some ⟨f.b, 4, none⟩), .pointer (some ⟨d.b, 0, none⟩), .pointer (some ⟨d.b, 0, none⟩), .pointer (some ⟨d.b, 1, none⟩), .pointer (some ⟨d.rb, 0, none⟩), .func (.func 83) #[] #[.pointer (some ⟨A + 1 + 1, 0, none⟩)], .int .i64 x.2, ptrV x.1, undef, undef, undef, undef, undef, undef, undef, undef, undef, undef, undef, undef, undef, undef], defers := [] })
    ?assign1 ?body1 ?done1 ?stop1
  case assign1 =>
    intro l x X K hK
    simp only [entq]
    gi_wp2
    exact hK
  case body1 =>
    rintro l pre x post S1 X hx hz hg hf hl hnl hr hj
    rw [hJ.out] at hj
    obtain ⟨rfl, hh⟩ := hj
    obtain ⟨bb, hbb, rfl⟩ := zipr hx
    have nA : A ∉ Chunks.bs d2.chunks := fun hm => by have := hcl2 _ hm; omega
    have nA1 : A + 1 ∉ Chunks.bs d2.chunks := fun hm => by have := hcl2 _ hm; omega
    have y0 := (hf.cell (p := ⟨A, 0, none⟩) (show A < W.heap.size by omega) nA).trans x0
    have y1 := (hf.cell (p := ⟨A + 1, 0, none⟩) (show A + 1 < W.heap.size by omega) nA1).trans x1
    have HH := Lib.hid hh
    have HX := Lib.hid hf
    have hAX : A + 1 < X.heap.size := by omega
    have hAX0 : A < X.heap.size := by omega
    clear hx hr hg hf hh x0 x1 x2
    simp only [ptrV, Option.map_some]
    have hne : bb ≠ f.b := fun e => HBF.out pre.length (by rw [hbb, e])
    obtain ⟨ca, hca⟩ : ∃ ca, Blk X bb 95 ca := by
      obtain ⟨j, g, hg, rfl⟩ := HRW.out bb (List.mem_of_getElem? hbb)
      obtain ⟨g', hg', hgb⟩ : ∃ g', d2.fl[j]? = some g' ∧ g'.b = g.b := by
        rw [← hd2.out]
        by_cases e : k = j
        · subst e
          have := HF.out
          rw [hg] at this; cases this
          exact ⟨_, Dr.setF_at hg _, rfl⟩
        · exact ⟨g, by simp only [Dr.setF]; rw [List.getElem?_set_ne e]; exact hg, rfl⟩
      rw [← hgb]
      exact ⟨_, HH.out.get (Dr.str_at hg')⟩
    have hfb : ∃ cb, Blk X f.b 95 cb := ⟨_, HH.out.get (Dr.str_at (d := d2) (k := k) (f := { f with df := 0 }) (by rw [← hd2.out]; exact Dr.setF_at HF.out _))⟩
    obtain ⟨cb, hcb⟩ := hfb
    have hbin : (binOp .eql 89 (.pointer (some ⟨bb, 0, none⟩)) (.pointer (some ⟨f.b, 0, none⟩))).run Try.prog X = .ok (.bool false) X :=
      run_eql_ptr_other X Try.underlying89 infoFl_is infoFl_sz (fun e => hne (congrArg Addr.block e)) hca hcb
    have hfin : ∃ S', Gr X (Chunks.bs d2.chunks) S' ∧ Fr (Chunks.bs d2.chunks) X X ∧ J S' (pre ++ [(some bb, pre.length)]) X := ⟨_, Gr.refl _ _, Fr.refl _ _, by rw [hJ.out]; exact ⟨rfl, HH.out⟩⟩
    have HFIN := Lib.hid hfin
    clear hfin hca hcb
    gi_wp2
    exact HFIN.out
  case done1 =>
    rintro D S' X hD hDS hg hf hj hKD
    rw [hJ.out] at hj
    obtain ⟨rfl, hh⟩ := hj
    have kw := (Dr.outbox KW.out)
    rw [hd2.out] at kw
    have k2 := Lib.hid (kw.next (Sep.ranged hf hg rfl hh hD hDS hKD))
    have HKK := Lib.hid hKD
    clear hg hf hh hKD kw hseq hring hH x0 x1 x2
    gi_wp2
    refine ⟨by simp, .inl ⟨_, _, rfl, run_takeDeferred HKK.out, ?_⟩⟩
    refine ⟨_, results_none rfl _ _ _, rfl, ?_⟩
    rw [hd2.out]
    exact k2.out.gone ((Fr.refl [D] _).putObj _ (.inl (by simp))) (fun b hb => by simpa [Chunks.bs, Chunk.mark] using hb)
  case stop1 =>
    rintro D c S' pre x post X hD hDS hg hf hx hj hKD
    exact hj.elim
end Go.Proofs.Yteojodcdehkejaa
/- The discipline's Turn. -/
namespace Go.Proofs.Yteojodcdehkejaa
open Go Go.RowKit
attribute [local go_sem] calmQ_normal wide_fn wide_depth Oper.semAt_some run_store_func

set_option maxRecDepth 100000 in
theorem dturn_no {w : World} {d : Dr} (h : Holds w d.chunks) (ht : d.turn = false) :
    Calls Try.prog 19 #[.pointer (some ⟨d.b, 0, none⟩)] w fun e w' => e = .returned (.tuple #[.agg #[.int .i64 0, .int .i64 0], .bool false]) ∧ Fr [] w w' := by
  have h2 : w.cell? ⟨d.b, 2, none⟩ = some (.bool d.turn) := (show Blk w d.b 92 d.head from h.get (i := 0) rfl).cell 2
  rw [ht] at h2
  have hl := (show Blk w d.b 92 d.head from h.get (i := 0) rfl).lt
  clear h
  go_enter Try.func19, Try.ntmps19
  go_wp2_with fail
  exact bodyPost_ret (v := .tuple #[.agg #[.int .i64 0, .int .i64 0], .bool false]) (by simp [results, Try.results19, go_sem]) rfl ⟨rfl, (Fr.refl [] w).alloc _⟩
set_option maxRecDepth 100000 in
theorem dturn_yes {w : World} {d : Dr} (h : Holds w d.chunks) (ht : d.turn = true) {k : Nat} {f : Fl} (hk : d.fl[k]? = some f) {rest : List Nat} (hr : d.ring = f.b :: rest) :
    Calls Try.prog 19 #[.pointer (some ⟨d.b, 0, none⟩)] w fun e w' => e = .returned (.tuple #[.agg #[.int .i64 f.slot, .int .i64 f.gen], .bool true]) ∧ Fr [] w w' := by
  have hB : Blk w d.b 92 d.head := h.get (i := 0) rfl
  have h1 : w.cell? ⟨d.b, 1, none⟩ = some (.pointer (some ⟨d.rb, 0, none⟩)) := hB.cell 1
  have h2 : w.cell? ⟨d.b, 2, none⟩ = some (.bool d.turn) := hB.cell 2
  rw [ht] at h2
  have hl := hB.lt
  have hS : Blk w f.b 95 f.cells := h.get (Dr.str_at hk)
  have s0 : w.cell? ⟨f.b, 0, none⟩ = some (.int .i64 f.slot) := hS.cell 0
  have s1 : w.cell? ⟨f.b, 1, none⟩ = some (.int .i64 f.gen) := hS.cell 1
  have hfl := hS.lt
  have hring : Rgq w d.rb d.rds (some f.b :: rest.map some) := by have := h.get (i := 2) rfl; rw [hr] at this; exact this
  have hfront := Lib.hid (fun X (fX : Fr [] w X) => front_q (hring.fr fX (by simp)))
  clear h hB hS hring
  go_enter Try.func19, Try.ntmps19
  go_wp2_with fail
  refine (hfront.out _ ((Fr.refl [] w).alloc _)).mono ?_
  rintro e w1 ⟨rfl, nn, rfl⟩
  have e0 : ptrV (some f.b) = .pointer (some ⟨f.b, 0, none⟩) := rfl
  rw [e0]
  clear e0
  go_wp2
  exact bodyPost_ret (v := .tuple #[.agg #[.int .i64 f.slot, .int .i64 f.gen], .bool true]) (by simp [results, Try.results19, go_sem]) rfl ⟨rfl, by (repeat (first | assumption | exact Fr.refl _ _ | refine Fr.alloc ?_ _ | refine Fr.drewN ?_ _ | refine Fr.drew ?_ | (refine Fr.setCell ?_ _ (by simp))))⟩
end Go.Proofs.Yteojodcdehkejaa
/- The discipline's Evict of a flow's last packet. -/
namespace Go.Proofs.Yteojodcdehkejaa
open Go Go.RowKit
attribute [local go_sem] calmQ_normal wide_fn wide_depth Oper.semAt_some run_store_func

/-- a flow without its last packet -/
def Fl.less (f : Fl) (v : P6) (qs : List P6) : Fl := { f with q := qs, by_ := f.by_ - v.f3 }
def Dr.less (d : Dr) (k : Nat) (f : Fl) (v : P6) (qs : List P6) : Dr := { d.setF k (f.less v qs) with n := d.n - 1 }
set_option maxRecDepth 100000 in
set_option maxHeartbeats 4000000 in
theorem devict {w : World} {d : Dr} (h : Holds w d.chunks) {p : P6} {k : Nat} {f : Fl} (hl : d.look p.f0 p.f1 = some k) (hf : d.fl[k]? = some f) {v : P6} {qs : List P6} (hq : f.q = qs ++ [v]) (hs : p.f4 = v.f4)
    (hv : 0 ≤ v.f3) (hby : v.f3 ≤ f.by_) (hby1 : f.by_ ≤ 1125899906842624) (hn1 : 1 ≤ d.n) (hn2 : d.n ≤ 1125899906842624)
    {i : Nat} (hi : d.ring[i]? = some f.b) (hb : ∀ j, j < i → d.ring[j]? ≠ some f.b) (hrl : d.ring.length ≤ 1048576) (hrw : ∀ b, b ∈ d.ring → ∃ (j : Nat) (g : Fl), d.fl[j]? = some g ∧ g.b = b) :
    Calls Try.prog 43 #[.pointer (some ⟨d.b, 0, none⟩), aggp6 p] w fun e w' => e = .returned (.int .i64 0) ∧ ∃ rds, Sep w (Chunks.bs d.chunks) w' (if qs = [] then (d.less k f v qs).outed k (f.less v qs) i rds else d.less k f v qs).chunks := by
  have hfind := Lib.hid (fun X (fX : Fr [] w X) => dfind (h.fr' fX (by simp)) p.f0 p.f1)
  have hp : d.ptr (d.look p.f0 p.f1) = .pointer (some ⟨f.b, 0, none⟩) := by simp [Dr.ptr, hl, hf]
  have K0 := Lib.hid (Dr.inbox (Sep.start h) 34 (encP6 p))
  have HF := Lib.hid hf
  have HI := Lib.hid hi
  have HB := Lib.hid hb
  have HRW := Lib.hid hrw
  have HQ := Lib.hid hq
  have HS := Lib.hid hs
  have hw2 := Lib.hid (sub_w2 hv hby hby1)
  have hw3 := Lib.hid (sub_w2 (show (0 : Int) ≤ 1 by omega) hn1 hn2)
  clear h hl hf hi hb hrw hq hs
  go_enter Try.func43, Try.ntmps43
  go_wp2_with fail
  obtain ⟨PB, hPB⟩ : ∃ PB, w.heap.size = PB := ⟨_, rfl⟩
  refine (hfind.out _ ((Fr.refl [] w).alloc _)).mono ?_
  rw [hp]
  rintro er w1 ⟨rfl, f1⟩
  have K1 := Lib.hid (K0.out.same f1)
  rw [hPB] at K1
  have s5 : w1.cell? ⟨f.b, 5, none⟩ = some (.pointer (some ⟨f.r, 0, none⟩)) := (Dr.strs K1.out HF.out).cell 5
  have lf := (Dr.strs K1.out HF.out).lt
  have hque : Rgp6 w1 f.r f.ds (qs ++ [v]) := by have := Dr.ques K1.out HF.out; rw [HQ.out] at this; exact this
  have hback := Lib.hid (back_p6 hque)
  clear f1 K0 hfind hp hque
  go_wp2_with fail
  refine hback.out.mono ?_
  rintro er w2 ⟨rfl, f2⟩
  have K2 := Lib.hid (K1.out.same f2)
  have K3 := Lib.hid (Dr.inbox2 K2.out 34 (encP6 v))
  clear s5 lf hback f2
  obtain ⟨VB, hVB⟩ : ∃ VB, w2.heap.size = VB := ⟨_, rfl⟩
  have y4 : w2.cell? ⟨PB, 4, none⟩ = some (.int .i64 v.f4) := by rw [← HS.out]; exact (K2.out.blk 0 rfl).cell 4
  have lPB : PB < VB := by rw [← hVB]; exact (K2.out.blk 0 rfl).lt
  have s5 : w2.cell? ⟨f.b, 5, none⟩ = some (.pointer (some ⟨f.r, 0, none⟩)) := (Dr.strs K2.out HF.out).cell 5
  have lf : f.b < VB := by rw [← hVB]; exact (Dr.strs K2.out HF.out).lt
  rw [hVB] at K3
  have hque : Rgp6 (w2.alloc (.cells (encP6 v).toArray 34)) f.r f.ds (qs ++ [v]) := by have := Dr.ques K3.out HF.out; rw [HQ.out] at this; exact this
  have hpop := Lib.hid (popB_p6 hque)
  clear hque K1 K2
  go_wp2_with fail
  refine hpop.out.mono ?_
  rintro er w3 ⟨rfl, hr3, f3⟩
  have K4 := Lib.hid (Dr.que1 K3.out HF.out hr3 f3 (Gr.refl _ _))
  clear hpop hr3 f3 K3 y4 lPB s5 lf hVB
  obtain ⟨fA, hfA⟩ : ∃ fA : Fl, Hid (({ f with q := qs, ds := f.ds } : Fl) = fA) := ⟨_, Lib.hid rfl⟩
  have hAb : fA.b = f.b := by rw [← hfA.out]
  have hA5 : fA.r = f.r := by rw [← hfA.out]
  have hA6 : fA.by_ = f.by_ := by rw [← hfA.out]
  rw [hfA.out] at K4
  have HA := Lib.hid (Dr.setF_at HF.out fA)
  have t5 : w3.cell? ⟨f.b, 5, none⟩ = some (.pointer (some ⟨f.r, 0, none⟩)) := by
    have := (Dr.strs K4.out HA.out).cell 5
    rw [← hAb, ← hA5]; exact this
  have t6 : w3.cell? ⟨f.b, 6, none⟩ = some (.int .i64 f.by_) := by
    have := (Dr.strs K4.out HA.out).cell 6
    rw [← hAb, ← hA6]; exact this
  have q6 : w3.frozen? ⟨f.b, 6, none⟩ = false := by rw [← hAb]; exact (Dr.strs K4.out HA.out).frz 6
  have lf3 : f.b < w3.heap.size := by rw [← hAb]; exact (Dr.strs K4.out HA.out).lt
  have y3 : w3.cell? ⟨VB, 3, none⟩ = some (.int .i64 v.f3) := (K4.out.blk 0 rfl).cell 3
  have u5 : w3.cell? ⟨d.b, 5, none⟩ = some (.int .i64 d.n) := (Dr.hds K4.out).cell 5
  have r5 : w3.frozen? ⟨d.b, 5, none⟩ = false := (Dr.hds K4.out).frz 5
  have ld3 : d.b < w3.heap.size := (Dr.hds K4.out).lt
  have nfd : f.b ≠ d.b := fun e => (Dr.here K4.out).apart (i := 0) (j := 3 + k) (by omega) rfl (Dr.str_at HA.out) d.b (List.mem_singleton.2 rfl) (List.mem_singleton.2 (by rw [← e]; exact hAb.symm))
  have ndf := Ne.symm nfd
  go_wp2
  refine wp_region_quiet_tail 9 (by kernel_rfl) (by kernel_rfl) ?_
  simp only [List.take_succ_cons, List.take_zero, List.drop_succ_cons, List.drop_zero]
  repeat (first | go_big_quiet_step (fail) | quiet_step (fail))
  refine wpQuiet_nil ?_
  rintro _ ⟨nq, rfl⟩
  go_wp2_with fail
  obtain ⟨d5, hd5⟩ : ∃ d5 : Dr, Hid (d.less k f v qs = d5) := ⟨_, Lib.hid rfl⟩
  obtain ⟨W4, hW4⟩ : ∃ W4, ((w3.drewN nq).setCell ⟨f.b, 6, none⟩ (.int .i64 (f.by_ - v.f3))).setCell ⟨d.b, 5, none⟩ (.int .i64 (d.n - 1)) = W4 := ⟨_, rfl⟩
  have K6 : Hid (Sep w (Chunks.bs d.chunks) W4 ((Chunk.blk VB 34 (encP6 v) :: [Chunk.blk PB 34 (encP6 p)]) ++ d5.chunks)) := by
    have k1 := Dr.set1 (K4.out.drewN nq) HA.out { fA with by_ := f.by_ - v.f3 } 6 (.int .i64 (f.by_ - v.f3)) rfl rfl rfl
    rw [Dr.setF_setF] at k1
    have k2 := Dr.hd1 k1 { d.setF k { fA with by_ := f.by_ - v.f3 } with n := d.n - 1 } 5 (.int .i64 (d.n - 1)) rfl
    have e : ({ d.setF k { fA with by_ := f.by_ - v.f3 } with n := d.n - 1 } : Dr) = d5 := by
      rw [← hd5.out, ← hfA.out]; rfl
    rw [e] at k2
    rw [← hW4, ← hAb]
    exact k2
  rw [hW4]
  clear hW4 K4 t5 t6 q6 lf3 y3 u5 r5 ld3 nfd ndf HA
  have hS5 : Hid (d5.fl[k]? = some (f.less v qs)) := by rw [← hd5.out]; exact Lib.hid (Dr.setF_at HF.out _)
  have hque5 := Dr.ques K6.out hS5.out
  refine (len_p6 (show Rgp6 W4 f.r f.ds qs from hque5)).mono ?_
  rintro er w4 ⟨rfl, hw4⟩
  rw [hw4]
  clear hw4 hque5
  have hrw5 : ∀ b, b ∈ d5.ring → ∃ (j : Nat) (g : Fl), d5.fl[j]? = some g ∧ g.b = b := by
    rw [← hd5.out]
    intro b hb
    obtain ⟨j, g, hg, e⟩ := HRW.out b hb
    by_cases hj : k = j
    · subst hj
      have := HF.out
      rw [hg] at this
      cases this
      exact ⟨_, _, Dr.setF_at HF.out _, e⟩
    · exact ⟨j, g, by show (d.fl.set k _)[j]? = _; rw [List.getElem?_set_ne hj]; exact hg, e⟩
  have hout := Lib.hid (dout K6.out.hs.right hS5.out (i := i) (by rw [← hd5.out]; exact HI.out) (by rw [← hd5.out]; exact HB.out) (by rw [← hd5.out]; exact hrl) hrw5)
  have e51 : d5.b = d.b := by rw [← hd5.out]; rfl
  have e52 : (f.less v qs).b = f.b := rfl
  rw [e51, e52] at hout
  clear hrw5 e51 e52
  by_cases hqs : qs = []
  · have hz : ((qs.length : Int) == 0) = true := by rw [hqs]; rfl
    have hqs' := Lib.hid hqs
    clear hqs
    go_wp2_with fail
    refine hout.out.mono ?_
    rintro er w5 ⟨rfl, rds2, k5⟩
    have K7 := Lib.hid (Dr.call K6.out k5)
    clear k5 hout
    go_wp2
    go_ret
    have e := hqs'.out
    subst e
    exact ⟨rfl, rds2, by rw [hd5.out]; exact Dr.outbox K7.out⟩
  · have hz : ((qs.length : Int) == 0) = false := by rw [beq_eq_false_iff_ne]; have := mt List.eq_nil_of_length_eq_zero hqs; omega
    have hqs' := Lib.hid hqs
    clear hqs hout
    go_wp2
    go_ret
    exact ⟨rfl, by rw [hd5.out]; exact Dr.outbox K6.out⟩
end Go.Proofs.Yteojodcdehkejaa
/- The discipline's Next where nothing waits. -/
namespace Go.Proofs.Yteojodcdehkejaa
open Go Go.RowKit
attribute [local go_sem] calmQ_normal wide_fn wide_depth Oper.semAt_some run_store_func

theorem Dr.choose0 {w0 w w' : World} {S0 : List Nat} {pre : List Chunk} {d : Dr} {ri : List Nat} {rds : List Nat} (K : Sep w0 S0 w (pre ++ d.chunks)) (hri : d.ring = blocksOf d.fl ri)
    (k : Sep w (Chunks.bs (d.cch ri)) w' (({ d with rds := rds } : Dr).cch ri)) : Sep w0 S0 w' (pre ++ ({ d with rds := rds } : Dr).chunks) := by
  have e1 : d.chunks = [CHd d, CFs d, CRingq d.rb d.rds (blocksOf d.fl ri)] ++ (d.fl.map CStr ++ d.fl.map CQ) := by unfold Dr.chunks; rw [hri]
  have e2 : d.cch ri = [CHd d, CRingq d.rb d.rds (blocksOf d.fl ri)] ++ (d.fl.map CStr ++ d.fl.map CQ) := rfl
  rw [e1] at K
  have K2 := K.perm (perm_split _ _ _ _ _)
  rw [← e2] at K2
  have K3 := Sep.frame K2 k
  have e3 : (({ d with rds := rds } : Dr).cch ri) = [CHd d, CRingq d.rb rds (blocksOf d.fl ri)] ++ (d.fl.map CStr ++ d.fl.map CQ) := rfl
  rw [e3] at K3
  have K4 := K3.perm (perm_split (CHd d) (CFs d) (CRingq d.rb rds (blocksOf d.fl ri)) (d.fl.map CStr ++ d.fl.map CQ) pre).symm
  have e5 : ({ d with rds := rds } : Dr).chunks = [CHd d, CFs d, CRingq d.rb rds (blocksOf d.fl ri)] ++ (d.fl.map CStr ++ d.fl.map CQ) := by
    unfold Dr.chunks
    show [CHd d, CFs d, CRingq d.rb rds d.ring] ++ _ = _
    rw [hri]
  rw [e5]
  exact K4
set_option maxRecDepth 100000 in
set_option maxHeartbeats 4000000 in
theorem dnext_no {w : World} {d : Dr} (h : Holds w d.chunks) (hr : d.ring = []) (t : Int) :
    Calls Try.prog 14 #[.pointer (some ⟨d.b, 0, none⟩), .int .i64 t] w fun e w' => e = .returned (.tuple #[aggp6 zerop6, .bool false]) ∧ ∃ rds, Sep w (Chunks.bs d.chunks) w' ({ d with rds := rds } : Dr).chunks := by
  have hri : d.ring = blocksOf d.fl [] := by rw [hr]; rfl
  have hch := Lib.hid (fun X (fX : Fr [] w X) => dchoose (Dr.cch_holds (h.fr' fX (by simp)) hri) (fun i hi => by simp at hi) (by simp) (by simp))
  have K0 := Lib.hid (Dr.inbox (Sep.start h) 34 (encP6 zerop6))
  have HRI := Lib.hid hri
  clear h hr hri
  go_enter Try.func14, Try.ntmps14
  go_wp2_with fail
  refine (hch.out _ ((Fr.refl [] w).alloc _)).mono ?_
  rintro er w1 (⟨_, rfl, rds, ks⟩ | ⟨fl, tt, i, rest, f, rds, htr, _⟩)
  · have K1 := Lib.hid (Dr.choose0 K0.out HRI.out ks)
    clear ks hch K0 HRI
    have BR : Blk w1 w.heap.size 34 (encP6 zerop6) := K1.out.blk 0 rfl
    go_wp2_with (refine wpList_store_S rfl _ (.tmp 4) (.tmp 13) rfl w.heap.size 0 34 (encP6 zerop6) (encP6 zerop6) rfl rfl BR (by kernel_rfl) (by simp [encP6]) (fun u hu => one_p6 [zerop6] u (by simpa using hu)) ?_; intro w6 b6 f6 z6; have K8 := Lib.hid (K1.out.call1' 0 rfl (Sep.of_one (c := Chunk.blk w.heap.size 34 _) f6 b6 (Gr.refl _ _))); clear b6 f6 z6)
    have R := K8.out.blk 0 rfl
    have x0 : w6.cell? ⟨w.heap.size, 0, none⟩ = some (.int .i64 0) := R.cell 0
    have x1 : w6.cell? ⟨w.heap.size, 1, none⟩ = some (.int .i64 0) := R.cell 1
    have x2 : w6.cell? ⟨w.heap.size, 2, none⟩ = some (.int .i64 0) := R.cell 2
    have x3 : w6.cell? ⟨w.heap.size, 3, none⟩ = some (.int .i64 0) := R.cell 3
    have x4 : w6.cell? ⟨w.heap.size, 4, none⟩ = some (.int .i64 0) := R.cell 4
    have x5 : w6.cell? ⟨w.heap.size, 5, none⟩ = some (.int .i64 0) := R.cell 5
    exact bodyPost_ret (v := .tuple #[aggp6 zerop6, .bool false]) (by simp [results, Try.results14, go_sem, x0, x1, x2, x3, x4, x5, aggp6, zerop6]) rfl ⟨rfl, rds, Dr.outbox (pre := [Chunk.blk w.heap.size 34 _]) K8.out⟩
  · have := htr.len
    simp at this
end Go.Proofs.Yteojodcdehkejaa
/- The discipline's Ring: the handles of the flows that wait. -/
namespace Go.Proofs.Yteojodcdehkejaa
open Go Go.RowKit
attribute [local go_sem] calmQ_normal wide_fn wide_depth Oper.semAt_some run_store_func

set_option maxHeartbeats 400000 in
theorem clip_h {w : World} {v : Value} {n : Nat} {ys : List Value} {S : List Nat} (h : OwnS w 26 2 v n ys S) (hn : n ≤ 1073741824) :
    Calls Try.prog 47 #[v] w fun e w' => ∃ v', e = .returned v' ∧ OwnS w 26 2 v' n ys S ∧ w' = w := by
  obtain ⟨hl, ⟨rfl, rfl, rfl⟩ | ⟨g, cap, cur, rfl, rfl, hg, hnc, hcm, hcs, ht⟩⟩ := h
  · go_enter Try.func47, Try.ntmps47
    go_wp2
    go_ret
    exact ⟨_, rfl, ⟨hl, .inl ⟨rfl, rfl, rfl⟩⟩, rfl⟩
  · have H : Hid (OwnS w 26 2 (.slice (some ⟨g, 0, none⟩) n n) n ys [g]) := ⟨hl, .inr ⟨g, n, cur, rfl, rfl, hg, Nat.le_refl _, by omega, by omega, ht⟩⟩
    clear hg hl ht hcs hcm
    go_enter Try.func47, Try.ntmps47
    go_wp2
    go_ret
    exact ⟨_, rfl, H.out, rfl⟩
theorem infoHd : (Try.prog.info? 26).map (fun i => (i.zero, i.size, i.bytes)) = some (some (.agg #[.int .i64 0, .int .i64 0]), 2, 16) := by kernel_rfl
/-- the handle of flow i -/
def hnd (fl : List Fl) (i : Nat) : Int × Int := match fl[i]? with
  | some f => (f.slot, f.gen)
  | none => (0, 0)
def encHd (x : Int × Int) : List Value := [.int .i64 x.1, .int .i64 x.2]
def hcells (fl : List Fl) (ri : List Nat) : List Value := (ri.map (hnd fl)).flatMap encHd
set_option maxHeartbeats 1000000 in
set_option maxRecDepth 100000 in
theorem dring {w : World} {d : Dr} (h : Holds w d.chunks) {ri : List Nat} (hri : d.ring = blocksOf d.fl ri) (hfl : ∀ i, i ∈ ri → ∃ f, d.fl[i]? = some f) (hrl : ri.length ≤ 1048576) :
    Calls Try.prog 18 #[.pointer (some ⟨d.b, 0, none⟩)] w fun e w' => ∃ v S, e = .returned v ∧ OwnS w' 26 2 v ri.length (hcells d.fl ri) S ∧ Gr w [] S ∧ Fr [] w w' := by
  obtain ⟨i0, hi, hz0, hz1, hz2⟩ := info_parts infoHd
  have K0 := Lib.hid (Dr.inbox2 (Dr.inbox (Sep.start h) 55 [.slice none 0 0]) 87 [.pointer (some ⟨d.rb, 0, none⟩)])
  simp only [World.size_alloc] at K0
  have HRI := Lib.hid hri
  have HFL := Lib.hid hfl
  have hclt := Lib.hid h.lt
  have b1 : w.cell? ⟨d.b, 1, none⟩ = some (.pointer (some ⟨d.rb, 0, none⟩)) := (show Blk w d.b 92 d.head from h.get (i := 0) rfl).cell 1
  have lb := (show Blk w d.b 92 d.head from h.get (i := 0) rfl).lt
  have hflt := Lib.hid (fun (i : Nat) (f : Fl) (hf : d.fl[i]? = some f) => (show Blk w f.b 95 f.cells from h.get (Dr.str_at hf)).lt)
  clear h hri hfl
  refine callsIn_wide.1 (callsIn_of_wp_marks (n := 0) (F := Fence.wide) Try.func18 rfl trivial ?_ rfl)
  simp only [Try.ntmps18, List.size_toArray, List.length_cons, List.length_nil, Nat.reduceAdd, Nat.reduceSub, Array.replicate_succ, Array.replicate_zero, List.push_toArray, List.append_toArray, List.nil_append, List.cons_append]
  gi_wp2_with (gi_at_call 46; refine (wideIn _ (all_q _ d.rb)).mono ?_; rintro er w' ⟨rfl, rfl⟩)
  obtain ⟨W, hW⟩ : ∃ W, ((w.alloc (.cells #[.slice none 0 0] 55)).alloc (.cells #[.pointer (some ⟨d.rb, 0, none⟩)] 87)) = W := ⟨_, rfl⟩
  obtain ⟨A, hA⟩ : ∃ A, w.heap.size = A := ⟨_, rfl⟩
  have KW : Hid (Sep w (Chunks.bs d.chunks) W ([Chunk.blk (A + 1) 87 [.pointer (some ⟨d.rb, 0, none⟩)], Chunk.blk A 55 [.slice none 0 0]] ++ d.chunks)) := by
    rw [← hW, ← hA]; exact K0.out
  have hclA : ∀ b, b ∈ Chunks.bs d.chunks → b < A := by rw [← hA]; exact hclt.out
  have fW : Hid (Fr [] w W) := by rw [← hW]; exact Lib.hid (((Fr.refl [] w).alloc _).alloc _)
  have hzW : W.heap.size = A + 2 := by rw [← hW, ← hA]; simp
  rw [hA] at hflt
  rw [hW, hA]
  clear hW K0 hclt b1 lb
  have x1 : W.cell? ⟨A + 1, 0, none⟩ = some (.pointer (some ⟨d.rb, 0, none⟩)) := (KW.out.blk 0 rfl).cell 0
  have hH : Holds W d.chunks := KW.out.hs.right
  have hring : Rgq W d.rb d.rds (d.ring.map some) := hH.get (i := 2) rfl
  have hseq := seq_q hring x1
  have hB0 : Blk W A 55 [.slice none 0 0] := KW.out.blk 1 rfl
  obtain ⟨J, hJ⟩ : ∃ J : List Nat → List (Option Nat × Nat) → World → Prop, Hid (J = fun S1 pre X => ∃ v S2, S1 = A :: S2 ∧ A ∉ S2 ∧ Blk X A 55 [v] ∧ OwnS X 26 2 v pre.length (hcells d.fl (ri.take pre.length)) S2) := ⟨_, Lib.hid rfl⟩
  have locJ : Loc W.heap.size J := by
    rw [hJ.out]
    rintro S1 pre X Y T ⟨v, S2, rfl, hn, hb, ho⟩ fr ht
    exact ⟨v, S2, rfl, hn, hb.fr fr (fun hm => (ht _ hm).2 (by simp)), ho.fr fr (fun b hb hm => (ht _ hm).2 (by simp [hb]))⟩
  refine wp_rangeF1 (gf := 83) (lb := #[.pointer (some ⟨A + 1, 0, none⟩)]) rfl (enters_of Try.func83 (by kernel_rfl) rfl) hseq (fun _ => rfl)
    J (fun _ _ _ _ => False) [A] (by simp; omega) locJ (fun _ _ _ _ _ _ h _ _ => h) (by rw [hJ.out]; exact ⟨_, [], rfl, by simp, hB0, OwnS.nil _ _ _⟩)
    (fun x => { tmps := #[.pointer (some ⟨d.b, 0, none⟩), undef, .slice none 0 0, .pointer (some ⟨A, 0, none⟩), undef, ptrV x.1, .pointer (some ⟨d.b, 0, none⟩), .pointer (some ⟨d.b, 0, none⟩), .pointer (some ⟨d.b, 1, none⟩), .pointer (some ⟨d.rb, 0, none⟩), .func (.func 83) #[] #[.pointer (some ⟨A + 1, 0, none⟩)], .int .i64 x.2, ptrV x.1, undef, undef, undef, undef, undef, undef, undef, undef, undef], defers := [] })
    ?assign1 ?body1 ?done1 ?stop1
  case assign1 =>
    intro l x X K hK
    simp only [entq]
    gi_wp2
    exact hK
  case body1 =>
    rintro l pre x post S1 X hx hz hg hf hl hnl hr hj
    rw [hJ.out] at hj
    obtain ⟨v, S2, rfl, hnS, hb, ho⟩ := hj
    obtain ⟨bb, hbb, rfl⟩ := zipr hx
    have hpl : pre.length < ri.length := by
      have := some_lt hbb
      rw [HRI.out] at this
      simpa [blocksOf] using this
    obtain ⟨i, hik⟩ : ∃ i, ri[pre.length]? = some i := ⟨ri[pre.length], by simp [hpl]⟩
    obtain ⟨f, hfi⟩ := HFL.out i (List.mem_of_getElem? hik)
    have hbf : bb = f.b := by
      have := hbb
      rw [HRI.out] at this
      simp [blocksOf, List.getElem?_map, hik, hfi] at this
      exact this.symm
    subst hbf
    have hlt := hflt.out i f hfi
    have hS : Blk W f.b 95 f.cells := hH.get (Dr.str_at hfi)
    have y0 : X.cell? ⟨f.b, 0, none⟩ = some (.int .i64 f.slot) := (hf.cell (p := ⟨f.b, 0, none⟩) hS.lt (by simp; omega)).trans (hS.cell 0)
    have y1 : X.cell? ⟨f.b, 1, none⟩ = some (.int .i64 f.gen) := (hf.cell (p := ⟨f.b, 1, none⟩) hS.lt (by simp; omega)).trans (hS.cell 1)
    have hc0 : X.cell? ⟨A, 0, none⟩ = some v := by simpa using hb.cell 0
    have HX := Lib.hid hx
    have hM : Hid (∀ Y, Fr S2 X Y → Y.cell? ⟨A, 0, none⟩ = some v ∧ Y.cell? ⟨f.b, 0, none⟩ = some (.int .i64 f.slot) ∧ Y.cell? ⟨f.b, 1, none⟩ = some (.int .i64 f.gen)) := by
      refine Lib.hid (fun Y fr => ?_)
      have hfS : f.b ∉ S2 := fun hm => by
        rcases hg f.b (by simp [hm]) with h | h
        · simp at h; omega
        · omega
      have hlX : f.b < X.heap.size := by omega
      exact ⟨by simpa using (hb.fr fr hnS).cell 0, (fr.cell (p := ⟨f.b, 0, none⟩) hlX hfS).trans y0, (fr.cell (p := ⟨f.b, 1, none⟩) hlX hfS).trans y1⟩
    clear hx hr hS hl hnl
    simp only [ptrV, Option.map_some]
    gi_wp2_with fail
    refine wpIn_T [7] (fun Y => Y.cell? ⟨A, 0, none⟩ = some v ∧ Y.cell? ⟨f.b, 0, none⟩ = some (.int .i64 f.slot) ∧ Y.cell? ⟨f.b, 1, none⟩ = some (.int .i64 f.gen)) (by kernel_rfl) (by kernel_rfl) (fun hC => ?_) (hM.out _ (Fr.refl _ _).drew)
    refine wpAnyT_takeC' 0 (by kernel_rfl) (fun _ _ _ h => h) (by assumption) (by rfl) (fun w hSw => by simp only [List.getD_cons_zero]; (try dsimp only at hSw); go_simp; try with_reducible rfl) ?_
    try simp only [List.getD_cons_zero, Act.put, List.setIfInBounds_toArray, List.set_cons_zero, List.set_cons_succ]
    refine wpAnyT_takeC' 1 (by kernel_rfl) (fun _ _ _ h => h) (by assumption) (by rfl) (fun w hSw => by simp only [List.getD_cons_succ, List.getD_cons_zero]; (try dsimp only at hSw); go_simp; try with_reducible rfl) ?_
    try simp only [List.getD_cons_succ, List.getD_cons_zero, Act.put, List.setIfInBounds_toArray, List.set_cons_zero, List.set_cons_succ]
    refine wpAnyT_takeC' 2 (by kernel_rfl) (fun _ _ _ h => h) (by assumption) (by rfl) (fun w hSw => by simp only [List.getD_cons_succ, List.getD_cons_zero]; (try dsimp only at hSw); go_simp; try with_reducible rfl) ?_
    try simp only [List.getD_cons_succ, List.getD_cons_zero, Act.put, List.setIfInBounds_toArray, List.set_cons_zero, List.set_cons_succ]
    refine wpAnyT_takeC' 3 (by kernel_rfl) (fun _ _ _ h => h) (by assumption) (by rfl) (fun w hSw => by simp only [List.getD_cons_succ, List.getD_cons_zero]; (try dsimp only at hSw); go_simp; try with_reducible rfl) ?_
    try simp only [List.getD_cons_succ, List.getD_cons_zero, Act.put, List.setIfInBounds_toArray, List.set_cons_zero, List.set_cons_succ]
    refine wpAnyT_takeC' 4 (by kernel_rfl) (fun _ _ _ h => h) (by assumption) (by rfl) (fun w hSw => by simp only [List.getD_cons_succ, List.getD_cons_zero]; (try dsimp only at hSw); go_simp; try with_reducible rfl) ?_
    try simp only [List.getD_cons_succ, List.getD_cons_zero, Act.put, List.setIfInBounds_toArray, List.set_cons_zero, List.set_cons_succ]
    refine wpAnyT_one' 5 (by kernel_rfl) (by rfl) (fun K hK => ?_)
    simp only [List.getD_cons_succ, List.getD_cons_zero]
    go_simp
    obtain ⟨Z, hZ⟩ : ∃ Z, (X.alloc (.cells #[.int .i64 f.slot, .int .i64 f.gen] 26)).drew = Z := ⟨_, rfl⟩
    have fZ : Fr S2 X Z := by rw [← hZ]; exact ((Fr.refl _ _).alloc _).drew
    have f0Z : Fr [] X Z := by rw [← hZ]; exact ((Fr.refl _ _).alloc _).drew
    have oZ : OwnS Z 26 2 v pre.length (hcells d.fl (ri.take pre.length)) S2 := ho.fr f0Z (by simp)
    have bZ : Blk Z X.heap.size 26 [.int .i64 f.slot, .int .i64 f.gen] := by
      rw [← hZ]
      exact (Blk.new X 26 [.int .i64 f.slot, .int .i64 f.gen]).fr (Fr.refl [] _).drew (by simp)
    have bA : Blk Z A 55 [v] := hb.fr f0Z (by simp)
    refine hK.out _ _ (by rw [hZ]; exact hM.out _ fZ) ?_
    rw [hZ]
    clear hK hC hZ
    have hC := hM.out _ fZ
    try simp only [Act.put, List.setIfInBounds_toArray, List.set_cons_zero, List.set_cons_succ]
    refine wpAnyT_one' 6 (by kernel_rfl) (by rfl) (fun K hK => ?_)
    simp only [List.getD_cons_succ, List.getD_cons_zero]
    refine oper_append_S _ (.tmp 13) (.tmp 18) 55 rfl 26 i0 (.agg #[.int .i64 0, .int .i64 0]) 2 16 Try.underlying55 hi hz0 hz1 hz2 rfl _ _ _ _ rfl oZ ⟨X.heap.size, 0, none⟩ 1 1 [.int .i64 f.slot, .int .i64 f.gen] rfl rfl bZ.news (fun u hu => by simp at hu; rcases hu with rfl | rfl <;> rfl) (by unfold maxLen; omega) (by omega) ?_
    intro v8 Z4 S8 o8 g8 f8
    obtain ⟨va8, vc8, rfl⟩ := o8.val
    have lZ : A < Z.heap.size := bA.lt
    have lX : X.heap.size ≤ Z.heap.size := fZ.size
    have hnS8 : A ∉ S8 := g8.notMem lZ hnS
    have bA4 : Blk Z4 A 55 [v] := bA.fr f8 hnS
    have f4 : Fr S2 X Z4 := fZ.trans (Gr.refl _ _) f8
    refine hK.out _ _ (hM.out _ f4) ?_
    clear hK hC
    have hC := hM.out _ f4
    have h40 := hC.1
    have q0 := bA4.frz 0
    have l4 := bA4.lt
    have bset := bA4.set 0 (.slice va8 (pre.length + 1) vc8)
    have hfin : Hid (postF J (fun _ _ _ _ => False) (A :: S2) (pre ++ [(some f.b, pre.length)]) X .normal ⟨#[], []⟩ (Z4.setCell ⟨A, 0, none⟩ (.slice va8 (pre.length + 1) vc8))) := by
      refine ⟨A :: S8, Gr.cons A (g8.size lX), (f4.mono (T := A :: S2) (by intro b hb; simp [hb])).setCell _ (.inl (by simp)), ?_⟩
      rw [hJ.out]
      refine ⟨_, S8, rfl, hnS8, by simpa using bset, ?_⟩
      have e : hcells d.fl (ri.take (pre ++ [(some f.b, pre.length)]).length) = hcells d.fl (ri.take pre.length) ++ [.int .i64 f.slot, .int .i64 f.gen] := by
        rw [List.length_append, List.length_singleton, List.take_add_one, hik]
        simp [hcells, hnd, hfi, encHd]
      rw [e]
      have := o8.fr ((Fr.refl [A] Z4).setCell (p := ⟨A, 0, none⟩) (.slice va8 (pre.length + 1) vc8) (.inl (by simp))) (by intro y hy hm; simp at hm; subst hm; exact hnS8 hy)
      simpa using this
    clear o8 g8 f8 bset bA4 bA oZ bZ fZ f0Z f4
    try simp only [Act.put, List.setIfInBounds_toArray, List.set_cons_zero, List.set_cons_succ]
    refine wpAnyT_last 7 rfl (by kernel_rfl) ?_
    simp only [List.drop_succ_cons, List.drop_zero]
    go_wp2
    rw [onlyN_normal]
    exact hfin.out
  case done1 =>
    rintro D S' X hD hDS hg hf hj hKD
    rw [hJ.out] at hj
    obtain ⟨v, S2, rfl, hnS, hb, ho⟩ := hj
    have hl : (List.map some d.ring).zipIdx.length = ri.length := by rw [HRI.out]; simp [blocksOf]
    rw [hl, List.take_length] at ho
    have hc0 : X.cell? ⟨A, 0, none⟩ = some v := by simpa using hb.cell 0
    have HO := Lib.hid ho
    have HKK := Lib.hid hKD
    clear ho hKD hseq hring hH x1
    gi_wp2_with (gi_at_call 47; refine (wideIn _ (clip_h HO.out (by omega))).mono ?_; rintro e w' ⟨v', rfl, ho', rfl⟩)
    refine ⟨by simp, .inl ⟨_, _, rfl, run_takeDeferred HKK.out, ?_⟩⟩
    refine ⟨_, results_tmp rfl _ _ _, v', S2, rfl, ho'.fr ((Fr.refl [D] _).putObj _ (.inl (by simp))) (by intro b hb hm; simp at hm; subst hm; exact hDS (by simp [hb])), ?_, ?_⟩
    · intro b hb
      rcases hg b (by simp [hb]) with h | h
      · simp at h; right; omega
      · right; omega
    · exact (fW.out.trans (fun b hb => by simp at hb; right; omega) hf).putObj _ (.inr (by omega))
  case stop1 =>
    rintro D c S' pre x post X hD hDS hg hf hx hj hKD
    exact hj.elim
end Go.Proofs.Yteojodcdehkejaa
/- The law's World: handle. -/
namespace Go.Proofs.Yteojodcdehkejaa
open Go Go.RowKit
attribute [local go_sem] calmQ_normal wide_fn wide_depth Oper.semAt_some run_store_func

set_option maxRecDepth 100000 in
theorem whandle {w : World} {b : Nat} {cs : List Value} (hB : Blk w b 52 cs) {f : Nat} (hf : f < 4) {g : Int} (hg : cs[9 + f]? = some (.int .i64 g)) :
    Calls Try.prog 20 #[.pointer (some ⟨b, 0, none⟩), .int .i64 f] w fun e w' => e = .returned (.agg #[.int .i64 f, .int .i64 g]) ∧ Fr [] w w' := by
  have h0 : w.cell? ⟨b, 9 + f, none⟩ = some (.int .i64 g) := by rw [hB.cell (9 + f)]; exact hg
  have hl := hB.lt
  clear hB hg
  go_enter Try.func20, Try.ntmps20
  go_wp2
  exact bodyPost_ret (v := .agg #[.int .i64 f, .int .i64 g]) (by simp [results, Try.results20, go_sem]) rfl ⟨rfl, (Fr.refl [] w).alloc _⟩
end Go.Proofs.Yteojodcdehkejaa
/- The discipline's Leave. -/
namespace Go.Proofs.Yteojodcdehkejaa
open Go Go.RowKit
attribute [local go_sem] calmQ_normal wide_fn wide_depth Oper.semAt_some run_store_func

/-- what out leaves -/
structure Outd (d d1 : Dr) (k : Nat) (f : Fl) : Prop where
  fl : d1.fl = d.fl.set k { f with df := 0 }
  b : d1.b = d.b
  fv : d1.fv = d.fv
  fS : d1.fS = d.fS
  seq : d1.seq = d.seq
  came : d1.came = d.came
  n : d1.n = d.n
def Dr.left (d1 : Dr) (k : Nat) (f : Fl) (fv : Value) : Dr := { d1 with fl := d1.fl.eraseIdx k, fv := fv, n := d1.n - f.q.length }

theorem Dr.bs_nodup {w : World} {d : Dr} (h : Holds w d.chunks) : (d.fl.map (·.b)).Nodup := by
  rw [List.nodup_iff_pairwise_ne, List.pairwise_map, List.pairwise_iff_getElem]
  intro i j hi hj hij e
  exact h.apart (i := 3 + i) (j := 3 + j) (by omega) (Dr.str_at (f := d.fl[i]) (by simp [hi])) (Dr.str_at (f := d.fl[j]) (by simp [hj])) d.fl[i].b (List.mem_singleton.2 rfl) (List.mem_singleton.2 e)
theorem map_eraseIdx {α β : Type} (g : α → β) (l : List α) (k : Nat) : (l.eraseIdx k).map g = (l.map g).eraseIdx k := by
  induction l generalizing k with
  | nil => rfl
  | cons a l ih => cases k <;> simp [ih]
theorem filter_ne_erase {l : List Nat} {k x : Nat} (hn : l.Nodup) (hk : l[k]? = some x) : (l.filter fun b => !decide (b = x)) = l.eraseIdx k := by
  induction l generalizing k with
  | nil => simp at hk
  | cons a l ih =>
    have hn' := List.nodup_cons.1 hn
    cases k with
    | zero =>
      simp at hk; subst hk
      rw [List.filter_cons_of_neg (by simp), List.eraseIdx_cons_zero, List.filter_eq_self]
      intro y hy
      have : y ≠ a := fun e => hn'.1 (e ▸ hy)
      simp [this]
    | succ k =>
      simp only [List.getElem?_cons_succ] at hk
      have : a ≠ x := fun e => hn'.1 (e ▸ List.mem_of_getElem? hk)
      rw [List.filter_cons_of_pos (by simp [this]), List.eraseIdx_cons_succ, ih hn'.2 hk]

set_option maxRecDepth 100000 in
set_option maxHeartbeats 4000000 in
theorem dleave {w : World} {d : Dr} (h : Holds w d.chunks) {s g : Int} {k : Nat} {f : Fl} (hl : d.look s g = some k) (hf : d.fl[k]? = some f) {P : Dr → Prop}
    (hout : ∀ X, Holds X d.chunks → Calls Try.prog 42 #[.pointer (some ⟨d.b, 0, none⟩), .pointer (some ⟨f.b, 0, none⟩)] X fun e w' => e = .returned (.tuple #[]) ∧ ∃ d1, Outd d d1 k f ∧ P d1 ∧ Sep X (Chunks.bs d.chunks) w' d1.chunks)
    (hn1 : (f.q.length : Int) ≤ d.n) (hn2 : d.n ≤ 1125899906842624) (t : Int) :
    Calls Try.prog 44 #[.pointer (some ⟨d.b, 0, none⟩), .agg #[.int .i64 s, .int .i64 g], .int .i64 t] w fun e w' =>
      ∃ v S d1 fv, e = .returned (.tuple #[v, .int .i64 0]) ∧ Outd d d1 k f ∧ P d1 ∧ Sep w (Chunks.bs d.chunks) w' (Chunk.own 34 6 v f.q.length (f.q.flatMap encP6) S :: (d1.left k f fv).chunks) := by
  have hfind := Lib.hid (fun X (fX : Fr [] w X) => dfind (h.fr' fX (by simp)) s g)
  have hp : d.ptr (d.look s g) = .pointer (some ⟨f.b, 0, none⟩) := by simp [Dr.ptr, hl, hf]
  have K0 := Lib.hid (Dr.inbox (Sep.start h) 26 [.int .i64 s, .int .i64 g])
  have HF := Lib.hid hf
  have HO := Lib.hid hout
  clear h hl hf hout
  obtain ⟨A, hA⟩ : ∃ A, w.heap.size = A := ⟨_, rfl⟩
  rw [hA] at K0
  go_enter Try.func44, Try.ntmps44
  go_wp2_with fail
  refine (hfind.out _ ((Fr.refl [] w).alloc _)).mono ?_
  rw [hp]
  rintro er w1 ⟨rfl, f1⟩
  have K1 := Lib.hid (K0.out.same f1)
  clear f1 hfind K0 hp hA
  go_wp2_with fail
  obtain ⟨B, hB⟩ : ∃ B, w1.heap.size = B := ⟨_, rfl⟩
  have K2 := Lib.hid (Dr.inbox2 K1.out 89 [.pointer (some ⟨f.b, 0, none⟩)])
  rw [hB] at K2 ⊢
  refine (HO.out _ K2.out.hs.right).mono ?_
  rintro er w2 ⟨rfl, d1, od, pd, k2⟩
  have K3 := Lib.hid (Dr.call K2.out k2)
  clear k2 K2 K1 HO
  have OD := Lib.hid od
  have PD := Lib.hid pd
  have hf1 : d1.fl[k]? = some { f with df := 0 } := by rw [od.fl]; exact List.getElem?_set_self (some_lt HF.out)
  have HF1 := Lib.hid hf1
  have hds : Blk w2 d.b 92 d1.head := by have := Dr.hds K3.out; rw [od.b] at this; exact this
  have z5 : w2.cell? ⟨d.b, 5, none⟩ = some (.int .i64 d.n) := by rw [← od.n]; exact hds.cell 5
  have z0 : w2.cell? ⟨d.b, 0, none⟩ = some d.fv := by rw [← od.fv]; exact hds.cell 0
  have r5 := hds.frz 5
  have ld := hds.lt
  have y0 : w2.cell? ⟨B, 0, none⟩ = some (.pointer (some ⟨f.b, 0, none⟩)) := (K3.out.blk 0 rfl).cell 0
  have lB := (K3.out.blk 0 rfl).lt
  have s5 : w2.cell? ⟨f.b, 5, none⟩ = some (.pointer (some ⟨f.r, 0, none⟩)) := (Dr.strs K3.out hf1).cell 5
  have lf : f.b < w2.heap.size := (Dr.strs K3.out hf1).lt
  have hque : Rgp6 w2 f.r f.ds f.q := by have := Dr.ques K3.out hf1; exact this
  have hlen := Lib.hid (fun n => len_p6 (hque.drewN n))
  have hw := Lib.hid (sub_w2 (show 0 ≤ (f.q.length : Int) by omega) hn1 hn2)
  clear od pd hf1 hds hque
  go_wp2
  refine wp_region_quiet_tail 12 (by kernel_rfl) (by kernel_rfl) ?_
  simp only [List.take_succ_cons, List.take_zero, List.drop_succ_cons, List.drop_zero]
  repeat (first | go_big_quiet_step ((go_at_call 37; exact Calls.quiet_of_same (hlen.out _))) | quiet_step ((go_at_call 37; exact Calls.quiet_of_same (hlen.out _))))
  refine wpQuiet_nil ?_
  rintro _ ⟨nq, rfl⟩
  go_wp2_with fail
  have e0 : d1.b = d.b := OD.out.b
  have K4 : Hid (Sep w (Chunks.bs d.chunks) ((w2.drewN nq).setCell ⟨d.b, 5, none⟩ (.int .i64 (d.n - f.q.length))) ([Chunk.blk B 89 [.pointer (some ⟨f.b, 0, none⟩)], Chunk.blk A 26 [.int .i64 s, .int .i64 g]] ++ ({ d1 with n := d.n - f.q.length } : Dr).chunks)) := by
    have k := Dr.hd1 (K3.out.drewN nq) { d1 with n := d.n - f.q.length } 5 (.int .i64 (d.n - f.q.length)) rfl
    refine Lib.hid ?_
    rw [← e0]
    exact k
  obtain ⟨W3, hW3⟩ : ∃ W3, (w2.drewN nq).setCell ⟨d.b, 5, none⟩ (.int .i64 (d.n - f.q.length)) = W3 := ⟨_, rfl⟩
  rw [hW3] at K4 ⊢
  clear K3 hlen hw hW3 z5 r5 ld y0 lB s5 lf z0
  have hfS : Hid (d1.fl[k]? = some { f with df := 0 }) := HF1
  have hH3 : Holds W3 ({ d1 with n := d.n - f.q.length } : Dr).chunks := K4.out.hs.right
  have hnd := Lib.hid (Dr.bs_nodup hH3)
  have ho3 : OwnS W3 89 1 d.fv d1.fl.length ((d1.fl.map (·.b)).map fun b => ptrV (some b)) d1.fS := by
    rw [List.map_map, ← OD.out.fv]
    exact hH3.get (i := 1) rfl
  have hdel := ddel ho3 (fun b hb => by
      obtain ⟨f', hf', rfl⟩ := List.mem_map.1 hb
      obtain ⟨j, hj⟩ := List.getElem?_of_mem hf'
      exact ⟨_, hH3.get (Dr.str_at (d := { d1 with n := d.n - f.q.length }) hj)⟩) (by have := some_lt hfS.out; omega)
    (A := B) (fb := f.b) (K4.out.blk 0 rfl) (cf := ({ f with df := 0 } : Fl).cells) (hH3.get (Dr.str_at (d := { d1 with n := d.n - f.q.length }) hfS.out))
    (fun hm => K4.out.hs.apart (i := 0) (j := 3) (by decide) rfl rfl B (List.mem_singleton.2 rfl) hm)
    (fun b hb hm => by
      obtain ⟨f', hf', rfl⟩ := List.mem_map.1 hb
      obtain ⟨j, hj⟩ := List.getElem?_of_mem hf'
      exact hH3.apart (i := 1) (j := 3 + j) (by omega) rfl (Dr.str_at (d := { d1 with n := d.n - f.q.length }) hj) _ hm (List.mem_singleton.2 rfl))
    (fun hm => hH3.apart (i := 1) (j := 3 + k) (by omega) rfl (Dr.str_at (d := { d1 with n := d.n - f.q.length }) hfS.out) _ hm (List.mem_singleton.2 rfl))
  clear ho3 hH3
  refine hdel.mono ?_
  rintro er w4 ⟨v4, rfl, o4, f4⟩
  rw [filter_ne_erase hnd.out (x := f.b) (k := k) (by rw [List.getElem?_map, hfS.out]; rfl)] at o4
  obtain ⟨va4, vc4, rfl⟩ := o4.val
  have K5 := Lib.hid (K4.out.call1' 3 rfl (Sep.of_one (c := Chunk.own 89 1 _ _ _ d1.fS) f4 o4 (Gr.refl _ _)))
  clear o4 f4 K4 hdel
  have hds : Blk w4 d1.b 92 ({ d1 with n := d.n - f.q.length } : Dr).head := K5.out.get (i := 2) rfl
  have r0 := hds.frz 0
  have z0 := hds.cell 0
  have ld := hds.lt
  rw [e0] at r0 z0 ld
  have y0 : w4.cell? ⟨B, 0, none⟩ = some (.pointer (some ⟨f.b, 0, none⟩)) := (K5.out.blk 0 rfl).cell 0
  have lB := (K5.out.blk 0 rfl).lt
  have hst : Blk w4 f.b 95 ({ f with df := 0 } : Fl).cells := by
    have h := K5.out.hs.get (i := 2 + (3 + k)) (c := CStr { f with df := 0 })
    refine h ?_
    rw [List.getElem?_set_ne (by omega)]
    exact (pre_get (pre := [Chunk.blk B 89 [.pointer (some ⟨f.b, 0, none⟩)], Chunk.blk A 26 [.int .i64 s, .int .i64 g]]) (Dr.str_at (d := { d1 with n := d.n - f.q.length }) hfS.out))
  have s5 : w4.cell? ⟨f.b, 5, none⟩ = some (.pointer (some ⟨f.r, 0, none⟩)) := hst.cell 5
  have lf := hst.lt
  have nBd : B ≠ d.b := fun e => K5.out.hs.apart (i := 0) (j := 2) (by omega) rfl rfl B (List.mem_singleton.2 rfl) (List.mem_singleton.2 (e.trans e0.symm))
  have nfd : f.b ≠ d.b := by
    rintro e
    unfold Blk at hst hds
    rw [e0] at hds
    rw [e, hds] at hst
    simp at hst
  have ndB := Ne.symm nBd
  have ndf := Ne.symm nfd
  have k6 : Sep w (Chunks.bs d.chunks) (w4.setCell ⟨d1.b, 0, none⟩ (.slice va4 ((d1.fl.map (·.b)).eraseIdx k).length vc4)) _ := K5.out.set 2 rfl 0 (.slice va4 ((d1.fl.map (·.b)).eraseIdx k).length vc4)
  obtain ⟨W5, hW5⟩ : ∃ W5, w4.setCell ⟨d.b, 0, none⟩ (.slice va4 ((d1.fl.map (·.b)).eraseIdx k).length vc4) = W5 := ⟨_, rfl⟩
  rw [e0, hW5] at k6
  have K6 := Lib.hid k6
  clear k6 hds K5 hst
  have e00 := Lib.hid e0
  clear e0
  obtain ⟨nn4, hnn4⟩ : ∃ nn4, ((d1.fl.map (·.b)).eraseIdx k).length = nn4 := ⟨_, rfl⟩
  rw [hnn4] at hW5 K6 ⊢
  have hn4 := Lib.hid hnn4
  have hW5h := Lib.hid hW5
  clear hnn4 hW5
  go_wp2_with fail
  rw [hW5h.out]
  have K6s : Hid (Sep w (Chunks.bs d.chunks) W5 ([Chunk.blk B 89 [.pointer (some ⟨f.b, 0, none⟩)], Chunk.blk A 26 [.int .i64 s, .int .i64 g]] ++
      ([CHd (d1.left k f (.slice va4 nn4 vc4)), CFs (d1.left k f (.slice va4 nn4 vc4)), CRingq d1.rb d1.rds d1.ring] ++ (d1.fl.map CStr ++ d1.fl.map CQ)))) := by
    have h := K6.out
    have e : CFs (d1.left k f (.slice va4 nn4 vc4)) = Chunk.own 89 1 (.slice va4 nn4 vc4) nn4 (List.map (fun b => ptrV (some b)) ((List.map (fun x => x.b) d1.fl).eraseIdx k)) d1.fS := by
      have h1 : (d1.fl.eraseIdx k).length = nn4 := by rw [← hn4.out, ← map_eraseIdx]; simp
      show Chunk.own 89 1 _ (d1.fl.eraseIdx k).length ((d1.fl.eraseIdx k).map fun f => ptrV (some f.b)) d1.fS = _
      rw [h1, ← map_eraseIdx, List.map_map]
      rfl
    rw [e]
    unfold CHd Dr.left Dr.head
    rw [← e00.out, ← OD.out.n] at h
    exact Lib.hid h
  have hque : Rgp6 W5 f.r f.ds f.q := by
    have := K6s.out.hs.right.right.right.get (i := k) (c := CQ { f with df := 0 }) (by rw [List.getElem?_map, hfS.out]; rfl)
    exact this
  clear y0 lB s5 lf nBd nfd ndB ndf z0 r0 ld K6
  refine (list_p6 hque).mono ?_
  rintro er w7 ⟨v, S, rfl, o7, g7, f7⟩
  have K7 := Lib.hid (K6s.out.call0 (Sep.of_one0 (c := Chunk.own 34 6 v _ _ S) f7 o7 g7))
  clear o7 g7 f7 K6s hque
  go_wp2
  go_ret2
  refine ⟨v, S, d1, .slice va4 nn4 vc4, rfl, OD.out, PD.out, ?_⟩
  refine ((K7.out.sub (cs' := ([CHd (d1.left k f (.slice va4 nn4 vc4)), CFs (d1.left k f (.slice va4 nn4 vc4)), CRingq d1.rb d1.rds d1.ring] ++ ((d1.fl.eraseIdx k).map CStr ++ (d1.fl.eraseIdx k).map CQ)) ++ [_]) (List.Sublist.append (List.Sublist.trans (List.Sublist.append (List.Sublist.refl _) ?_) (List.sublist_append_right _ _)) (List.Sublist.refl _))).perm List.perm_append_comm)
  exact List.Sublist.append ((List.eraseIdx_sublist _ _).map _) ((List.eraseIdx_sublist _ _).map _)
end Go.Proofs.Yteojodcdehkejaa
/- The law's world of four flows, in plain terms: what the discipline and the books hold, by the flows' slots. -/
namespace Go.Proofs.Yteojodcdehkejaa
open Go Go.RowKit

def upd {α : Type} (g : Nat → α) (s : Nat) (v : α) : Nat → α := fun i => if i = s then v else g i
theorem upd_self {α : Type} (g : Nat → α) (s : Nat) (v : α) : upd g s v s = v := if_pos rfl
theorem upd_ne {α : Type} (g : Nat → α) {s i : Nat} (v : α) (h : i ≠ s) : upd g s v i = g i := if_neg h
theorem upd_upd {α : Type} (g : Nat → α) (s : Nat) (v u : α) : upd (upd g s v) s u = upd g s u := by funext i; unfold upd; split <;> rfl
theorem upd_id {α : Type} (g : Nat → α) (s : Nat) : upd g s (g s) = g := by funext i; unfold upd; split <;> simp_all
def bytesOf (l : List P6) : Int := (l.map (·.f3)).sum
theorem bytes_nil : bytesOf [] = 0 := rfl
theorem bytes_cons (p : P6) (l : List P6) : bytesOf (p :: l) = p.f3 + bytesOf l := by simp [bytesOf]
theorem bytes_app (l k : List P6) : bytesOf (l ++ k) = bytesOf l + bytesOf k := by simp [bytesOf]
theorem bytes_one (p : P6) : bytesOf [p] = p.f3 := by simp [bytesOf]
/-- the first packet's size -/
def szOf : List P6 → Int
  | [] => 0
  | p :: _ => p.f3
theorem Fl.sz_of (f : Fl) : f.sz = szOf f.q := by unfold Fl.sz szOf; cases f.q <;> rfl

structure Wd where
  b : Nat
  db : Nat
  fv : Value
  fS : List Nat
  rb : Nat
  rds : List Nat
  B : Nat → Nat
  R : Nat → Nat
  DS : Nat → List Nat
  sl : List Nat
  ring : List Nat
  turn : Bool
  seq : Int
  Q : Nat → Int
  G : Nat → Int
  df : Nat → Int
  sent : Nat → Int
  L : Nat → List P6
  V : Nat → Value
  S : Nat → List Nat
  told : Int
  most : Int
  bf : Nat → Int

def Wd.fl (x : Wd) (s : Nat) : Fl := { b := x.B s, slot := s, gen := x.G s, wt := 1, qt := x.Q s, df := x.df s, r := x.R s, ds := x.DS s, q := x.L s, by_ := bytesOf (x.L s) }
def Wd.cnt (x : Wd) : Nat := (x.L 0).length + (x.L 1).length + (x.L 2).length + (x.L 3).length
def Wd.dr (x : Wd) : Dr := { b := x.db, fv := x.fv, fS := x.fS, fl := x.sl.map x.fl, rb := x.rb, rds := x.rds, ring := x.ring.map x.B, turn := x.turn, seq := x.seq, came := 0, n := x.cnt }
def Wd.cells (x : Wd) : List Value :=
  [.pointer (some ⟨x.db, 0, none⟩), .int .i64 (x.Q 0), .int .i64 (x.Q 1), .int .i64 (x.Q 2), .int .i64 (x.Q 3), x.V 0, x.V 1, x.V 2, x.V 3, .int .i64 (x.G 0), .int .i64 (x.G 1), .int .i64 (x.G 2), .int .i64 (x.G 3),
   .int .i64 (x.sent 0), .int .i64 (x.sent 1), .int .i64 (x.sent 2), .int .i64 (x.sent 3), .int .i64 x.seq, .int .i64 x.told, .int .i64 x.most, .int .i64 (x.bf 0), .int .i64 (x.bf 1), .int .i64 (x.bf 2), .int .i64 (x.bf 3)]
def Wd.idx (x : Wd) (s : Nat) : Nat := x.sl.idxOf s
/-- has s the turn? -/
def Wd.hold (x : Wd) (s : Nat) : Prop := x.turn = true ∧ x.ring.head? = some s

structure Wf (x : Wd) (N : Nat) : Prop where
  sl : x.sl.Perm [0, 1, 2, 3]
  nd : x.ring.Nodup
  mem : ∀ s, s ∈ x.ring ↔ s < 4 ∧ x.L s ≠ []
  turn : x.turn = true → x.ring ≠ []
  q : ∀ s, s < 4 → 1 ≤ x.Q s ∧ x.Q s ≤ 1000
  d0 : ∀ s, s < 4 → 0 ≤ x.df s
  dn : ∀ s, s < 4 → x.L s = [] → x.df s = 0
  dh : ∀ s, x.hold s → x.df s < x.Q s + x.most
  ds : ∀ s, s ∈ x.ring → ¬ x.hold s → x.df s < szOf (x.L s)
  pk : ∀ s, s < 4 → ∀ p, p ∈ x.L s → p.f0 = s ∧ p.f1 = x.G s ∧ p.f2 = 0 ∧ 1 ≤ p.f3 ∧ p.f3 ≤ x.most ∧ p.f4 ≤ x.seq ∧ p.f5 = 0
  mo : 0 ≤ x.most ∧ x.most ≤ 1024
  len : ∀ s, s < 4 → (x.L s).length ≤ N
  sq : 0 ≤ x.seq ∧ x.seq ≤ N
  tl : 0 ≤ x.told ∧ x.told ≤ N
  g : ∀ s, s < 4 → 1 ≤ x.G s ∧ x.G s ≤ N + 1
  se : ∀ s, s < 4 → 0 ≤ x.sent s ∧ x.sent s ≤ 1024 * N
  N : N ≤ 1000000

section
variable {x : Wd} {N : Nat} {s : Nat}
theorem Wf.nodup (h : Wf x N) : x.sl.Nodup := (h.sl.nodup_iff).2 (by decide)
theorem Wf.mem_sl (h : Wf x N) : s ∈ x.sl ↔ s < 4 := by
  rw [h.sl.mem_iff]; simp; omega
theorem Wf.lt (h : Wf x N) (hs : s ∈ x.ring) : s < 4 := ((h.mem s).1 hs).1
theorem idx_at {l : List Nat} {s : Nat} (h : s ∈ l) : l[l.idxOf s]? = some s := by
  have hl := List.idxOf_lt_length_iff.2 h
  rw [List.getElem?_eq_getElem hl, List.getElem_idxOf hl]
theorem idx_of {l : List Nat} {s k : Nat} (hn : l.Nodup) (h : l[k]? = some s) : l.idxOf s = k := by
  have h2 := idx_at (List.mem_of_getElem? h)
  obtain ⟨h1, e1⟩ := List.getElem?_eq_some_iff.1 h
  obtain ⟨h3, e3⟩ := List.getElem?_eq_some_iff.1 h2
  exact (List.getElem_inj hn).1 (e3.trans e1.symm)
theorem Wf.sl_at (h : Wf x N) (hs : s < 4) : x.sl[x.idx s]? = some s := idx_at (h.mem_sl.2 hs)
theorem Wf.at_ (h : Wf x N) (hs : s < 4) : x.dr.fl[x.idx s]? = some (x.fl s) := by
  show (x.sl.map x.fl)[x.idx s]? = _
  rw [List.getElem?_map, h.sl_at hs]; rfl
theorem Wf.idx_inj (h : Wf x N) {t : Nat} (hs : s < 4) (ht : t < 4) (e : x.idx s = x.idx t) : s = t := by
  have h1 := h.sl_at hs
  rw [e, h.sl_at ht] at h1
  exact (Option.some.inj h1).symm
theorem Wf.look (h : Wf x N) (hs : s < 4) : x.dr.look s (x.G s) = some (x.idx s) := by
  refine Dr.look_some (h.at_ hs) rfl rfl fun j f' hj hf' hc => ?_
  have hf2 : (x.sl.map x.fl)[j]? = some f' := hf'
  rw [List.getElem?_map] at hf2
  cases hl : x.sl[j]? with
  | none => rw [hl] at hf2; cases hf2
  | some t =>
    rw [hl] at hf2
    simp at hf2; subst hf2
    have e : t = s := by have := hc.1; simp [Wd.fl] at this; omega
    subst e
    have := idx_of h.nodup hl
    unfold Wd.idx at hj
    omega
theorem Wf.len4 (h : Wf x N) : x.sl.length = 4 := by have := h.sl.length_eq; simpa using this
theorem nodup_lt : ∀ (n : Nat) (l : List Nat), l.Nodup → (∀ s, s ∈ l → s < n) → l.length ≤ n
  | 0, l, _, h => by
    cases l with
    | nil => simp
    | cons a l => exact absurd (h a (by simp)) (by omega)
  | n + 1, l, hn, h => by
    have h1 := nodup_lt n (l.erase n) (hn.erase n) (fun s hs => by
      have h2 := (hn.mem_erase_iff).1 hs
      have := h s h2.2
      omega)
    have := List.length_erase_le (a := n) (l := l)
    by_cases hm : n ∈ l
    · rw [List.length_erase_of_mem hm] at h1; omega
    · rw [List.erase_of_not_mem hm] at h1; omega
theorem Wf.rlen (h : Wf x N) : x.ring.length ≤ 4 := nodup_lt 4 _ h.nd (fun _ hs => h.lt hs)
theorem Wf.blocks (h : Wf x N) : x.dr.ring = blocksOf x.dr.fl (x.ring.map x.idx) := by
  show x.ring.map x.B = _
  unfold blocksOf
  rw [List.map_map]
  refine List.map_congr_left fun s hs => ?_
  simp only [Function.comp, h.at_ (h.lt hs)]
  rfl
theorem map_set_upd {α : Type} {l : List Nat} {i s : Nat} (hn : l.Nodup) (hi : l[i]? = some s) {g g' : Nat → α} (hg : ∀ t, t ≠ s → g' t = g t) : (l.map g).set i (g' s) = l.map g' := by
  refine List.ext_getElem? fun j => ?_
  have hl := some_lt hi
  by_cases e : i = j
  · subst e
    rw [List.getElem?_set_self (by simpa using hl), List.getElem?_map, hi]; rfl
  · rw [List.getElem?_set_ne e, List.getElem?_map, List.getElem?_map]
    cases hj : l[j]? with
    | none => rfl
    | some t =>
      have : t ≠ s := fun h => e (by
        subst h
        rw [← idx_of hn hi, ← idx_of hn hj])
      simp [hg t this]
/-- whoever is queued is in sum -/
theorem bytes_nonneg {l : List P6} (h : ∀ p, p ∈ l → 1 ≤ p.f3) : 0 ≤ bytesOf l := by
  induction l with
  | nil => simp [bytesOf]
  | cons p l ih => rw [bytes_cons]; have := h p (by simp); have := ih (fun q hq => h q (by simp [hq])); omega
theorem bytes_le {l : List P6} {M : Int} (h : ∀ p, p ∈ l → p.f3 ≤ M) : bytesOf l ≤ M * l.length := by
  induction l with
  | nil => simp [bytesOf]
  | cons p l ih =>
    rw [bytes_cons, List.length_cons]
    have := h p (by simp)
    have := ih (fun q hq => h q (by simp [hq]))
    have e : M * ((l.length + 1 : Nat) : Int) = M * l.length + M := by rw [Int.natCast_add, Int.mul_add]; simp
    omega
theorem Wf.bytes (h : Wf x N) (hs : s < 4) : 0 ≤ bytesOf (x.L s) ∧ bytesOf (x.L s) ≤ 1024 * N := by
  refine ⟨bytes_nonneg fun p hp => (h.pk s hs p hp).2.2.2.1, ?_⟩
  have h1 := bytes_le (l := x.L s) (M := 1024) (fun p hp => by have := (h.pk s hs p hp).2.2.2.2.1; have := h.mo.2; omega)
  have h2 := h.len s hs
  omega
theorem Wf.cntle (h : Wf x N) : x.cnt ≤ 4 * N := by
  have := h.len 0 (by omega); have := h.len 1 (by omega); have := h.len 2 (by omega); have := h.len 3 (by omega)
  unfold Wd.cnt; omega
theorem Wf.cntge (h : Wf x N) (hs : s < 4) : (x.L s).length ≤ x.cnt := by
  unfold Wd.cnt
  rcases (show s = 0 ∨ s = 1 ∨ s = 2 ∨ s = 3 by omega) with rfl | rfl | rfl | rfl <;> omega
theorem Wf.hd (h : Wf x N) (hs : s ∈ x.ring) : 1 ≤ szOf (x.L s) ∧ szOf (x.L s) ≤ x.most := by
  obtain ⟨h4, hne⟩ := (h.mem s).1 hs
  cases hl : x.L s with
  | nil => exact absurd hl hne
  | cons p l => have := h.pk s h4 p (by rw [hl]; simp); exact ⟨this.2.2.2.1, this.2.2.2.2.1⟩
theorem Wf.fineAt (h : Wf x N) : FineAt x.dr.fl (x.ring.map x.idx) := by
  intro i hi
  obtain ⟨s, hs, rfl⟩ := List.mem_map.1 hi
  have h4 := h.lt hs
  refine ⟨x.fl s, h.at_ h4, ((h.mem s).1 hs).2, (h.q s h4).1, by have := (h.q s h4).2; show x.Q s ≤ _; omega, h.d0 s h4, ?_, ?_⟩
  · show x.df s ≤ _
    have h1 := (h.hd hs).2
    have h2 := h.mo.2
    have h3 := (h.q s h4).2
    by_cases hh : x.hold s
    · have := h.dh s hh; omega
    · have := h.ds s hs hh; omega
  · rw [Fl.sz_of]
    have h1 := (h.hd hs).2
    have h2 := h.mo.2
    show szOf (x.L s) ≤ _
    omega
theorem Wf.ringNodup (h : Wf x N) : (x.ring.map x.idx).Nodup := by
  rw [List.nodup_iff_pairwise_ne, List.pairwise_map]
  refine List.Pairwise.imp_of_mem (fun {a b} ha hb hab e => hab (h.idx_inj (h.lt ha) (h.lt hb) e)) h.nd
theorem Wf.by_ (h : Wf x N) : ∀ f, f ∈ x.dr.fl → f.by_ ≤ 1125899906842624 ∧ ∀ p qs, f.q = p :: qs → 0 ≤ p.f3 ∧ p.f3 ≤ f.by_ := by
  intro f hf
  obtain ⟨s, hs, rfl⟩ := List.mem_map.1 (show f ∈ x.sl.map x.fl from hf)
  have h4 := h.mem_sl.1 hs
  have hN := h.N
  refine ⟨by have := (h.bytes h4).2; show bytesOf (x.L s) ≤ _; omega, fun p qs hq => ?_⟩
  have hq' : x.L s = p :: qs := hq
  have h1 := h.pk s h4 p (by rw [hq']; simp)
  refine ⟨by omega, ?_⟩
  show p.f3 ≤ bytesOf (x.L s)
  rw [hq', bytes_cons]
  have := bytes_nonneg (l := qs) (fun q hq => (h.pk s h4 q (by rw [hq']; simp [hq])).2.2.2.1)
  omega
end
end Go.Proofs.Yteojodcdehkejaa
/- The moves of the law's world, in plain terms: turns by slots; what each move makes of the world. -/
namespace Go.Proofs.Yteojodcdehkejaa
open Go Go.RowKit

/-- turns that send nothing, by slots -/
inductive MT (Q : Nat → Int) (L : Nat → List P6) : (Nat → Int) → List Nat → Bool → (Nat → Int) → List Nat → Bool → Prop
  | refl (df : Nat → Int) (r : List Nat) (t : Bool) : MT Q L df r t df r t
  | step {df : Nat → Int} {s : Nat} {rest : List Nat} {t : Bool} {df' : Nat → Int} {r' : List Nat} {t' : Bool} (h : df s + (if t then 0 else Q s) < szOf (L s))
      (k : MT Q L (upd df s (df s + (if t then 0 else Q s))) (rest ++ [s]) false df' r' t') : MT Q L df (s :: rest) t df' r' t'

theorem mt_of_turns {x : Wd} {N : Nat} (h : Wf x N) {a : List Fl} {ra : List Nat} {ta : Bool} {b : List Fl} {rb : List Nat} {tb : Bool} (k : Turns a ra ta b rb tb) :
    ∀ (df : Nat → Int) (rs : List Nat), a = x.sl.map ({ x with df := df } : Wd).fl → ra = rs.map x.idx → (∀ s, s ∈ rs → s < 4) →
      ∃ df' rs', b = x.sl.map ({ x with df := df' } : Wd).fl ∧ rb = rs'.map x.idx ∧ (∀ s, s ∈ rs' → s < 4) ∧ MT x.Q x.L df rs ta df' rs' tb := by
  induction k with
  | refl fl ri t => exact fun df rs e1 e2 h4 => ⟨df, rs, e1, e2, h4, MT.refl _ _ _⟩
  | @step fl i rest t f fl' ri' t' hf hl _ ih =>
    intro df rs e1 e2 h4
    cases rs with
    | nil => cases e2
    | cons s rs =>
      simp only [List.map_cons, List.cons.injEq] at e2
      obtain ⟨rfl, rfl⟩ := e2
      have hs := h4 s (by simp)
      have hsl := h.sl_at hs
      have e3 : f = ({ x with df := df } : Wd).fl s := by
        rw [e1, List.getElem?_map, hsl] at hf
        exact (Option.some.inj hf).symm
      subst e3
      have hl' : df s + (if t then 0 else x.Q s) < szOf (x.L s) := by rw [Fl.sz_of] at hl; exact hl
      obtain ⟨df', rs', h1, h2, h3, h5⟩ := ih (upd df s (df s + (if t then 0 else x.Q s))) (rs ++ [s]) (by
        rw [e1]
        refine Eq.trans ?_ (map_set_upd (g := ({ x with df := df } : Wd).fl) h.nodup hsl fun t ht => ?_)
        · congr 1
          simp only [Wd.fl, Fl.add, upd_self]
        · simp only [Wd.fl, upd_ne _ _ ht]) (by simp) (fun t ht => by
        rcases List.mem_append.1 ht with ht | ht
        · exact h4 t (by simp [ht])
        · simp at ht; subst ht; exact hs)
      exact ⟨df', rs', h1, h2, h3, MT.step hl' h5⟩

theorem Wf.mt1 {x : Wd} {N : Nat} (h : Wf x N) {s : Nat} {rest : List Nat} (hr : x.ring = s :: rest) (hl : x.df s + (if x.turn then 0 else x.Q s) < szOf (x.L s)) :
    Wf { x with df := upd x.df s (x.df s + (if x.turn then 0 else x.Q s)), ring := rest ++ [s], turn := false } N := by
  have hs : s < 4 := h.lt (by rw [hr]; simp)
  have hnd : (rest ++ [s]).Nodup := by
    have := h.nd
    rw [hr] at this
    have := List.nodup_cons.1 this
    exact List.nodup_append.2 ⟨this.2, by simp, fun a ha b hb e => by simp at hb; subst hb; subst e; exact this.1 ha⟩
  have hge : 0 ≤ (if x.turn then 0 else x.Q s) := by
    have := (h.q s hs).1
    split <;> omega
  have hnh : ∀ t, ¬ ({ x with df := upd x.df s (x.df s + (if x.turn then 0 else x.Q s)), ring := rest ++ [s], turn := false } : Wd).hold t := fun t ht => by cases ht.1
  refine ⟨h.sl, hnd, fun t => ?_, (fun e => by cases e), h.q, fun t ht => ?_, fun t ht hn => ?_, fun t ht => absurd ht (hnh t), fun t ht _ => ?_, h.pk, h.mo, h.len, h.sq, h.tl, h.g, h.se, h.N⟩
  · have := h.mem t
    rw [hr] at this
    rw [← this]
    simp [or_comm]
  · by_cases e : t = s
    · subst e; show 0 ≤ upd _ _ _ _; rw [upd_self]; have := h.d0 t hs; omega
    · show 0 ≤ upd _ _ _ _; rw [upd_ne _ _ e]; exact h.d0 t ht
  · have hts : t ≠ s := fun e => by
      subst e
      exact ((h.mem t).1 (by rw [hr]; simp)).2 hn
    show upd _ _ _ _ = 0
    rw [upd_ne _ _ hts]; exact h.dn t ht hn
  · by_cases e : t = s
    · subst e; show upd _ _ _ _ < _; rw [upd_self]; exact hl
    · show upd _ _ _ _ < _
      rw [upd_ne _ _ e]
      refine h.ds t ?_ (fun hh => ?_)
      · rw [hr]
        simp at ht
        rcases ht with ht | ht
        · simp [ht]
        · exact absurd ht e
      · have := hh.2
        rw [hr] at this
        simp at this
        exact e this.symm
theorem Wf.mt {Q : Nat → Int} {L : Nat → List P6} {df : Nat → Int} {r : List Nat} {t : Bool} {df' : Nat → Int} {r' : List Nat} {t' : Bool} (k : MT Q L df r t df' r' t') :
    ∀ {x : Wd} {N : Nat}, x.Q = Q → x.L = L → x.df = df → x.ring = r → x.turn = t → Wf x N → Wf { x with df := df', ring := r', turn := t' } N := by
  induction k with
  | refl df r t => intro x N _ _ e1 e2 e3 h; subst e1; subst e2; subst e3; exact h
  | step hl _ ih =>
    intro x N e1 e2 e3 e4 e5 h
    subst e1; subst e2; subst e3; subst e5
    exact ih (x := { x with df := upd x.df _ (x.df _ + (if x.turn then 0 else x.Q _)), ring := _ ++ [_], turn := false }) rfl rfl rfl rfl rfl (h.mt1 e4 hl)

/-- a packet has been sent -/
def Wd.nexted (x : Wd) (df1 : Nat → Int) (s : Nat) (rest : List Nat) (g : Int) (p : P6) (qs : List P6) (rds : List Nat) (v : Value) : Wd :=
  { x with df := upd df1 s (if qs = [] then 0 else df1 s + g - p.f3), ring := if qs = [] then rest else s :: rest, turn := if qs = [] then false else true, L := upd x.L s qs, rds := rds,
           sent := upd x.sent s (x.sent s + p.f3), told := x.told + 1, V := upd x.V s v }
/-- what Next does -/
structure NextS (x : Wd) (df1 : Nat → Int) (s : Nat) (rest : List Nat) (t1 : Bool) (p : P6) (qs : List P6) : Prop where
  mt : MT x.Q x.L x.df x.ring x.turn df1 (s :: rest) t1
  q : x.L s = p :: qs
  en : p.f3 ≤ df1 s + (if t1 then 0 else x.Q s)
theorem Wf.nexted {x : Wd} {N : Nat} (h : Wf x N) {df1 : Nat → Int} {s : Nat} {rest : List Nat} {t1 : Bool} {p : P6} {qs : List P6} (k : NextS x df1 s rest t1 p qs) (hN : N + 1 ≤ 1000000) (rds : List Nat) (v : Value) :
    Wf (x.nexted df1 s rest (if t1 then 0 else x.Q s) p qs rds v) (N + 1) := by
  have h1 : Wf { x with df := df1, ring := s :: rest, turn := t1 } N := Wf.mt k.mt rfl rfl rfl rfl rfl h
  have hs : s < 4 := h1.lt (s := s) (by simp)
  have hnd := List.nodup_cons.1 h1.nd
  have hp := h.pk s hs p (by rw [k.q]; simp)
  have hL : (x.nexted df1 s rest (if t1 then 0 else x.Q s) p qs rds v).L = upd x.L s qs := rfl
  have hsz : szOf (x.L s) = p.f3 := by rw [k.q]; rfl
  have hdf : df1 s + (if t1 then 0 else x.Q s) - p.f3 < x.Q s + x.most := by
    by_cases ht : t1 = true
    · have := h1.dh s ⟨ht, rfl⟩
      rw [if_pos ht]
      have : df1 s < x.Q s + x.most := this
      omega
    · have := h1.ds s (by simp) (fun hh => ht hh.1)
      have h2 : df1 s < szOf (x.L s) := this
      rw [if_neg ht]
      omega
  refine ⟨h.sl, ?_, fun t => ?_, fun e => ?_, h.q, fun t ht => ?_, fun t ht hn => ?_, fun t ht => ?_, fun t ht hh => ?_, fun t ht q hq => ?_, h.mo, fun t ht => ?_, ⟨h.sq.1, by have := h.sq.2; show x.seq ≤ _; omega⟩, ⟨by have := h.tl.1; show 0 ≤ x.told + 1; omega, by have := h.tl.2; show x.told + 1 ≤ _; omega⟩, fun t ht => ⟨(h.g t ht).1, by have := (h.g t ht).2; show x.G t ≤ _; omega⟩, fun t ht => ?_, hN⟩
  · show (if qs = [] then rest else s :: rest).Nodup
    split
    · exact hnd.2
    · exact h1.nd
  · show t ∈ (if qs = [] then rest else s :: rest) ↔ t < 4 ∧ upd x.L s qs t ≠ []
    have hm := h1.mem t
    have hm : t ∈ s :: rest ↔ t < 4 ∧ x.L t ≠ [] := hm
    by_cases e : t = s
    · subst e
      rw [upd_self]
      by_cases hq : qs = []
      · rw [if_pos hq]
        simp [hq, hnd.1]
      · rw [if_neg hq]
        simp [hq, hs]
    · rw [upd_ne _ _ e, ← hm]
      split
      · simp [e]
      · rfl
  · show (if qs = [] then rest else s :: rest) ≠ []
    have e' : (if qs = [] then false else true) = true := e
    by_cases hq : qs = []
    · rw [if_pos hq] at e'; cases e'
    · rw [if_neg hq]; simp
  · show 0 ≤ upd df1 s (if qs = [] then 0 else df1 s + (if t1 then 0 else x.Q s) - p.f3) t
    by_cases e : t = s
    · subst e
      rw [upd_self]
      have := k.en
      by_cases hq : qs = []
      · rw [if_pos hq]; omega
      · rw [if_neg hq]; omega
    · rw [upd_ne _ _ e]; exact h1.d0 t ht
  · show upd df1 s (if qs = [] then 0 else _) t = 0
    have hn' : upd x.L s qs t = [] := hn
    by_cases e : t = s
    · subst e
      rw [upd_self] at hn'
      rw [upd_self, if_pos hn']
    · rw [upd_ne _ _ e] at hn' ⊢
      exact h1.dn t ht hn'
  · obtain ⟨ht1, ht2⟩ := ht
    have ht1' : (if qs = [] then false else true) = true := ht1
    have hq : qs ≠ [] := fun hq => by rw [if_pos hq] at ht1'; cases ht1'
    have ht2' : (if qs = [] then rest else s :: rest).head? = some t := ht2
    rw [if_neg hq] at ht2'
    have e : s = t := by simpa using ht2'
    subst e
    show upd df1 s (if qs = [] then 0 else _) s < x.Q s + x.most
    rw [upd_self, if_neg hq]
    exact hdf
  · have ht' : t ∈ (if qs = [] then rest else s :: rest) := ht
    have hts : t ≠ s := fun e => by
      subst e
      by_cases hq : qs = []
      · rw [if_pos hq] at ht'; exact hnd.1 ht'
      · refine hh ⟨?_, ?_⟩
        · show (if qs = [] then false else true) = true
          rw [if_neg hq]
        · show (if qs = [] then rest else t :: rest).head? = some t
          rw [if_neg hq]; rfl
    show upd df1 s _ t < szOf (upd x.L s qs t)
    rw [upd_ne _ _ hts, upd_ne _ _ hts]
    refine h1.ds t ?_ (fun hh' => ?_)
    · show t ∈ s :: rest
      by_cases hq : qs = []
      · rw [if_pos hq] at ht'; simp [ht']
      · rw [if_neg hq] at ht'; exact ht'
    · have := hh'.2
      have e : s = t := by simpa using this
      exact hts e.symm
  · have hq' : q ∈ upd x.L s qs t := hq
    have : q ∈ x.L t := by
      by_cases e : t = s
      · subst e; rw [upd_self] at hq'; rw [k.q]; simp [hq']
      · rw [upd_ne _ _ e] at hq'; exact hq'
    exact h.pk t ht q this
  · show (upd x.L s qs t).length ≤ N + 1
    by_cases e : t = s
    · subst e; rw [upd_self]; have := h.len t ht; rw [k.q, List.length_cons] at this; omega
    · rw [upd_ne _ _ e]; have := h.len t ht; omega
  · show 0 ≤ upd x.sent s (x.sent s + p.f3) t ∧ upd x.sent s (x.sent s + p.f3) t ≤ 1024 * ((N + 1 : Nat) : Int)
    have hm := h.mo.2
    have := h.se t ht
    by_cases e : t = s
    · subst e; rw [upd_self]; omega
    · rw [upd_ne _ _ e]; omega

/-- a flow is out of the ring -/
def Wd.outS (x : Wd) (f : Nat) : Wd := { x with ring := x.ring.erase f, df := upd x.df f 0, turn := if x.ring.head? = some f then false else x.turn, L := upd x.L f [] }
theorem erase_head {l : List Nat} {f t : Nat} (hn : l.head? ≠ some f) : (l.erase f).head? = some t ↔ l.head? = some t := by
  cases l with
  | nil => simp
  | cons a l =>
    have : a ≠ f := fun e => hn (by simp [e])
    rw [List.erase_cons_tail (by simpa using this)]
    simp
theorem Wf.outS {x : Wd} {N : Nat} (h : Wf x N) {f : Nat} (hf : f < 4) : Wf (x.outS f) N := by
  have hmem : ∀ t, t ∈ x.ring.erase f ↔ t ≠ f ∧ t ∈ x.ring := fun t => h.nd.mem_erase_iff
  have hold : ∀ t, (x.outS f).hold t → x.hold t ∧ t ≠ f := fun t ht => by
    obtain ⟨h1, h2⟩ := ht
    have h1' : (if x.ring.head? = some f then false else x.turn) = true := h1
    by_cases e : x.ring.head? = some f
    · rw [if_pos e] at h1'; cases h1'
    · rw [if_neg e] at h1'
      have h2' : x.ring.head? = some t := (erase_head e).1 h2
      exact ⟨⟨h1', h2'⟩, fun e' => e (by rw [h2', e'])⟩
  have hold' : ∀ t, t ≠ f → x.hold t → (x.outS f).hold t := fun t hne ht => by
    have e : x.ring.head? ≠ some f := fun e => by
      have := ht.2
      rw [e] at this
      exact hne (Option.some.inj this).symm
    refine ⟨?_, (erase_head e).2 ht.2⟩
    show (if x.ring.head? = some f then false else x.turn) = true
    rw [if_neg e]; exact ht.1
  refine ⟨h.sl, h.nd.erase f, fun t => ?_, fun e => ?_, h.q, fun t ht => ?_, fun t ht hn => ?_, fun t ht => ?_, fun t ht hh => ?_, fun t ht q hq => ?_, h.mo, fun t ht => ?_, h.sq, h.tl, h.g, h.se, h.N⟩
  · show t ∈ x.ring.erase f ↔ t < 4 ∧ upd x.L f [] t ≠ []
    rw [hmem]
    by_cases e : t = f
    · subst e; rw [upd_self]; simp
    · rw [upd_ne _ _ e, ← h.mem t]; simp [e]
  · have e' : (if x.ring.head? = some f then false else x.turn) = true := e
    show x.ring.erase f ≠ []
    by_cases hh : x.ring.head? = some f
    · rw [if_pos hh] at e'; cases e'
    · rw [if_neg hh] at e'
      have hne := h.turn e'
      cases hr : x.ring with
      | nil => exact absurd hr hne
      | cons a l =>
        rw [hr] at hh
        have : a ≠ f := fun e => hh (by simp [e])
        rw [List.erase_cons_tail (by simpa using this)]
        simp
  · show 0 ≤ upd x.df f 0 t
    by_cases e : t = f
    · subst e; rw [upd_self]; omega
    · rw [upd_ne _ _ e]; exact h.d0 t ht
  · show upd x.df f 0 t = 0
    have hn' : upd x.L f [] t = [] := hn
    by_cases e : t = f
    · subst e; rw [upd_self]
    · rw [upd_ne _ _ e] at hn' ⊢; exact h.dn t ht hn'
  · obtain ⟨h1, h2⟩ := hold t ht
    show upd x.df f 0 t < _
    rw [upd_ne _ _ h2]; exact h.dh t h1
  · have ht' : t ∈ x.ring.erase f := ht
    rw [hmem] at ht'
    show upd x.df f 0 t < szOf (upd x.L f [] t)
    rw [upd_ne _ _ ht'.1, upd_ne _ _ ht'.1]
    exact h.ds t ht'.2 (fun hx => hh (hold' t ht'.1 hx))
  · have hq' : q ∈ upd x.L f [] t := hq
    by_cases e : t = f
    · subst e; rw [upd_self] at hq'; cases hq'
    · rw [upd_ne _ _ e] at hq'; exact h.pk t ht q hq'
  · show (upd x.L f [] t).length ≤ N
    by_cases e : t = f
    · subst e; rw [upd_self]; simp
    · rw [upd_ne _ _ e]; exact h.len t ht
theorem Wf.more {x : Wd} {N M : Nat} (h : Wf x N) (hM : N ≤ M) (hM2 : M ≤ 1000000) : Wf x M :=
  ⟨h.sl, h.nd, h.mem, h.turn, h.q, h.d0, h.dn, h.dh, h.ds, h.pk, h.mo, fun s hs => Nat.le_trans (h.len s hs) hM, ⟨h.sq.1, by have := h.sq.2; omega⟩, ⟨h.tl.1, by have := h.tl.2; omega⟩, fun s hs => ⟨(h.g s hs).1, by have := (h.g s hs).2; omega⟩, fun s hs => ⟨(h.se s hs).1, by have := (h.se s hs).2; omega⟩, hM2⟩
/-- what the law does not look at may be anything -/
theorem Wf.re {x y : Wd} {N : Nat} (h : Wf x N) (e1 : y.sl = x.sl) (e2 : y.ring = x.ring) (e3 : y.turn = x.turn) (e4 : y.Q = x.Q) (e5 : y.df = x.df) (e6 : y.L = x.L) (e7 : y.G = x.G) (e8 : y.seq = x.seq) (e9 : y.most = x.most) (e10 : y.told = x.told) (e11 : y.sent = x.sent) : Wf y N := by
  have eh : ∀ s, y.hold s ↔ x.hold s := fun s => by unfold Wd.hold; rw [e2, e3]
  exact ⟨by rw [e1]; exact h.sl, by rw [e2]; exact h.nd, by rw [e2, e6]; exact h.mem, by rw [e2, e3]; exact h.turn, by rw [e4]; exact h.q, by rw [e5]; exact h.d0, by rw [e5, e6]; exact h.dn, by rw [e4, e5, e9]; intro s hs; exact h.dh s ((eh s).1 hs),
    by rw [e2, e5, e6]; intro s hs hn; exact h.ds s hs (fun hh => hn ((eh s).2 hh)), by rw [e6, e7, e8, e9]; exact h.pk, by rw [e9]; exact h.mo, by rw [e6]; exact h.len, by rw [e8]; exact h.sq, by rw [e10]; exact h.tl, by rw [e7]; exact h.g, by rw [e11]; exact h.se, h.N⟩
end Go.Proofs.Yteojodcdehkejaa
/- The moves of the law's world, in plain terms: a packet comes; the last one goes; a flow leaves and comes anew. -/
namespace Go.Proofs.Yteojodcdehkejaa
open Go Go.RowKit

/-- the packet that comes -/
def Wd.pkt (x : Wd) (f : Nat) (z : Int) : P6 := ⟨f, x.G f, 0, z, x.seq + 1, 0⟩
def Wd.put (x : Wd) (f : Nat) (z : Int) (rds ds : List Nat) (v : Value) (S : List Nat) : Wd :=
  { x with L := upd x.L f (x.L f ++ [x.pkt f z]), ring := if x.L f = [] then x.ring ++ [f] else x.ring, seq := x.seq + 1, most := max x.most z, rds := rds, DS := upd x.DS f ds, V := upd x.V f v, S := upd x.S f S }
def Wd.less (x : Wd) (f : Nat) (qs : List P6) : Wd := { x with L := upd x.L f qs }
def Wd.anew (x : Wd) (f : Nat) : Wd := { x.outS f with G := upd x.G f (x.G f + 1), sl := x.sl.erase f ++ [f] }

theorem Wf.put {x : Wd} {N : Nat} (h : Wf x N) {f : Nat} (hf : f < 4) {z : Int} (hz : 1 ≤ z) (hz2 : z ≤ 1024) (hN : N + 1 ≤ 1000000) (rds ds : List Nat) (v : Value) (S : List Nat) : Wf (x.put f z rds ds v S) (N + 1) := by
  have hmem : ∀ t, t ∈ (x.put f z rds ds v S).ring ↔ t = f ∨ t ∈ x.ring := fun t => by
    show t ∈ (if x.L f = [] then x.ring ++ [f] else x.ring) ↔ _
    by_cases e : x.L f = []
    · rw [if_pos e]; simp [or_comm]
    · rw [if_neg e]
      have := (h.mem f).2 ⟨hf, e⟩
      exact ⟨.inr, fun ht => ht.elim (fun e' => e' ▸ this) id⟩
  have hold : ∀ t, (x.put f z rds ds v S).hold t ↔ x.hold t := fun t => by
    show x.turn = true ∧ (if x.L f = [] then x.ring ++ [f] else x.ring).head? = some t ↔ x.turn = true ∧ x.ring.head? = some t
    by_cases ht : x.turn = true
    · have := h.turn ht
      cases hr : x.ring with
      | nil => exact absurd hr this
      | cons a l => split <;> simp
    · simp [ht]
  have hsz : ∀ t, t ∈ x.ring → szOf (upd x.L f (x.L f ++ [x.pkt f z]) t) = szOf (x.L t) := fun t ht => by
    by_cases e : t = f
    · subst e
      rw [upd_self]
      have := ((h.mem t).1 ht).2
      cases hl : x.L t with
      | nil => exact absurd hl this
      | cons a l => rfl
    · rw [upd_ne _ _ e]
  have hmo : x.most ≤ max x.most z := by omega
  refine ⟨h.sl, ?_, fun t => ?_, fun e => ?_, h.q, h.d0, fun t ht hn => ?_, fun t ht => ?_, fun t ht hh => ?_, fun t ht q hq => ?_, ?_, fun t ht => ?_, ?_, ⟨h.tl.1, by have := h.tl.2; show x.told ≤ _; omega⟩, fun t ht => ⟨(h.g t ht).1, by have := (h.g t ht).2; show x.G t ≤ _; omega⟩, fun t ht => ⟨(h.se t ht).1, by have := (h.se t ht).2; show x.sent t ≤ _; omega⟩, hN⟩
  · show (if x.L f = [] then x.ring ++ [f] else x.ring).Nodup
    by_cases e : x.L f = []
    · rw [if_pos e]
      refine List.nodup_append.2 ⟨h.nd, by simp, fun a ha b hb e' => ?_⟩
      simp at hb; subst hb; subst e'
      exact ((h.mem a).1 ha).2 e
    · rw [if_neg e]; exact h.nd
  · rw [hmem]
    show _ ↔ t < 4 ∧ upd x.L f (x.L f ++ [x.pkt f z]) t ≠ []
    by_cases e : t = f
    · subst e; rw [upd_self]; simp [hf]
    · rw [upd_ne _ _ e, ← h.mem t]; simp [e]
  · intro e'
    have := (hmem f).2 (.inl rfl)
    rw [e'] at this; cases this
  · have hn' : upd x.L f (x.L f ++ [x.pkt f z]) t = [] := hn
    by_cases e : t = f
    · subst e; rw [upd_self] at hn'; simp at hn'
    · rw [upd_ne _ _ e] at hn'; exact h.dn t ht hn'
  · have := h.dh t ((hold t).1 ht)
    show x.df t < x.Q t + max x.most z
    omega
  · show x.df t < szOf (upd x.L f (x.L f ++ [x.pkt f z]) t)
    by_cases hr : t ∈ x.ring
    · rw [hsz t hr]; exact h.ds t hr (fun hx => hh ((hold t).2 hx))
    · have e : t = f := ((hmem t).1 ht).resolve_right hr
      subst e
      have hn : x.L t = [] := by
        by_cases e : x.L t = []
        · exact e
        · exact absurd ((h.mem t).2 ⟨hf, e⟩) hr
      rw [upd_self, hn, h.dn t hf hn]
      show 0 < z
      omega
  · have hq' : q ∈ upd x.L f (x.L f ++ [x.pkt f z]) t := hq
    show q.f0 = t ∧ q.f1 = x.G t ∧ q.f2 = 0 ∧ 1 ≤ q.f3 ∧ q.f3 ≤ max x.most z ∧ q.f4 ≤ x.seq + 1 ∧ q.f5 = 0
    have old : q ∈ x.L t → q.f0 = t ∧ q.f1 = x.G t ∧ q.f2 = 0 ∧ 1 ≤ q.f3 ∧ q.f3 ≤ max x.most z ∧ q.f4 ≤ x.seq + 1 ∧ q.f5 = 0 := fun hm => by
      obtain ⟨h1, h2, h3, h4, h5, h6, h7⟩ := h.pk t ht q hm
      exact ⟨h1, h2, h3, h4, by omega, by omega, h7⟩
    by_cases e : t = f
    · subst e
      rw [upd_self] at hq'
      rcases List.mem_append.1 hq' with hm | hm
      · exact old hm
      · simp at hm; subst hm
        exact ⟨rfl, rfl, rfl, hz, by show z ≤ _; omega, Int.le_refl _, rfl⟩
    · rw [upd_ne _ _ e] at hq'; exact old hq'
  · have := h.mo
    show 0 ≤ max x.most z ∧ max x.most z ≤ 1024
    omega
  · show (upd x.L f (x.L f ++ [x.pkt f z]) t).length ≤ N + 1
    by_cases e : t = f
    · subst e; rw [upd_self]; have := h.len t ht; simp; omega
    · rw [upd_ne _ _ e]; have := h.len t ht; omega
  · have := h.sq
    show 0 ≤ x.seq + 1 ∧ x.seq + 1 ≤ _
    omega

theorem Wf.less {x : Wd} {N : Nat} (h : Wf x N) {f : Nat} {qs : List P6} {u : P6} (hq : x.L f = qs ++ [u]) (hne : qs ≠ []) : Wf (x.less f qs) N := by
  have hsz : szOf qs = szOf (x.L f) := by
    rw [hq]
    cases qs with
    | nil => exact absurd rfl hne
    | cons a l => rfl
  have hL : ∀ t, upd x.L f qs t = [] ↔ x.L t = [] := fun t => by
    by_cases e : t = f
    · subst e; rw [upd_self, hq]; simp [hne]
    · rw [upd_ne _ _ e]
  refine ⟨h.sl, h.nd, fun t => ?_, h.turn, h.q, h.d0, fun t ht hn => h.dn t ht ((hL t).1 hn), h.dh, fun t ht hh => ?_, fun t ht q hm => ?_, h.mo, fun t ht => ?_, h.sq, h.tl, h.g, h.se, h.N⟩
  · show t ∈ x.ring ↔ t < 4 ∧ ¬ upd x.L f qs t = []
    rw [hL]; exact h.mem t
  · show x.df t < szOf (upd x.L f qs t)
    have := h.ds t ht hh
    by_cases e : t = f
    · subst e; rw [upd_self, hsz]; exact this
    · rw [upd_ne _ _ e]; exact this
  · have hm' : q ∈ upd x.L f qs t := hm
    refine h.pk t ht q ?_
    by_cases e : t = f
    · subst e; rw [upd_self] at hm'; rw [hq]; simp [hm']
    · rw [upd_ne _ _ e] at hm'; exact hm'
  · show (upd x.L f qs t).length ≤ N
    have := h.len t ht
    by_cases e : t = f
    · subst e; rw [upd_self]; rw [hq] at this; simp at this; omega
    · rw [upd_ne _ _ e]; exact this

theorem Wf.anew {x : Wd} {N : Nat} (h : Wf x N) {f : Nat} (hf : f < 4) (hN : N + 1 ≤ 1000000) : Wf (x.anew f) (N + 1) := by
  have h1 := (h.outS hf).more (Nat.le_succ N) hN
  refine ⟨?_, h1.nd, h1.mem, h1.turn, h1.q, h1.d0, h1.dn, h1.dh, h1.ds, fun t ht q hq => ?_, h1.mo, h1.len, h1.sq, h1.tl, fun t ht => ?_, h1.se, hN⟩
  · show (x.sl.erase f ++ [f]).Perm _
    refine List.Perm.trans List.perm_append_comm ?_
    exact (List.perm_cons_erase (h.mem_sl.2 hf)).symm.trans h.sl
  · have hq' : q ∈ upd x.L f [] t := hq
    show q.f0 = t ∧ q.f1 = upd x.G f (x.G f + 1) t ∧ _
    by_cases e : t = f
    · subst e; rw [upd_self] at hq'; cases hq'
    · rw [upd_ne _ _ e]
      exact h1.pk t ht q hq
  · show 1 ≤ upd x.G f (x.G f + 1) t ∧ upd x.G f (x.G f + 1) t ≤ _
    have := h.g t ht
    by_cases e : t = f
    · subst e; rw [upd_self]; omega
    · rw [upd_ne _ _ e]; omega
end Go.Proofs.Yteojodcdehkejaa
/- What the discipline's calls make of the law's world. -/
namespace Go.Proofs.Yteojodcdehkejaa
open Go Go.RowKit

theorem Dr.ext' {d d' : Dr} (h1 : d.b = d'.b) (h2 : d.fv = d'.fv) (h3 : d.fS = d'.fS) (h4 : d.fl = d'.fl) (h5 : d.rb = d'.rb) (h6 : d.rds = d'.rds) (h7 : d.ring = d'.ring) (h8 : d.turn = d'.turn) (h9 : d.seq = d'.seq) (h10 : d.came = d'.came) (h11 : d.n = d'.n) : d = d' := by
  cases d; cases d'; simp_all
theorem blocks_of {x : Wd} {N : Nat} (h : Wf x N) {k : Nat → Fl} (hb : ∀ s, (k s).b = x.B s) {rs : List Nat} (h4 : ∀ s, s ∈ rs → s < 4) : blocksOf (x.sl.map k) (rs.map x.idx) = rs.map x.B := by
  unfold blocksOf
  rw [List.map_map]
  refine List.map_congr_left fun s hs => ?_
  simp only [Function.comp, List.getElem?_map, h.sl_at (h4 s hs), Option.map_some, Option.getD_some]
  exact hb s
theorem cnt_upd {L L' : Nat → List P6} {s : Nat} {k : Int} (hs : s < 4) (hL : ∀ t, t ≠ s → L' t = L t) (hk : ((L' s).length : Int) = (L s).length + k) :
    (((L' 0).length + (L' 1).length + (L' 2).length + (L' 3).length : Nat) : Int) = ((L 0).length + (L 1).length + (L 2).length + (L 3).length : Nat) + k := by
  rcases (show s = 0 ∨ s = 1 ∨ s = 2 ∨ s = 3 by omega) with rfl | rfl | rfl | rfl
  · rw [hL 1 (by omega), hL 2 (by omega), hL 3 (by omega)]; omega
  · rw [hL 0 (by omega), hL 2 (by omega), hL 3 (by omega)]; omega
  · rw [hL 0 (by omega), hL 1 (by omega), hL 3 (by omega)]; omega
  · rw [hL 0 (by omega), hL 1 (by omega), hL 2 (by omega)]; omega
theorem cells_ne {x : Wd} {N : Nat} (h : Wf x N) (hr : x.ring ≠ []) : 1 ≤ x.cnt := by
  cases hx : x.ring with
  | nil => exact absurd hx hr
  | cons s l =>
    obtain ⟨h4, hne⟩ := (h.mem s).1 (by rw [hx]; simp)
    have := h.cntge h4
    cases hl : x.L s with
    | nil => exact absurd hl hne
    | cons a l => rw [hl, List.length_cons] at this; omega

theorem x_next {w : World} {x : Wd} {N : Nat} (h : Wf x N) (hw : Holds w x.dr.chunks) (hr : x.ring ≠ []) (t : Int) :
    Calls Try.prog 14 #[.pointer (some ⟨x.db, 0, none⟩), .int .i64 t] w fun e w' => ∃ df1 s rest t1 p qs rds, NextS x df1 s rest t1 p qs ∧ e = .returned (.tuple #[aggp6 p, .bool true]) ∧
      Sep w (Chunks.bs x.dr.chunks) w' (x.nexted df1 s rest (if t1 then 0 else x.Q s) p qs rds (.slice none 0 0)).dr.chunks := by
  have h1 := cells_ne h hr
  have h2 := h.cntle
  have hN := h.N
  have hrl := h.rlen
  refine (dnext hw h.blocks h.fineAt h.ringNodup (by simp; omega) (by simpa using hr) t (show (1 : Int) ≤ (x.cnt : Int) by omega) (show (x.cnt : Int) ≤ 1125899906842624 by omega) h.by_).mono ?_
  rintro e w' ⟨fl, tt, i, rest, f, g, p, qs, rds, rds2, htr, hnd, hfine, hfi, hg, hq, hen, he, hs⟩
  obtain ⟨df1, rs', e1, e2, h4, hmt⟩ := mt_of_turns h htr x.df x.ring rfl rfl (fun s hs => h.lt hs)
  cases rs' with
  | nil => cases e2
  | cons s rest' =>
    simp only [List.map_cons, List.cons.injEq] at e2
    obtain ⟨rfl, rfl⟩ := e2
    have hs4 := h4 s (by simp)
    have hsl := h.sl_at hs4
    have e3 : f = ({ x with df := df1 } : Wd).fl s := by
      rw [e1, List.getElem?_map, hsl] at hfi
      exact (Option.some.inj hfi).symm
    subst e3
    have hq' : x.L s = p :: qs := hq
    have hg' : g = if tt then 0 else x.Q s := hg
    subst hg'
    have hset : fl.set (x.idx s) ((({ x with df := df1 } : Wd).fl s).add (if tt then 0 else x.Q s)) = x.sl.map ({ x with df := upd df1 s (df1 s + (if tt then 0 else x.Q s)) } : Wd).fl := by
      rw [e1]
      refine Eq.trans ?_ (map_set_upd (g := ({ x with df := df1 } : Wd).fl) h.nodup hsl fun t ht => ?_)
      · congr 1
        simp only [Wd.fl, Fl.add, upd_self]
      · simp only [Wd.fl, upd_ne _ _ ht]
    have hring : blocksOf (x.sl.map ({ x with df := upd df1 s (df1 s + (if tt then 0 else x.Q s)) } : Wd).fl) (x.idx s :: rest'.map x.idx) = (s :: rest').map x.B := blocks_of (rs := s :: rest') h (fun _ => rfl) h4
    have hby : bytesOf (x.L s) - p.f3 = bytesOf qs := by rw [hq', bytes_cons]; omega
    have hcnt : ∀ L' : Nat → List P6, L' = upd x.L s qs → (((L' 0).length + (L' 1).length + (L' 2).length + (L' 3).length : Nat) : Int) = x.cnt - 1 := fun L' e => by
      subst e
      rw [cnt_upd (L := x.L) (k := -1) hs4 (fun t ht => upd_ne _ _ ht) (by rw [upd_self, hq', List.length_cons]; omega)]
      rfl
    refine ⟨df1, s, rest', tt, p, qs, if qs = [] then rds2 else rds, ⟨hmt, hq', hen⟩, he, ?_⟩
    rw [hset] at hs
    by_cases hqs : qs = []
    · rw [if_pos hqs] at hs ⊢
      refine (congrArg (fun d => Sep w (Chunks.bs x.dr.chunks) w' (Dr.chunks d)) ?_).mp hs
      refine Dr.ext' rfl rfl rfl ?_ rfl rfl ?_ ?_ rfl rfl ?_
      · show ((x.sl.map _).set (x.idx s) _).set (x.idx s) _ = x.sl.map _
        rw [List.set_set]
        refine Eq.trans ?_ (map_set_upd (g := ({ x with df := upd df1 s (df1 s + (if tt then 0 else x.Q s)) } : Wd).fl) h.nodup hsl fun t ht => ?_)
        · congr 1
          simp only [Wd.fl, Wd.nexted, Fl.add, Fl.sent, upd_self, if_pos hqs, hby]
        · simp only [Wd.fl, Wd.nexted, upd_ne _ _ ht]
      · show (blocksOf _ _).eraseIdx 0 = (if qs = [] then rest' else s :: rest').map x.B
        rw [hring, if_pos hqs]; rfl
      · show (if (0 : Nat) = 0 then false else true) = if qs = [] then false else true
        rw [if_pos hqs]; rfl
      · show (x.cnt : Int) - 1 = _
        exact (hcnt _ rfl).symm
    · rw [if_neg hqs] at hs ⊢
      refine (congrArg (fun d => Sep w (Chunks.bs x.dr.chunks) w' (Dr.chunks d)) ?_).mp hs
      refine Dr.ext' rfl rfl rfl ?_ rfl rfl ?_ ?_ rfl rfl ?_
      · show (x.sl.map _).set (x.idx s) _ = x.sl.map _
        refine Eq.trans ?_ (map_set_upd (g := ({ x with df := upd df1 s (df1 s + (if tt then 0 else x.Q s)) } : Wd).fl) h.nodup hsl fun t ht => ?_)
        · congr 1
          simp only [Wd.fl, Wd.nexted, Fl.add, Fl.sent, upd_self, if_neg hqs, hby]
        · simp only [Wd.fl, Wd.nexted, upd_ne _ _ ht]
      · show blocksOf _ _ = (if qs = [] then rest' else s :: rest').map x.B
        rw [hring, if_neg hqs]
      · show true = if qs = [] then false else true
        rw [if_neg hqs]
      · show (x.cnt : Int) - 1 = _
        exact (hcnt _ rfl).symm

theorem Wf.binj {w : World} {x : Wd} {N : Nat} (h : Wf x N) (hw : Holds w x.dr.chunks) {s t : Nat} (hs : s < 4) (ht : t < 4) (e : x.B s = x.B t) : s = t := by
  have hn := Dr.bs_nodup hw
  have e1 : (x.dr.fl.map (·.b))[x.idx s]? = some (x.B s) := by rw [List.getElem?_map, h.at_ hs]; rfl
  have e2 : (x.dr.fl.map (·.b))[x.idx t]? = some (x.B t) := by rw [List.getElem?_map, h.at_ ht]; rfl
  refine h.idx_inj hs ht ?_
  rw [← idx_of hn e1, ← idx_of hn e2, e]
/-- where a flow stands in the ring -/
theorem Wf.stand {w : World} {x : Wd} {N : Nat} (h : Wf x N) (hw : Holds w x.dr.chunks) {f : Nat} (hf : f ∈ x.ring) : x.dr.ring[x.ring.idxOf f]? = some (x.fl f).b ∧ ∀ j, j < x.ring.idxOf f → x.dr.ring[j]? ≠ some (x.fl f).b := by
  refine ⟨?_, fun j hj e => ?_⟩
  · show (x.ring.map x.B)[_]? = _
    rw [List.getElem?_map, idx_at hf]; rfl
  · have e' : (x.ring.map x.B)[j]? = some (x.B f) := e
    rw [List.getElem?_map] at e'
    cases hl : x.ring[j]? with
    | none => rw [hl] at e'; cases e'
    | some t =>
      rw [hl] at e'
      have hb : x.B t = x.B f := by simpa using e'
      have := h.binj hw (h.lt (List.mem_of_getElem? hl)) (h.lt hf) hb
      subst this
      have := idx_of h.nd hl
      omega
theorem Wf.rows {x : Wd} {N : Nat} (h : Wf x N) : ∀ b, b ∈ x.dr.ring → ∃ (j : Nat) (g : Fl), x.dr.fl[j]? = some g ∧ g.b = b := by
  intro b hb
  obtain ⟨s, hs, rfl⟩ := List.mem_map.1 (show b ∈ x.ring.map x.B from hb)
  exact ⟨x.idx s, x.fl s, h.at_ (h.lt hs), rfl⟩
theorem Wf.dlen {x : Wd} {N : Nat} (h : Wf x N) : x.dr.ring.length ≤ 1048576 := by
  have := h.rlen
  show (x.ring.map x.B).length ≤ _
  simp; omega
theorem erase_idx {l : List Nat} {f : Nat} : l.erase f = l.eraseIdx (l.idxOf f) := by
  induction l with
  | nil => rfl
  | cons a l ih =>
    by_cases e : a = f
    · subst e; simp
    · have hi : (a :: l).idxOf f = l.idxOf f + 1 := by rw [List.idxOf_cons, show (a == f) = false from by simpa using e]; rfl
      rw [List.erase_cons_tail (by simpa using e), hi, List.eraseIdx_cons_succ, ih]
theorem idx_zero {l : List Nat} {f : Nat} (hf : f ∈ l) : l.idxOf f = 0 ↔ l.head? = some f := by
  cases l with
  | nil => cases hf
  | cons a l =>
    by_cases e : a = f
    · subst e; simp
    · have hi : (a :: l).idxOf f = l.idxOf f + 1 := by rw [List.idxOf_cons, show (a == f) = false from by simpa using e]; rfl
      rw [hi]; simp [e]

theorem x_next_no {w : World} {x : Wd} (hw : Holds w x.dr.chunks) (hr : x.ring = []) (t : Int) :
    Calls Try.prog 14 #[.pointer (some ⟨x.db, 0, none⟩), .int .i64 t] w fun e w' => e = .returned (.tuple #[aggp6 zerop6, .bool false]) ∧ ∃ rds, Sep w (Chunks.bs x.dr.chunks) w' ({ x with rds := rds } : Wd).dr.chunks := by
  refine (dnext_no hw (show x.ring.map x.B = [] by rw [hr]; rfl) t).mono ?_
  rintro e w' ⟨he, rds, hs⟩
  exact ⟨he, rds, hs⟩

theorem x_evict {w : World} {x : Wd} {N : Nat} (h : Wf x N) (hw : Holds w x.dr.chunks) {f : Nat} (hf : f < 4) {v : P6} {qs : List P6} (hq : x.L f = qs ++ [v]) :
    Calls Try.prog 43 #[.pointer (some ⟨x.db, 0, none⟩), aggp6 v] w fun e w' => e = .returned (.int .i64 0) ∧ ∃ rds,
      Sep w (Chunks.bs x.dr.chunks) w' (if qs = [] then { x.outS f with rds := rds } else x.less f qs : Wd).dr.chunks := by
  have hv := h.pk f hf v (by rw [hq]; simp)
  have hne : x.L f ≠ [] := by rw [hq]; simp
  have hmem := (h.mem f).2 ⟨hf, hne⟩
  obtain ⟨s1, s2⟩ := h.stand hw hmem
  have hN := h.N
  have hcn := h.cntle
  have hcg := h.cntge hf
  rw [hq, List.length_append, List.length_singleton] at hcg
  have hby := (h.bytes hf).2
  have hbq := bytes_nonneg (l := qs) (fun p hp => (h.pk f hf p (by rw [hq]; simp [hp])).2.2.2.1)
  have hbs : bytesOf (x.L f) = bytesOf qs + v.f3 := by rw [hq, bytes_app, bytes_one]
  have hsl := h.sl_at hf
  refine (devict hw (p := v) (by rw [hv.1, hv.2.1]; exact h.look hf) (h.at_ hf) (v := v) (qs := qs) hq rfl (by omega) (by show v.f3 ≤ bytesOf (x.L f); omega) (by show bytesOf (x.L f) ≤ _; omega)
    (show (1 : Int) ≤ (x.cnt : Int) by omega) (show (x.cnt : Int) ≤ 1125899906842624 by omega) s1 s2 h.dlen h.rows).mono ?_
  rintro e w' ⟨he, rds, hs⟩
  refine ⟨he, rds, ?_⟩
  have hcnt : ∀ L' : Nat → List P6, L' = upd x.L f qs → (((L' 0).length + (L' 1).length + (L' 2).length + (L' 3).length : Nat) : Int) = x.cnt - 1 := fun L' e => by
    subst e
    rw [cnt_upd (L := x.L) (k := -1) hf (fun t ht => upd_ne _ _ ht) (by rw [upd_self, hq, List.length_append, List.length_singleton]; omega)]
    rfl
  by_cases hqs : qs = []
  · rw [if_pos hqs] at hs ⊢
    subst hqs
    refine (congrArg (fun d => Sep w (Chunks.bs x.dr.chunks) w' (Dr.chunks d)) ?_).mp hs
    refine Dr.ext' rfl rfl rfl ?_ rfl rfl ?_ ?_ rfl rfl ?_
    · show ((x.sl.map x.fl).set (x.idx f) _).set (x.idx f) _ = x.sl.map _
      rw [List.set_set]
      refine Eq.trans ?_ (map_set_upd (g := x.fl) h.nodup hsl fun t ht => ?_)
      · congr 1
        simp only [Wd.fl, Wd.outS, Fl.less, upd_self, hbs, bytes_nil]
        simp
      · simp only [Wd.fl, Wd.outS, upd_ne _ _ ht]
    · show (x.ring.map x.B).eraseIdx _ = (x.ring.erase f).map x.B
      rw [erase_idx, map_eraseIdx]
    · show (if x.ring.idxOf f = 0 then false else x.turn) = if x.ring.head? = some f then false else x.turn
      simp only [idx_zero hmem]
    · show (x.cnt : Int) - 1 = _
      exact (hcnt _ rfl).symm
  · rw [if_neg hqs] at hs ⊢
    refine (congrArg (fun d => Sep w (Chunks.bs x.dr.chunks) w' (Dr.chunks d)) ?_).mp hs
    refine Dr.ext' rfl rfl rfl ?_ rfl rfl rfl rfl rfl rfl ?_
    · show (x.sl.map x.fl).set (x.idx f) _ = x.sl.map _
      refine Eq.trans ?_ (map_set_upd (g := x.fl) h.nodup hsl fun t ht => ?_)
      · congr 1
        simp only [Wd.fl, Wd.less, Fl.less, upd_self, hbs]
        simp
      · simp only [Wd.fl, Wd.less, upd_ne _ _ ht]
    · show (x.cnt : Int) - 1 = _
      exact (hcnt _ rfl).symm

theorem x_admit {w : World} {x : Wd} {N : Nat} (h : Wf x N) (hw : Holds w x.dr.chunks) {f : Nat} (hf : f < 4) {z : Int} (hz : 1 ≤ z) (hz2 : z ≤ 1024) :
    Calls Try.prog 13 #[.pointer (some ⟨x.db, 0, none⟩), aggp6 (x.pkt f z)] w fun e w' => e = .returned (.int .i64 0) ∧ ∃ rds ds,
      Sep w (Chunks.bs x.dr.chunks) w' (x.put f z rds ds (.slice none 0 0) []).dr.chunks := by
  have hN := h.N
  have hcn := h.cntle
  have hby := h.bytes hf
  have hsl := h.sl_at hf
  have hsq := h.sq
  have hl4 := h.len f hf
  have ok : x.dr.Ok (x.pkt f z) (x.idx f) := ⟨h.look hf, hz, by show z ≤ _; omega, by show x.seq < x.seq + 1; omega, by show (0 : Int) ≤ 0; omega, by show (0 : Int) ≤ _; omega⟩
  refine (dadmit hw ok (h.at_ hf) (show (x.L f).length ≤ _ by omega) h.dlen hby.1 (show bytesOf (x.L f) ≤ _ by omega) (show (0 : Int) ≤ (x.cnt : Int) by omega) (show (x.cnt : Int) ≤ 1125899906842624 by omega)).mono ?_
  rintro e w' ⟨he, rds, ds, hs⟩
  refine ⟨he, rds, ds, ?_⟩
  refine (congrArg (fun d => Sep w (Chunks.bs x.dr.chunks) w' (Dr.chunks d)) ?_).mp hs
  refine Dr.ext' rfl rfl rfl ?_ rfl rfl ?_ rfl rfl rfl ?_
  · show (x.sl.map x.fl).set (x.idx f) _ = x.sl.map _
    refine Eq.trans ?_ (map_set_upd (g := x.fl) h.nodup hsl fun t ht => ?_)
    · congr 1
      simp only [Wd.fl, Wd.put, Fl.got, upd_self, bytes_app, bytes_one]
      congr 1
      show (if (x.fl f).q = [] then (0 : Int) else (x.fl f).df) = (x.fl f).df
      by_cases e : (x.fl f).q = []
      · rw [if_pos e]; exact (h.dn f hf e).symm
      · rw [if_neg e]
    · simp only [Wd.fl, Wd.put, upd_ne _ _ ht]
  · show (if x.L f = [] then x.ring.map x.B ++ [x.B f] else x.ring.map x.B) = (if x.L f = [] then x.ring ++ [f] else x.ring).map x.B
    split <;> simp
  · show (x.cnt : Int) + 1 = _
    refine (cnt_upd (L := x.L) (L' := upd x.L f (x.L f ++ [x.pkt f z])) (k := 1) hf (fun t ht => upd_ne _ _ ht) (by rw [upd_self]; simp)).symm
end Go.Proofs.Yteojodcdehkejaa
/- What the discipline's calls make of the law's world: Leave and Join, and what is told. -/
namespace Go.Proofs.Yteojodcdehkejaa
open Go Go.RowKit

/-- a flow has left -/
def Wd.gone (x : Wd) (f : Nat) (fv : Value) (rds : List Nat) : Wd := { x.outS f with sl := x.sl.erase f, fv := fv, rds := rds }
theorem x_leave {w : World} {x : Wd} {N : Nat} (h : Wf x N) (hw : Holds w x.dr.chunks) {f : Nat} (hf : f < 4) (t : Int) :
    Calls Try.prog 44 #[.pointer (some ⟨x.db, 0, none⟩), .agg #[.int .i64 f, .int .i64 (x.G f)], .int .i64 t] w fun e w' =>
      ∃ v S fv rds, e = .returned (.tuple #[v, .int .i64 0]) ∧ Sep w (Chunks.bs x.dr.chunks) w' (Chunk.own 34 6 v (x.L f).length ((x.L f).flatMap encP6) S :: (x.gone f fv rds).dr.chunks) := by
  have hN := h.N
  have hcn := h.cntle
  have hcg := h.cntge hf
  have hsl := h.sl_at hf
  have hfl : (x.sl.map x.fl).set (x.idx f) { x.fl f with df := 0 } = x.sl.map ({ x with df := upd x.df f 0 } : Wd).fl := by
    refine Eq.trans ?_ (map_set_upd (g := x.fl) h.nodup hsl fun t ht => ?_)
    · congr 1
      simp only [Wd.fl, upd_self]
    · simp only [Wd.fl, upd_ne _ _ ht]
  refine (dleave hw (h.look hf) (h.at_ hf) (P := fun d1 => d1.rb = x.rb ∧ d1.ring = (x.ring.erase f).map x.B ∧ d1.turn = if x.ring.head? = some f then false else x.turn) (fun X hX => ?_)
    (show ((x.L f).length : Int) ≤ (x.cnt : Int) by omega) (show (x.cnt : Int) ≤ 1125899906842624 by omega) t).mono ?_
  · by_cases hmem : f ∈ x.ring
    · obtain ⟨s1, s2⟩ := h.stand hX hmem
      refine (dout hX (h.at_ hf) s1 s2 h.dlen h.rows).mono ?_
      rintro e w' ⟨he, rds, hs⟩
      refine ⟨he, x.dr.outed (x.idx f) (x.fl f) (x.ring.idxOf f) rds, ⟨rfl, rfl, rfl, rfl, rfl, rfl, rfl⟩, ⟨rfl, ?_, ?_⟩, hs⟩
      · show (x.ring.map x.B).eraseIdx _ = _
        rw [erase_idx, map_eraseIdx]
      · show (if x.ring.idxOf f = 0 then false else x.turn) = _
        simp only [idx_zero hmem]
    · refine (dout_no hX (h.at_ hf) (fun j e => ?_) h.dlen h.rows).mono ?_
      · have e' : (x.ring.map x.B)[j]? = some (x.B f) := e
        rw [List.getElem?_map] at e'
        cases hl : x.ring[j]? with
        | none => rw [hl] at e'; cases e'
        | some t =>
          rw [hl] at e'
          have hb : x.B t = x.B f := by simpa using e'
          have := h.binj hX (h.lt (List.mem_of_getElem? hl)) hf hb
          subst this
          exact hmem (List.mem_of_getElem? hl)
      · rintro e w' ⟨he, hs⟩
        refine ⟨he, x.dr.setF (x.idx f) { x.fl f with df := 0 }, ⟨rfl, rfl, rfl, rfl, rfl, rfl, rfl⟩, ⟨rfl, ?_, ?_⟩, hs⟩
        · show x.ring.map x.B = _
          rw [List.erase_of_not_mem hmem]
        · show x.turn = _
          have hn : x.ring.head? ≠ some f := fun e => hmem (List.mem_of_mem_head? e)
          rw [if_neg hn]
  · rintro e w' ⟨v, S, d1, fv, he, od, ⟨p1, p2, p3⟩, hs⟩
    refine ⟨v, S, fv, d1.rds, he, ?_⟩
    refine (congrArg (fun d => Sep w (Chunks.bs x.dr.chunks) w' (Chunk.own 34 6 v (x.L f).length ((x.L f).flatMap encP6) S :: Dr.chunks d)) ?_).mp hs
    refine Dr.ext' od.b rfl od.fS ?_ p1 rfl p2 p3 od.seq od.came ?_
    · show d1.fl.eraseIdx (x.idx f) = (x.sl.erase f).map _
      rw [od.fl]
      show ((x.sl.map x.fl).set (x.idx f) { x.fl f with df := 0 }).eraseIdx (x.idx f) = _
      rw [hfl, ← map_eraseIdx, erase_idx]
      refine List.map_congr_left fun s hs => ?_
      have hs' : s ∈ x.sl.erase f := by rw [erase_idx]; exact hs
      have : s ≠ f := ((h.nodup.mem_erase_iff).1 hs').1
      simp only [Wd.fl, Wd.gone, Wd.outS, upd_ne _ _ this]
    · show d1.n - _ = _
      rw [od.n]
      refine Eq.symm ((cnt_upd (L := x.L) (L' := upd x.L f []) (k := -((x.L f).length : Int)) hf (fun t ht => upd_ne _ _ ht) (by rw [upd_self]; simp; omega)).trans ?_)
      show (x.cnt : Int) + _ = (x.cnt : Int) - _
      simp only [Wd.fl]
      omega

/-- a flow has come anew -/
def Wd.again (x : Wd) (f : Nat) (fv : Value) (fS rds : List Nat) (b r : Nat) : Wd := { x.anew f with fv := fv, fS := fS, rds := rds, B := upd x.B f b, R := upd x.R f r, DS := upd x.DS f [] }
theorem x_join {w : World} {x : Wd} {N : Nat} (h : Wf x N) {f : Nat} (hf : f < 4) {fv : Value} {rds : List Nat} (hw : Holds w (x.gone f fv rds).dr.chunks) {db : Nat} (hdb : x.db = db) (a2 a3 a4 a5 a6 a7 : Value) (t : Int) :
    Calls Try.prog 12 #[.pointer (some ⟨db, 0, none⟩), .agg #[.int .i64 f, .int .i64 (x.G f + 1)], .agg #[.int .i64 1, .int .i64 (x.Q f), a2, a3, a4, a5, a6, a7], .int .i64 t] w fun e w' => e = .returned (.int .i64 0) ∧
      ∃ fv' fS b r, Sep w (Chunks.bs (x.gone f fv rds).dr.chunks) w' (x.again f fv' fS rds b r).dr.chunks := by
  subst hdb
  have hno : ∀ (j : Nat) (g : Fl), (x.gone f fv rds).dr.fl[j]? = some g → g.slot ≠ f := fun j g hg e => by
    obtain ⟨s, hs, rfl⟩ := List.mem_map.1 (show g ∈ (x.sl.erase f).map (x.gone f fv rds).fl from List.mem_of_getElem? hg)
    have h1 := ((h.nodup.mem_erase_iff).1 hs).1
    have e' : (s : Int) = f := e
    omega
  have hlen : (x.gone f fv rds).dr.fl.length ≤ 1048576 := by
    show ((x.sl.erase f).map _).length ≤ _
    have := List.length_erase_le (a := f) (l := x.sl)
    have := h.len4
    simp; omega
  refine (djoin hw f (x.G f + 1) 1 (x.Q f) a2 a3 a4 a5 a6 a7 t hno hlen).mono ?_
  rintro e w' ⟨he, fv', fS, b, r, hs⟩
  refine ⟨he, fv', fS, b, r, ?_⟩
  refine (congrArg (fun d => Sep w (Chunks.bs (x.gone f fv rds).dr.chunks) w' (Dr.chunks d)) ?_).mp hs
  refine Dr.ext' rfl rfl rfl ?_ rfl rfl ?_ rfl rfl rfl rfl
  · show (x.sl.erase f).map _ ++ [_] = (x.sl.erase f ++ [f]).map _
    rw [List.map_append]
    congr 1
    · refine List.map_congr_left fun s hs => ?_
      have : s ≠ f := ((h.nodup.mem_erase_iff).1 hs).1
      simp only [Wd.fl, Wd.gone, Wd.again, Wd.anew, upd_ne _ _ this]
      rfl
    · have hq := h.q f hf
      have hc : clampQ (x.Q f) = x.Q f := by unfold clampQ; rw [if_neg (by omega), if_neg (by omega)]
      simp only [List.map_cons, List.map_nil, Wd.fl, Wd.again, Wd.anew, Wd.outS, Fl.new, upd_self, hc, bytes_nil]
  · show (x.ring.erase f).map x.B = (x.ring.erase f).map (upd x.B f b)
    refine List.map_congr_left fun s hs => ?_
    rw [upd_ne _ _ ((h.nd.mem_erase_iff).1 hs).1]

theorem x_deficit {w : World} {x : Wd} {N : Nat} (h : Wf x N) (hw : Holds w x.dr.chunks) {f : Nat} (hf : f < 4) :
    Calls Try.prog 15 #[.pointer (some ⟨x.db, 0, none⟩), .agg #[.int .i64 f, .int .i64 (x.G f)]] w fun e w' => e = .returned (.tuple #[.int .i64 (x.df f), .int .i64 0]) ∧ Fr [] w w' :=
  ddeficit hw (h.look hf) (h.at_ hf)
/-- a list of handles, as cells -/
def hds (G : Nat → Int) (l : List Nat) : List Value := l.flatMap fun s : Nat => [.int .i64 (s : Int), .int .i64 (G s)]
theorem x_ring {w : World} {x : Wd} {N : Nat} (h : Wf x N) (hw : Holds w x.dr.chunks) :
    Calls Try.prog 18 #[.pointer (some ⟨x.db, 0, none⟩)] w fun e w' => ∃ v S, e = .returned v ∧ OwnS w' 26 2 v x.ring.length (hds x.G x.ring) S ∧ Gr w [] S ∧ Fr [] w w' := by
  have hrl := h.rlen
  refine (dring hw h.blocks (fun i hi => ?_) (by simp; omega)).mono ?_
  · obtain ⟨s, hs, rfl⟩ := List.mem_map.1 hi
    exact ⟨_, h.at_ (h.lt hs)⟩
  · rintro e w' ⟨v, S, he, ho, hg, hf⟩
    refine ⟨v, S, he, ?_, hg, hf⟩
    have e1 : hcells x.dr.fl (x.ring.map x.idx) = hds x.G x.ring := by
      unfold hcells hds
      rw [List.map_map, List.flatMap_map]
      unfold List.flatMap
      congr 1
      refine List.map_congr_left fun s hs => ?_
      simp only [Function.comp, hnd, h.at_ (h.lt hs)]
      rfl
    rw [List.length_map, e1] at ho
    exact ho
set_option maxRecDepth 100000 in
theorem x_turn_no {w : World} {x : Wd} (hw : Holds w x.dr.chunks) (ht : x.turn = false) :
    Calls Try.prog 19 #[.pointer (some ⟨x.db, 0, none⟩)] w fun e w' => e = .returned (.tuple #[.agg #[.int .i64 0, .int .i64 0], .bool false]) ∧ Fr [] w w' := dturn_no (d := x.dr) hw ht
set_option maxRecDepth 100000 in
theorem x_turn_yes {w : World} {x : Wd} {N : Nat} (h : Wf x N) (hw : Holds w x.dr.chunks) (ht : x.turn = true) {s : Nat} {rest : List Nat} (hr : x.ring = s :: rest) :
    Calls Try.prog 19 #[.pointer (some ⟨x.db, 0, none⟩)] w fun e w' => e = .returned (.tuple #[.agg #[.int .i64 s, .int .i64 (x.G s)], .bool true]) ∧ Fr [] w w' :=
  dturn_yes (d := x.dr) hw ht (h.at_ (h.lt (by rw [hr]; simp))) (rest := rest.map x.B) (show x.ring.map x.B = _ by rw [hr]; rfl)
set_option maxRecDepth 100000 in
theorem x_len {w : World} {x : Wd} (hw : Holds w x.dr.chunks) :
    Calls Try.prog 27 #[.pointer (some ⟨x.db, 0, none⟩)] w fun e w' => e = .returned (.int .i64 x.cnt) ∧ w' = w := dlen (d := x.dr) hw
end Go.Proofs.Yteojodcdehkejaa
