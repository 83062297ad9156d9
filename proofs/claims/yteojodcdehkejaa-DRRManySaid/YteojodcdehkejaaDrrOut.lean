/- A discipline by turns: out. -/
import Derived.Test.YteojodcdehkejaaDrrSteps
import Derived.LaidEqlPtr
namespace Go.Proofs.Yteojodcdehkejaa
open Go Go.RowKit
attribute [local go_sem] calmQ_normal wide_fn wide_depth Oper.semAt_some run_store_func

/-- a flow that stands in the ring no more -/
def Dr.outed (d : Dr) (k : Nat) (f : Fl) (i : Nat) (rds : List Nat) : Dr := { d.setF k { f with df := 0 } with ring := d.ring.eraseIdx i, rds := rds, turn := if i = 0 then false else d.turn }
theorem infoFl_ex : ∃ j, Try.prog.info? 95 = some j ∧ j.size ≠ 0 := by
  have : (Try.prog.info? 95).map (fun i => i.size) = some 7 := by kernel_rfl
  cases h : Try.prog.info? 95 with
  | none => rw [h] at this; cases this
  | some j => rw [h] at this; simp at this; exact ⟨j, rfl, by omega⟩
theorem Dr.bs_setF {d : Dr} {k : Nat} {f f' : Fl} (hf : d.fl[k]? = some f) (hb : f'.b = f.b) (hq : CQ f' = CQ f) : Chunks.bs (d.setF k f').chunks = Chunks.bs d.chunks := by
  rw [← Dr.set_str hf hb hq]
  have hbs : (CStr f').bs = (CStr f).bs := by show [f'.b] = [f.b]; rw [hb]
  have h := Dr.str_at hf
  generalize d.chunks = l at h
  generalize 3 + k = i at h
  unfold Chunks.bs
  induction l generalizing i with
  | nil => simp at h
  | cons a l ih =>
    cases i with
    | zero => simp at h; subst h; simp [hbs]
    | succ i => simp only [List.getElem?_cons_succ] at h; simp [ih i h]
theorem map_erase (l : List Nat) (i : Nat) : (l.map some).eraseIdx i = (l.eraseIdx i).map some := by
  induction l generalizing i with
  | nil => rfl
  | cons a l ih => cases i <;> simp [ih]
theorem zipr {l : List Nat} {pre post : List (Option Nat × Nat)} {x : Option Nat × Nat} (hx : (l.map some).zipIdx = pre ++ x :: post) : ∃ b, l[pre.length]? = some b ∧ x = (some b, pre.length) := by
  have h : ((l.map some).zipIdx)[pre.length]? = some x := by rw [hx]; simp
  have hl := congrArg List.length hx
  simp at hl
  obtain ⟨b, hb⟩ : ∃ b, l[pre.length]? = some b := ⟨l[pre.length]'(by omega), by simp [show pre.length < l.length by omega]⟩
  refine ⟨b, hb, ?_⟩
  rw [List.getElem?_zipIdx] at h
  simp [hb] at h
  rw [← h]
set_option maxRecDepth 100000 in
set_option maxHeartbeats 4000000 in
theorem dout {w : World} {d : Dr} (h : Holds w d.chunks) {k : Nat} {f : Fl} (hf : d.fl[k]? = some f) {i : Nat} (hi : d.ring[i]? = some f.b) (hb : ∀ j, j < i → d.ring[j]? ≠ some f.b) (hrl : d.ring.length ≤ 1048576) (hrw : ∀ b, b ∈ d.ring → ∃ (j : Nat) (g : Fl), d.fl[j]? = some g ∧ g.b = b) :
    Calls Try.prog 42 #[.pointer (some ⟨d.b, 0, none⟩), .pointer (some ⟨f.b, 0, none⟩)] w fun e w' => e = .returned (.tuple #[]) ∧ ∃ rds, Sep w (Chunks.bs d.chunks) w' (d.outed k f i rds).chunks := by
  have K0 := Lib.hid (Dr.inbox2 (Dr.inbox2 (Dr.inbox (Dr.set1 (pre := []) (by simpa using Sep.start h) hf { f with df := 0 } 4 (.int .i64 0) rfl rfl rfl) 22 [.pointer (some ⟨d.b, 0, none⟩)]) 89 [.pointer (some ⟨f.b, 0, none⟩)]) 87 [.pointer (some ⟨d.rb, 0, none⟩)])
  simp only [World.size_alloc, World.size_setCell] at K0
  have HF := Lib.hid hf
  have HI := Lib.hid hi
  have HBF := Lib.hid hb
  have HRW := Lib.hid hrw
  have hclt := Lib.hid h.lt
  have s4 : w.cell? ⟨f.b, 4, none⟩ = some (.int .i64 f.df) := (show Blk w f.b 95 f.cells from h.get (Dr.str_at hf)).cell 4
  have q4 := (show Blk w f.b 95 f.cells from h.get (Dr.str_at hf)).frz 4
  have lf := (show Blk w f.b 95 f.cells from h.get (Dr.str_at hf)).lt
  have b1 : w.cell? ⟨d.b, 1, none⟩ = some (.pointer (some ⟨d.rb, 0, none⟩)) := (show Blk w d.b 92 d.head from h.get (i := 0) rfl).cell 1
  have lb := (show Blk w d.b 92 d.head from h.get (i := 0) rfl).lt
  have nfd : f.b ≠ d.b := fun e => h.apart (i := 0) (j := 3 + k) (by omega) rfl (Dr.str_at hf) d.b (List.mem_singleton.2 rfl) (List.mem_singleton.2 e.symm)
  have ndf := Ne.symm nfd
  have l1 : w.heap.size < w.heap.size + 1 := by omega
  have lf1 : f.b < w.heap.size + 1 := by omega
  have lb1 : d.b < w.heap.size + 1 := by omega
  clear h hf hi hb hrw
  obtain ⟨infoFl, infoFl_is, infoFl_sz⟩ := infoFl_ex
  refine callsIn_wide.1 (callsIn_of_wp_marks (n := 0) (F := Fence.wide) Try.func42 rfl trivial ?_ rfl)
  simp only [Try.ntmps42, List.size_toArray, List.length_cons, List.length_nil, Nat.reduceAdd, Nat.reduceSub, Array.replicate_succ, Array.replicate_zero, List.push_toArray, List.append_toArray, List.nil_append, List.cons_append]
  gi_wp2_with (gi_at_call 46; refine (wideIn _ (all_q _ d.rb)).mono ?_; rintro er w' ⟨rfl, rfl⟩)
  obtain ⟨W, hW⟩ : ∃ W, ((((w.setCell ⟨f.b, 4, none⟩ (.int .i64 0)).alloc (.cells #[.pointer (some ⟨d.b, 0, none⟩)] 22)).alloc (.cells #[.pointer (some ⟨f.b, 0, none⟩)] 89)).alloc (.cells #[.pointer (some ⟨d.rb, 0, none⟩)] 87)) = W := ⟨_, rfl⟩
  obtain ⟨A, hA⟩ : ∃ A, w.heap.size = A := ⟨_, rfl⟩
  have KW : Hid (Sep w (Chunks.bs d.chunks) W ([Chunk.blk (A + 1 + 1) 87 [.pointer (some ⟨d.rb, 0, none⟩)], Chunk.blk (A + 1) 89 [.pointer (some ⟨f.b, 0, none⟩)], Chunk.blk A 22 [.pointer (some ⟨d.b, 0, none⟩)]] ++ (d.setF k { f with df := 0 }).chunks)) := by
    rw [← hW, ← hA]; exact K0.out
  have hclA : ∀ b, b ∈ Chunks.bs d.chunks → b < A := by rw [← hA]; exact hclt.out
  rw [hW, hA]
  clear hW hA K0 hclt s4 q4 lf b1 lb l1 lf1 lb1 nfd ndf
  have x0 : W.cell? ⟨A, 0, none⟩ = some (.pointer (some ⟨d.b, 0, none⟩)) := (KW.out.blk 2 rfl).cell 0
  have x1 : W.cell? ⟨A + 1, 0, none⟩ = some (.pointer (some ⟨f.b, 0, none⟩)) := (KW.out.blk 1 rfl).cell 0
  have x2 : W.cell? ⟨A + 1 + 1, 0, none⟩ = some (.pointer (some ⟨d.rb, 0, none⟩)) := (KW.out.blk 0 rfl).cell 0
  have hlW : A + 1 + 1 < W.heap.size := (KW.out.blk 0 rfl).lt
  obtain ⟨d2, hd2⟩ : ∃ d2 : Dr, Hid (d.setF k { f with df := 0 } = d2) := ⟨_, Lib.hid rfl⟩
  have hH : Holds W d2.chunks := by rw [← hd2.out]; exact KW.out.hs.right
  have hcl2 : ∀ b, b ∈ Chunks.bs d2.chunks → b < A := by
    have e : Chunks.bs d2.chunks = Chunks.bs d.chunks := by rw [← hd2.out]; exact Dr.bs_setF HF.out rfl rfl
    rw [e]; exact hclA
  have hring : Rgq W d.rb d.rds (d.ring.map some) := by have := hH.get (i := 2) rfl; rw [← hd2.out] at this; exact this
  have hseq := seq_q hring x2
  obtain ⟨d3, hd3⟩ : ∃ d3 : Dr, Hid (({ d2 with ring := d.ring.eraseIdx i, turn := if i = 0 then false else d.turn } : Dr) = d3) := ⟨_, Lib.hid rfl⟩
  have hb3 : Chunks.bs d3.chunks = Chunks.bs d2.chunks := by rw [← hd3.out]; rfl
  obtain ⟨J, hJ⟩ : ∃ J : List Nat → List (Option Nat × Nat) → World → Prop, Hid (J = fun S1 pre X => S1 = Chunks.bs d2.chunks ∧ Holds X d2.chunks ∧ pre.length ≤ i) := ⟨_, Lib.hid rfl⟩
  obtain ⟨JX, hJX⟩ : ∃ JX : Code → List Nat → List (Option Nat × Nat) → World → Prop, Hid (JX = fun c S1 pre X => S1 = Chunks.bs d2.chunks ∧ Holds X d3.chunks ∧ c = .ret) := ⟨_, Lib.hid rfl⟩
  have locJ : Loc W.heap.size J := by
    rw [hJ.out]
    rintro S1 pre X Y T ⟨rfl, hh, hp⟩ fr ht
    exact ⟨rfl, hh.fr' fr (fun b hb hm => (ht b hm).2 hb), hp⟩
  have locX : ∀ c, Loc W.heap.size (JX c) := by
    rw [hJX.out]
    rintro c S1 pre X Y T ⟨rfl, hh, hp⟩ fr ht
    exact ⟨rfl, hh.fr' fr (fun b hb hm => (ht b hm).2 (by rw [← hb3]; exact hb)), hp⟩
  refine wp_rangeF1 (gf := 83) (lb := #[.pointer (some ⟨A + 1 + 1, 0, none⟩)]) rfl (enters_of Try.func83 (by kernel_rfl) rfl) hseq (fun _ => rfl)
    J JX (Chunks.bs d2.chunks) (fun b hb => by have := hcl2 b hb; omega) locJ locX (by rw [hJ.out]; exact ⟨rfl, hH, by simp⟩)
    (fun x => { tmps := #[.pointer (some ⟨d.b, 0, none⟩), .pointer (some ⟨f.b, 0, none⟩), .pointer (some ⟨A, 0, none⟩), .pointer (some ⟨A + 1, 0, none⟩), .int .i64 x.2, ptrV x.1, .pointer (some ⟨f.b, 0, none⟩), .pointer (some ⟨f.b, 0, none⟩), .pointer (some ⟨f.b, 4, none⟩), .pointer (some ⟨d.b, 0, none⟩), .pointer (some ⟨d.b, 0, none⟩), .pointer (some ⟨d.b, 1, none⟩), .pointer (some ⟨d.rb, 0, none⟩), .func (.func 83) #[] #[.pointer (some ⟨A + 1 + 1, 0, none⟩)], .int .i64 x.2, ptrV x.1, undef, undef, undef, undef, undef, undef, undef, undef, undef, undef, undef, undef, undef, undef], defers := [] })
    ?assign1 ?body1 ?done1 ?stop1
  case assign1 =>
    intro l x X K hK
    simp only [entq]
    gi_wp2
    exact hK
  case body1 =>
    rintro l pre x post S1 X hx hz hg hf hl hnl hr hj
    rw [hJ.out] at hj
    obtain ⟨rfl, hh, hpi⟩ := hj
    obtain ⟨bb, hbb, rfl⟩ := zipr hx
    have nA : A ∉ Chunks.bs d2.chunks := fun hm => by have := hcl2 _ hm; omega
    have nA1 : A + 1 ∉ Chunks.bs d2.chunks := fun hm => by have := hcl2 _ hm; omega
    have y0 := (hf.cell (p := ⟨A, 0, none⟩) (show A < W.heap.size by omega) nA).trans x0
    have y1 := (hf.cell (p := ⟨A + 1, 0, none⟩) (show A + 1 < W.heap.size by omega) nA1).trans x1
    have HH := Lib.hid hh
    have HX := Lib.hid hf
    have hAX : A + 1 < X.heap.size := by omega
    have hAX0 : A < X.heap.size := by omega
    clear hx hr hg hf hh x0 x1 x2
    simp only [ptrV, Option.map_some]
    by_cases hki : pre.length = i
    · have hbf : bb = f.b := by
        have := HI.out
        rw [← hki, hbb] at this
        exact Option.some.inj this
      subst hki
      subst hbf
      have hbin : (binOp .eql 89 (.pointer (some ⟨f.b, 0, none⟩)) (.pointer (some ⟨f.b, 0, none⟩))).run Try.prog X = .ok (.bool true) X := by
        exact run_eql_ptr_same X _ Try.underlying89 infoFl_is
      have z1 : X.cell? ⟨d.b, 1, none⟩ = some (.pointer (some ⟨d.rb, 0, none⟩)) := by
        have := (show Blk X d2.b 92 d2.head from HH.out.get (i := 0) rfl).cell 1
        rw [← hd2.out] at this; exact this
      have hrX : Rgq X d.rb d.rds (d.ring.map some) := by have := HH.out.get (i := 2) rfl; rw [← hd2.out] at this; exact this
      have htake := Lib.hid (take_q hrX (i := pre.length) (x := some f.b) (by rw [List.getElem?_map, hbb]; rfl))
      gi_wp2_with fail
      refine (wideIn _ htake.out).mono ?_
      rintro er X1 ⟨rfl, hr1, f1⟩
      have hk1 : Hid (Sep X (Chunks.bs d2.chunks) X1 (({ d2 with ring := d.ring.eraseIdx pre.length } : Dr).chunks)) := by
        have := Dr.ring1 (pre := []) (d := d2) (ring := d.ring.eraseIdx pre.length) (rds := d2.rds) (by simpa using Sep.start HH.out) (by rw [← hd2.out]; rw [← map_erase]; exact hr1) (by rw [← hd2.out]; exact f1) (Gr.refl _ _)
        exact Lib.hid (by simpa using this)
      have hrsub : ∀ b, b ∈ d.rb :: d.rds → b < A := fun b hb => hcl2 b (Chunks.mem_bs.2 ⟨CRingq d2.rb d2.rds d2.ring, by simp [Dr.chunks], by rw [← hd2.out]; exact hb⟩)
      have y0' := (f1.cell (p := ⟨A, 0, none⟩) hAX0 (fun hm => by have := hrsub A hm; omega)).trans y0
      have z2 : X1.cell? ⟨d.b, 2, none⟩ = some (.bool d.turn) := by
        have := (Dr.hds (pre := []) (by simpa using hk1.out)).cell 2
        rw [← hd2.out] at this; exact this
      have r2 : X1.frozen? ⟨d.b, 2, none⟩ = false := by
        have := (Dr.hds (pre := []) (by simpa using hk1.out)).frz 2
        rw [← hd2.out] at this; exact this
      have hA1 : A < X1.heap.size := Nat.lt_of_lt_of_le hAX0 f1.size
      clear hr1 f1 hrX z1 y0 y1 hbin
      by_cases hp0 : pre.length = 0
      · have hkz : ((pre.length : Int) == 0) = true := by rw [hp0]; rfl
        have hfin : ∃ S', Gr X (Chunks.bs d2.chunks) S' ∧ Fr (Chunks.bs d2.chunks) X (X1.setCell ⟨d.b, 2, none⟩ (.bool false)) ∧ JX .ret S' (pre ++ [(some f.b, pre.length)]) (X1.setCell ⟨d.b, 2, none⟩ (.bool false)) := by
          have e2 : d2.b = d.b := by rw [← hd2.out]; rfl
          have k := Dr.hd1 (pre := []) (by simpa using hk1.out) d3 2 (.bool false) (by rw [← hd3.out, if_pos hp0]; rfl)
          rw [List.nil_append] at k
          have k' : Sep X (Chunks.bs d2.chunks) (X1.setCell ⟨d.b, 2, none⟩ (.bool false)) d3.chunks := by rw [← e2]; exact k
          refine ⟨_, Gr.refl _ _, k'.fr, ?_⟩
          rw [hJX.out]
          exact ⟨rfl, k'.hs, rfl⟩
        have HFIN := Lib.hid hfin
        clear hfin hp0
        gi_wp2_with fail
        exact HFIN.out
      · have hkz : ((pre.length : Int) == 0) = false := by rw [beq_eq_false_iff_ne]; omega
        have hfin : ∃ S', Gr X (Chunks.bs d2.chunks) S' ∧ Fr (Chunks.bs d2.chunks) X X1 ∧ JX .ret S' (pre ++ [(some f.b, pre.length)]) X1 := by
          have e : ({ d2 with ring := d.ring.eraseIdx pre.length } : Dr) = d3 := by rw [← hd3.out, if_neg hp0, ← hd2.out]; rfl
          have k := hk1.out
          rw [e] at k
          refine ⟨_, Gr.refl _ _, k.fr, ?_⟩
          rw [hJX.out]
          exact ⟨rfl, k.hs, rfl⟩
        have HFIN := Lib.hid hfin
        clear hfin hp0
        gi_wp2_with fail
        exact HFIN.out
    · have hne : bb ≠ f.b := fun e => HBF.out pre.length (by omega) (by rw [hbb, e])
      obtain ⟨ca, hca⟩ : ∃ ca, Blk X bb 95 ca := by
        obtain ⟨j, g, hg, rfl⟩ := HRW.out bb (List.mem_of_getElem? hbb)
        obtain ⟨g', hg', hgb⟩ : ∃ g', d2.fl[j]? = some g' ∧ g'.b = g.b := by
          rw [← hd2.out]
          by_cases e : k = j
          · subst e
            have := HF.out
            rw [hg] at this; cases this
            exact ⟨_, Dr.setF_at hg _, rfl⟩
          · exact ⟨g, by simp only [Dr.setF]; rw [List.getElem?_set_ne e]; exact hg, rfl⟩
        rw [← hgb]
        exact ⟨_, HH.out.get (Dr.str_at hg')⟩
      have hfb : ∃ cb, Blk X f.b 95 cb := ⟨_, HH.out.get (Dr.str_at (d := d2) (k := k) (f := { f with df := 0 }) (by rw [← hd2.out]; exact Dr.setF_at HF.out _))⟩
      obtain ⟨cb, hcb⟩ := hfb
      have hbin : (binOp .eql 89 (.pointer (some ⟨bb, 0, none⟩)) (.pointer (some ⟨f.b, 0, none⟩))).run Try.prog X = .ok (.bool false) X :=
        run_eql_ptr_other X Try.underlying89 infoFl_is infoFl_sz (fun e => hne (congrArg Addr.block e)) hca hcb
      have hfin : ∃ S', Gr X (Chunks.bs d2.chunks) S' ∧ Fr (Chunks.bs d2.chunks) X X ∧ J S' (pre ++ [(some bb, pre.length)]) X := ⟨_, Gr.refl _ _, Fr.refl _ _, by rw [hJ.out]; exact ⟨rfl, HH.out, by simp; omega⟩⟩
      have HFIN := Lib.hid hfin
      clear hfin hca hcb
      gi_wp2
      exact HFIN.out
  case done1 =>
    rintro D S' X hD hDS hg hf hj hKD
    rw [hJ.out] at hj
    obtain ⟨_, _, hp⟩ := hj
    simp at hp
    exact absurd (some_lt HI.out) (by omega)
  case stop1 =>
    rintro D c S' pre x post X hD hDS hg hf hx hj hKD
    rw [hJX.out] at hj
    obtain ⟨rfl, hh, rfl⟩ := hj
    have kw := (Dr.outbox KW.out)
    rw [hd2.out] at kw
    have k2 := Lib.hid (kw.next (Sep.ranged hf hg hb3.symm hh hD hDS hKD))
    have HKK := Lib.hid hKD
    clear hx hg hf hh hKD kw hseq hring hH x0 x1 x2
    gi_wp2
    refine ⟨by simp, .inl ⟨_, _, rfl, run_takeDeferred HKK.out, ?_⟩⟩
    refine ⟨_, results_none rfl _ _ _, rfl, d.rds, ?_⟩
    have e : d.outed k f i d.rds = d3 := by rw [← hd3.out, ← hd2.out]; rfl
    rw [e]
    exact k2.out.gone ((Fr.refl [D] _).putObj _ (.inl (by simp))) (fun b hb => by simpa [Chunks.bs, Chunk.mark] using hb)
end Go.Proofs.Yteojodcdehkejaa
