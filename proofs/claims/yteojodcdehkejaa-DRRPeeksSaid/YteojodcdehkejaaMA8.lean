/- A discipline by turns: out. -/
import Derived.Test.YteojodcdehkejaaMA7
import Derived.LaidEqlPtr
set_option linter.unusedVariables false
namespace Go.Proofs.Yteojodcdehkejaa
open Go Go.RowKit
attribute [local go_sem] calmQ_normal wide_fn wide_depth Oper.semAt_some run_store_func

/-- a flow that stands in the ring no more -/
def Dr.outed (d : Dr) (k : Nat) (f : Fl) (i : Nat) (rds : List Nat) : Dr := { d.setF k { f with df := 0 } with ring := d.ring.eraseIdx i, rds := rds, turn := if i = 0 then false else d.turn }
theorem infoFl_ex : ∃ j, Try.prog.info? 95 = some j ∧ j.size ≠ 0 := by
  have : (Try.prog.info? 95).map (fun i => i.size) = some 7 := by kernel_rfl
  cases h : Try.prog.info? 95 with
  | none => rw [h] at this; cases this
  | some j => rw [h] at this; simp at this; exact ⟨j, rfl, by omega⟩
theorem Dr.bs_setF {d : Dr} {k : Nat} {f f' : Fl} (hf : d.fl[k]? = some f) (hb : f'.b = f.b) (hq : CQ f' = CQ f) : Chunks.bs (d.setF k f').chunks = Chunks.bs d.chunks := by
  rw [← Dr.set_str hf hb hq]
  have hbs : (CStr f').bs = (CStr f).bs := by show [f'.b] = [f.b]; rw [hb]
  have h := Dr.str_at hf
  generalize d.chunks = l at h
  generalize 3 + k = i at h
  unfold Chunks.bs
  induction l generalizing i with
  | nil => simp at h
  | cons a l ih =>
    cases i with
    | zero => simp at h; subst h; simp [hbs]
    | succ i => simp only [List.getElem?_cons_succ] at h; simp [ih i h]
theorem map_erase (l : List Nat) (i : Nat) : (l.map some).eraseIdx i = (l.eraseIdx i).map some := by
  induction l generalizing i with
  | nil => rfl
  | cons a l ih => cases i <;> simp [ih]
theorem zipr {l : List Nat} {pre post : List (Option Nat × Nat)} {x : Option Nat × Nat} (hx : (l.map some).zipIdx = pre ++ x :: post) : ∃ b, l[pre.length]? = some b ∧ x = (some b, pre.length) := by
  have h : ((l.map some).zipIdx)[pre.length]? = some x := by rw [hx]; simp
  have hl := congrArg List.length hx
  simp at hl
  obtain ⟨b, hb⟩ : ∃ b, l[pre.length]? = some b := ⟨l[pre.length]'(by omega), by simp [show pre.length < l.length by omega]⟩
  refine ⟨b, hb, ?_⟩
  rw [List.getElem?_zipIdx] at h
  simp [hb] at h
  rw [← h]
set_option maxRecDepth 100000 in
set_option maxHeartbeats 4000000 in
theorem dout {w : World} {d : Dr} (h : Holds w d.chunks) {k : Nat} {f : Fl} (hf : d.fl[k]? = some f) {i : Nat} (hi : d.ring[i]? = some f.b) (hb : ∀ j, j < i → d.ring[j]? ≠ some f.b) (hrl : d.ring.length ≤ 1048576) (hrw : ∀ b, b ∈ d.ring → ∃ (j : Nat) (g : Fl), d.fl[j]? = some g ∧ g.b = b) :
    Calls Try.prog 42 #[.pointer (some ⟨d.b, 0, none⟩), .pointer (some ⟨f.b, 0, none⟩)] w fun e w' => e = .returned (.tuple #[]) ∧ ∃ rds, Sep w (Chunks.bs d.chunks) w' (d.outed k f i rds).chunks := by
  have K0 := Lib.hid (Dr.inbox2 (Dr.inbox2 (Dr.inbox (Dr.set1 (pre := []) (by simpa using Sep.start h) hf { f with df := 0 } 4 (.int .i64 0) rfl rfl rfl) 22 [.pointer (some ⟨d.b, 0, none⟩)]) 89 [.pointer (some ⟨f.b, 0, none⟩)]) 87 [.pointer (some ⟨d.rb, 0, none⟩)])
  simp only [World.size_alloc, World.size_setCell] at K0
  have HF := Lib.hid hf
  have HI := Lib.hid hi
  have HBF := Lib.hid hb
  have HRW := Lib.hid hrw
  have hclt := Lib.hid h.lt
  have s4 : w.cell? ⟨f.b, 4, none⟩ = some (.int .i64 f.df) := (show Blk w f.b 95 f.cells from h.get (Dr.str_at hf)).cell 4
  have q4 := (show Blk w f.b 95 f.cells from h.get (Dr.str_at hf)).frz 4
  have lf := (show Blk w f.b 95 f.cells from h.get (Dr.str_at hf)).lt
  have b1 : w.cell? ⟨d.b, 1, none⟩ = some (.pointer (some ⟨d.rb, 0, none⟩)) := (show Blk w d.b 92 d.head from h.get (i := 0) rfl).cell 1
  have lb := (show Blk w d.b 92 d.head from h.get (i := 0) rfl).lt
  have nfd : f.b ≠ d.b := fun e => h.apart (i := 0) (j := 3 + k) (by omega) rfl (Dr.str_at hf) d.b (List.mem_singleton.2 rfl) (List.mem_singleton.2 e.symm)
  have ndf := Ne.symm nfd
  have l1 : w.heap.size < w.heap.size + 1 := by omega
  have lf1 : f.b < w.heap.size + 1 := by omega
  have lb1 : d.b < w.heap.size + 1 := by omega
  clear h hf hi hb hrw
  obtain ⟨infoFl, infoFl_is, infoFl_sz⟩ := infoFl_ex
  refine callsIn_wide.1 (callsIn_of_wp_marks (n := 0) (F := Fence.wide) Try.func42 rfl trivial ?_ rfl)
  simp only [Try.ntmps42, List.size_toArray, List.length_cons, List.length_nil, Nat.reduceAdd, Nat.reduceSub, Array.replicate_succ, Array.replicate_zero, List.push_toArray, List.append_toArray, List.nil_append, List.cons_append]
  gi_wp2_with (gi_at_call 46; refine (wideIn _ (all_q _ d.rb)).mono ?_; rintro er w' ⟨rfl, rfl⟩)
  obtain ⟨W, hW⟩ : ∃ W, ((((w.setCell ⟨f.b, 4, none⟩ (.int .i64 0)).alloc (.cells #[.pointer (some ⟨d.b, 0, none⟩)] 22)).alloc (.cells #[.pointer (some ⟨f.b, 0, none⟩)] 89)).alloc (.cells #[.pointer (some ⟨d.rb, 0, none⟩)] 87)) = W := ⟨_, rfl⟩
  obtain ⟨A, hA⟩ : ∃ A, w.heap.size = A := ⟨_, rfl⟩
  have KW : Hid (Sep w (Chunks.bs d.chunks) W ([Chunk.blk (A + 1 + 1) 87 [.pointer (some ⟨d.rb, 0, none⟩)], Chunk.blk (A + 1) 89 [.pointer (some ⟨f.b, 0, none⟩)], Chunk.blk A 22 [.pointer (some ⟨d.b, 0, none⟩)]] ++ (d.setF k { f with df := 0 }).chunks)) := by
    rw [← hW, ← hA]; exact K0.out
  have hclA : ∀ b, b ∈ Chunks.bs d.chunks → b < A := by rw [← hA]; exact hclt.out
  rw [hW, hA]
  clear hW hA K0 hclt s4 q4 lf b1 lb l1 lf1 lb1 nfd ndf
  have x0 : W.cell? ⟨A, 0, none⟩ = some (.pointer (some ⟨d.b, 0, none⟩)) := (KW.out.blk 2 rfl).cell 0
  have x1 : W.cell? ⟨A + 1, 0, none⟩ = some (.pointer (some ⟨f.b, 0, none⟩)) := (KW.out.blk 1 rfl).cell 0
  have x2 : W.cell? ⟨A + 1 + 1, 0, none⟩ = some (.pointer (some ⟨d.rb, 0, none⟩)) := (KW.out.blk 0 rfl).cell 0
  have hlW : A + 1 + 1 < W.heap.size := (KW.out.blk 0 rfl).lt
  obtain ⟨d2, hd2⟩ : ∃ d2 : Dr, Hid (d.setF k { f with df := 0 } = d2) := ⟨_, Lib.hid rfl⟩
  have hH : Holds W d2.chunks := by rw [← hd2.out]; exact KW.out.hs.right
  have hcl2 : ∀ b, b ∈ Chunks.bs d2.chunks → b < A := by
    have e : Chunks.bs d2.chunks = Chunks.bs d.chunks := by rw [← hd2.out]; exact Dr.bs_setF HF.out rfl rfl
    rw [e]; exact hclA
  have hring : Rgq W d.rb d.rds (d.ring.map some) := by have := hH.get (i := 2) rfl; rw [← hd2.out] at this; exact this
  have hseq := seq_q hring x2
  obtain ⟨d3, hd3⟩ : ∃ d3 : Dr, Hid (({ d2 with ring := d.ring.eraseIdx i, turn := if i = 0 then false else d.turn } : Dr) = d3) := ⟨_, Lib.hid rfl⟩
  have hb3 : Chunks.bs d3.chunks = Chunks.bs d2.chunks := by rw [← hd3.out]; rfl
  obtain ⟨J, hJ⟩ : ∃ J : List Nat → List (Option Nat × Nat) → World → Prop, Hid (J = fun S1 pre X => S1 = Chunks.bs d2.chunks ∧ Holds X d2.chunks ∧ pre.length ≤ i) := ⟨_, Lib.hid rfl⟩
  obtain ⟨JX, hJX⟩ : ∃ JX : Code → List Nat → List (Option Nat × Nat) → World → Prop, Hid (JX = fun c S1 pre X => S1 = Chunks.bs d2.chunks ∧ Holds X d3.chunks ∧ c = .ret) := ⟨_, Lib.hid rfl⟩
  have locJ : Loc W.heap.size J := by
    rw [hJ.out]
    rintro S1 pre X Y T ⟨rfl, hh, hp⟩ fr ht
    exact ⟨rfl, hh.fr' fr (fun b hb hm => (ht b hm).2 hb), hp⟩
  have locX : ∀ c, Loc W.heap.size (JX c) := by
    rw [hJX.out]
    rintro c S1 pre X Y T ⟨rfl, hh, hp⟩ fr ht
    exact ⟨rfl, hh.fr' fr (fun b hb hm => (ht b hm).2 (by rw [← hb3]; exact hb)), hp⟩
  refine wp_rangeF1 (gf := 83) (lb := #[.pointer (some ⟨A + 1 + 1, 0, none⟩)]) rfl (enters_of Try.func83 (by kernel_rfl) rfl) hseq (fun _ => rfl)
    J JX (Chunks.bs d2.chunks) (fun b hb => by have := hcl2 b hb; omega) locJ locX (by rw [hJ.out]; exact ⟨rfl, hH, by simp⟩)
    (fun x => { tmps := #[.pointer (some ⟨d.b, 0, none⟩), .pointer (some ⟨f.b, 0, none⟩), .pointer (some ⟨A, 0, none⟩), .pointer (some ⟨A + 1, 0, none⟩), .int .i64 x.2, ptrV x.1, .pointer (some ⟨f.b, 0, none⟩), .pointer (some ⟨f.b, 0, none⟩), .pointer (some ⟨f.b, 4, none⟩), .pointer (some ⟨d.b, 0, none⟩), .pointer (some ⟨d.b, 0, none⟩), .pointer (some ⟨d.b, 1, none⟩), .pointer (some ⟨d.rb, 0, none⟩), .func (.func 83) #[] #[.pointer (some ⟨A + 1 + 1, 0, none⟩)], .int .i64 x.2, ptrV x.1, undef, undef, undef, undef, undef, undef, undef, undef, undef, undef, undef, undef, undef, undef], defers := [] })
    ?assign1 ?body1 ?done1 ?stop1
  case assign1 =>
    intro l x X K hK
    simp only [entq]
    gi_wp2
    exact hK
  case body1 =>
    rintro l pre x post S1 X hx hz hg hf hl hnl hr hj
    rw [hJ.out] at hj
    obtain ⟨rfl, hh, hpi⟩ := hj
    obtain ⟨bb, hbb, rfl⟩ := zipr hx
    have nA : A ∉ Chunks.bs d2.chunks := fun hm => by have := hcl2 _ hm; omega
    have nA1 : A + 1 ∉ Chunks.bs d2.chunks := fun hm => by have := hcl2 _ hm; omega
    have y0 := (hf.cell (p := ⟨A, 0, none⟩) (show A < W.heap.size by omega) nA).trans x0
    have y1 := (hf.cell (p := ⟨A + 1, 0, none⟩) (show A + 1 < W.heap.size by omega) nA1).trans x1
    have HH := Lib.hid hh
    have HX := Lib.hid hf
    have hAX : A + 1 < X.heap.size := by omega
    have hAX0 : A < X.heap.size := by omega
    clear hx hr hg hf hh x0 x1 x2
    simp only [ptrV, Option.map_some]
    by_cases hki : pre.length = i
    · have hbf : bb = f.b := by
        have := HI.out
        rw [← hki, hbb] at this
        exact Option.some.inj this
      subst hki
      subst hbf
      have hbin : (binOp .eql 89 (.pointer (some ⟨f.b, 0, none⟩)) (.pointer (some ⟨f.b, 0, none⟩))).run Try.prog X = .ok (.bool true) X := by
        exact run_eql_ptr_same X _ Try.underlying89 infoFl_is
      have z1 : X.cell? ⟨d.b, 1, none⟩ = some (.pointer (some ⟨d.rb, 0, none⟩)) := by
        have := (show Blk X d2.b 92 d2.head from HH.out.get (i := 0) rfl).cell 1
        rw [← hd2.out] at this; exact this
      have hrX : Rgq X d.rb d.rds (d.ring.map some) := by have := HH.out.get (i := 2) rfl; rw [← hd2.out] at this; exact this
      have htake := Lib.hid (take_q hrX (i := pre.length) (x := some f.b) (by rw [List.getElem?_map, hbb]; rfl))
      gi_wp2_with fail
      refine (wideIn _ htake.out).mono ?_
      rintro er X1 ⟨rfl, hr1, f1⟩
      have hk1 : Hid (Sep X (Chunks.bs d2.chunks) X1 (({ d2 with ring := d.ring.eraseIdx pre.length } : Dr).chunks)) := by
        have := Dr.ring1 (pre := []) (d := d2) (ring := d.ring.eraseIdx pre.length) (rds := d2.rds) (by simpa using Sep.start HH.out) (by rw [← hd2.out]; rw [← map_erase]; exact hr1) (by rw [← hd2.out]; exact f1) (Gr.refl _ _)
        exact Lib.hid (by simpa using this)
      have hrsub : ∀ b, b ∈ d.rb :: d.rds → b < A := fun b hb => hcl2 b (Chunks.mem_bs.2 ⟨CRingq d2.rb d2.rds d2.ring, by simp [Dr.chunks], by rw [← hd2.out]; exact hb⟩)
      have y0' := (f1.cell (p := ⟨A, 0, none⟩) hAX0 (fun hm => by have := hrsub A hm; omega)).trans y0
      have z2 : X1.cell? ⟨d.b, 2, none⟩ = some (.bool d.turn) := by
        have := (Dr.hds (pre := []) (by simpa using hk1.out)).cell 2
        rw [← hd2.out] at this; exact this
      have r2 : X1.frozen? ⟨d.b, 2, none⟩ = false := by
        have := (Dr.hds (pre := []) (by simpa using hk1.out)).frz 2
        rw [← hd2.out] at this; exact this
      have hA1 : A < X1.heap.size := Nat.lt_of_lt_of_le hAX0 f1.size
      clear hr1 f1 hrX z1 y0 y1 hbin
      by_cases hp0 : pre.length = 0
      · have hkz : ((pre.length : Int) == 0) = true := by rw [hp0]; rfl
        have hfin : ∃ S', Gr X (Chunks.bs d2.chunks) S' ∧ Fr (Chunks.bs d2.chunks) X (X1.setCell ⟨d.b, 2, none⟩ (.bool false)) ∧ JX .ret S' (pre ++ [(some f.b, pre.length)]) (X1.setCell ⟨d.b, 2, none⟩ (.bool false)) := by
          have e2 : d2.b = d.b := by rw [← hd2.out]; rfl
          have k := Dr.hd1 (pre := []) (by simpa using hk1.out) d3 2 (.bool false) (by rw [← hd3.out, if_pos hp0]; rfl)
          rw [List.nil_append] at k
          have k' : Sep X (Chunks.bs d2.chunks) (X1.setCell ⟨d.b, 2, none⟩ (.bool false)) d3.chunks := by rw [← e2]; exact k
          refine ⟨_, Gr.refl _ _, k'.fr, ?_⟩
          rw [hJX.out]
          exact ⟨rfl, k'.hs, rfl⟩
        have HFIN := Lib.hid hfin
        clear hfin hp0
        gi_wp2_with fail
        exact HFIN.out
      · have hkz : ((pre.length : Int) == 0) = false := by rw [beq_eq_false_iff_ne]; omega
        have hfin : ∃ S', Gr X (Chunks.bs d2.chunks) S' ∧ Fr (Chunks.bs d2.chunks) X X1 ∧ JX .ret S' (pre ++ [(some f.b, pre.length)]) X1 := by
          have e : ({ d2 with ring := d.ring.eraseIdx pre.length } : Dr) = d3 := by rw [← hd3.out, if_neg hp0, ← hd2.out]; rfl
          have k := hk1.out
          rw [e] at k
          refine ⟨_, Gr.refl _ _, k.fr, ?_⟩
          rw [hJX.out]
          exact ⟨rfl, k.hs, rfl⟩
        have HFIN := Lib.hid hfin
        clear hfin hp0
        gi_wp2_with fail
        exact HFIN.out
    · have hne : bb ≠ f.b := fun e => HBF.out pre.length (by omega) (by rw [hbb, e])
      obtain ⟨ca, hca⟩ : ∃ ca, Blk X bb 95 ca := by
        obtain ⟨j, g, hg, rfl⟩ := HRW.out bb (List.mem_of_getElem? hbb)
        obtain ⟨g', hg', hgb⟩ : ∃ g', d2.fl[j]? = some g' ∧ g'.b = g.b := by
          rw [← hd2.out]
          by_cases e : k = j
          · subst e
            have := HF.out
            rw [hg] at this; cases this
            exact ⟨_, Dr.setF_at hg _, rfl⟩
          · exact ⟨g, by simp only [Dr.setF]; rw [List.getElem?_set_ne e]; exact hg, rfl⟩
        rw [← hgb]
        exact ⟨_, HH.out.get (Dr.str_at hg')⟩
      have hfb : ∃ cb, Blk X f.b 95 cb := ⟨_, HH.out.get (Dr.str_at (d := d2) (k := k) (f := { f with df := 0 }) (by rw [← hd2.out]; exact Dr.setF_at HF.out _))⟩
      obtain ⟨cb, hcb⟩ := hfb
      have hbin : (binOp .eql 89 (.pointer (some ⟨bb, 0, none⟩)) (.pointer (some ⟨f.b, 0, none⟩))).run Try.prog X = .ok (.bool false) X :=
        run_eql_ptr_other X Try.underlying89 infoFl_is infoFl_sz (fun e => hne (congrArg Addr.block e)) hca hcb
      have hfin : ∃ S', Gr X (Chunks.bs d2.chunks) S' ∧ Fr (Chunks.bs d2.chunks) X X ∧ J S' (pre ++ [(some bb, pre.length)]) X := ⟨_, Gr.refl _ _, Fr.refl _ _, by rw [hJ.out]; exact ⟨rfl, HH.out, by simp; omega⟩⟩
      have HFIN := Lib.hid hfin
      clear hfin hca hcb
      gi_wp2
      exact HFIN.out
  case done1 =>
    rintro D S' X hD hDS hg hf hj hKD
    rw [hJ.out] at hj
    obtain ⟨_, _, hp⟩ := hj
    simp at hp
    exact absurd (some_lt HI.out) (by omega)
  case stop1 =>
    rintro D c S' pre x post X hD hDS hg hf hx hj hKD
    rw [hJX.out] at hj
    obtain ⟨rfl, hh, rfl⟩ := hj
    have kw := (Dr.outbox KW.out)
    rw [hd2.out] at kw
    have k2 := Lib.hid (kw.next (Sep.ranged hf hg hb3.symm hh hD hDS hKD))
    have HKK := Lib.hid hKD
    clear hx hg hf hh hKD kw hseq hring hH x0 x1 x2
    gi_wp2
    refine ⟨by simp, .inl ⟨_, _, rfl, run_takeDeferred HKK.out, ?_⟩⟩
    refine ⟨_, results_none rfl _ _ _, rfl, d.rds, ?_⟩
    have e : d.outed k f i d.rds = d3 := by rw [← hd3.out, ← hd2.out]; rfl
    rw [e]
    exact k2.out.gone ((Fr.refl [D] _).putObj _ (.inl (by simp))) (fun b hb => by simpa [Chunks.bs, Chunk.mark] using hb)
end Go.Proofs.Yteojodcdehkejaa
/- A discipline by turns: Admit. -/
namespace Go.Proofs.Yteojodcdehkejaa
open Go Go.RowKit
attribute [local go_sem] calmQ_normal wide_fn wide_depth Oper.semAt_some run_store_func

set_option maxRecDepth 100000 in
set_option maxHeartbeats 4000000 in
theorem dadmit {w : World} {d : Dr} (h : Holds w d.chunks) {p : P6} {k : Nat} {f : Fl} (ho : d.Ok p k) (hf : d.fl[k]? = some f) (hql : f.q.length ≤ 1048576) (hrl : d.ring.length ≤ 1048576) (hby1 : 0 ≤ f.by_) (hby2 : f.by_ ≤ 1125899906842624) (hn1 : 0 ≤ d.n) (hn2 : d.n ≤ 1125899906842624) :
    Calls Try.prog 13 #[.pointer (some ⟨d.b, 0, none⟩), aggp6 p] w fun e w' => e = .returned (.int .i64 0) ∧ ∃ rds ds, Sep w (Chunks.bs d.chunks) w' (d.admitted k f p rds ds).chunks := by
  have hql : f.q.length ≤ 268435456 := by omega
  have hrl : d.ring.length ≤ 268435456 := by omega
  have hcheck := Lib.hid (fun X (fX : Fr [] w X) => dcheck (h.fr' fX (by simp)) ho)
  have hfind := Lib.hid (fun X (fX : Fr [] w X) => dfind (h.fr' fX (by simp)) p.f0 p.f1)
  have hp : d.ptr (d.look p.f0 p.f1) = .pointer (some ⟨f.b, 0, none⟩) := by simp [Dr.ptr, ho.look, hf]
  have K0 := Lib.hid (Dr.inbox (Sep.start h) 34 (encP6 p))
  obtain ⟨pb, hpb⟩ : ∃ pb, w.heap.size = pb := ⟨_, rfl⟩
  have HO := Lib.hid ho
  have HFF := Lib.hid hf
  have hlt := Lib.hid h.lt
  clear h ho hf
  go_enter Try.func13, Try.ntmps13
  go_wp2_with fail
  refine (hcheck.out _ ((Fr.refl [] w).alloc _)).mono ?_
  rintro er w1 ⟨rfl, f1⟩
  have F1 := Lib.hid (((Fr.refl [] w).alloc _).trans' f1)
  have K1 := Lib.hid (K0.out.same f1)
  rw [hpb] at K1
  have x0 : w1.cell? ⟨pb, 0, none⟩ = some (.int .i64 p.f0) := (K1.out.blk 0 rfl).cell 0
  have x1 : w1.cell? ⟨pb, 1, none⟩ = some (.int .i64 p.f1) := (K1.out.blk 0 rfl).cell 1
  clear f1 hcheck hpb K0
  go_wp2_with fail
  refine (hfind.out _ F1.out).mono ?_
  rw [hp]
  rintro er w2 ⟨rfl, f2⟩
  have K2 := Lib.hid (K1.out.same f2)
  have s5 : w2.cell? ⟨f.b, 5, none⟩ = some (.pointer (some ⟨f.r, 0, none⟩)) := (Dr.strs K2.out HFF.out).cell 5
  have hque := Dr.ques K2.out HFF.out
  have b1 : w2.cell? ⟨d.b, 1, none⟩ = some (.pointer (some ⟨d.rb, 0, none⟩)) := (Dr.hds K2.out).cell 1
  have s4 : w2.cell? ⟨f.b, 4, none⟩ = some (.int .i64 f.df) := (Dr.strs K2.out HFF.out).cell 4
  have q4 : w2.frozen? ⟨f.b, 4, none⟩ = false := (Dr.strs K2.out HFF.out).frz 4
  have nfd : f.b ≠ d.b := fun e => (Dr.here K2.out).apart (i := 0) (j := 3 + k) (by omega) rfl (Dr.str_at HFF.out) d.b (List.mem_singleton.2 rfl) (List.mem_singleton.2 e.symm)
  have ndf := Ne.symm nfd
  clear f2 hfind hp x0 x1 K1 F1
  by_cases hq : f.q = []
  · have hln : f.q.length = 0 := by rw [hq]; rfl
    go_wp2_with (go_at_call 37; refine (len_p6 hque).mono ?_; rintro er w' ⟨rfl, rfl⟩)
    have K3 := Lib.hid (Dr.set1 K2.out HFF.out { f with df := 0 } 4 (.int .i64 0) rfl rfl rfl)
    have HF3 := Lib.hid (Dr.setF_at HFF.out { f with df := 0 })
    refine (pushB_q (Dr.rings K3.out) (by simpa [Dr.setF] using hrl) (some f.b)).mono ?_
    rintro er Z1 ⟨rfl, rds', hr1, f1, g1⟩
    have K4 := Lib.hid (Dr.ring1 K3.out (ring := d.ring ++ [f.b]) (by simpa [Dr.setF] using hr1) f1 g1)
    clear K3 hr1 f1 g1 s5 hque b1 s4 q4 nfd ndf hln K2
    obtain ⟨DX, hDX⟩ : ∃ DX : Dr, ({ d.setF k { f with df := 0 } with ring := d.ring ++ [f.b], rds := rds' } : Dr) = DX := ⟨_, rfl⟩
    have HFX : Hid (DX.fl[k]? = some { f with df := 0 }) := by rw [← hDX]; exact HF3.out
    have K4' : Hid (Sep w (Chunks.bs d.chunks) Z1 ([Chunk.blk pb 34 (encP6 p)] ++ DX.chunks)) := by rw [← hDX]; exact K4.out
    subst hDX
    -- from the push of the packet on: K : Sep .. ([box] ++ ({ d.setF k { f with df := 0 } with ring := d.ring ++ [f.b], rds := rds' } : Dr).chunks), ({ d.setF k { f with df := 0 } with ring := d.ring ++ [f.b], rds := rds' } : Dr).fl[k]? = some FF
    have hque := Dr.ques K4'.out HFX.out
    have s5 : Z1.cell? ⟨f.b, 5, none⟩ = some (.pointer (some ⟨f.r, 0, none⟩)) := (Dr.strs K4'.out HFX.out).cell 5
    have lf : f.b < Z1.heap.size := (Dr.strs K4'.out HFX.out).lt
    have x0 : Z1.cell? ⟨pb, 0, none⟩ = some (.int .i64 p.f0) := (K4'.out.blk 0 rfl).cell 0
    have x1 : Z1.cell? ⟨pb, 1, none⟩ = some (.int .i64 p.f1) := (K4'.out.blk 0 rfl).cell 1
    have x2 : Z1.cell? ⟨pb, 2, none⟩ = some (.int .i64 p.f2) := (K4'.out.blk 0 rfl).cell 2
    have x3 : Z1.cell? ⟨pb, 3, none⟩ = some (.int .i64 p.f3) := (K4'.out.blk 0 rfl).cell 3
    have x4 : Z1.cell? ⟨pb, 4, none⟩ = some (.int .i64 p.f4) := (K4'.out.blk 0 rfl).cell 4
    have x5 : Z1.cell? ⟨pb, 5, none⟩ = some (.int .i64 p.f5) := (K4'.out.blk 0 rfl).cell 5
    have lp : pb < Z1.heap.size := (K4'.out.blk 0 rfl).lt
    have hpush := Lib.hid (fun n => pushB_p6 (hque.drewN n) hql p)
    clear hque
    go_wp2
    refine wp_region_quiet_tail 5 (by kernel_rfl) (by kernel_rfl) ?_
    simp only [List.take_succ_cons, List.take_zero, List.drop_succ_cons, List.drop_zero]
    repeat (first | go_big_quiet_step (fail) | quiet_step (fail))
    refine wpQuiet_nil ?_
    rintro _ ⟨nq, rfl⟩
    go_wp2_with fail
    refine (hpush.out nq).mono ?_
    rintro er Z2 ⟨rfl, ds', hq2, f2, g2⟩
    have K3 := Lib.hid (Dr.que1 (K4'.out.drewN nq) HFX.out hq2 f2 g2)
    have HF3 := Lib.hid (Dr.setF_at HFX.out { ({ f with df := 0 } : Fl) with q := ({ f with df := 0 } : Fl).q ++ [p], ds := ds' })
    have t6 : Z2.cell? ⟨f.b, 6, none⟩ = some (.int .i64 f.by_) := (Dr.strs K3.out HF3.out).cell 6
    have q6 : Z2.frozen? ⟨f.b, 6, none⟩ = false := (Dr.strs K3.out HF3.out).frz 6
    have y3 : Z2.cell? ⟨pb, 3, none⟩ = some (.int .i64 p.f3) := (K3.out.blk 0 rfl).cell 3
    have y4 : Z2.cell? ⟨pb, 4, none⟩ = some (.int .i64 p.f4) := (K3.out.blk 0 rfl).cell 4
    have y5 : Z2.cell? ⟨pb, 5, none⟩ = some (.int .i64 p.f5) := (K3.out.blk 0 rfl).cell 5
    have z3 : Z2.cell? ⟨d.b, 3, none⟩ = some (.int .i64 d.seq) := (Dr.hds K3.out).cell 3
    have z4 : Z2.cell? ⟨d.b, 4, none⟩ = some (.int .i64 d.came) := (Dr.hds K3.out).cell 4
    have z5 : Z2.cell? ⟨d.b, 5, none⟩ = some (.int .i64 d.n) := (Dr.hds K3.out).cell 5
    have r3 : Z2.frozen? ⟨d.b, 3, none⟩ = false := (Dr.hds K3.out).frz 3
    have r4 : Z2.frozen? ⟨d.b, 4, none⟩ = false := (Dr.hds K3.out).frz 4
    have r5 : Z2.frozen? ⟨d.b, 5, none⟩ = false := (Dr.hds K3.out).frz 5
    have nfd : f.b ≠ d.b := fun e => (Dr.here K3.out).apart (i := 0) (j := 3 + k) (by omega) rfl (Dr.str_at HF3.out) d.b (List.mem_singleton.2 rfl) (List.mem_singleton.2 e.symm)
    have ndf := Ne.symm nfd
    have npf : pb ≠ f.b := fun e => K3.out.hs.apart (i := 0) (j := [Chunk.blk pb 34 (encP6 p)].length + (3 + k)) (by simp; omega) rfl (pre_get (Dr.str_at HF3.out)) pb (List.mem_singleton.2 rfl) (List.mem_singleton.2 e)
    have nfp := Ne.symm npf
    have npd : pb ≠ d.b := fun e => K3.out.hs.apart (i := 0) (j := 1) (by simp) rfl rfl pb (List.mem_singleton.2 rfl) (List.mem_singleton.2 e)
    have ndp := Ne.symm npd
    have hw1 := Lib.hid (add_w2 hby1 hby2 (show 0 ≤ p.f3 from by have := HO.out.s1; omega) (show p.f3 ≤ 1125899906842624 from by have := HO.out.s2; omega))
    have hw2 := Lib.hid (add_w2 hn1 hn2 (show (0 : Int) ≤ 1 from by omega) (show (1 : Int) ≤ 1125899906842624 from by omega))
    clear hq2 f2 g2 s5 lf lp
    go_wp2
    refine wp_region_quiet_tail 9 (by kernel_rfl) (by kernel_rfl) ?_
    simp only [List.take_succ_cons, List.take_zero, List.drop_succ_cons, List.drop_zero]
    repeat (first | go_big_quiet_step (fail) | quiet_step (fail))
    refine wpQuiet_nil ?_
    rintro _ ⟨nq, rfl⟩
    go_wp2
    rw [hw1.out]
    go_wp2
    try rw [hw2.out]
    have K5 := Lib.hid (Dr.hd1 (Dr.set1 (K3.out.drewN nq) HF3.out { ({ f with df := 0 } : Fl) with q := ({ f with df := 0 } : Fl).q ++ [p], ds := ds', by_ := f.by_ + p.f3 } 6 (.int .i64 (f.by_ + p.f3)) rfl rfl rfl) { (({ d.setF k { f with df := 0 } with ring := d.ring ++ [f.b], rds := rds' } : Dr).setF k { ({ f with df := 0 } : Fl) with q := ({ f with df := 0 } : Fl).q ++ [p], ds := ds', by_ := f.by_ + p.f3 }) with n := d.n + 1 } 5 (.int .i64 (d.n + 1)) (by simp only [Dr.setF_setF]; rfl))
    obtain ⟨W9, hW9⟩ : ∃ W9, ((Z2.drewN nq).setCell ⟨f.b, 6, none⟩ (.int .i64 (f.by_ + p.f3))).setCell ⟨d.b, 5, none⟩ (.int .i64 (d.n + 1)) = W9 := ⟨_, rfl⟩
    rw [hW9]
    have K6 : Hid (Sep w (Chunks.bs d.chunks) W9 ([Chunk.blk pb 34 (encP6 p)] ++ ({ (({ d.setF k { f with df := 0 } with ring := d.ring ++ [f.b], rds := rds' } : Dr).setF k { ({ f with df := 0 } : Fl) with q := ({ f with df := 0 } : Fl).q ++ [p], ds := ds', by_ := f.by_ + p.f3 }) with n := d.n + 1 } : Dr).chunks)) := by rw [← hW9]; exact K5.out
    clear K5 K3 hW9 y3 y4 y5 z3 z4 z5 r3 r4 r5 t6 q6
    have y4 : W9.cell? ⟨pb, 4, none⟩ = some (.int .i64 p.f4) := (K6.out.blk 0 rfl).cell 4
    have y5 : W9.cell? ⟨pb, 5, none⟩ = some (.int .i64 p.f5) := (K6.out.blk 0 rfl).cell 5
    have z3 : W9.cell? ⟨d.b, 3, none⟩ = some (.int .i64 d.seq) := (Dr.hds K6.out).cell 3
    have z4 : W9.cell? ⟨d.b, 4, none⟩ = some (.int .i64 d.came) := (Dr.hds K6.out).cell 4
    have r3 : W9.frozen? ⟨d.b, 3, none⟩ = false := (Dr.hds K6.out).frz 3
    have r4 : W9.frozen? ⟨d.b, 4, none⟩ = false := (Dr.hds K6.out).frz 4
    have K7 := Lib.hid (Dr.hd1 K6.out.drew { (({ d.setF k { f with df := 0 } with ring := d.ring ++ [f.b], rds := rds' } : Dr).setF k { ({ f with df := 0 } : Fl) with q := ({ f with df := 0 } : Fl).q ++ [p], ds := ds', by_ := f.by_ + p.f3 }) with n := d.n + 1, seq := p.f4 } 3 (.int .i64 p.f4) rfl)
    have K8 := Lib.hid (Dr.hd1 K7.out { (({ d.setF k { f with df := 0 } with ring := d.ring ++ [f.b], rds := rds' } : Dr).setF k { ({ f with df := 0 } : Fl) with q := ({ f with df := 0 } : Fl).q ++ [p], ds := ds', by_ := f.by_ + p.f3 }) with n := d.n + 1, seq := p.f4, came := p.f5 } 4 (.int .i64 p.f5) rfl)
    refine wp_T [] (fun w' => w'.cell? ⟨pb, 4, none⟩ = some (.int .i64 p.f4) ∧ w'.cell? ⟨pb, 5, none⟩ = some (.int .i64 p.f5)) (by kernel_rfl) (fun hC => ?_) ⟨y4, y5⟩
    refine wpAnyT_takeC' 0 (by kernel_rfl) (fun _ _ _ h => h) (by assumption) (by rfl) (fun w hSw => by simp only [List.getD_cons_zero]; (try dsimp only at hSw); go_simp; try with_reducible rfl) ?_
    try simp only [List.getD_cons_zero, Act.put, List.setIfInBounds_toArray, List.set_cons_zero, List.set_cons_succ]
    refine wpAnyT_takeC' 1 (by kernel_rfl) (fun _ _ _ h => h) (by assumption) (by rfl) (fun w hSw => by simp only [List.getD_cons_succ, List.getD_cons_zero]; (try dsimp only at hSw); go_simp; try with_reducible rfl) ?_
    try simp only [List.getD_cons_succ, List.getD_cons_zero, Act.put, List.setIfInBounds_toArray, List.set_cons_zero, List.set_cons_succ]
    refine wpAnyT_takeC' 2 (by kernel_rfl) (fun _ _ _ h => h) (by assumption) (by rfl) (fun w hSw => by simp only [List.getD_cons_succ, List.getD_cons_zero]; (try dsimp only at hSw); go_simp; try with_reducible rfl) ?_
    try simp only [List.getD_cons_succ, List.getD_cons_zero, Act.put, List.setIfInBounds_toArray, List.set_cons_zero, List.set_cons_succ]
    refine wpAnyT_takeC' 3 (by kernel_rfl) (fun _ _ _ h => h) (by assumption) (by rfl) (fun w hSw => by simp only [List.getD_cons_succ, List.getD_cons_zero]; (try dsimp only at hSw); go_simp; try with_reducible rfl) ?_
    try simp only [List.getD_cons_succ, List.getD_cons_zero, Act.put, List.setIfInBounds_toArray, List.set_cons_zero, List.set_cons_succ]
    refine wpAnyT_takeC' 4 (by kernel_rfl) (fun _ _ _ h => h) (by assumption) (by rfl) (fun w hSw => by simp only [List.getD_cons_succ, List.getD_cons_zero]; (try dsimp only at hSw); go_simp; try with_reducible rfl) ?_
    try simp only [List.getD_cons_succ, List.getD_cons_zero, Act.put, List.setIfInBounds_toArray, List.set_cons_zero, List.set_cons_succ]
    refine wpAnyT_takeC' 5 (by kernel_rfl) (fun _ _ _ h => h) (by assumption) (by rfl) (fun w hSw => by simp only [List.getD_cons_succ, List.getD_cons_zero]; (try dsimp only at hSw); go_simp; try with_reducible rfl) ?_
    try simp only [List.getD_cons_succ, List.getD_cons_zero, Act.put, List.setIfInBounds_toArray, List.set_cons_zero, List.set_cons_succ]
    refine wpAnyT_takeC' 6 (by kernel_rfl) (fun _ _ _ h => h) (by assumption) (by rfl) (fun w hSw => by simp only [List.getD_cons_succ, List.getD_cons_zero]; (try dsimp only at hSw); go_simp; try with_reducible rfl) ?_
    try simp only [List.getD_cons_succ, List.getD_cons_zero, Act.put, List.setIfInBounds_toArray, List.set_cons_zero, List.set_cons_succ]
    refine wpAnyT_takeC' 7 (by kernel_rfl) (fun _ _ _ h => h) (by assumption) (by rfl) (fun w hSw => by simp only [List.getD_cons_succ, List.getD_cons_zero]; (try dsimp only at hSw); go_simp; try with_reducible rfl) ?_
    try simp only [List.getD_cons_succ, List.getD_cons_zero, Act.put, List.setIfInBounds_toArray, List.set_cons_zero, List.set_cons_succ]
    refine wpAnyT_one' 8 (by kernel_rfl) (by rfl) (fun K hK => ?_)
    simp only [List.getD_cons_succ, List.getD_cons_zero]
    go_simp
    have hC7 : ((W9.setCell ⟨d.b, 3, none⟩ (.int .i64 p.f4)).drew).cell? ⟨pb, 4, none⟩ = some (.int .i64 p.f4) ∧ ((W9.setCell ⟨d.b, 3, none⟩ (.int .i64 p.f4)).drew).cell? ⟨pb, 5, none⟩ = some (.int .i64 p.f5) := ⟨(K7.out.blk 0 rfl).cell 4, (K7.out.blk 0 rfl).cell 5⟩
    refine hK.out _ _ hC7 ?_
    clear hK hC
    try simp only [Act.put, List.setIfInBounds_toArray, List.set_cons_zero, List.set_cons_succ]
    have hC := hC7
    refine wpAnyT_takeC' 9 (by kernel_rfl) (fun _ _ _ h => h) (by assumption) (by rfl) (fun w hSw => by simp only [List.getD_cons_succ, List.getD_cons_zero]; (try dsimp only at hSw); go_simp; try with_reducible rfl) ?_
    try simp only [List.getD_cons_succ, List.getD_cons_zero, Act.put, List.setIfInBounds_toArray, List.set_cons_zero, List.set_cons_succ]
    refine wpAnyT_takeC' 10 (by kernel_rfl) (fun _ _ _ h => h) (by assumption) (by rfl) (fun w hSw => by simp only [List.getD_cons_succ, List.getD_cons_zero]; (try dsimp only at hSw); go_simp; try with_reducible rfl) ?_
    try simp only [List.getD_cons_succ, List.getD_cons_zero, Act.put, List.setIfInBounds_toArray, List.set_cons_zero, List.set_cons_succ]
    refine wpAnyT_one' 11 (by kernel_rfl) (by rfl) (fun K hK => ?_)
    simp only [List.getD_cons_succ, List.getD_cons_zero]
    go_simp
    refine hK.out _ _ ⟨(K8.out.blk 0 rfl).cell 4, (K8.out.blk 0 rfl).cell 5⟩ ?_
    clear hK hC
    refine wpAnyT_done (by kernel_rfl) ?_ _
    rw [onlyN_normal]
    go_wp2
    go_ret
    refine ⟨rfl, ({ d.setF k { f with df := 0 } with ring := d.ring ++ [f.b], rds := rds' } : Dr).rds, ds', ?_⟩
    have hfin := Dr.outbox K8.out
    have e : ({ (({ d.setF k { f with df := 0 } with ring := d.ring ++ [f.b], rds := rds' } : Dr).setF k { ({ f with df := 0 } : Fl) with q := ({ f with df := 0 } : Fl).q ++ [p], ds := ds', by_ := f.by_ + p.f3 }) with n := d.n + 1, seq := p.f4, came := p.f5 } : Dr) = d.admitted k f p ({ d.setF k { f with df := 0 } with ring := d.ring ++ [f.b], rds := rds' } : Dr).rds ds' := by
      simp [Dr.admitted, Fl.got, Dr.setF, hq]
    rw [e] at hfin
    exact hfin
  · have hln : ((f.q.length : Int) == 0) = false := by
      rw [beq_eq_false_iff_ne]
      cases hq2 : f.q with
      | nil => exact absurd hq2 hq
      | cons a b => simp; omega
    go_wp2_with (go_at_call 37; refine (len_p6 hque).mono ?_; rintro er w' ⟨rfl, rfl⟩)
    clear hln s5 hque b1 s4 q4 nfd ndf
    -- from the push of the packet on: K : Sep .. ([box] ++ d.chunks), d.fl[k]? = some FF
    have hque := Dr.ques K2.out HFF.out
    have s5 : w'.cell? ⟨f.b, 5, none⟩ = some (.pointer (some ⟨f.r, 0, none⟩)) := (Dr.strs K2.out HFF.out).cell 5
    have lf : f.b < w'.heap.size := (Dr.strs K2.out HFF.out).lt
    have x0 : w'.cell? ⟨pb, 0, none⟩ = some (.int .i64 p.f0) := (K2.out.blk 0 rfl).cell 0
    have x1 : w'.cell? ⟨pb, 1, none⟩ = some (.int .i64 p.f1) := (K2.out.blk 0 rfl).cell 1
    have x2 : w'.cell? ⟨pb, 2, none⟩ = some (.int .i64 p.f2) := (K2.out.blk 0 rfl).cell 2
    have x3 : w'.cell? ⟨pb, 3, none⟩ = some (.int .i64 p.f3) := (K2.out.blk 0 rfl).cell 3
    have x4 : w'.cell? ⟨pb, 4, none⟩ = some (.int .i64 p.f4) := (K2.out.blk 0 rfl).cell 4
    have x5 : w'.cell? ⟨pb, 5, none⟩ = some (.int .i64 p.f5) := (K2.out.blk 0 rfl).cell 5
    have lp : pb < w'.heap.size := (K2.out.blk 0 rfl).lt
    have hpush := Lib.hid (fun n => pushB_p6 (hque.drewN n) hql p)
    clear hque
    go_wp2
    refine wp_region_quiet_tail 5 (by kernel_rfl) (by kernel_rfl) ?_
    simp only [List.take_succ_cons, List.take_zero, List.drop_succ_cons, List.drop_zero]
    repeat (first | go_big_quiet_step (fail) | quiet_step (fail))
    refine wpQuiet_nil ?_
    rintro _ ⟨nq, rfl⟩
    go_wp2_with fail
    refine (hpush.out nq).mono ?_
    rintro er Z2 ⟨rfl, ds', hq2, f2, g2⟩
    have K3 := Lib.hid (Dr.que1 (K2.out.drewN nq) HFF.out hq2 f2 g2)
    have HF3 := Lib.hid (Dr.setF_at HFF.out { f with q := f.q ++ [p], ds := ds' })
    have t6 : Z2.cell? ⟨f.b, 6, none⟩ = some (.int .i64 f.by_) := (Dr.strs K3.out HF3.out).cell 6
    have q6 : Z2.frozen? ⟨f.b, 6, none⟩ = false := (Dr.strs K3.out HF3.out).frz 6
    have y3 : Z2.cell? ⟨pb, 3, none⟩ = some (.int .i64 p.f3) := (K3.out.blk 0 rfl).cell 3
    have y4 : Z2.cell? ⟨pb, 4, none⟩ = some (.int .i64 p.f4) := (K3.out.blk 0 rfl).cell 4
    have y5 : Z2.cell? ⟨pb, 5, none⟩ = some (.int .i64 p.f5) := (K3.out.blk 0 rfl).cell 5
    have z3 : Z2.cell? ⟨d.b, 3, none⟩ = some (.int .i64 d.seq) := (Dr.hds K3.out).cell 3
    have z4 : Z2.cell? ⟨d.b, 4, none⟩ = some (.int .i64 d.came) := (Dr.hds K3.out).cell 4
    have z5 : Z2.cell? ⟨d.b, 5, none⟩ = some (.int .i64 d.n) := (Dr.hds K3.out).cell 5
    have r3 : Z2.frozen? ⟨d.b, 3, none⟩ = false := (Dr.hds K3.out).frz 3
    have r4 : Z2.frozen? ⟨d.b, 4, none⟩ = false := (Dr.hds K3.out).frz 4
    have r5 : Z2.frozen? ⟨d.b, 5, none⟩ = false := (Dr.hds K3.out).frz 5
    have nfd : f.b ≠ d.b := fun e => (Dr.here K3.out).apart (i := 0) (j := 3 + k) (by omega) rfl (Dr.str_at HF3.out) d.b (List.mem_singleton.2 rfl) (List.mem_singleton.2 e.symm)
    have ndf := Ne.symm nfd
    have npf : pb ≠ f.b := fun e => K3.out.hs.apart (i := 0) (j := [Chunk.blk pb 34 (encP6 p)].length + (3 + k)) (by simp; omega) rfl (pre_get (Dr.str_at HF3.out)) pb (List.mem_singleton.2 rfl) (List.mem_singleton.2 e)
    have nfp := Ne.symm npf
    have npd : pb ≠ d.b := fun e => K3.out.hs.apart (i := 0) (j := 1) (by simp) rfl rfl pb (List.mem_singleton.2 rfl) (List.mem_singleton.2 e)
    have ndp := Ne.symm npd
    have hw1 := Lib.hid (add_w2 hby1 hby2 (show 0 ≤ p.f3 from by have := HO.out.s1; omega) (show p.f3 ≤ 1125899906842624 from by have := HO.out.s2; omega))
    have hw2 := Lib.hid (add_w2 hn1 hn2 (show (0 : Int) ≤ 1 from by omega) (show (1 : Int) ≤ 1125899906842624 from by omega))
    clear hq2 f2 g2 s5 lf lp
    go_wp2
    refine wp_region_quiet_tail 9 (by kernel_rfl) (by kernel_rfl) ?_
    simp only [List.take_succ_cons, List.take_zero, List.drop_succ_cons, List.drop_zero]
    repeat (first | go_big_quiet_step (fail) | quiet_step (fail))
    refine wpQuiet_nil ?_
    rintro _ ⟨nq, rfl⟩
    go_wp2
    rw [hw1.out]
    go_wp2
    try rw [hw2.out]
    have K5 := Lib.hid (Dr.hd1 (Dr.set1 (K3.out.drewN nq) HF3.out { f with q := f.q ++ [p], ds := ds', by_ := f.by_ + p.f3 } 6 (.int .i64 (f.by_ + p.f3)) rfl rfl rfl) { (d.setF k { f with q := f.q ++ [p], ds := ds', by_ := f.by_ + p.f3 }) with n := d.n + 1 } 5 (.int .i64 (d.n + 1)) (by simp only [Dr.setF_setF]; rfl))
    obtain ⟨W9, hW9⟩ : ∃ W9, ((Z2.drewN nq).setCell ⟨f.b, 6, none⟩ (.int .i64 (f.by_ + p.f3))).setCell ⟨d.b, 5, none⟩ (.int .i64 (d.n + 1)) = W9 := ⟨_, rfl⟩
    rw [hW9]
    have K6 : Hid (Sep w (Chunks.bs d.chunks) W9 ([Chunk.blk pb 34 (encP6 p)] ++ ({ (d.setF k { f with q := f.q ++ [p], ds := ds', by_ := f.by_ + p.f3 }) with n := d.n + 1 } : Dr).chunks)) := by rw [← hW9]; exact K5.out
    clear K5 K3 hW9 y3 y4 y5 z3 z4 z5 r3 r4 r5 t6 q6
    have y4 : W9.cell? ⟨pb, 4, none⟩ = some (.int .i64 p.f4) := (K6.out.blk 0 rfl).cell 4
    have y5 : W9.cell? ⟨pb, 5, none⟩ = some (.int .i64 p.f5) := (K6.out.blk 0 rfl).cell 5
    have z3 : W9.cell? ⟨d.b, 3, none⟩ = some (.int .i64 d.seq) := (Dr.hds K6.out).cell 3
    have z4 : W9.cell? ⟨d.b, 4, none⟩ = some (.int .i64 d.came) := (Dr.hds K6.out).cell 4
    have r3 : W9.frozen? ⟨d.b, 3, none⟩ = false := (Dr.hds K6.out).frz 3
    have r4 : W9.frozen? ⟨d.b, 4, none⟩ = false := (Dr.hds K6.out).frz 4
    have K7 := Lib.hid (Dr.hd1 K6.out.drew { (d.setF k { f with q := f.q ++ [p], ds := ds', by_ := f.by_ + p.f3 }) with n := d.n + 1, seq := p.f4 } 3 (.int .i64 p.f4) rfl)
    have K8 := Lib.hid (Dr.hd1 K7.out { (d.setF k { f with q := f.q ++ [p], ds := ds', by_ := f.by_ + p.f3 }) with n := d.n + 1, seq := p.f4, came := p.f5 } 4 (.int .i64 p.f5) rfl)
    refine wp_T [] (fun w' => w'.cell? ⟨pb, 4, none⟩ = some (.int .i64 p.f4) ∧ w'.cell? ⟨pb, 5, none⟩ = some (.int .i64 p.f5)) (by kernel_rfl) (fun hC => ?_) ⟨y4, y5⟩
    refine wpAnyT_takeC' 0 (by kernel_rfl) (fun _ _ _ h => h) (by assumption) (by rfl) (fun w hSw => by simp only [List.getD_cons_zero]; (try dsimp only at hSw); go_simp; try with_reducible rfl) ?_
    try simp only [List.getD_cons_zero, Act.put, List.setIfInBounds_toArray, List.set_cons_zero, List.set_cons_succ]
    refine wpAnyT_takeC' 1 (by kernel_rfl) (fun _ _ _ h => h) (by assumption) (by rfl) (fun w hSw => by simp only [List.getD_cons_succ, List.getD_cons_zero]; (try dsimp only at hSw); go_simp; try with_reducible rfl) ?_
    try simp only [List.getD_cons_succ, List.getD_cons_zero, Act.put, List.setIfInBounds_toArray, List.set_cons_zero, List.set_cons_succ]
    refine wpAnyT_takeC' 2 (by kernel_rfl) (fun _ _ _ h => h) (by assumption) (by rfl) (fun w hSw => by simp only [List.getD_cons_succ, List.getD_cons_zero]; (try dsimp only at hSw); go_simp; try with_reducible rfl) ?_
    try simp only [List.getD_cons_succ, List.getD_cons_zero, Act.put, List.setIfInBounds_toArray, List.set_cons_zero, List.set_cons_succ]
    refine wpAnyT_takeC' 3 (by kernel_rfl) (fun _ _ _ h => h) (by assumption) (by rfl) (fun w hSw => by simp only [List.getD_cons_succ, List.getD_cons_zero]; (try dsimp only at hSw); go_simp; try with_reducible rfl) ?_
    try simp only [List.getD_cons_succ, List.getD_cons_zero, Act.put, List.setIfInBounds_toArray, List.set_cons_zero, List.set_cons_succ]
    refine wpAnyT_takeC' 4 (by kernel_rfl) (fun _ _ _ h => h) (by assumption) (by rfl) (fun w hSw => by simp only [List.getD_cons_succ, List.getD_cons_zero]; (try dsimp only at hSw); go_simp; try with_reducible rfl) ?_
    try simp only [List.getD_cons_succ, List.getD_cons_zero, Act.put, List.setIfInBounds_toArray, List.set_cons_zero, List.set_cons_succ]
    refine wpAnyT_takeC' 5 (by kernel_rfl) (fun _ _ _ h => h) (by assumption) (by rfl) (fun w hSw => by simp only [List.getD_cons_succ, List.getD_cons_zero]; (try dsimp only at hSw); go_simp; try with_reducible rfl) ?_
    try simp only [List.getD_cons_succ, List.getD_cons_zero, Act.put, List.setIfInBounds_toArray, List.set_cons_zero, List.set_cons_succ]
    refine wpAnyT_takeC' 6 (by kernel_rfl) (fun _ _ _ h => h) (by assumption) (by rfl) (fun w hSw => by simp only [List.getD_cons_succ, List.getD_cons_zero]; (try dsimp only at hSw); go_simp; try with_reducible rfl) ?_
    try simp only [List.getD_cons_succ, List.getD_cons_zero, Act.put, List.setIfInBounds_toArray, List.set_cons_zero, List.set_cons_succ]
    refine wpAnyT_takeC' 7 (by kernel_rfl) (fun _ _ _ h => h) (by assumption) (by rfl) (fun w hSw => by simp only [List.getD_cons_succ, List.getD_cons_zero]; (try dsimp only at hSw); go_simp; try with_reducible rfl) ?_
    try simp only [List.getD_cons_succ, List.getD_cons_zero, Act.put, List.setIfInBounds_toArray, List.set_cons_zero, List.set_cons_succ]
    refine wpAnyT_one' 8 (by kernel_rfl) (by rfl) (fun K hK => ?_)
    simp only [List.getD_cons_succ, List.getD_cons_zero]
    go_simp
    have hC7 : ((W9.setCell ⟨d.b, 3, none⟩ (.int .i64 p.f4)).drew).cell? ⟨pb, 4, none⟩ = some (.int .i64 p.f4) ∧ ((W9.setCell ⟨d.b, 3, none⟩ (.int .i64 p.f4)).drew).cell? ⟨pb, 5, none⟩ = some (.int .i64 p.f5) := ⟨(K7.out.blk 0 rfl).cell 4, (K7.out.blk 0 rfl).cell 5⟩
    refine hK.out _ _ hC7 ?_
    clear hK hC
    try simp only [Act.put, List.setIfInBounds_toArray, List.set_cons_zero, List.set_cons_succ]
    have hC := hC7
    refine wpAnyT_takeC' 9 (by kernel_rfl) (fun _ _ _ h => h) (by assumption) (by rfl) (fun w hSw => by simp only [List.getD_cons_succ, List.getD_cons_zero]; (try dsimp only at hSw); go_simp; try with_reducible rfl) ?_
    try simp only [List.getD_cons_succ, List.getD_cons_zero, Act.put, List.setIfInBounds_toArray, List.set_cons_zero, List.set_cons_succ]
    refine wpAnyT_takeC' 10 (by kernel_rfl) (fun _ _ _ h => h) (by assumption) (by rfl) (fun w hSw => by simp only [List.getD_cons_succ, List.getD_cons_zero]; (try dsimp only at hSw); go_simp; try with_reducible rfl) ?_
    try simp only [List.getD_cons_succ, List.getD_cons_zero, Act.put, List.setIfInBounds_toArray, List.set_cons_zero, List.set_cons_succ]
    refine wpAnyT_one' 11 (by kernel_rfl) (by rfl) (fun K hK => ?_)
    simp only [List.getD_cons_succ, List.getD_cons_zero]
    go_simp
    refine hK.out _ _ ⟨(K8.out.blk 0 rfl).cell 4, (K8.out.blk 0 rfl).cell 5⟩ ?_
    clear hK hC
    refine wpAnyT_done (by kernel_rfl) ?_ _
    rw [onlyN_normal]
    go_wp2
    go_ret
    refine ⟨rfl, d.rds, ds', ?_⟩
    have hfin := Dr.outbox K8.out
    have e : ({ (d.setF k { f with q := f.q ++ [p], ds := ds', by_ := f.by_ + p.f3 }) with n := d.n + 1, seq := p.f4, came := p.f5 } : Dr) = d.admitted k f p d.rds ds' := by
      simp [Dr.admitted, Fl.got, Dr.setF, hq]
    rw [e] at hfin
    exact hfin
end Go.Proofs.Yteojodcdehkejaa
/- A discipline by turns: Next. -/
namespace Go.Proofs.Yteojodcdehkejaa
open Go Go.RowKit
attribute [local go_sem] calmQ_normal wide_fn wide_depth Oper.semAt_some run_store_func

/-- all of a flow but its deficit -/
def Fl.core (f : Fl) : Fl := { f with df := 0 }
theorem Turns.core {a : List Fl} {ra : List Nat} {ta : Bool} {b : List Fl} {rb : List Nat} {tb : Bool} (h : Turns a ra ta b rb tb) : b.map Fl.core = a.map Fl.core := by
  induction h with
  | refl => rfl
  | step hf _ _ ih => rw [ih]; exact map_set_same Fl.core hf rfl
theorem Turns.len {a : List Fl} {ra : List Nat} {ta : Bool} {b : List Fl} {rb : List Nat} {tb : Bool} (h : Turns a ra ta b rb tb) : rb.length = ra.length := by
  induction h with
  | refl => rfl
  | step hf _ _ ih => rw [ih]; simp
theorem core_map {α : Type} {a b : List Fl} (h : b.map Fl.core = a.map Fl.core) (g : Fl → α) (hg : ∀ f, g f.core = g f) : b.map g = a.map g := by
  have : ∀ l : List Fl, l.map g = (l.map Fl.core).map g := fun l => by rw [List.map_map]; exact List.map_congr_left fun f _ => (hg f).symm
  rw [this b, this a, h]
theorem core_b {a b : List Fl} (h : b.map Fl.core = a.map Fl.core) (i : Nat) : (b[i]?).map (·.b) = (a[i]?).map (·.b) := by
  have := core_map h (·.b) (fun _ => rfl)
  rw [← List.getElem?_map, ← List.getElem?_map, this]
theorem blocksOf_core {a b : List Fl} (h : b.map Fl.core = a.map Fl.core) (ri : List Nat) : blocksOf b ri = blocksOf a ri := by
  unfold blocksOf
  exact List.map_congr_left fun i _ => by rw [core_b h]
/-- the state behind choose -/
def Dr.chosen (d : Dr) (fl : List Fl) (ri : List Nat) (rds : List Nat) : Dr := { d with fl := fl, ring := blocksOf fl ri, turn := true, rds := rds }
theorem perm_split {α : Type} (a b c : α) (X : List α) (P : List α) : (P ++ ([a, b, c] ++ X)).Perm (([a, c] ++ X) ++ ([b] ++ P)) := by
  classical
  rw [List.perm_iff_count]
  intro x
  simp only [List.count_append, List.count_cons, List.count_nil]
  omega
theorem Dr.choose1 {w0 w w' : World} {S0 : List Nat} {pre : List Chunk} {d : Dr} {ri ri' : List Nat} {fl : List Fl} {rds : List Nat} (K : Sep w0 S0 w (pre ++ d.chunks)) (hri : d.ring = blocksOf d.fl ri) (hc : fl.map Fl.core = d.fl.map Fl.core)
    (k : Sep w (Chunks.bs (d.cch ri)) w' (({ d with fl := fl, turn := true, rds := rds } : Dr).cch ri')) : Sep w0 S0 w' (pre ++ (d.chosen fl ri' rds).chunks) := by
  have e1 : d.chunks = [CHd d, CFs d, CRingq d.rb d.rds (blocksOf d.fl ri)] ++ (d.fl.map CStr ++ d.fl.map CQ) := by unfold Dr.chunks; rw [hri]
  have e2 : d.cch ri = [CHd d, CRingq d.rb d.rds (blocksOf d.fl ri)] ++ (d.fl.map CStr ++ d.fl.map CQ) := rfl
  rw [e1] at K
  have K2 := K.perm (perm_split _ _ _ _ _)
  rw [← e2] at K2
  have K3 := Sep.frame K2 k
  have e3 : (({ d with fl := fl, turn := true, rds := rds } : Dr).cch ri') = [CHd (d.chosen fl ri' rds), CRingq d.rb rds (blocksOf fl ri')] ++ (fl.map CStr ++ fl.map CQ) := rfl
  rw [e3] at K3
  have K4 := K3.perm (perm_split (CHd (d.chosen fl ri' rds)) (CFs d) (CRingq d.rb rds (blocksOf fl ri')) (fl.map CStr ++ fl.map CQ) pre).symm
  have e4 : CFs (d.chosen fl ri' rds) = CFs d := by
    have h1 : fl.map (fun f => ptrV (some f.b)) = d.fl.map (fun f => ptrV (some f.b)) := core_map hc _ (fun _ => rfl)
    have h2 : fl.length = d.fl.length := by have := congrArg List.length hc; simpa using this
    simp only [CFs, Dr.chosen, h1, h2]
  have e5 : (d.chosen fl ri' rds).chunks = [CHd (d.chosen fl ri' rds), CFs d, CRingq d.rb rds (blocksOf fl ri')] ++ (fl.map CStr ++ fl.map CQ) := by
    unfold Dr.chunks; rw [e4]; rfl
  rw [e5]
  exact K4
theorem Dr.cch_holds {w : World} {d : Dr} {ri : List Nat} (h : Holds w d.chunks) (hri : d.ring = blocksOf d.fl ri) : Holds w (d.cch ri) := by
  have e1 : d.chunks = [] ++ ([CHd d, CFs d, CRingq d.rb d.rds (blocksOf d.fl ri)] ++ (d.fl.map CStr ++ d.fl.map CQ)) := by unfold Dr.chunks; rw [hri]; rfl
  rw [e1] at h
  exact (h.perm (perm_split _ _ _ _ _)).left

/-- a flow that has sent its first packet -/
def Fl.sent (f : Fl) (p : P6) (qs : List P6) : Fl := { f with q := qs, df := f.df - p.f3, by_ := f.by_ - p.f3 }
/-- the state behind Next -/
def Dr.sent (d : Dr) (i : Nat) (f : Fl) (p : P6) (qs : List P6) : Dr := { d.setF i (f.sent p qs) with n := d.n - 1 }
set_option maxRecDepth 100000 in
set_option maxHeartbeats 4000000 in
theorem dnext {w : World} {d : Dr} (h : Holds w d.chunks) {ri0 : List Nat} (hri : d.ring = blocksOf d.fl ri0) (hf : FineAt d.fl ri0) (hn : ri0.Nodup) (hl : ri0.length ≤ 1048576) (hne : ri0 ≠ []) (t : Int) (hn1 : 1 ≤ d.n) (hn2 : d.n ≤ 1125899906842624)
    (hby : ∀ f, f ∈ d.fl → f.by_ ≤ 1125899906842624 ∧ ∀ p qs, f.q = p :: qs → 0 ≤ p.f3 ∧ p.f3 ≤ f.by_) :
    Calls Try.prog 14 #[.pointer (some ⟨d.b, 0, none⟩), .int .i64 t] w fun e w' =>
      ∃ fl tt i rest f g p qs rds rds2, Turns d.fl ri0 d.turn fl (i :: rest) tt ∧ (i :: rest).Nodup ∧ FineAt fl (i :: rest) ∧ fl[i]? = some f ∧ (g = if tt then 0 else f.qt) ∧ f.q = p :: qs ∧ p.f3 ≤ f.df + g ∧ e = .returned (.tuple #[aggp6 p, .bool true]) ∧
        Sep w (Chunks.bs d.chunks) w' (if qs = [] then ((d.chosen (fl.set i (f.add g)) (i :: rest) rds).sent i (f.add g) p qs).outed i ((f.add g).sent p qs) 0 rds2 else (d.chosen (fl.set i (f.add g)) (i :: rest) rds).sent i (f.add g) p qs).chunks := by
  have hch := Lib.hid (fun X (fX : Fr [] w X) => dchoose (Dr.cch_holds (h.fr' fX (by simp)) hri) hf hn hl)
  have K0 := Lib.hid (Dr.inbox (Sep.start h) 34 (encP6 zerop6))
  have HRI := Lib.hid hri
  have HBY := Lib.hid hby
  clear h hf hri hby
  go_enter Try.func14, Try.ntmps14
  go_wp2_with fail
  obtain ⟨rb, hrb⟩ : ∃ rb, w.heap.size = rb := ⟨_, rfl⟩
  refine (hch.out _ ((Fr.refl [] w).alloc _)).mono ?_
  rintro er w1 (⟨h0, _⟩ | ⟨fl, tt, i, rest, f, rds, htr, hnd, hfine, hfi, hsz, rfl, ks⟩)
  · exact absurd h0 hne
  obtain ⟨g, hg⟩ : ∃ g : Int, (if tt then 0 else f.qt) = g := ⟨_, rfl⟩
  rw [hg] at ks hsz
  have hcore : (fl.set i (f.add g)).map Fl.core = d.fl.map Fl.core := (map_set_same (y := f.add g) Fl.core hfi rfl).trans htr.core
  have K1 := Lib.hid (Dr.choose1 K0.out HRI.out hcore ks)
  obtain ⟨p, qs, hq⟩ : ∃ p qs, f.q = p :: qs := by
    obtain ⟨f', hf', hff⟩ := hfine i (by simp)
    rw [hfi] at hf'
    cases hf'
    have := hff.q
    cases hq : f.q with
    | nil => exact absurd hq this
    | cons a b => exact ⟨a, b, rfl⟩
  have hsz2 : p.f3 ≤ f.df + g := by have : f.sz = p.f3 := by simp [Fl.sz, hq]
                                    omega
  rw [hrb] at K1
  obtain ⟨d1, hd1⟩ : ∃ d1, Hid (d.chosen (fl.set i (f.add g)) (i :: rest) rds = d1) := ⟨_, Lib.hid rfl⟩
  rw [hd1.out] at K1
  have hat : Hid (d1.fl[i]? = some (f.add g)) := by rw [← hd1.out]; exact List.getElem?_set_self (some_lt hfi)
  obtain ⟨f1, hf1⟩ : ∃ f1, Hid (f.add g = f1) := ⟨_, Lib.hid rfl⟩
  rw [hf1.out] at hat
  have hf1b : f1.b = f.b := by rw [← hf1.out]; rfl
  have hq1 : f1.q = p :: qs := by rw [← hf1.out]; exact hq
  have hdf1 : Hid (f1.df = f.df + g) := by rw [← hf1.out]; exact rfl
  have hd1b : d1.b = d.b := by rw [← hd1.out]; rfl
  have hd1n : d1.n = d.n := by rw [← hd1.out]; rfl
  obtain ⟨f0, hf0, hfn⟩ := hfine i (by simp)
  rw [hfi] at hf0
  cases hf0
  obtain ⟨hby1, hp0, hby2⟩ : f.by_ ≤ 1125899906842624 ∧ 0 ≤ p.f3 ∧ p.f3 ≤ f.by_ := by
    have hm : f.core ∈ d.fl.map Fl.core := by rw [← htr.core]; exact List.mem_map.2 ⟨f, List.mem_of_getElem? hfi, rfl⟩
    obtain ⟨f', hm', e⟩ := List.mem_map.1 hm
    have e1 : f'.by_ = f.by_ := by have h := congrArg Fl.by_ e; exact h
    have e2 : f'.q = f.q := by have h := congrArg Fl.q e; exact h
    obtain ⟨h1, h2⟩ := HBY.out f' hm'
    have h3 := h2 p qs (by rw [e2]; exact hq)
    rw [e1] at h1 h3
    exact ⟨h1, h3.1, h3.2⟩
  have hq3 : p.f3 ≤ 65536 := by have : f.sz = p.f3 := by simp [Fl.sz, hq]
                                have := hfn.s2; omega
  have hdfb : f.df + g ≤ 1125899906842624 := by
    have := hfn.d3; have := hfn.q2; have := hfn.q1
    rw [← hg]; split <;> omega
  have hw1 := Lib.hid (sub_w2 hp0 hsz2 hdfb)
  have hw2 := Lib.hid (sub_w2 hp0 hby2 hby1)
  have hw3 := Lib.hid (sub_w2 (show (0 : Int) ≤ 1 by omega) hn1 hn2)
  have HTR := Lib.hid htr
  have HND := Lib.hid hnd
  have HFI := Lib.hid hfi
  have HFN := Lib.hid hfine
  have HG := Lib.hid hg
  have HQ := Lib.hid hq
  have HSZ := Lib.hid hsz2
  have hby_ : f1.by_ = f.by_ := by rw [← hf1.out]; rfl
  have hque := Dr.ques K1.out hat.out
  rw [hq1] at hque
  have s5 : w1.cell? ⟨f.b, 5, none⟩ = some (.pointer (some ⟨f1.r, 0, none⟩)) := by
    have := (Dr.strs K1.out hat.out).cell 5
    rw [hf1b] at this; exact this
  have lf : f.b < w1.heap.size := by have := (Dr.strs K1.out hat.out).lt; rw [hf1b] at this; exact this
  clear ks htr hnd hfine hfi hg hq hch HBY hcore hfn hsz
  go_wp2_with fail
  refine (popF_p6 hque).mono ?_
  rintro er w2 ⟨rfl, hr2, f2⟩
  have K2 := Lib.hid (Dr.que1 K1.out hat.out hr2 f2 (Gr.refl _ _))
  have K3 := Lib.hid (Dr.inbox2 K2.out 34 (encP6 p))
  have HA3 := Lib.hid (Dr.setF_at hat.out { f1 with q := qs, ds := f1.ds })
  have t4 : w2.cell? ⟨f.b, 4, none⟩ = some (.int .i64 (f.df + g)) := by
    have := (Dr.strs K2.out HA3.out).cell 4
    rw [← hf1b, ← hdf1.out]; exact this
  have t6 : w2.cell? ⟨f.b, 6, none⟩ = some (.int .i64 f.by_) := by
    have := (Dr.strs K2.out HA3.out).cell 6
    rw [← hf1b, ← hby_]; exact this
  have q4 : w2.frozen? ⟨f.b, 4, none⟩ = false := by rw [← hf1b]; exact (Dr.strs K2.out HA3.out).frz 4
  have q6 : w2.frozen? ⟨f.b, 6, none⟩ = false := by rw [← hf1b]; exact (Dr.strs K2.out HA3.out).frz 6
  have lf2 : f.b < w2.heap.size := by rw [← hf1b]; exact (Dr.strs K2.out HA3.out).lt
  have u5 : w2.cell? ⟨d.b, 5, none⟩ = some (.int .i64 d.n) := by
    have := (Dr.hds K2.out).cell 5
    rw [← hd1b, ← hd1n]; exact this
  have r5 : w2.frozen? ⟨d.b, 5, none⟩ = false := by rw [← hd1b]; exact (Dr.hds K2.out).frz 5
  have ld2 : d.b < w2.heap.size := by rw [← hd1b]; exact (Dr.hds K2.out).lt
  have nfd : f.b ≠ d.b := fun e => (Dr.here K2.out).apart (i := 0) (j := 3 + i) (by omega) rfl (Dr.str_at HA3.out) d1.b (List.mem_singleton.2 rfl) (List.mem_singleton.2 (by rw [hd1b, ← e, ← hf1b]))
  have ndf := Ne.symm nfd
  clear hque s5 lf hr2 f2
  go_wp2
  refine wp_region_quiet_tail 9 (by kernel_rfl) (by kernel_rfl) ?_
  simp only [List.take_succ_cons, List.take_zero, List.drop_succ_cons, List.drop_zero]
  repeat (first | go_big_quiet_step (fail) | quiet_step (fail))
  refine wpQuiet_nil ?_
  rintro _ ⟨nq, rfl⟩
  go_wp2
  try rw [hw1.out]
  obtain ⟨fA, hfA⟩ : ∃ fA : Fl, Hid (({ f1 with q := qs, ds := f1.ds } : Fl) = fA) := ⟨_, Lib.hid rfl⟩
  have hAb : fA.b = f.b := by rw [← hfA.out]; exact hf1b
  rw [hfA.out] at K3 HA3
  obtain ⟨W3, hW3⟩ : ∃ W3, ((w2.alloc (.cells #[.int .i64 p.f0, .int .i64 p.f1, .int .i64 p.f2, .int .i64 p.f3, .int .i64 p.f4, .int .i64 p.f5] 34)).drewN nq).setCell ⟨f.b, 4, none⟩ (.int .i64 (f.df + g - p.f3)) = W3 := ⟨_, rfl⟩
  obtain ⟨pb, hpb⟩ : ∃ pb, w2.heap.size = pb := ⟨_, rfl⟩
  have K4 : Hid (Sep w (Chunks.bs d.chunks) W3 ((Chunk.blk pb 34 (encP6 p) :: [Chunk.blk rb 34 (encP6 zerop6)]) ++ ((d1.setF i fA).setF i { fA with df := f.df + g - p.f3 }).chunks)) := by
    have k := Dr.set1 (K3.out.drewN nq) HA3.out { fA with df := f.df + g - p.f3 } 4 (.int .i64 (f.df + g - p.f3)) rfl rfl rfl
    rw [hpb] at k
    rw [← hW3, ← hAb]
    exact k
  rw [hW3, hpb]
  clear hW3 hpb K3 K2 K1 t4 t6 q4 q6 lf2 u5 r5 ld2
  rw [Dr.setF_setF] at K4
  have HB := Lib.hid (Dr.setF_at hat.out { fA with df := f.df + g - p.f3 })
  have t6 : W3.cell? ⟨f.b, 6, none⟩ = some (.int .i64 f.by_) := by
    have := (Dr.strs K4.out HB.out).cell 6
    rw [← hAb, ← hby_]; rw [← hfA.out] at this ⊢; exact this
  have t5 : W3.cell? ⟨f.b, 5, none⟩ = some (.pointer (some ⟨f1.r, 0, none⟩)) := by
    have := (Dr.strs K4.out HB.out).cell 5
    rw [← hAb]; rw [← hfA.out] at this ⊢; exact this
  have q6 : W3.frozen? ⟨f.b, 6, none⟩ = false := by rw [← hAb]; exact (Dr.strs K4.out HB.out).frz 6
  have lf3 : f.b < W3.heap.size := by rw [← hAb]; exact (Dr.strs K4.out HB.out).lt
  have y3 : W3.cell? ⟨pb, 3, none⟩ = some (.int .i64 p.f3) := (K4.out.blk 0 rfl).cell 3
  have u5 : W3.cell? ⟨d.b, 5, none⟩ = some (.int .i64 d.n) := by
    have := (Dr.hds K4.out).cell 5
    rw [← hd1b, ← hd1n]; exact this
  have r5 : W3.frozen? ⟨d.b, 5, none⟩ = false := by rw [← hd1b]; exact (Dr.hds K4.out).frz 5
  have ld3 : d.b < W3.heap.size := by rw [← hd1b]; exact (Dr.hds K4.out).lt
  refine wp_region_quiet_tail 9 (by kernel_rfl) (by kernel_rfl) ?_
  simp only [List.take_succ_cons, List.take_zero, List.drop_succ_cons, List.drop_zero]
  repeat (first | go_big_quiet_step (fail) | quiet_step (fail))
  refine wpQuiet_nil ?_
  rintro _ ⟨nq, rfl⟩
  go_wp2_with fail
  obtain ⟨d5, hd5⟩ : ∃ d5 : Dr, Hid (d1.sent i f1 p qs = d5) := ⟨_, Lib.hid rfl⟩
  obtain ⟨W4, hW4⟩ : ∃ W4, ((W3.drewN nq).setCell ⟨f.b, 6, none⟩ (.int .i64 (f.by_ - p.f3))).setCell ⟨d.b, 5, none⟩ (.int .i64 (d.n - 1)) = W4 := ⟨_, rfl⟩
  have K6 : Hid (Sep w (Chunks.bs d.chunks) W4 ((Chunk.blk pb 34 (encP6 p) :: [Chunk.blk rb 34 (encP6 zerop6)]) ++ d5.chunks)) := by
    have k := Dr.set1 (K4.out.drewN nq) HB.out { fA with df := f.df + g - p.f3, by_ := f.by_ - p.f3 } 6 (.int .i64 (f.by_ - p.f3)) rfl rfl rfl
    rw [Dr.setF_setF] at k
    have k2 := Dr.hd1 k { d1.setF i { fA with df := f.df + g - p.f3, by_ := f.by_ - p.f3 } with n := d.n - 1 } 5 (.int .i64 (d.n - 1)) rfl
    have e : ({ d1.setF i { fA with df := f.df + g - p.f3, by_ := f.by_ - p.f3 } with n := d.n - 1 } : Dr) = d5 := by
      rw [← hd5.out, ← hfA.out, ← hd1n, ← hby_, ← hdf1.out]; rfl
    rw [e] at k2
    rw [← hW4, ← hAb, ← hd1b]
    exact k2
  rw [hW4]
  clear hW4 K4 HB t6 t5 q6 lf3 y3 u5 r5 ld3
  have hS5 : Hid (d5.fl[i]? = some (f1.sent p qs)) := by rw [← hd5.out]; exact Lib.hid (Dr.setF_at hat.out _)
  have hque5 := Dr.ques K6.out hS5.out
  refine (len_p6 (show Rgp6 W4 f1.r f1.ds qs from hque5)).mono ?_
  rintro er w4 ⟨rfl, hw4⟩
  rw [hw4]
  clear hw4 hque5
  have hring5 : d5.ring = blocksOf (fl.set i (f.add g)) (i :: rest) := by rw [← hd5.out, ← hd1.out]; rfl
  have hi5 : d5.ring[0]? = some (f1.sent p qs).b := by
    rw [hring5]
    simp only [blocksOf, List.map_cons, List.getElem?_cons_zero, List.getElem?_set_self (some_lt HFI.out), Option.map_some, Option.getD_some]
    rw [← hf1.out]; rfl
  have hrl5 : d5.ring.length ≤ 1048576 := by
    rw [hring5]; simp only [blocksOf, List.length_map]; rw [HTR.out.len]; exact hl
  have hrw5 : ∀ b, b ∈ d5.ring → ∃ (j : Nat) (g : Fl), d5.fl[j]? = some g ∧ g.b = b := by
    intro b hb
    rw [hring5] at hb
    obtain ⟨j, hj, rfl⟩ := List.mem_map.1 hb
    obtain ⟨fj, hfj, _⟩ := HFN.out j hj
    by_cases e : i = j
    · subst e
      refine ⟨_, _, hS5.out, ?_⟩
      simp only [List.getElem?_set_self (some_lt HFI.out), Option.map_some, Option.getD_some]
      rw [← hf1.out]; rfl
    · refine ⟨j, fj, ?_, ?_⟩
      · rw [← hd5.out, ← hd1.out]
        show ((fl.set i (f.add g)).set i _)[j]? = _
        rw [List.getElem?_set_ne e, List.getElem?_set_ne e]; exact hfj
      · simp only [List.getElem?_set_ne e, hfj, Option.map_some, Option.getD_some]
  have hout := Lib.hid (dout K6.out.hs.right hS5.out (i := 0) hi5 (fun j hj => absurd hj (by omega)) hrl5 hrw5)
  have e51 : d5.b = d.b := by rw [← hd5.out]; exact hd1b
  have e52 : (f1.sent p qs).b = f.b := hf1b
  rw [e51, e52] at hout
  clear hring5 hi5 hrl5 hrw5 e51 e52
  by_cases hqs : qs = []
  · have hz : ((qs.length : Int) == 0) = true := by rw [hqs]; rfl
    have hqs' := Lib.hid hqs
    clear hqs
    go_wp2_with fail
    refine hout.out.mono ?_
    rintro er w5 ⟨rfl, rds2, k5⟩
    have K7 := Lib.hid ((Sep.frame (K6.out.perm List.perm_append_comm) k5).perm List.perm_append_comm)
    clear k5 hout
    have BP : Blk w5 pb 34 (encP6 p) := K7.out.blk 0 rfl
    have y0 : w5.cell? ⟨pb, 0, none⟩ = some (.int .i64 p.f0) := BP.cell 0
    have y1 : w5.cell? ⟨pb, 1, none⟩ = some (.int .i64 p.f1) := BP.cell 1
    have y2 : w5.cell? ⟨pb, 2, none⟩ = some (.int .i64 p.f2) := BP.cell 2
    have y3 : w5.cell? ⟨pb, 3, none⟩ = some (.int .i64 p.f3) := BP.cell 3
    have y4 : w5.cell? ⟨pb, 4, none⟩ = some (.int .i64 p.f4) := BP.cell 4
    have y5 : w5.cell? ⟨pb, 5, none⟩ = some (.int .i64 p.f5) := BP.cell 5
    have BR : Blk w5 rb 34 (encP6 zerop6) := K7.out.blk 1 rfl
    have e6 : (encP6 zerop6).length = 6 := rfl
    go_wp2_with (first | (refine wpList_load_row rfl _ (.tmp 7) rfl pb rfl 34 (encP6 p).toArray (0, 0) _ BP (Try.underlying34) rfl (by kernel_rfl) ?_) | (refine wpList_store_S rfl _ (.tmp 4) (.tmp 56) rfl rb 0 34 (encP6 zerop6) (encP6 p) rfl rfl BR (by kernel_rfl) (by simp [encP6]) (fun u hu => one_p6 [p] u (by simpa using hu)) ?_; intro w6 b6 f6 z6; have K8 := Lib.hid (K7.out.call1' 1 rfl (Sep.of_one (c := Chunk.blk rb 34 _) f6 b6 (Gr.refl _ _))); clear b6 f6 z6))
    have R := K8.out.blk 1 rfl
    have x0 : w6.cell? ⟨rb, 0, none⟩ = some (.int .i64 p.f0) := R.cell 0
    have x1 : w6.cell? ⟨rb, 1, none⟩ = some (.int .i64 p.f1) := R.cell 1
    have x2 : w6.cell? ⟨rb, 2, none⟩ = some (.int .i64 p.f2) := R.cell 2
    have x3 : w6.cell? ⟨rb, 3, none⟩ = some (.int .i64 p.f3) := R.cell 3
    have x4 : w6.cell? ⟨rb, 4, none⟩ = some (.int .i64 p.f4) := R.cell 4
    have x5 : w6.cell? ⟨rb, 5, none⟩ = some (.int .i64 p.f5) := R.cell 5
    refine bodyPost_ret (v := .tuple #[aggp6 p, .bool true]) (by simp [results, Try.results14, go_sem, x0, x1, x2, x3, x4, x5]) rfl ⟨fl, tt, i, rest, f, g, p, qs, rds, rds2, HTR.out, HND.out, HFN.out, HFI.out, HG.out.symm, HQ.out, HSZ.out, rfl, ?_⟩
    rw [if_pos hqs'.out]; rw [hd1.out, hf1.out, hd5.out]; exact Dr.outbox (pre := [Chunk.blk pb 34 (encP6 p), Chunk.blk rb 34 (List.take 0 (encP6 zerop6) ++ encP6 p ++ List.drop (0 + (encP6 p).length) (encP6 zerop6))]) K8.out
  · have hz : ((qs.length : Int) == 0) = false := by rw [beq_eq_false_iff_ne]; have := mt List.eq_nil_of_length_eq_zero hqs; omega
    have hqs' := Lib.hid hqs
    clear hqs hout
    have BP : Blk W4 pb 34 (encP6 p) := K6.out.blk 0 rfl
    have y0 : W4.cell? ⟨pb, 0, none⟩ = some (.int .i64 p.f0) := BP.cell 0
    have y1 : W4.cell? ⟨pb, 1, none⟩ = some (.int .i64 p.f1) := BP.cell 1
    have y2 : W4.cell? ⟨pb, 2, none⟩ = some (.int .i64 p.f2) := BP.cell 2
    have y3 : W4.cell? ⟨pb, 3, none⟩ = some (.int .i64 p.f3) := BP.cell 3
    have y4 : W4.cell? ⟨pb, 4, none⟩ = some (.int .i64 p.f4) := BP.cell 4
    have y5 : W4.cell? ⟨pb, 5, none⟩ = some (.int .i64 p.f5) := BP.cell 5
    have BR : Blk W4 rb 34 (encP6 zerop6) := K6.out.blk 1 rfl
    have e6 : (encP6 zerop6).length = 6 := rfl
    go_wp2_with (first | (refine wpList_load_row rfl _ (.tmp 7) rfl pb rfl 34 (encP6 p).toArray (0, 0) _ BP (Try.underlying34) rfl (by kernel_rfl) ?_) | (refine wpList_store_S rfl _ (.tmp 4) (.tmp 56) rfl rb 0 34 (encP6 zerop6) (encP6 p) rfl rfl BR (by kernel_rfl) (by simp [encP6]) (fun u hu => one_p6 [p] u (by simpa using hu)) ?_; intro w6 b6 f6 z6; have K8 := Lib.hid (K6.out.call1' 1 rfl (Sep.of_one (c := Chunk.blk rb 34 _) f6 b6 (Gr.refl _ _))); clear b6 f6 z6))
    have R := K8.out.blk 1 rfl
    have x0 : w6.cell? ⟨rb, 0, none⟩ = some (.int .i64 p.f0) := R.cell 0
    have x1 : w6.cell? ⟨rb, 1, none⟩ = some (.int .i64 p.f1) := R.cell 1
    have x2 : w6.cell? ⟨rb, 2, none⟩ = some (.int .i64 p.f2) := R.cell 2
    have x3 : w6.cell? ⟨rb, 3, none⟩ = some (.int .i64 p.f3) := R.cell 3
    have x4 : w6.cell? ⟨rb, 4, none⟩ = some (.int .i64 p.f4) := R.cell 4
    have x5 : w6.cell? ⟨rb, 5, none⟩ = some (.int .i64 p.f5) := R.cell 5
    refine bodyPost_ret (v := .tuple #[aggp6 p, .bool true]) (by simp [results, Try.results14, go_sem, x0, x1, x2, x3, x4, x5]) rfl ⟨fl, tt, i, rest, f, g, p, qs, rds, [], HTR.out, HND.out, HFN.out, HFI.out, HG.out.symm, HQ.out, HSZ.out, rfl, ?_⟩
    rw [if_neg hqs'.out]; rw [hd1.out, hf1.out, hd5.out]; exact Dr.outbox (pre := [Chunk.blk pb 34 (encP6 p), Chunk.blk rb 34 (List.take 0 (encP6 zerop6) ++ encP6 p ++ List.drop (0 + (encP6 p).length) (encP6 zerop6))]) K8.out
end Go.Proofs.Yteojodcdehkejaa
/- Two flows, a packet each: what Next sends first. -/
namespace Go.Proofs.Yteojodcdehkejaa
open Go Go.RowKit
attribute [local go_sem] calmQ_normal wide_fn wide_depth Oper.semAt_some run_store_func

set_option maxRecDepth 100000 in
theorem dlen {w : World} {d : Dr} (h : Holds w d.chunks) :
    Calls Try.prog 27 #[.pointer (some ⟨d.b, 0, none⟩)] w fun e w' => e = .returned (.int .i64 d.n) ∧ w' = w := by
  have h5 : w.cell? ⟨d.b, 5, none⟩ = some (.int .i64 d.n) := (show Blk w d.b 92 d.head from h.get (i := 0) rfl).cell 5
  clear h
  go_enter Try.func27, Try.ntmps27
  go_wp2
  go_ret
  exact ⟨rfl, rfl⟩

theorem Turns.inv {P : List Fl → List Nat → Bool → Prop} {a : List Fl} {ra : List Nat} {ta : Bool} {b : List Fl} {rb : List Nat} {tb : Bool} (h : Turns a ra ta b rb tb) (h0 : P a ra ta)
    (hs : ∀ fl i rest t f, P fl (i :: rest) t → fl[i]? = some f → f.df + (if t then 0 else f.qt) < f.sz → P (fl.set i (f.add (if t then 0 else f.qt))) (rest ++ [i]) false) : P b rb tb := by
  induction h with
  | refl => exact h0
  | step hf hl _ ih => exact ih (hs _ _ _ _ _ h0 hf hl)
theorem Fl.add_add (f : Fl) (x y : Int) : (f.add x).add y = f.add (x + y) := by simp [Fl.add, Int.add_assoc]
/-- what two flows come to, no packet being sent -/
def TwoAt (f0 f1 : Fl) (fl : List Fl) (ri : List Nat) (tt : Bool) : Prop :=
  tt = false ∧ ∃ c : Nat, (ri = [0, 1] ∧ fl = [f0.add (c * f0.qt), f1.add (c * f1.qt)] ∧ (c = 0 ∨ (f0.df + c * f0.qt < f0.sz ∧ f1.df + c * f1.qt < f1.sz))) ∨
    (ri = [1, 0] ∧ fl = [f0.add ((c + 1) * f0.qt), f1.add (c * f1.qt)] ∧ f0.df + (c + 1) * f0.qt < f0.sz ∧ (c = 0 ∨ f1.df + c * f1.qt < f1.sz))
theorem two_turns {f0 f1 : Fl} {fl : List Fl} {ri : List Nat} {tt : Bool} (h : Turns [f0, f1] [0, 1] false fl ri tt) : TwoAt f0 f1 fl ri tt := by
  refine h.inv ?_ ?_
  · refine ⟨rfl, 0, .inl ⟨rfl, ?_, .inl rfl⟩⟩
    simp [Fl.add_zero]
  · rintro fl i rest t f ⟨rfl, c, ⟨hr, rfl, hc⟩ | ⟨hr, rfl, h0, hc⟩⟩ hf hl
    · simp only [List.cons.injEq] at hr
      obtain ⟨rfl, rfl⟩ := hr
      simp only [List.getElem?_cons_zero, Option.some.injEq] at hf
      subst hf
      simp only [Fl.add, Fl.sz, Bool.false_eq_true, if_false] at hl
      refine ⟨rfl, c, .inr ⟨rfl, ?_, ?_, ?_⟩⟩
      · simp only [Bool.false_eq_true, if_false, List.set_cons_zero]
        rw [Fl.add_add, show (f0.add (c * f0.qt)).qt = f0.qt from rfl, Int.add_mul, Int.one_mul]
      · simp only [Fl.sz]; rw [Int.add_mul, Int.one_mul]; omega
      · rcases hc with hc | hc
        · exact .inl hc
        · exact .inr hc.2
    · simp only [List.cons.injEq] at hr
      obtain ⟨rfl, rfl⟩ := hr
      simp only [List.getElem?_cons_succ, List.getElem?_cons_zero, Option.some.injEq] at hf
      subst hf
      simp only [Fl.add, Fl.sz, Bool.false_eq_true, if_false] at hl
      refine ⟨rfl, c + 1, .inl ⟨rfl, ?_, .inr ⟨?_, ?_⟩⟩⟩
      · simp only [Bool.false_eq_true, if_false, List.set_cons_succ, List.set_cons_zero]
        rw [Fl.add_add, show (f1.add (c * f1.qt)).qt = f1.qt from rfl, Int.natCast_add, Int.natCast_one, Int.add_mul (c : Int) 1 f1.qt, Int.one_mul]
      · rw [Int.natCast_add, Int.natCast_one]; exact h0
      · simp only [Fl.sz]; rw [Int.natCast_add, Int.natCast_one, Int.add_mul, Int.one_mul]; omega
theorem Turns.stop {fl : List Fl} {i : Nat} {rest : List Nat} {t : Bool} {f : Fl} (hf : fl[i]? = some f) (hs : f.sz ≤ f.df + (if t then 0 else f.qt)) {fl' : List Fl} {ri' : List Nat} {t' : Bool} (h : Turns fl (i :: rest) t fl' ri' t') : fl' = fl ∧ ri' = i :: rest ∧ t' = t := by
  cases h with
  | refl => exact ⟨rfl, rfl, rfl⟩
  | step hf' hl _ => rw [hf] at hf'; cases hf'; omega
/-- two flows that wait with a packet each, nothing granted yet -/
structure Two (d : Dr) (f0 f1 : Fl) (p0 p1 : P6) : Prop where
  fl : d.fl = [f0, f1]
  ring : d.ring = [f0.b, f1.b]
  turn : d.turn = false
  n : d.n = 2
  a0 : f0.slot = 0 ∧ f0.gen = 1
  a1 : f1.slot = 1 ∧ f1.gen = 1
  q0 : f0.q = [p0]
  q1 : f1.q = [p1]
  t0 : 1 ≤ f0.qt ∧ f0.qt ≤ 1073741824
  t1 : 1 ≤ f1.qt ∧ f1.qt ≤ 1073741824
  d0 : f0.df = 0
  d1 : f1.df = 0
  b0 : f0.by_ = p0.f3
  b1 : f1.by_ = p1.f3
  z0 : 1 ≤ p0.f3 ∧ p0.f3 ≤ 65536
  z1 : 1 ≤ p1.f3 ∧ p1.f3 ≤ 65536
/-- one of them has sent -/
structure One (d : Dr) (g0 g1 : Fl) : Prop where
  fl : d.fl = [g0, g1]
  turn : d.turn = false
  n : d.n = 1
  a0 : g0.slot = 0 ∧ g0.gen = 1
  a1 : g1.slot = 1 ∧ g1.gen = 1
theorem two_next {w : World} {d : Dr} {f0 f1 : Fl} {p0 p1 : P6} (h : Holds w d.chunks) (T : Two d f0 f1 p0 p1) (t : Int) :
    Calls Try.prog 14 #[.pointer (some ⟨d.b, 0, none⟩), .int .i64 t] w fun e w' => ∃ d' g0 g1 p, ∃ c : Nat, e = .returned (.tuple #[aggp6 p, .bool true]) ∧ Sep w (Chunks.bs d.chunks) w' d'.chunks ∧ d'.b = d.b ∧ One d' g0 g1 ∧
      ((p = p0 ∧ g0.df = 0 ∧ g1.df = c * f1.qt ∧ p0.f3 ≤ (c + 1) * f0.qt ∧ (c = 0 ∨ (c * f0.qt < p0.f3 ∧ c * f1.qt < p1.f3))) ∨
       (p = p1 ∧ g0 = f0.add ((c + 1) * f0.qt) ∧ g1.df = 0 ∧ p1.f3 ≤ (c + 1) * f1.qt ∧ (c + 1) * f0.qt < p0.f3 ∧ (c = 0 ∨ c * f1.qt < p1.f3) ∧ d'.ring = [f0.b] ∧ g1.q = [] ∧ g1.by_ = 0)) := by
  have F0 : Fine f0 := ⟨by simp [T.q0], T.t0.1, T.t0.2, by rw [T.d0]; omega, by rw [T.d0]; omega, by have := T.z0; simp [Fl.sz, T.q0]; omega⟩
  have F1 : Fine f1 := ⟨by simp [T.q1], T.t1.1, T.t1.2, by rw [T.d1]; omega, by rw [T.d1]; omega, by have := T.z1; simp [Fl.sz, T.q1]; omega⟩
  have hri : d.ring = blocksOf d.fl [0, 1] := by rw [T.ring, T.fl]; rfl
  have hz0 : f0.sz = p0.f3 := by simp [Fl.sz, T.q0]
  have hz1 : f1.sz = p1.f3 := by simp [Fl.sz, T.q1]
  refine (dnext h hri (by rw [T.fl]; intro i hi; simp at hi; rcases hi with rfl | rfl; (· exact ⟨f0, rfl, F0⟩); exact ⟨f1, rfl, F1⟩) (by simp) (by simp) (by simp) t (by rw [T.n]; omega) (by rw [T.n]; omega)
    (by
      rw [T.fl]
      intro f hf
      simp at hf
      have := T.z0; have := T.z1
      rcases hf with rfl | rfl
      · refine ⟨by rw [T.b0]; omega, fun p qs hq => ?_⟩
        rw [T.q0] at hq; cases hq
        rw [T.b0]; omega
      · refine ⟨by rw [T.b1]; omega, fun p qs hq => ?_⟩
        rw [T.q1] at hq; cases hq
        rw [T.b1]; omega)).mono ?_
  rintro e w' ⟨fl, tt, i, rest, f, g, p, qs, rds, rds2, htr, hnd, hfine, hfi, hg, hq, hsz, rfl, k⟩
  rw [T.fl, T.turn] at htr
  obtain ⟨rfl, c, ⟨hr, rfl, hc⟩ | ⟨hr, rfl, h0, hc⟩⟩ := two_turns htr
  · simp only [List.cons.injEq] at hr
    obtain ⟨rfl, rfl⟩ := hr
    simp only [List.getElem?_cons_zero, Option.some.injEq] at hfi
    subst hfi
    simp only [Bool.false_eq_true, if_false] at hg
    have hgq : g = f0.qt := hg
    subst hgq
    rw [show (f0.add (c * f0.qt)).q = [p0] from T.q0] at hq
    cases hq
    rw [if_pos rfl] at k
    refine ⟨_, _, _, p0, c, rfl, k, rfl, ⟨rfl, rfl, ?_, T.a0, T.a1⟩, .inl ⟨rfl, rfl, ?_, ?_, ?_⟩⟩
    · show d.n - 1 = 1
      rw [T.n]; rfl
    · show f1.df + c * f1.qt = c * f1.qt
      rw [T.d1]; omega
    · have : p0.f3 ≤ f0.df + c * f0.qt + f0.qt := hsz
      rw [T.d0] at this; rw [Int.add_mul, Int.one_mul]; omega
    · rw [T.d0, T.d1, hz0, hz1] at hc
      rcases hc with hc | hc
      · exact .inl hc
      · exact .inr ⟨by omega, by omega⟩
  · simp only [List.cons.injEq] at hr
    obtain ⟨rfl, rfl⟩ := hr
    simp only [List.getElem?_cons_succ, List.getElem?_cons_zero, Option.some.injEq] at hfi
    subst hfi
    simp only [Bool.false_eq_true, if_false] at hg
    have hgq : g = f1.qt := hg
    subst hgq
    rw [show (f1.add (c * f1.qt)).q = [p1] from T.q1] at hq
    cases hq
    rw [if_pos rfl] at k
    refine ⟨_, _, _, p1, c, rfl, k, rfl, ⟨rfl, rfl, ?_, T.a0, T.a1⟩, .inr ⟨rfl, rfl, rfl, ?_, ?_, ?_, rfl, rfl, ?_⟩⟩
    · show d.n - 1 = 1
      rw [T.n]; rfl
    · have : p1.f3 ≤ f1.df + c * f1.qt + f1.qt := hsz
      rw [T.d1] at this; rw [Int.add_mul, Int.one_mul]; omega
    · rw [T.d0, hz0] at h0; omega
    · rw [T.d1, hz1] at hc
      rcases hc with hc | hc
      · exact .inl hc
      · exact .inr (by omega)
    · show f1.by_ - p1.f3 = 0
      rw [T.b1]; omega
end Go.Proofs.Yteojodcdehkejaa
/- A discipline by turns: Join. -/
namespace Go.Proofs.Yteojodcdehkejaa
open Go Go.RowKit
attribute [local go_sem] calmQ_normal wide_fn wide_depth Oper.semAt_some run_store_func

theorem oper_append_S {P : Program} (w : World) {o : Oper} {a : Act} {K : Act → World → Prop} {Q : Exit → Act → World → Prop} (s x : Operand) (t : TypeId)
    (ho : o.op = .call { callee := .builtin .append, args := #[s, x], argTypes := #[t, t] })
    (e : TypeId) (i : TypeInfo) (z : Value) (size bytes : Nat) (ht : P.underlying t = some (.slice e)) (hi : P.info? e = some i) (hz : i.zero = some z)
    (hsize : i.size = size) (hby : i.bytes = bytes) (hzs : z.cells.size = size)
    (v : Value) (n : Nat) (xs : List Value) (S : List Nat) (hs : a.eval s = v) (hown : OwnS w e size v n xs S)
    (ad : Addr) (m c : Nat) (news : List Value) (hx : a.eval x = .slice (some ad) m c) (hl : news.length = m * size) (hnews : ∀ j u, news[j]? = some u → w.cell? (ad.add j) = some u) (h1 : ∀ u ∈ news, u.oneCell' = true)
    (h63 : n + m ≤ maxLen) (hbytes : (n + m) * bytes ≤ 140737488355328)
    (h : ∀ v' w' S', OwnS w' e size v' (n + m) (xs ++ news) S' → Gr w S S' → Fr S w w' → K (a.put o.dst v') w') : o.wp P a w K Q := by
  obtain ⟨v', w', S', hr, h2, h3, h4⟩ := run_append_S (P := P) w t o.type e i z size bytes ht hi hz hsize hby hzs v n xs S hown ad m c news hl hnews h1 h63 hbytes
  unfold Oper.wp execOp
  simp only [ho, resolve, invoke, builtin, Sem.run_bind, Sem.run_pure, Result.andThen_ok, List.map_toArray, List.map_cons, List.map_nil, hs, hx, hr]
  exact h v' w' S' h2 h3 h4
theorem perm_join {α : Type} (P A S Q : List α) (cq cs nb : α) : (P ++ (A ++ (S ++ Q)) ++ [cq, cs, nb]).Perm ((A ++ ((S ++ [cs]) ++ (Q ++ [cq]))) ++ (P ++ [nb])) := by
  classical
  rw [List.perm_iff_count]
  intro a
  simp only [List.count_append, List.count_cons, List.count_nil]
  omega
theorem infoPf : (Try.prog.info? 89).map (fun i => (i.zero, i.size, i.bytes)) = some (some (.pointer none), 1, 8) := by kernel_rfl
/-- a quantum within its bounds -/
def clampQ (x : Int) : Int := if x < 1 then 1 else if 1073741824 < x then 1073741824 else x
def Fl.new (b r : Nat) (s g wt qu : Int) : Fl := { b := b, slot := s, gen := g, wt := wt, qt := clampQ qu, df := 0, r := r, ds := [], q := [], by_ := 0 }
theorem joined_chunks {d : Dr} {fv : Value} {fS : List Nat} {b r : Nat} {s g wt qu qv : Int} (h : clampQ qu = qv) : ({ d with fv := fv, fS := fS, fl := d.fl ++ [Fl.new b r s g wt qu] } : Dr).chunks =
    [Chunk.blk d.b 92 (d.head.set 0 fv), Chunk.own 89 1 fv (d.fl.length + 1) ((d.fl.map fun f => ptrV (some f.b)) ++ [Value.pointer (some ⟨b, 0, none⟩)]) fS, CRingq d.rb d.rds d.ring] ++
      ((d.fl.map CStr ++ [Chunk.blk b 95 [.int .i64 s, .int .i64 g, .int .i64 wt, .int .i64 qv, .int .i64 0, .pointer (some ⟨r, 0, none⟩), .int .i64 0]]) ++ (d.fl.map CQ ++ [CRingp6 r [] []])) := by
  simp only [Dr.chunks, CHd, CFs, Dr.head, List.map_append, List.map_cons, List.map_nil, List.length_append, List.length_singleton, Fl.new, CStr, CQ, Fl.cells, h]
  rfl
set_option maxRecDepth 100000 in
set_option maxHeartbeats 4000000 in
theorem djoin {w : World} {d : Dr} (h : Holds w d.chunks) (s g wt qu : Int) (a2 a3 a4 a5 a6 a7 : Value) (t : Int) (hno : ∀ (j : Nat) (f : Fl), d.fl[j]? = some f → f.slot ≠ s) (hlen : d.fl.length ≤ 1048576) :
    Calls Try.prog 12 #[.pointer (some ⟨d.b, 0, none⟩), .agg #[.int .i64 s, .int .i64 g], .agg #[.int .i64 wt, .int .i64 qu, a2, a3, a4, a5, a6, a7], .int .i64 t] w fun e w' => e = .returned (.int .i64 0) ∧
      ∃ fv fS b r, Sep w (Chunks.bs d.chunks) w' (({ d with fv := fv, fS := fS, fl := d.fl ++ [Fl.new b r s g wt qu] } : Dr).chunks) := by
  have hO : OwnS w 89 1 d.fv d.fl.length (d.fl.map fun f => ptrV (some f.b)) d.fS := h.get (i := 1) rfl
  obtain ⟨va, vc, hv⟩ := hO.val
  obtain ⟨i0, hi, hz0, hz1, hz2⟩ := info_parts infoPf
  have K0 := Lib.hid (Dr.inbox2 (Dr.inbox (Sep.start h) 26 [.int .i64 s, .int .i64 g]) 31 [.int .i64 wt, .int .i64 qu, a2, a3, a4, a5, a6, a7])
  rw [World.size_alloc] at K0
  have h0 : w.cell? ⟨d.b, 0, none⟩ = some (.slice va d.fl.length vc) := by
    rw [← hv]; exact (show Blk w d.b 92 d.head from h.get (i := 0) rfl).cell 0
  have hl := (show Blk w d.b 92 d.head from h.get (i := 0) rfl).lt
  have hl1 : d.b < w.heap.size + 1 := by omega
  have HNO := Lib.hid hno
  clear h hO hno
  go_enter Try.func12, Try.ntmps12
  go_wp2
  obtain ⟨W, hW⟩ : ∃ W, (w.alloc (.cells #[.int .i64 s, .int .i64 g] 26)).alloc (.cells #[.int .i64 wt, .int .i64 qu, a2, a3, a4, a5, a6, a7] 31) = W := ⟨_, rfl⟩
  have KW : Hid (Sep w (Chunks.bs d.chunks) W ([Chunk.blk (w.heap.size + 1) 31 [.int .i64 wt, .int .i64 qu, a2, a3, a4, a5, a6, a7], Chunk.blk w.heap.size 26 [.int .i64 s, .int .i64 g]] ++ d.chunks)) := by
    rw [← hW]; exact K0.out
  rw [hW]
  have x0 : W.cell? ⟨w.heap.size, 0, none⟩ = some (.int .i64 s) := (KW.out.blk 1 rfl).cell 0
  have p1 : W.cell? ⟨w.heap.size + 1, 1, none⟩ = some (.int .i64 qu) := (KW.out.blk 0 rfl).cell 1
  have hOW : OwnS W 89 1 (.slice va d.fl.length vc) d.fl.length (d.fl.map fun f => ptrV (some f.b)) d.fS := by
    rw [← hv]; exact KW.out.hs.right.get (i := 1) rfl
  have HOW := Lib.hid hOW
  clear hW hOW K0 h0 hl hl1
  go_loopg [17] (d.fl.length + 1) (fun k i wr => ∃ j : Nat, k + j = d.fl.length + 1 ∧ j ≤ d.fl.length ∧ i = .int .i64 j ∧ ∃ q, wr = W.drewN q)
  case atStart => exact ⟨0, by omega, by omega, rfl, 0, rfl⟩
  case round =>
    obtain ⟨j, hk, hj, rfl, q, rfl⟩ := hrel
    by_cases hjn : j < d.fl.length
    · obtain ⟨f, hf⟩ : ∃ f, d.fl[j]? = some f := ⟨d.fl[j], by simp [hjn]⟩
      obtain ⟨gb, gc, hgv, _⟩ := HOW.out.head (by omega)
      cases hgv
      have c0 : W.cell? ⟨gb, j, none⟩ = some (.pointer (some ⟨f.b, 0, none⟩)) := by
        rw [HOW.out.cellAt j (by omega), List.getElem?_map, hf]; rfl
      have hS : Blk W f.b 95 f.cells := KW.out.hs.right.get (Dr.str_at hf)
      have s0 : W.cell? ⟨f.b, 0, none⟩ = some (.int .i64 f.slot) := hS.cell 0
      have hb1 : (f.slot == s) = false := by rw [beq_eq_false_iff_ne]; exact HNO.out j f hf
      clear hS hf
      go_wp2
      go_quiet (fail)
      go_wp2
      go_roundg (gk - 1)
      case measure => omega
      case rel => exact ⟨j + 1, by omega, by omega, by go_num, _, rfl⟩
    · obtain rfl : j = d.fl.length := by omega
      by_cases hq1 : qu < 1
      · have e1 : max qu 1 = 1 := by omega
        go_wp2_with fail
        have hM : Hid (∀ X, Holds X ([Chunk.blk (w.heap.size + 1) 31 [.int .i64 wt, .int .i64 qu, a2, a3, a4, a5, a6, a7], Chunk.blk w.heap.size 26 [.int .i64 s, .int .i64 g]] ++ d.chunks) →
            X.cell? ⟨d.b, 0, none⟩ = some (.slice va d.fl.length vc) ∧ X.cell? ⟨w.heap.size, 0, none⟩ = some (.int .i64 s) ∧ X.cell? ⟨w.heap.size, 1, none⟩ = some (.int .i64 g) ∧ X.cell? ⟨w.heap.size + 1, 0, none⟩ = some (.int .i64 wt)) := fun X hX => by
          have h0 : X.cell? ⟨d.b, 0, none⟩ = some d.fv := (show Blk X d.b 92 d.head from hX.right.get (i := 0) rfl).cell 0
          rw [hv] at h0
          exact ⟨h0, (show Blk X w.heap.size 26 [.int .i64 s, .int .i64 g] from hX.get (i := 1) rfl).cell 0, (show Blk X w.heap.size 26 [.int .i64 s, .int .i64 g] from hX.get (i := 1) rfl).cell 1, (show Blk X (w.heap.size + 1) 31 [.int .i64 wt, .int .i64 qu, a2, a3, a4, a5, a6, a7] from hX.get (i := 0) rfl).cell 0⟩
        have KD := Lib.hid (KW.out.drewN q)
        obtain ⟨WD, hWD⟩ : ∃ WD, W.drewN q = WD := ⟨_, rfl⟩
        rw [hWD] at KD ⊢
        obtain ⟨hb, hhb⟩ : ∃ hb, w.heap.size = hb := ⟨_, rfl⟩
        rw [hhb] at KD hM ⊢
        refine wp_T [16] (fun X => X.cell? ⟨d.b, 0, none⟩ = some (.slice va d.fl.length vc) ∧ X.cell? ⟨hb, 0, none⟩ = some (.int .i64 s) ∧ X.cell? ⟨hb, 1, none⟩ = some (.int .i64 g) ∧ X.cell? ⟨hb + 1, 0, none⟩ = some (.int .i64 wt)) (by kernel_rfl) (fun hC => ?_) (hM.out _ KD.out.drew.hs)
        refine wpAnyT_takeC' 0 (by kernel_rfl) (fun _ _ _ h => h) (by assumption) (by rfl) (fun w hSw => by simp only [List.getD_cons_zero]; (try dsimp only at hSw); go_simp; try with_reducible rfl) ?_
        try simp only [List.getD_cons_zero, Act.put, List.setIfInBounds_toArray, List.set_cons_zero, List.set_cons_succ]
        refine wpAnyT_takeC' 1 (by kernel_rfl) (fun _ _ _ h => h) (by assumption) (by rfl) (fun w hSw => by simp only [List.getD_cons_succ, List.getD_cons_zero]; (try dsimp only at hSw); go_simp; try with_reducible rfl) ?_
        try simp only [List.getD_cons_succ, List.getD_cons_zero, Act.put, List.setIfInBounds_toArray, List.set_cons_zero, List.set_cons_succ]
        refine wpAnyT_takeC' 2 (by kernel_rfl) (fun _ _ _ h => h) (by assumption) (by rfl) (fun w hSw => by simp only [List.getD_cons_succ, List.getD_cons_zero]; (try dsimp only at hSw); go_simp; try with_reducible rfl) ?_
        try simp only [List.getD_cons_succ, List.getD_cons_zero, Act.put, List.setIfInBounds_toArray, List.set_cons_zero, List.set_cons_succ]
        refine wpAnyT_takeC' 3 (by kernel_rfl) (fun _ _ _ h => h) (by assumption) (by rfl) (fun w hSw => by simp only [List.getD_cons_succ, List.getD_cons_zero]; (try dsimp only at hSw); go_simp; try with_reducible rfl) ?_
        try simp only [List.getD_cons_succ, List.getD_cons_zero, Act.put, List.setIfInBounds_toArray, List.set_cons_zero, List.set_cons_succ]
        refine wpAnyT_takeC' 4 (by kernel_rfl) (fun _ _ _ h => h) (by assumption) (by rfl) (fun w hSw => by simp only [List.getD_cons_succ, List.getD_cons_zero]; (try dsimp only at hSw); go_simp; try with_reducible rfl) ?_
        try simp only [List.getD_cons_succ, List.getD_cons_zero, Act.put, List.setIfInBounds_toArray, List.set_cons_zero, List.set_cons_succ]
        refine wpAnyT_takeC' 5 (by kernel_rfl) (fun _ _ _ h => h) (by assumption) (by rfl) (fun w hSw => by simp only [List.getD_cons_succ, List.getD_cons_zero]; (try dsimp only at hSw); go_simp; try with_reducible rfl) ?_
        try simp only [List.getD_cons_succ, List.getD_cons_zero, Act.put, List.setIfInBounds_toArray, List.set_cons_zero, List.set_cons_succ]
        refine wpAnyT_takeC' 6 (by kernel_rfl) (fun _ _ _ h => h) (by assumption) (by rfl) (fun w hSw => by simp only [List.getD_cons_succ, List.getD_cons_zero]; (try dsimp only at hSw); go_simp; try with_reducible rfl) ?_
        try simp only [List.getD_cons_succ, List.getD_cons_zero, Act.put, List.setIfInBounds_toArray, List.set_cons_zero, List.set_cons_succ]
        refine wpAnyT_takeC' 7 (by kernel_rfl) (fun _ _ _ h => h) (by assumption) (by rfl) (fun w hSw => by simp only [List.getD_cons_succ, List.getD_cons_zero]; (try dsimp only at hSw); go_simp; try with_reducible rfl) ?_
        try simp only [List.getD_cons_succ, List.getD_cons_zero, Act.put, List.setIfInBounds_toArray, List.set_cons_zero, List.set_cons_succ]
        refine wpAnyT_takeC' 8 (by kernel_rfl) (fun _ _ _ h => h) (by assumption) (by rfl) (fun w hSw => by simp only [List.getD_cons_succ, List.getD_cons_zero]; (try dsimp only at hSw); go_simp; try with_reducible rfl) ?_
        try simp only [List.getD_cons_succ, List.getD_cons_zero, Act.put, List.setIfInBounds_toArray, List.set_cons_zero, List.set_cons_succ]
        refine wpAnyT_one' 9 (by kernel_rfl) (by rfl) (fun K hK => ?_)
        simp only [List.getD_cons_succ, List.getD_cons_zero]
        go_simp
        refine (new_p6 _).mono ?_
        rintro er Z1 ⟨rfl, hr, f1, z1⟩
        have K1 := Lib.hid (KD.out.drew.call0 (news := [CRingp6 WD.drew.heap.size [] []]) (Sep.of_one0 f1 hr (fun b hm => .inr (Nat.le_of_eq (List.mem_singleton.1 hm).symm))))
        obtain ⟨rb, hrb⟩ : ∃ rb, WD.drew.heap.size = rb := ⟨_, rfl⟩
        have hrb2 : WD.heap.size = rb := hrb
        rw [hrb] at K1
        clear hr f1 z1 hC
        go_wp2_with fail
        try (first | rw [hrb] | rw [hrb2])
        have hC := hM.out _ K1.out.hs.left
        refine hK.out _ _ hC ?_
        clear hK
        try simp only [Act.put, List.setIfInBounds_toArray, List.set_cons_zero, List.set_cons_succ]
        refine wpAnyT_takeC' 10 (by kernel_rfl) (fun _ _ _ h => h) (by assumption) (by rfl) (fun w hSw => by simp only [List.getD_cons_succ, List.getD_cons_zero]; (try dsimp only at hSw); go_simp; try with_reducible rfl) ?_
        try simp only [List.getD_cons_succ, List.getD_cons_zero, Act.put, List.setIfInBounds_toArray, List.set_cons_zero, List.set_cons_succ]
        refine wpAnyT_one' 11 (by kernel_rfl) (by rfl) (fun K hK => ?_)
        simp only [List.getD_cons_succ, List.getD_cons_zero]
        go_simp
        have K2 := Lib.hid (K1.out.alloc 95 [.int .i64 s, .int .i64 g, .int .i64 wt, .int .i64 (1), .int .i64 0, .pointer (some ⟨rb, 0, none⟩), .int .i64 0])
        have hC2 := hM.out _ K2.out.hs.left.left
        refine hK.out _ _ hC2 ?_
        clear hK hC
        have hC := hC2
        clear hC2
        try simp only [Act.put, List.setIfInBounds_toArray, List.set_cons_zero, List.set_cons_succ]
        obtain ⟨fb, hfb⟩ : ∃ fb, Z1.heap.size = fb := ⟨_, rfl⟩
        obtain ⟨Z2, hZ2⟩ : ∃ Z2, Z1.alloc (.cells #[.int .i64 s, .int .i64 g, .int .i64 wt, .int .i64 (1), .int .i64 0, .pointer (some ⟨rb, 0, none⟩), .int .i64 0] 95) = Z2 := ⟨_, rfl⟩
        have K2' : Hid (Sep w (Chunks.bs d.chunks) Z2 ([Chunk.blk (hb + 1) 31 [.int .i64 wt, .int .i64 qu, a2, a3, a4, a5, a6, a7], Chunk.blk hb 26 [.int .i64 s, .int .i64 g]] ++ d.chunks ++ [CRingp6 rb [] []] ++ [Chunk.blk fb 95 [.int .i64 s, .int .i64 g, .int .i64 wt, .int .i64 (1), .int .i64 0, .pointer (some ⟨rb, 0, none⟩), .int .i64 0]])) := by
          rw [← hZ2, ← hfb]; exact K2.out
        rw [hfb, hZ2]
        rw [hZ2] at hC
        clear hZ2 hfb K2 K1
        refine wpAnyT_one' 12 (by kernel_rfl) (by rfl) (fun K hK => ?_)
        simp only [List.getD_cons_succ, List.getD_cons_zero]
        go_simp
        have K3 := Lib.hid (K2'.out.alloc 89 [.pointer (some ⟨fb, 0, none⟩)])
        have hC2 := hM.out _ K3.out.hs.left.left.left
        refine hK.out _ _ hC2 ?_
        clear hK hC
        have hC := hC2
        clear hC2
        try simp only [Act.put, List.setIfInBounds_toArray, List.set_cons_zero, List.set_cons_succ]
        obtain ⟨nb, hnb⟩ : ∃ nb, Z2.heap.size = nb := ⟨_, rfl⟩
        obtain ⟨Z3, hZ3⟩ : ∃ Z3, Z2.alloc (.cells #[.pointer (some ⟨fb, 0, none⟩)] 89) = Z3 := ⟨_, rfl⟩
        have K3s : Sep w (Chunks.bs d.chunks) Z3 ([Chunk.blk (hb + 1) 31 [.int .i64 wt, .int .i64 qu, a2, a3, a4, a5, a6, a7], Chunk.blk hb 26 [.int .i64 s, .int .i64 g]] ++ d.chunks ++ [CRingp6 rb [] [], Chunk.blk fb 95 [.int .i64 s, .int .i64 g, .int .i64 wt, .int .i64 (1), .int .i64 0, .pointer (some ⟨rb, 0, none⟩), .int .i64 0], Chunk.blk nb 89 [.pointer (some ⟨fb, 0, none⟩)]]) := by
          rw [← hZ3, ← hnb]
          have := K3.out
          simpa only [List.append_assoc, List.cons_append, List.nil_append] using this
        have K3' := Lib.hid K3s
        clear K3s
        rw [hnb, hZ3]
        rw [hZ3] at hC
        have hnew : Blk Z3 nb 89 [.pointer (some ⟨fb, 0, none⟩)] := by
          rw [← hZ3, ← hnb]; exact Blk.new Z2 _ [_]
        clear hZ3 hnb K3 K2'
        have hown : OwnS Z3 89 1 (.slice va d.fl.length vc) d.fl.length (d.fl.map fun f => ptrV (some f.b)) d.fS := by
          rw [← hv]; exact K3'.out.hs.left.right.get (i := 1) rfl
        refine wpAnyT_one' 13 (by kernel_rfl) (by rfl) (fun K hK => ?_)
        simp only [List.getD_cons_succ, List.getD_cons_zero]
        refine oper_append_S _ (.tmp 38) (.tmp 46) 90 rfl 89 i0 (.pointer none) 1 8 Try.underlying90 hi hz0 hz1 hz2 rfl _ _ _ _ rfl hown ⟨nb, 0, none⟩ 1 1 [.pointer (some ⟨fb, 0, none⟩)] rfl rfl hnew.news (fun u hu => by simp at hu; subst hu; rfl) (by unfold maxLen; omega) (by omega) ?_
        intro v8 Z4 S8 o8 g8 f8
        obtain ⟨va8, vc8, rfl⟩ := o8.val
        have K4 := Lib.hid (K3'.out.call1' 3 rfl (Sep.of_one (c := Chunk.own 89 1 (.slice va8 (d.fl.length + 1) vc8) (d.fl.length + 1) ((d.fl.map fun f => ptrV (some f.b)) ++ [Value.pointer (some ⟨fb, 0, none⟩)]) S8) f8 o8 g8))
        have hd4 : Blk Z4 d.b 92 d.head := K4.out.get (i := 2) rfl
        have hC2 : Z4.cell? ⟨d.b, 0, none⟩ = some (.slice va d.fl.length vc) ∧ Z4.cell? ⟨hb, 0, none⟩ = some (.int .i64 s) ∧ Z4.cell? ⟨hb, 1, none⟩ = some (.int .i64 g) ∧ Z4.cell? ⟨hb + 1, 0, none⟩ = some (.int .i64 wt) := by
          have h0 : Z4.cell? ⟨d.b, 0, none⟩ = some d.fv := hd4.cell 0
          rw [hv] at h0
          exact ⟨h0, (show Blk Z4 hb 26 [.int .i64 s, .int .i64 g] from K4.out.get (i := 1) rfl).cell 0, (show Blk Z4 hb 26 [.int .i64 s, .int .i64 g] from K4.out.get (i := 1) rfl).cell 1, (show Blk Z4 (hb + 1) 31 [.int .i64 wt, .int .i64 qu, a2, a3, a4, a5, a6, a7] from K4.out.get (i := 0) rfl).cell 0⟩
        refine hK.out _ _ hC2 ?_
        have q0 := hd4.frz 0
        have h40 := hC2.1
        clear hK hC
        have hC := hC2
        clear hC2
        try simp only [Act.put, List.setIfInBounds_toArray, List.set_cons_zero, List.set_cons_succ]
        refine wpAnyT_takeP' 14 (by kernel_rfl) (fun _ _ _ h => h) (by assumption) (by rfl) (fun w => by simp only [List.getD_cons_succ, List.getD_cons_zero]; go_simp; try with_reducible rfl) ?_
        try simp only [List.getD_cons_succ, List.getD_cons_zero, Act.put, List.setIfInBounds_toArray, List.set_cons_zero, List.set_cons_succ]
        refine wpAnyT_takeP' 15 (by kernel_rfl) (fun _ _ _ h => h) (by assumption) (by rfl) (fun w => by simp only [List.getD_cons_succ, List.getD_cons_zero]; go_simp; try with_reducible rfl) ?_
        try simp only [List.getD_cons_succ, List.getD_cons_zero, Act.put, List.setIfInBounds_toArray, List.set_cons_zero, List.set_cons_succ]
        refine wpAnyT_last 16 rfl (by kernel_rfl) ?_
        simp only [List.drop_succ_cons, List.drop_zero]
        have K5 := Lib.hid (K4.out.set 2 rfl 0 (.slice va8 (d.fl.length + 1) vc8))
        clear K4 K3' o8 g8 f8 hd4 hown hnew
        go_wp2
        rw [onlyN_normal]
        go_wp2
        go_ret
        refine ⟨rfl, .slice va8 (d.fl.length + 1) vc8, S8, fb, rb, ?_⟩
        have K5s : Sep w (Chunks.bs d.chunks) (Z4.setCell ⟨d.b, 0, none⟩ (.slice va8 (d.fl.length + 1) vc8)) ([Chunk.blk (hb + 1) 31 [.int .i64 wt, .int .i64 qu, a2, a3, a4, a5, a6, a7], Chunk.blk hb 26 [.int .i64 s, .int .i64 g]] ++
          ([Chunk.blk d.b 92 (d.head.set 0 (.slice va8 (d.fl.length + 1) vc8)), Chunk.own 89 1 (.slice va8 (d.fl.length + 1) vc8) (d.fl.length + 1) ((d.fl.map fun f => ptrV (some f.b)) ++ [Value.pointer (some ⟨fb, 0, none⟩)]) S8, CRingq d.rb d.rds d.ring] ++ (d.fl.map CStr ++ d.fl.map CQ)) ++
          [CRingp6 rb [] [], Chunk.blk fb 95 [.int .i64 s, .int .i64 g, .int .i64 wt, .int .i64 (1), .int .i64 0, .pointer (some ⟨rb, 0, none⟩), .int .i64 0], Chunk.blk nb 89 [.pointer (some ⟨fb, 0, none⟩)]]) := K5.out
        have hfin := (K5s.perm (cs' := (([Chunk.blk d.b 92 (d.head.set 0 (.slice va8 (d.fl.length + 1) vc8)), Chunk.own 89 1 (.slice va8 (d.fl.length + 1) vc8) (d.fl.length + 1) ((d.fl.map fun f => ptrV (some f.b)) ++ [Value.pointer (some ⟨fb, 0, none⟩)]) S8, CRingq d.rb d.rds d.ring] ++
          ((d.fl.map CStr ++ [Chunk.blk fb 95 [.int .i64 s, .int .i64 g, .int .i64 wt, .int .i64 (1), .int .i64 0, .pointer (some ⟨rb, 0, none⟩), .int .i64 0]]) ++ (d.fl.map CQ ++ [CRingp6 rb [] []]))) ++
          ([Chunk.blk (hb + 1) 31 [.int .i64 wt, .int .i64 qu, a2, a3, a4, a5, a6, a7], Chunk.blk hb 26 [.int .i64 s, .int .i64 g]] ++ [Chunk.blk nb 89 [.pointer (some ⟨fb, 0, none⟩)]]))) (perm_join _ _ _ _ _ _ _)).sub (List.sublist_append_left _ _)
        have hcl : clampQ qu = (1) := by unfold clampQ; rw [if_pos (by omega)]
        rw [joined_chunks hcl]
        exact hfin
      · by_cases hq2 : 1073741824 < qu
        · have e1 : max qu 1 = qu := by omega
          have e2 : min qu 1073741824 = 1073741824 := by omega
          go_wp2_with fail
          have hM : Hid (∀ X, Holds X ([Chunk.blk (w.heap.size + 1) 31 [.int .i64 wt, .int .i64 qu, a2, a3, a4, a5, a6, a7], Chunk.blk w.heap.size 26 [.int .i64 s, .int .i64 g]] ++ d.chunks) →
              X.cell? ⟨d.b, 0, none⟩ = some (.slice va d.fl.length vc) ∧ X.cell? ⟨w.heap.size, 0, none⟩ = some (.int .i64 s) ∧ X.cell? ⟨w.heap.size, 1, none⟩ = some (.int .i64 g) ∧ X.cell? ⟨w.heap.size + 1, 0, none⟩ = some (.int .i64 wt)) := fun X hX => by
            have h0 : X.cell? ⟨d.b, 0, none⟩ = some d.fv := (show Blk X d.b 92 d.head from hX.right.get (i := 0) rfl).cell 0
            rw [hv] at h0
            exact ⟨h0, (show Blk X w.heap.size 26 [.int .i64 s, .int .i64 g] from hX.get (i := 1) rfl).cell 0, (show Blk X w.heap.size 26 [.int .i64 s, .int .i64 g] from hX.get (i := 1) rfl).cell 1, (show Blk X (w.heap.size + 1) 31 [.int .i64 wt, .int .i64 qu, a2, a3, a4, a5, a6, a7] from hX.get (i := 0) rfl).cell 0⟩
          have KD := Lib.hid (KW.out.drewN q)
          obtain ⟨WD, hWD⟩ : ∃ WD, W.drewN q = WD := ⟨_, rfl⟩
          rw [hWD] at KD ⊢
          obtain ⟨hb, hhb⟩ : ∃ hb, w.heap.size = hb := ⟨_, rfl⟩
          rw [hhb] at KD hM ⊢
          refine wp_T [16] (fun X => X.cell? ⟨d.b, 0, none⟩ = some (.slice va d.fl.length vc) ∧ X.cell? ⟨hb, 0, none⟩ = some (.int .i64 s) ∧ X.cell? ⟨hb, 1, none⟩ = some (.int .i64 g) ∧ X.cell? ⟨hb + 1, 0, none⟩ = some (.int .i64 wt)) (by kernel_rfl) (fun hC => ?_) (hM.out _ KD.out.drew.hs)
          refine wpAnyT_takeC' 0 (by kernel_rfl) (fun _ _ _ h => h) (by assumption) (by rfl) (fun w hSw => by simp only [List.getD_cons_zero]; (try dsimp only at hSw); go_simp; try with_reducible rfl) ?_
          try simp only [List.getD_cons_zero, Act.put, List.setIfInBounds_toArray, List.set_cons_zero, List.set_cons_succ]
          refine wpAnyT_takeC' 1 (by kernel_rfl) (fun _ _ _ h => h) (by assumption) (by rfl) (fun w hSw => by simp only [List.getD_cons_succ, List.getD_cons_zero]; (try dsimp only at hSw); go_simp; try with_reducible rfl) ?_
          try simp only [List.getD_cons_succ, List.getD_cons_zero, Act.put, List.setIfInBounds_toArray, List.set_cons_zero, List.set_cons_succ]
          refine wpAnyT_takeC' 2 (by kernel_rfl) (fun _ _ _ h => h) (by assumption) (by rfl) (fun w hSw => by simp only [List.getD_cons_succ, List.getD_cons_zero]; (try dsimp only at hSw); go_simp; try with_reducible rfl) ?_
          try simp only [List.getD_cons_succ, List.getD_cons_zero, Act.put, List.setIfInBounds_toArray, List.set_cons_zero, List.set_cons_succ]
          refine wpAnyT_takeC' 3 (by kernel_rfl) (fun _ _ _ h => h) (by assumption) (by rfl) (fun w hSw => by simp only [List.getD_cons_succ, List.getD_cons_zero]; (try dsimp only at hSw); go_simp; try with_reducible rfl) ?_
          try simp only [List.getD_cons_succ, List.getD_cons_zero, Act.put, List.setIfInBounds_toArray, List.set_cons_zero, List.set_cons_succ]
          refine wpAnyT_takeC' 4 (by kernel_rfl) (fun _ _ _ h => h) (by assumption) (by rfl) (fun w hSw => by simp only [List.getD_cons_succ, List.getD_cons_zero]; (try dsimp only at hSw); go_simp; try with_reducible rfl) ?_
          try simp only [List.getD_cons_succ, List.getD_cons_zero, Act.put, List.setIfInBounds_toArray, List.set_cons_zero, List.set_cons_succ]
          refine wpAnyT_takeC' 5 (by kernel_rfl) (fun _ _ _ h => h) (by assumption) (by rfl) (fun w hSw => by simp only [List.getD_cons_succ, List.getD_cons_zero]; (try dsimp only at hSw); go_simp; try with_reducible rfl) ?_
          try simp only [List.getD_cons_succ, List.getD_cons_zero, Act.put, List.setIfInBounds_toArray, List.set_cons_zero, List.set_cons_succ]
          refine wpAnyT_takeC' 6 (by kernel_rfl) (fun _ _ _ h => h) (by assumption) (by rfl) (fun w hSw => by simp only [List.getD_cons_succ, List.getD_cons_zero]; (try dsimp only at hSw); go_simp; try with_reducible rfl) ?_
          try simp only [List.getD_cons_succ, List.getD_cons_zero, Act.put, List.setIfInBounds_toArray, List.set_cons_zero, List.set_cons_succ]
          refine wpAnyT_takeC' 7 (by kernel_rfl) (fun _ _ _ h => h) (by assumption) (by rfl) (fun w hSw => by simp only [List.getD_cons_succ, List.getD_cons_zero]; (try dsimp only at hSw); go_simp; try with_reducible rfl) ?_
          try simp only [List.getD_cons_succ, List.getD_cons_zero, Act.put, List.setIfInBounds_toArray, List.set_cons_zero, List.set_cons_succ]
          refine wpAnyT_takeC' 8 (by kernel_rfl) (fun _ _ _ h => h) (by assumption) (by rfl) (fun w hSw => by simp only [List.getD_cons_succ, List.getD_cons_zero]; (try dsimp only at hSw); go_simp; try with_reducible rfl) ?_
          try simp only [List.getD_cons_succ, List.getD_cons_zero, Act.put, List.setIfInBounds_toArray, List.set_cons_zero, List.set_cons_succ]
          refine wpAnyT_one' 9 (by kernel_rfl) (by rfl) (fun K hK => ?_)
          simp only [List.getD_cons_succ, List.getD_cons_zero]
          go_simp
          refine (new_p6 _).mono ?_
          rintro er Z1 ⟨rfl, hr, f1, z1⟩
          have K1 := Lib.hid (KD.out.drew.call0 (news := [CRingp6 WD.drew.heap.size [] []]) (Sep.of_one0 f1 hr (fun b hm => .inr (Nat.le_of_eq (List.mem_singleton.1 hm).symm))))
          obtain ⟨rb, hrb⟩ : ∃ rb, WD.drew.heap.size = rb := ⟨_, rfl⟩
          have hrb2 : WD.heap.size = rb := hrb
          rw [hrb] at K1
          clear hr f1 z1 hC
          go_wp2_with fail
          try (first | rw [hrb] | rw [hrb2])
          have hC := hM.out _ K1.out.hs.left
          refine hK.out _ _ hC ?_
          clear hK
          try simp only [Act.put, List.setIfInBounds_toArray, List.set_cons_zero, List.set_cons_succ]
          refine wpAnyT_takeC' 10 (by kernel_rfl) (fun _ _ _ h => h) (by assumption) (by rfl) (fun w hSw => by simp only [List.getD_cons_succ, List.getD_cons_zero]; (try dsimp only at hSw); go_simp; try with_reducible rfl) ?_
          try simp only [List.getD_cons_succ, List.getD_cons_zero, Act.put, List.setIfInBounds_toArray, List.set_cons_zero, List.set_cons_succ]
          refine wpAnyT_one' 11 (by kernel_rfl) (by rfl) (fun K hK => ?_)
          simp only [List.getD_cons_succ, List.getD_cons_zero]
          go_simp
          have K2 := Lib.hid (K1.out.alloc 95 [.int .i64 s, .int .i64 g, .int .i64 wt, .int .i64 (1073741824), .int .i64 0, .pointer (some ⟨rb, 0, none⟩), .int .i64 0])
          have hC2 := hM.out _ K2.out.hs.left.left
          refine hK.out _ _ hC2 ?_
          clear hK hC
          have hC := hC2
          clear hC2
          try simp only [Act.put, List.setIfInBounds_toArray, List.set_cons_zero, List.set_cons_succ]
          obtain ⟨fb, hfb⟩ : ∃ fb, Z1.heap.size = fb := ⟨_, rfl⟩
          obtain ⟨Z2, hZ2⟩ : ∃ Z2, Z1.alloc (.cells #[.int .i64 s, .int .i64 g, .int .i64 wt, .int .i64 (1073741824), .int .i64 0, .pointer (some ⟨rb, 0, none⟩), .int .i64 0] 95) = Z2 := ⟨_, rfl⟩
          have K2' : Hid (Sep w (Chunks.bs d.chunks) Z2 ([Chunk.blk (hb + 1) 31 [.int .i64 wt, .int .i64 qu, a2, a3, a4, a5, a6, a7], Chunk.blk hb 26 [.int .i64 s, .int .i64 g]] ++ d.chunks ++ [CRingp6 rb [] []] ++ [Chunk.blk fb 95 [.int .i64 s, .int .i64 g, .int .i64 wt, .int .i64 (1073741824), .int .i64 0, .pointer (some ⟨rb, 0, none⟩), .int .i64 0]])) := by
            rw [← hZ2, ← hfb]; exact K2.out
          rw [hfb, hZ2]
          rw [hZ2] at hC
          clear hZ2 hfb K2 K1
          refine wpAnyT_one' 12 (by kernel_rfl) (by rfl) (fun K hK => ?_)
          simp only [List.getD_cons_succ, List.getD_cons_zero]
          go_simp
          have K3 := Lib.hid (K2'.out.alloc 89 [.pointer (some ⟨fb, 0, none⟩)])
          have hC2 := hM.out _ K3.out.hs.left.left.left
          refine hK.out _ _ hC2 ?_
          clear hK hC
          have hC := hC2
          clear hC2
          try simp only [Act.put, List.setIfInBounds_toArray, List.set_cons_zero, List.set_cons_succ]
          obtain ⟨nb, hnb⟩ : ∃ nb, Z2.heap.size = nb := ⟨_, rfl⟩
          obtain ⟨Z3, hZ3⟩ : ∃ Z3, Z2.alloc (.cells #[.pointer (some ⟨fb, 0, none⟩)] 89) = Z3 := ⟨_, rfl⟩
          have K3s : Sep w (Chunks.bs d.chunks) Z3 ([Chunk.blk (hb + 1) 31 [.int .i64 wt, .int .i64 qu, a2, a3, a4, a5, a6, a7], Chunk.blk hb 26 [.int .i64 s, .int .i64 g]] ++ d.chunks ++ [CRingp6 rb [] [], Chunk.blk fb 95 [.int .i64 s, .int .i64 g, .int .i64 wt, .int .i64 (1073741824), .int .i64 0, .pointer (some ⟨rb, 0, none⟩), .int .i64 0], Chunk.blk nb 89 [.pointer (some ⟨fb, 0, none⟩)]]) := by
            rw [← hZ3, ← hnb]
            have := K3.out
            simpa only [List.append_assoc, List.cons_append, List.nil_append] using this
          have K3' := Lib.hid K3s
          clear K3s
          rw [hnb, hZ3]
          rw [hZ3] at hC
          have hnew : Blk Z3 nb 89 [.pointer (some ⟨fb, 0, none⟩)] := by
            rw [← hZ3, ← hnb]; exact Blk.new Z2 _ [_]
          clear hZ3 hnb K3 K2'
          have hown : OwnS Z3 89 1 (.slice va d.fl.length vc) d.fl.length (d.fl.map fun f => ptrV (some f.b)) d.fS := by
            rw [← hv]; exact K3'.out.hs.left.right.get (i := 1) rfl
          refine wpAnyT_one' 13 (by kernel_rfl) (by rfl) (fun K hK => ?_)
          simp only [List.getD_cons_succ, List.getD_cons_zero]
          refine oper_append_S _ (.tmp 38) (.tmp 46) 90 rfl 89 i0 (.pointer none) 1 8 Try.underlying90 hi hz0 hz1 hz2 rfl _ _ _ _ rfl hown ⟨nb, 0, none⟩ 1 1 [.pointer (some ⟨fb, 0, none⟩)] rfl rfl hnew.news (fun u hu => by simp at hu; subst hu; rfl) (by unfold maxLen; omega) (by omega) ?_
          intro v8 Z4 S8 o8 g8 f8
          obtain ⟨va8, vc8, rfl⟩ := o8.val
          have K4 := Lib.hid (K3'.out.call1' 3 rfl (Sep.of_one (c := Chunk.own 89 1 (.slice va8 (d.fl.length + 1) vc8) (d.fl.length + 1) ((d.fl.map fun f => ptrV (some f.b)) ++ [Value.pointer (some ⟨fb, 0, none⟩)]) S8) f8 o8 g8))
          have hd4 : Blk Z4 d.b 92 d.head := K4.out.get (i := 2) rfl
          have hC2 : Z4.cell? ⟨d.b, 0, none⟩ = some (.slice va d.fl.length vc) ∧ Z4.cell? ⟨hb, 0, none⟩ = some (.int .i64 s) ∧ Z4.cell? ⟨hb, 1, none⟩ = some (.int .i64 g) ∧ Z4.cell? ⟨hb + 1, 0, none⟩ = some (.int .i64 wt) := by
            have h0 : Z4.cell? ⟨d.b, 0, none⟩ = some d.fv := hd4.cell 0
            rw [hv] at h0
            exact ⟨h0, (show Blk Z4 hb 26 [.int .i64 s, .int .i64 g] from K4.out.get (i := 1) rfl).cell 0, (show Blk Z4 hb 26 [.int .i64 s, .int .i64 g] from K4.out.get (i := 1) rfl).cell 1, (show Blk Z4 (hb + 1) 31 [.int .i64 wt, .int .i64 qu, a2, a3, a4, a5, a6, a7] from K4.out.get (i := 0) rfl).cell 0⟩
          refine hK.out _ _ hC2 ?_
          have q0 := hd4.frz 0
          have h40 := hC2.1
          clear hK hC
          have hC := hC2
          clear hC2
          try simp only [Act.put, List.setIfInBounds_toArray, List.set_cons_zero, List.set_cons_succ]
          refine wpAnyT_takeP' 14 (by kernel_rfl) (fun _ _ _ h => h) (by assumption) (by rfl) (fun w => by simp only [List.getD_cons_succ, List.getD_cons_zero]; go_simp; try with_reducible rfl) ?_
          try simp only [List.getD_cons_succ, List.getD_cons_zero, Act.put, List.setIfInBounds_toArray, List.set_cons_zero, List.set_cons_succ]
          refine wpAnyT_takeP' 15 (by kernel_rfl) (fun _ _ _ h => h) (by assumption) (by rfl) (fun w => by simp only [List.getD_cons_succ, List.getD_cons_zero]; go_simp; try with_reducible rfl) ?_
          try simp only [List.getD_cons_succ, List.getD_cons_zero, Act.put, List.setIfInBounds_toArray, List.set_cons_zero, List.set_cons_succ]
          refine wpAnyT_last 16 rfl (by kernel_rfl) ?_
          simp only [List.drop_succ_cons, List.drop_zero]
          have K5 := Lib.hid (K4.out.set 2 rfl 0 (.slice va8 (d.fl.length + 1) vc8))
          clear K4 K3' o8 g8 f8 hd4 hown hnew
          go_wp2
          rw [onlyN_normal]
          go_wp2
          go_ret
          refine ⟨rfl, .slice va8 (d.fl.length + 1) vc8, S8, fb, rb, ?_⟩
          have K5s : Sep w (Chunks.bs d.chunks) (Z4.setCell ⟨d.b, 0, none⟩ (.slice va8 (d.fl.length + 1) vc8)) ([Chunk.blk (hb + 1) 31 [.int .i64 wt, .int .i64 qu, a2, a3, a4, a5, a6, a7], Chunk.blk hb 26 [.int .i64 s, .int .i64 g]] ++
            ([Chunk.blk d.b 92 (d.head.set 0 (.slice va8 (d.fl.length + 1) vc8)), Chunk.own 89 1 (.slice va8 (d.fl.length + 1) vc8) (d.fl.length + 1) ((d.fl.map fun f => ptrV (some f.b)) ++ [Value.pointer (some ⟨fb, 0, none⟩)]) S8, CRingq d.rb d.rds d.ring] ++ (d.fl.map CStr ++ d.fl.map CQ)) ++
            [CRingp6 rb [] [], Chunk.blk fb 95 [.int .i64 s, .int .i64 g, .int .i64 wt, .int .i64 (1073741824), .int .i64 0, .pointer (some ⟨rb, 0, none⟩), .int .i64 0], Chunk.blk nb 89 [.pointer (some ⟨fb, 0, none⟩)]]) := K5.out
          have hfin := (K5s.perm (cs' := (([Chunk.blk d.b 92 (d.head.set 0 (.slice va8 (d.fl.length + 1) vc8)), Chunk.own 89 1 (.slice va8 (d.fl.length + 1) vc8) (d.fl.length + 1) ((d.fl.map fun f => ptrV (some f.b)) ++ [Value.pointer (some ⟨fb, 0, none⟩)]) S8, CRingq d.rb d.rds d.ring] ++
            ((d.fl.map CStr ++ [Chunk.blk fb 95 [.int .i64 s, .int .i64 g, .int .i64 wt, .int .i64 (1073741824), .int .i64 0, .pointer (some ⟨rb, 0, none⟩), .int .i64 0]]) ++ (d.fl.map CQ ++ [CRingp6 rb [] []]))) ++
            ([Chunk.blk (hb + 1) 31 [.int .i64 wt, .int .i64 qu, a2, a3, a4, a5, a6, a7], Chunk.blk hb 26 [.int .i64 s, .int .i64 g]] ++ [Chunk.blk nb 89 [.pointer (some ⟨fb, 0, none⟩)]]))) (perm_join _ _ _ _ _ _ _)).sub (List.sublist_append_left _ _)
          have hcl : clampQ qu = (1073741824) := by unfold clampQ; rw [if_neg (by omega), if_pos (by omega)]
          rw [joined_chunks hcl]
          exact hfin
        · have e1 : max qu 1 = qu := by omega
          have e2 : min qu 1073741824 = qu := by omega
          go_wp2_with fail
          have hM : Hid (∀ X, Holds X ([Chunk.blk (w.heap.size + 1) 31 [.int .i64 wt, .int .i64 qu, a2, a3, a4, a5, a6, a7], Chunk.blk w.heap.size 26 [.int .i64 s, .int .i64 g]] ++ d.chunks) →
              X.cell? ⟨d.b, 0, none⟩ = some (.slice va d.fl.length vc) ∧ X.cell? ⟨w.heap.size, 0, none⟩ = some (.int .i64 s) ∧ X.cell? ⟨w.heap.size, 1, none⟩ = some (.int .i64 g) ∧ X.cell? ⟨w.heap.size + 1, 0, none⟩ = some (.int .i64 wt)) := fun X hX => by
            have h0 : X.cell? ⟨d.b, 0, none⟩ = some d.fv := (show Blk X d.b 92 d.head from hX.right.get (i := 0) rfl).cell 0
            rw [hv] at h0
            exact ⟨h0, (show Blk X w.heap.size 26 [.int .i64 s, .int .i64 g] from hX.get (i := 1) rfl).cell 0, (show Blk X w.heap.size 26 [.int .i64 s, .int .i64 g] from hX.get (i := 1) rfl).cell 1, (show Blk X (w.heap.size + 1) 31 [.int .i64 wt, .int .i64 qu, a2, a3, a4, a5, a6, a7] from hX.get (i := 0) rfl).cell 0⟩
          have KD := Lib.hid (KW.out.drewN q)
          obtain ⟨WD, hWD⟩ : ∃ WD, W.drewN q = WD := ⟨_, rfl⟩
          rw [hWD] at KD ⊢
          obtain ⟨hb, hhb⟩ : ∃ hb, w.heap.size = hb := ⟨_, rfl⟩
          rw [hhb] at KD hM ⊢
          refine wp_T [16] (fun X => X.cell? ⟨d.b, 0, none⟩ = some (.slice va d.fl.length vc) ∧ X.cell? ⟨hb, 0, none⟩ = some (.int .i64 s) ∧ X.cell? ⟨hb, 1, none⟩ = some (.int .i64 g) ∧ X.cell? ⟨hb + 1, 0, none⟩ = some (.int .i64 wt)) (by kernel_rfl) (fun hC => ?_) (hM.out _ KD.out.drew.hs)
          refine wpAnyT_takeC' 0 (by kernel_rfl) (fun _ _ _ h => h) (by assumption) (by rfl) (fun w hSw => by simp only [List.getD_cons_zero]; (try dsimp only at hSw); go_simp; try with_reducible rfl) ?_
          try simp only [List.getD_cons_zero, Act.put, List.setIfInBounds_toArray, List.set_cons_zero, List.set_cons_succ]
          refine wpAnyT_takeC' 1 (by kernel_rfl) (fun _ _ _ h => h) (by assumption) (by rfl) (fun w hSw => by simp only [List.getD_cons_succ, List.getD_cons_zero]; (try dsimp only at hSw); go_simp; try with_reducible rfl) ?_
          try simp only [List.getD_cons_succ, List.getD_cons_zero, Act.put, List.setIfInBounds_toArray, List.set_cons_zero, List.set_cons_succ]
          refine wpAnyT_takeC' 2 (by kernel_rfl) (fun _ _ _ h => h) (by assumption) (by rfl) (fun w hSw => by simp only [List.getD_cons_succ, List.getD_cons_zero]; (try dsimp only at hSw); go_simp; try with_reducible rfl) ?_
          try simp only [List.getD_cons_succ, List.getD_cons_zero, Act.put, List.setIfInBounds_toArray, List.set_cons_zero, List.set_cons_succ]
          refine wpAnyT_takeC' 3 (by kernel_rfl) (fun _ _ _ h => h) (by assumption) (by rfl) (fun w hSw => by simp only [List.getD_cons_succ, List.getD_cons_zero]; (try dsimp only at hSw); go_simp; try with_reducible rfl) ?_
          try simp only [List.getD_cons_succ, List.getD_cons_zero, Act.put, List.setIfInBounds_toArray, List.set_cons_zero, List.set_cons_succ]
          refine wpAnyT_takeC' 4 (by kernel_rfl) (fun _ _ _ h => h) (by assumption) (by rfl) (fun w hSw => by simp only [List.getD_cons_succ, List.getD_cons_zero]; (try dsimp only at hSw); go_simp; try with_reducible rfl) ?_
          try simp only [List.getD_cons_succ, List.getD_cons_zero, Act.put, List.setIfInBounds_toArray, List.set_cons_zero, List.set_cons_succ]
          refine wpAnyT_takeC' 5 (by kernel_rfl) (fun _ _ _ h => h) (by assumption) (by rfl) (fun w hSw => by simp only [List.getD_cons_succ, List.getD_cons_zero]; (try dsimp only at hSw); go_simp; try with_reducible rfl) ?_
          try simp only [List.getD_cons_succ, List.getD_cons_zero, Act.put, List.setIfInBounds_toArray, List.set_cons_zero, List.set_cons_succ]
          refine wpAnyT_takeC' 6 (by kernel_rfl) (fun _ _ _ h => h) (by assumption) (by rfl) (fun w hSw => by simp only [List.getD_cons_succ, List.getD_cons_zero]; (try dsimp only at hSw); go_simp; try with_reducible rfl) ?_
          try simp only [List.getD_cons_succ, List.getD_cons_zero, Act.put, List.setIfInBounds_toArray, List.set_cons_zero, List.set_cons_succ]
          refine wpAnyT_takeC' 7 (by kernel_rfl) (fun _ _ _ h => h) (by assumption) (by rfl) (fun w hSw => by simp only [List.getD_cons_succ, List.getD_cons_zero]; (try dsimp only at hSw); go_simp; try with_reducible rfl) ?_
          try simp only [List.getD_cons_succ, List.getD_cons_zero, Act.put, List.setIfInBounds_toArray, List.set_cons_zero, List.set_cons_succ]
          refine wpAnyT_takeC' 8 (by kernel_rfl) (fun _ _ _ h => h) (by assumption) (by rfl) (fun w hSw => by simp only [List.getD_cons_succ, List.getD_cons_zero]; (try dsimp only at hSw); go_simp; try with_reducible rfl) ?_
          try simp only [List.getD_cons_succ, List.getD_cons_zero, Act.put, List.setIfInBounds_toArray, List.set_cons_zero, List.set_cons_succ]
          refine wpAnyT_one' 9 (by kernel_rfl) (by rfl) (fun K hK => ?_)
          simp only [List.getD_cons_succ, List.getD_cons_zero]
          go_simp
          refine (new_p6 _).mono ?_
          rintro er Z1 ⟨rfl, hr, f1, z1⟩
          have K1 := Lib.hid (KD.out.drew.call0 (news := [CRingp6 WD.drew.heap.size [] []]) (Sep.of_one0 f1 hr (fun b hm => .inr (Nat.le_of_eq (List.mem_singleton.1 hm).symm))))
          obtain ⟨rb, hrb⟩ : ∃ rb, WD.drew.heap.size = rb := ⟨_, rfl⟩
          have hrb2 : WD.heap.size = rb := hrb
          rw [hrb] at K1
          clear hr f1 z1 hC
          go_wp2_with fail
          try (first | rw [hrb] | rw [hrb2])
          have hC := hM.out _ K1.out.hs.left
          refine hK.out _ _ hC ?_
          clear hK
          try simp only [Act.put, List.setIfInBounds_toArray, List.set_cons_zero, List.set_cons_succ]
          refine wpAnyT_takeC' 10 (by kernel_rfl) (fun _ _ _ h => h) (by assumption) (by rfl) (fun w hSw => by simp only [List.getD_cons_succ, List.getD_cons_zero]; (try dsimp only at hSw); go_simp; try with_reducible rfl) ?_
          try simp only [List.getD_cons_succ, List.getD_cons_zero, Act.put, List.setIfInBounds_toArray, List.set_cons_zero, List.set_cons_succ]
          refine wpAnyT_one' 11 (by kernel_rfl) (by rfl) (fun K hK => ?_)
          simp only [List.getD_cons_succ, List.getD_cons_zero]
          go_simp
          have K2 := Lib.hid (K1.out.alloc 95 [.int .i64 s, .int .i64 g, .int .i64 wt, .int .i64 (qu), .int .i64 0, .pointer (some ⟨rb, 0, none⟩), .int .i64 0])
          have hC2 := hM.out _ K2.out.hs.left.left
          refine hK.out _ _ hC2 ?_
          clear hK hC
          have hC := hC2
          clear hC2
          try simp only [Act.put, List.setIfInBounds_toArray, List.set_cons_zero, List.set_cons_succ]
          obtain ⟨fb, hfb⟩ : ∃ fb, Z1.heap.size = fb := ⟨_, rfl⟩
          obtain ⟨Z2, hZ2⟩ : ∃ Z2, Z1.alloc (.cells #[.int .i64 s, .int .i64 g, .int .i64 wt, .int .i64 (qu), .int .i64 0, .pointer (some ⟨rb, 0, none⟩), .int .i64 0] 95) = Z2 := ⟨_, rfl⟩
          have K2' : Hid (Sep w (Chunks.bs d.chunks) Z2 ([Chunk.blk (hb + 1) 31 [.int .i64 wt, .int .i64 qu, a2, a3, a4, a5, a6, a7], Chunk.blk hb 26 [.int .i64 s, .int .i64 g]] ++ d.chunks ++ [CRingp6 rb [] []] ++ [Chunk.blk fb 95 [.int .i64 s, .int .i64 g, .int .i64 wt, .int .i64 (qu), .int .i64 0, .pointer (some ⟨rb, 0, none⟩), .int .i64 0]])) := by
            rw [← hZ2, ← hfb]; exact K2.out
          rw [hfb, hZ2]
          rw [hZ2] at hC
          clear hZ2 hfb K2 K1
          refine wpAnyT_one' 12 (by kernel_rfl) (by rfl) (fun K hK => ?_)
          simp only [List.getD_cons_succ, List.getD_cons_zero]
          go_simp
          have K3 := Lib.hid (K2'.out.alloc 89 [.pointer (some ⟨fb, 0, none⟩)])
          have hC2 := hM.out _ K3.out.hs.left.left.left
          refine hK.out _ _ hC2 ?_
          clear hK hC
          have hC := hC2
          clear hC2
          try simp only [Act.put, List.setIfInBounds_toArray, List.set_cons_zero, List.set_cons_succ]
          obtain ⟨nb, hnb⟩ : ∃ nb, Z2.heap.size = nb := ⟨_, rfl⟩
          obtain ⟨Z3, hZ3⟩ : ∃ Z3, Z2.alloc (.cells #[.pointer (some ⟨fb, 0, none⟩)] 89) = Z3 := ⟨_, rfl⟩
          have K3s : Sep w (Chunks.bs d.chunks) Z3 ([Chunk.blk (hb + 1) 31 [.int .i64 wt, .int .i64 qu, a2, a3, a4, a5, a6, a7], Chunk.blk hb 26 [.int .i64 s, .int .i64 g]] ++ d.chunks ++ [CRingp6 rb [] [], Chunk.blk fb 95 [.int .i64 s, .int .i64 g, .int .i64 wt, .int .i64 (qu), .int .i64 0, .pointer (some ⟨rb, 0, none⟩), .int .i64 0], Chunk.blk nb 89 [.pointer (some ⟨fb, 0, none⟩)]]) := by
            rw [← hZ3, ← hnb]
            have := K3.out
            simpa only [List.append_assoc, List.cons_append, List.nil_append] using this
          have K3' := Lib.hid K3s
          clear K3s
          rw [hnb, hZ3]
          rw [hZ3] at hC
          have hnew : Blk Z3 nb 89 [.pointer (some ⟨fb, 0, none⟩)] := by
            rw [← hZ3, ← hnb]; exact Blk.new Z2 _ [_]
          clear hZ3 hnb K3 K2'
          have hown : OwnS Z3 89 1 (.slice va d.fl.length vc) d.fl.length (d.fl.map fun f => ptrV (some f.b)) d.fS := by
            rw [← hv]; exact K3'.out.hs.left.right.get (i := 1) rfl
          refine wpAnyT_one' 13 (by kernel_rfl) (by rfl) (fun K hK => ?_)
          simp only [List.getD_cons_succ, List.getD_cons_zero]
          refine oper_append_S _ (.tmp 38) (.tmp 46) 90 rfl 89 i0 (.pointer none) 1 8 Try.underlying90 hi hz0 hz1 hz2 rfl _ _ _ _ rfl hown ⟨nb, 0, none⟩ 1 1 [.pointer (some ⟨fb, 0, none⟩)] rfl rfl hnew.news (fun u hu => by simp at hu; subst hu; rfl) (by unfold maxLen; omega) (by omega) ?_
          intro v8 Z4 S8 o8 g8 f8
          obtain ⟨va8, vc8, rfl⟩ := o8.val
          have K4 := Lib.hid (K3'.out.call1' 3 rfl (Sep.of_one (c := Chunk.own 89 1 (.slice va8 (d.fl.length + 1) vc8) (d.fl.length + 1) ((d.fl.map fun f => ptrV (some f.b)) ++ [Value.pointer (some ⟨fb, 0, none⟩)]) S8) f8 o8 g8))
          have hd4 : Blk Z4 d.b 92 d.head := K4.out.get (i := 2) rfl
          have hC2 : Z4.cell? ⟨d.b, 0, none⟩ = some (.slice va d.fl.length vc) ∧ Z4.cell? ⟨hb, 0, none⟩ = some (.int .i64 s) ∧ Z4.cell? ⟨hb, 1, none⟩ = some (.int .i64 g) ∧ Z4.cell? ⟨hb + 1, 0, none⟩ = some (.int .i64 wt) := by
            have h0 : Z4.cell? ⟨d.b, 0, none⟩ = some d.fv := hd4.cell 0
            rw [hv] at h0
            exact ⟨h0, (show Blk Z4 hb 26 [.int .i64 s, .int .i64 g] from K4.out.get (i := 1) rfl).cell 0, (show Blk Z4 hb 26 [.int .i64 s, .int .i64 g] from K4.out.get (i := 1) rfl).cell 1, (show Blk Z4 (hb + 1) 31 [.int .i64 wt, .int .i64 qu, a2, a3, a4, a5, a6, a7] from K4.out.get (i := 0) rfl).cell 0⟩
          refine hK.out _ _ hC2 ?_
          have q0 := hd4.frz 0
          have h40 := hC2.1
          clear hK hC
          have hC := hC2
          clear hC2
          try simp only [Act.put, List.setIfInBounds_toArray, List.set_cons_zero, List.set_cons_succ]
          refine wpAnyT_takeP' 14 (by kernel_rfl) (fun _ _ _ h => h) (by assumption) (by rfl) (fun w => by simp only [List.getD_cons_succ, List.getD_cons_zero]; go_simp; try with_reducible rfl) ?_
          try simp only [List.getD_cons_succ, List.getD_cons_zero, Act.put, List.setIfInBounds_toArray, List.set_cons_zero, List.set_cons_succ]
          refine wpAnyT_takeP' 15 (by kernel_rfl) (fun _ _ _ h => h) (by assumption) (by rfl) (fun w => by simp only [List.getD_cons_succ, List.getD_cons_zero]; go_simp; try with_reducible rfl) ?_
          try simp only [List.getD_cons_succ, List.getD_cons_zero, Act.put, List.setIfInBounds_toArray, List.set_cons_zero, List.set_cons_succ]
          refine wpAnyT_last 16 rfl (by kernel_rfl) ?_
          simp only [List.drop_succ_cons, List.drop_zero]
          have K5 := Lib.hid (K4.out.set 2 rfl 0 (.slice va8 (d.fl.length + 1) vc8))
          clear K4 K3' o8 g8 f8 hd4 hown hnew
          go_wp2
          rw [onlyN_normal]
          go_wp2
          go_ret
          refine ⟨rfl, .slice va8 (d.fl.length + 1) vc8, S8, fb, rb, ?_⟩
          have K5s : Sep w (Chunks.bs d.chunks) (Z4.setCell ⟨d.b, 0, none⟩ (.slice va8 (d.fl.length + 1) vc8)) ([Chunk.blk (hb + 1) 31 [.int .i64 wt, .int .i64 qu, a2, a3, a4, a5, a6, a7], Chunk.blk hb 26 [.int .i64 s, .int .i64 g]] ++
            ([Chunk.blk d.b 92 (d.head.set 0 (.slice va8 (d.fl.length + 1) vc8)), Chunk.own 89 1 (.slice va8 (d.fl.length + 1) vc8) (d.fl.length + 1) ((d.fl.map fun f => ptrV (some f.b)) ++ [Value.pointer (some ⟨fb, 0, none⟩)]) S8, CRingq d.rb d.rds d.ring] ++ (d.fl.map CStr ++ d.fl.map CQ)) ++
            [CRingp6 rb [] [], Chunk.blk fb 95 [.int .i64 s, .int .i64 g, .int .i64 wt, .int .i64 (qu), .int .i64 0, .pointer (some ⟨rb, 0, none⟩), .int .i64 0], Chunk.blk nb 89 [.pointer (some ⟨fb, 0, none⟩)]]) := K5.out
          have hfin := (K5s.perm (cs' := (([Chunk.blk d.b 92 (d.head.set 0 (.slice va8 (d.fl.length + 1) vc8)), Chunk.own 89 1 (.slice va8 (d.fl.length + 1) vc8) (d.fl.length + 1) ((d.fl.map fun f => ptrV (some f.b)) ++ [Value.pointer (some ⟨fb, 0, none⟩)]) S8, CRingq d.rb d.rds d.ring] ++
            ((d.fl.map CStr ++ [Chunk.blk fb 95 [.int .i64 s, .int .i64 g, .int .i64 wt, .int .i64 (qu), .int .i64 0, .pointer (some ⟨rb, 0, none⟩), .int .i64 0]]) ++ (d.fl.map CQ ++ [CRingp6 rb [] []]))) ++
            ([Chunk.blk (hb + 1) 31 [.int .i64 wt, .int .i64 qu, a2, a3, a4, a5, a6, a7], Chunk.blk hb 26 [.int .i64 s, .int .i64 g]] ++ [Chunk.blk nb 89 [.pointer (some ⟨fb, 0, none⟩)]]))) (perm_join _ _ _ _ _ _ _)).sub (List.sublist_append_left _ _)
          have hcl : clampQ qu = (qu) := by unfold clampQ; rw [if_neg (by omega), if_neg (by omega)]
          rw [joined_chunks hcl]
          exact hfin
end Go.Proofs.Yteojodcdehkejaa
/- The discipline's own examples: told. -/
namespace Go.Proofs.Yteojodcdehkejaa
open Go Go.RowKit
attribute [local go_sem] calmQ_normal wide_fn wide_depth Oper.semAt_some run_store_func

theorem Dr.call {w0 w w' : World} {S0 : List Nat} {pre : List Chunk} {d d' : Dr} (K : Sep w0 S0 w (pre ++ d.chunks)) (k : Sep w (Chunks.bs d.chunks) w' d'.chunks) : Sep w0 S0 w' (pre ++ d'.chunks) :=
  (Sep.frame (K.perm List.perm_append_comm) k).perm List.perm_append_comm
/-- nothing waits -/
structure Calm (d : Dr) : Prop where
  ring : d.ring = []
  turn : d.turn = false
  n : d.n = 0
  seq : d.seq = 0
  came : d.came = 0
structure Fresh (f : Fl) (s qq : Int) : Prop where
  slot : f.slot = s
  gen : f.gen = 1
  q : f.q = []
  qt : f.qt = clampQ qq
  df : f.df = 0
  by_ : f.by_ = 0
theorem clampQ_in (q : Int) : 1 ≤ clampQ q ∧ clampQ q ≤ 1073741824 := by unfold clampQ; split <;> (try split) <;> omega
theorem Fl.new_fresh (b r : Nat) (s wt q : Int) : Fresh (Fl.new b r s 1 wt q) s q := ⟨rfl, rfl, rfl, rfl, rfl, rfl⟩
theorem c_new (w : World) : Calls Try.prog 10 #[] w fun e w' => ∃ (d : Dr) (bb : Nat), e = .returned (.pointer (some ⟨bb, 0, none⟩)) ∧ d.b = bb ∧ Sep w [] w' d.chunks ∧ Calm d ∧ d.fl = [] :=
  (dnew w).mono fun e w' ⟨b, rb, he, k⟩ => ⟨Dr.new b rb, b, he, rfl, k, ⟨rfl, rfl, rfl, rfl, rfl⟩, rfl⟩
theorem c_join0 {w : World} {d : Dr} {bb : Nat} (hbb : d.b = bb) (h : Holds w d.chunks) (C : Calm d) (hf : d.fl = []) (q : Int) (wt : Int) (a2 a3 a4 a5 a6 a7 : Value) (t : Int) :
    Calls Try.prog 12 #[.pointer (some ⟨bb, 0, none⟩), .agg #[.int .i64 0, .int .i64 1], .agg #[.int .i64 wt, .int .i64 q, a2, a3, a4, a5, a6, a7], .int .i64 t] w fun e w' => e = .returned (.int .i64 0) ∧
      ∃ (d' : Dr) (f0 : Fl), Sep w (Chunks.bs d.chunks) w' d'.chunks ∧ d'.b = bb ∧ Calm d' ∧ d'.fl = [f0] ∧ Fresh f0 0 q := by
  subst hbb
  exact (djoin h 0 1 wt q a2 a3 a4 a5 a6 a7 t (fun j f hj => by rw [hf] at hj; simp at hj) (by rw [hf]; simp)).mono fun e w' ⟨he, fv, fS, b, r, k⟩ =>
    ⟨he, _, _, k, rfl, ⟨C.ring, C.turn, C.n, C.seq, C.came⟩, by rw [hf]; rfl, Fl.new_fresh b r 0 wt q⟩
theorem c_join1 {w : World} {d : Dr} {bb : Nat} (hbb : d.b = bb) (h : Holds w d.chunks) (C : Calm d) {f0 : Fl} {q0 : Int} (hf : d.fl = [f0]) (F : Fresh f0 0 q0) (q : Int) (wt : Int) (a2 a3 a4 a5 a6 a7 : Value) (t : Int) :
    Calls Try.prog 12 #[.pointer (some ⟨bb, 0, none⟩), .agg #[.int .i64 1, .int .i64 1], .agg #[.int .i64 wt, .int .i64 q, a2, a3, a4, a5, a6, a7], .int .i64 t] w fun e w' => e = .returned (.int .i64 0) ∧
      ∃ (d' : Dr) (f1 : Fl), Sep w (Chunks.bs d.chunks) w' d'.chunks ∧ d'.b = bb ∧ Calm d' ∧ d'.fl = [f0, f1] ∧ Fresh f1 1 q := by
  subst hbb
  exact (djoin h 1 1 wt q a2 a3 a4 a5 a6 a7 t (fun j f hj => by
      rw [hf] at hj
      cases j with
      | zero => simp at hj; subst hj; rw [F.slot]; omega
      | succ j => simp at hj) (by rw [hf]; simp)).mono fun e w' ⟨he, fv, fS, b, r, k⟩ =>
    ⟨he, _, _, k, rfl, ⟨C.ring, C.turn, C.n, C.seq, C.came⟩, by rw [hf]; rfl, Fl.new_fresh b r 1 wt q⟩
/-- the first packet waits -/
structure Half (d : Dr) (f0 f1 : Fl) (p0 : P6) (q0 q1 : Int) : Prop where
  fl : d.fl = [f0, f1]
  ring : d.ring = [f0.b]
  turn : d.turn = false
  n : d.n = 1
  seq : d.seq = 1
  came : d.came = 0
  a0 : f0.slot = 0 ∧ f0.gen = 1
  q : f0.q = [p0]
  qt : f0.qt = clampQ q0
  df : f0.df = 0
  by_ : f0.by_ = p0.f3
  f1 : Fresh f1 1 q1
theorem c_admit0 {w : World} {d : Dr} {bb : Nat} (hbb : d.b = bb) (h : Holds w d.chunks) (C : Calm d) {f0 f1 : Fl} {q0 q1 : Int} (hf : d.fl = [f0, f1]) (F0 : Fresh f0 0 q0) (F1 : Fresh f1 1 q1) (n : Int) (hn1 : 1 ≤ n) (hn2 : n ≤ 65536) :
    Calls Try.prog 13 #[.pointer (some ⟨bb, 0, none⟩), aggp6 ⟨0, 1, 0, n, 1, 0⟩] w fun e w' => e = .returned (.int .i64 0) ∧
      ∃ (d' : Dr) (f0' : Fl), Sep w (Chunks.bs d.chunks) w' d'.chunks ∧ d'.b = bb ∧ Half d' f0' f1 ⟨0, 1, 0, n, 1, 0⟩ q0 q1 := by
  subst hbb
  have h0 : d.fl[0]? = some f0 := by rw [hf]; rfl
  have ok : d.Ok ⟨0, 1, 0, n, 1, 0⟩ 0 := ⟨Dr.look_some h0 F0.slot F0.gen (fun j f' hj => absurd hj (by omega)), hn1, hn2, by rw [C.seq]; simp, by rw [C.came]; simp, by simp⟩
  refine (dadmit h ok h0 (by rw [F0.q]; simp) (by rw [C.ring]; simp) (by rw [F0.by_]; omega) (by rw [F0.by_]; omega) (by rw [C.n]; omega) (by rw [C.n]; omega)).mono ?_
  rintro e w' ⟨he, rds, ds, k⟩
  refine ⟨he, d.admitted 0 f0 ⟨0, 1, 0, n, 1, 0⟩ rds ds, f0.got ⟨0, 1, 0, n, 1, 0⟩ ds, k, rfl, ⟨?_, ?_, C.turn, ?_, rfl, rfl, ⟨F0.slot, F0.gen⟩, ?_, F0.qt, ?_, ?_, F1⟩⟩
  · show d.fl.set 0 _ = _
    rw [hf]; rfl
  · show (if f0.q = [] then d.ring ++ [f0.b] else d.ring) = _
    rw [if_pos F0.q, C.ring]; rfl
  · show d.n + 1 = 1
    rw [C.n]; rfl
  · show f0.q ++ [_] = _
    rw [F0.q]; rfl
  · show (if f0.q = [] then 0 else f0.df) = 0
    rw [if_pos F0.q]
  · show f0.by_ + n = n
    rw [F0.by_]; omega
theorem c_admit1 {w : World} {d : Dr} {bb : Nat} (hbb : d.b = bb) (h : Holds w d.chunks) {f0 f1 : Fl} {p0 : P6} {q0 q1 : Int} (H : Half d f0 f1 p0 q0 q1) (hz0 : 1 ≤ p0.f3 ∧ p0.f3 ≤ 65536) (n : Int) (hn1 : 1 ≤ n) (hn2 : n ≤ 65536) :
    Calls Try.prog 13 #[.pointer (some ⟨bb, 0, none⟩), aggp6 ⟨1, 1, 0, n, 2, 0⟩] w fun e w' => e = .returned (.int .i64 0) ∧
      ∃ (d' : Dr) (f1' : Fl), Sep w (Chunks.bs d.chunks) w' d'.chunks ∧ d'.b = bb ∧ Two d' f0 f1' p0 ⟨1, 1, 0, n, 2, 0⟩ ∧ f0.qt = clampQ q0 ∧ f1'.qt = clampQ q1 := by
  subst hbb
  have h1 : d.fl[1]? = some f1 := by rw [H.fl]; rfl
  have ok : d.Ok ⟨1, 1, 0, n, 2, 0⟩ 1 := ⟨Dr.look_some h1 H.f1.slot H.f1.gen (fun j f' hj hf' => by
      obtain rfl : j = 0 := by omega
      rw [H.fl] at hf'
      simp at hf'
      subst hf'
      intro hc
      have h2 : f0.slot = 1 := hc.1
      have := H.a0.1
      omega), hn1, hn2, by rw [H.seq]; simp, by rw [H.came]; simp, by simp⟩
  have q0i := clampQ_in q0
  have q1i := clampQ_in q1
  refine (dadmit h ok h1 (by rw [H.f1.q]; simp) (by rw [H.ring]; simp) (by rw [H.f1.by_]; omega) (by rw [H.f1.by_]; omega) (by rw [H.n]; omega) (by rw [H.n]; omega)).mono ?_
  rintro e w' ⟨he, rds, ds, k⟩
  refine ⟨he, d.admitted 1 f1 ⟨1, 1, 0, n, 2, 0⟩ rds ds, f1.got ⟨1, 1, 0, n, 2, 0⟩ ds, k, rfl, ⟨?_, ?_, H.turn, ?_, H.a0, ⟨H.f1.slot, H.f1.gen⟩, H.q, ?_, by rw [H.qt]; exact q0i, ?_, H.df, ?_, H.by_, ?_, hz0, ⟨hn1, hn2⟩⟩, H.qt, H.f1.qt⟩
  · show d.fl.set 1 _ = _
    rw [H.fl]; rfl
  · show (if f1.q = [] then d.ring ++ [f1.b] else d.ring) = _
    rw [if_pos H.f1.q, H.ring]; rfl
  · show d.n + 1 = 2
    rw [H.n]; rfl
  · show f1.q ++ [_] = _
    rw [H.f1.q]; rfl
  · show 1 ≤ f1.qt ∧ f1.qt ≤ 1073741824
    rw [H.f1.qt]; exact q1i
  · show (if f1.q = [] then 0 else f1.df) = 0
    rw [if_pos H.f1.q]
  · show f1.by_ + n = n
    rw [H.f1.by_]; omega

theorem c_len {w : World} {d : Dr} {bb : Nat} (hbb : d.b = bb) (h : Holds w d.chunks) : Calls Try.prog 27 #[.pointer (some ⟨bb, 0, none⟩)] w fun e w' => e = .returned (.int .i64 d.n) ∧ w' = w := by
  subst hbb; exact dlen h
theorem One.at0 {d : Dr} {g0 g1 : Fl} (H : One d g0 g1) : d.look 0 1 = some 0 ∧ d.fl[0]? = some g0 := by
  have h0 : d.fl[0]? = some g0 := by rw [H.fl]; rfl
  exact ⟨Dr.look_some h0 H.a0.1 H.a0.2 (fun j f' hj => absurd hj (by omega)), h0⟩
theorem One.at1 {d : Dr} {g0 g1 : Fl} (H : One d g0 g1) : d.look 1 1 = some 1 ∧ d.fl[1]? = some g1 := by
  have h1 : d.fl[1]? = some g1 := by rw [H.fl]; rfl
  refine ⟨Dr.look_some h1 H.a1.1 H.a1.2 (fun j f' hj hf' => ?_), h1⟩
  obtain rfl : j = 0 := by omega
  rw [H.fl] at hf'
  simp at hf'
  subst hf'
  intro hc
  have h2 : g0.slot = 1 := hc.1
  have := H.a0.1
  omega
theorem c_def0 {w : World} {d : Dr} {bb : Nat} (hbb : d.b = bb) (h : Holds w d.chunks) {g0 g1 : Fl} (H : One d g0 g1) :
    Calls Try.prog 15 #[.pointer (some ⟨bb, 0, none⟩), .agg #[.int .i64 0, .int .i64 1]] w fun e w' => e = .returned (.tuple #[.int .i64 g0.df, .int .i64 0]) ∧ Fr [] w w' := by
  subst hbb; exact ddeficit h H.at0.1 H.at0.2
theorem c_def1 {w : World} {d : Dr} {bb : Nat} (hbb : d.b = bb) (h : Holds w d.chunks) {g0 g1 : Fl} (H : One d g0 g1) :
    Calls Try.prog 15 #[.pointer (some ⟨bb, 0, none⟩), .agg #[.int .i64 1, .int .i64 1]] w fun e w' => e = .returned (.tuple #[.int .i64 g1.df, .int .i64 0]) ∧ Fr [] w w' := by
  subst hbb; exact ddeficit h H.at1.1 H.at1.2
theorem c_next {w : World} {d : Dr} {bb : Nat} (hbb : d.b = bb) {f0 f1 : Fl} {p0 p1 : P6} (h : Holds w d.chunks) (T : Two d f0 f1 p0 p1) (t : Int) :
    Calls Try.prog 14 #[.pointer (some ⟨bb, 0, none⟩), .int .i64 t] w fun e w' => ∃ d' g0 g1 p, ∃ c : Nat, e = .returned (.tuple #[aggp6 p, .bool true]) ∧ Sep w (Chunks.bs d.chunks) w' d'.chunks ∧ d'.b = bb ∧ One d' g0 g1 ∧
      ((p = p0 ∧ g0.df = 0 ∧ g1.df = c * f1.qt ∧ p0.f3 ≤ (c + 1) * f0.qt ∧ (c = 0 ∨ (c * f0.qt < p0.f3 ∧ c * f1.qt < p1.f3))) ∨
       (p = p1 ∧ g0 = f0.add ((c + 1) * f0.qt) ∧ g1.df = 0 ∧ p1.f3 ≤ (c + 1) * f1.qt ∧ (c + 1) * f0.qt < p0.f3 ∧ (c = 0 ∨ c * f1.qt < p1.f3) ∧ d'.ring = [f0.b] ∧ g1.q = [] ∧ g1.by_ = 0)) := by
  subst hbb; exact two_next h T t
theorem c_last {w : World} {d : Dr} {bb : Nat} (hbb : d.b = bb) (h : Holds w d.chunks) {g0 g1 : Fl} (H : One d g0 g1) {p0 : P6} (hr : d.ring = [g0.b]) (F : Fine g0) (hq : g0.q = [p0]) (hs : p0.f3 ≤ g0.df + g0.qt) (hb : g0.by_ = p0.f3) (hp : 1 ≤ p0.f3 ∧ p0.f3 ≤ 65536) (hq1 : g1.q = []) (hb1 : g1.by_ = 0) (t : Int) :
    Calls Try.prog 14 #[.pointer (some ⟨bb, 0, none⟩), .int .i64 t] w fun e w' => ∃ d' : Dr, e = .returned (.tuple #[aggp6 p0, .bool true]) ∧ Sep w (Chunks.bs d.chunks) w' d'.chunks ∧ d'.b = bb ∧ d'.n = 0 := by
  subst hbb
  have hz0 : g0.sz = p0.f3 := by simp [Fl.sz, hq]
  refine (dnext h (show d.ring = blocksOf d.fl [0] by rw [hr, H.fl]; rfl) (by rw [H.fl]; intro i hi; simp at hi; subst hi; exact ⟨g0, rfl, F⟩) (by simp) (by simp) (by simp) t (by rw [H.n]; omega) (by rw [H.n]; omega)
    (by
      rw [H.fl]
      intro f hf
      simp at hf
      rcases hf with rfl | rfl
      · refine ⟨by rw [hb]; omega, fun p qs hq' => ?_⟩
        rw [hq] at hq'; cases hq'
        rw [hb]; omega
      · refine ⟨by rw [hb1]; omega, fun p qs hq' => ?_⟩
        rw [hq1] at hq'; cases hq')).mono ?_
  rintro e w' ⟨fl, tt, i, rest, f, g, p, qs, rds, rds2, htr, hnd, hfine, hfi, hg, hq', hsz, rfl, k⟩
  rw [H.fl, H.turn] at htr
  obtain ⟨rfl, hr2, rfl⟩ := Turns.stop (fl := [g0, g1]) (i := 0) (rest := []) (f := g0) rfl (by rw [hz0]; simpa using hs) htr
  simp only [List.cons.injEq] at hr2
  obtain ⟨rfl, rfl⟩ := hr2
  simp only [List.getElem?_cons_zero, Option.some.injEq] at hfi
  subst hfi
  rw [hq] at hq'
  cases hq'
  rw [if_pos rfl] at k
  refine ⟨_, rfl, k, rfl, ?_⟩
  show d.n - 1 = 0
  rw [H.n]; rfl

set_option maxRecDepth 100000 in
set_option maxHeartbeats 4000000 in
theorem told15 (w : World) : Calls Try.prog 11 #[] w fun e w' => e = .returned (.bool true) ∧ Fr [] w w' := by
  have hnew := Lib.hid (c_new w)
  go_enter Try.func11, Try.ntmps11
  go_wp2_with fail
  refine hnew.out.mono ?_
  rintro e w1 ⟨d0, bb, rfl, hb0, k0, c0, fl0⟩
  have K0 := Lib.hid (Dr.inbox2 (Dr.inbox2 (pre := []) k0 26 [.int .i64 0, .int .i64 1]) 26 [.int .i64 1, .int .i64 1])
  simp only [World.size_alloc] at K0
  obtain ⟨H, hH⟩ : ∃ H, w1.heap.size = H := ⟨_, rfl⟩
  rw [hH] at K0
  have C0 := Lib.hid c0
  have FL0 := Lib.hid fl0
  clear k0 c0 fl0 hnew
  go_wp2_with fail
  refine (c_join0 hb0 K0.out.hs.right C0.out FL0.out 10 0 _ _ _ _ _ _ 0).mono ?_
  rintro e w2 ⟨rfl, d1, f0, k1, hb1, c1, fl1, F0⟩
  have K1 := Lib.hid (Dr.call K0.out k1)
  have C1 := Lib.hid c1
  have FL1 := Lib.hid fl1
  have FF0 := Lib.hid F0
  clear k1 c1 fl1 F0 K0 C0 FL0 hb0
  clear hH
  have x0 : w2.cell? ⟨H, 0, none⟩ = some (.int .i64 0) := (K1.out.blk 1 rfl).cell 0
  have x1 : w2.cell? ⟨H, 1, none⟩ = some (.int .i64 1) := (K1.out.blk 1 rfl).cell 1
  have x2 : w2.cell? ⟨H + 1, 0, none⟩ = some (.int .i64 1) := (K1.out.blk 0 rfl).cell 0
  have x3 : w2.cell? ⟨H + 1, 1, none⟩ = some (.int .i64 1) := (K1.out.blk 0 rfl).cell 1
  go_wp2_with fail
  refine (c_join1 hb1 K1.out.hs.right C1.out FL1.out FF0.out 5 0 _ _ _ _ _ _ 0).mono ?_
  rintro e w3 ⟨rfl, d2, f1, k2, hb2, c2, fl2, F1⟩
  have K2 := Lib.hid (Dr.call K1.out k2)
  have C2 := Lib.hid c2
  have FL2 := Lib.hid fl2
  have FF1 := Lib.hid F1
  clear k2 c2 fl2 F1 K1 C1 FL1 hb1 x0 x1 x2 x3
  have x0 : w3.cell? ⟨H, 0, none⟩ = some (.int .i64 0) := (K2.out.blk 1 rfl).cell 0
  have x1 : w3.cell? ⟨H, 1, none⟩ = some (.int .i64 1) := (K2.out.blk 1 rfl).cell 1
  go_wp2_with fail
  refine (c_admit0 hb2 K2.out.hs.right C2.out FL2.out FF0.out FF1.out 12 (by omega) (by omega)).mono ?_
  rintro e w4 ⟨rfl, d3, f0', k3, hb3, h3⟩
  have K3 := Lib.hid (Dr.call K2.out k3)
  have H3 := Lib.hid h3
  clear k3 h3 K2 C2 FL2 hb2 FF0 FF1 x0 x1
  have x2 : w4.cell? ⟨H + 1, 0, none⟩ = some (.int .i64 1) := (K3.out.blk 0 rfl).cell 0
  have x3 : w4.cell? ⟨H + 1, 1, none⟩ = some (.int .i64 1) := (K3.out.blk 0 rfl).cell 1
  go_wp2_with fail
  refine (c_admit1 hb3 K3.out.hs.right H3.out (by simp) 5 (by omega) (by omega)).mono ?_
  rintro e w5 ⟨rfl, d4, f1', k4, hb4, T, hq0, hq1⟩
  have K4 := Lib.hid (Dr.call K3.out k4)
  have HT := Lib.hid T
  have hq0' : Hid (f0'.qt = 10) := by rw [hq0]; exact Lib.hid rfl
  have hq1' : Hid (f1'.qt = 5) := by rw [hq1]; exact Lib.hid rfl
  clear k4 T K3 H3 hb3 x2 x3 hq0 hq1
  go_wp2_with fail
  refine (c_next hb4 K4.out.hs.right HT.out 0).mono ?_
  rintro e w6 ⟨d5, g0, g1, p, c, rfl, k5, hb5, ho, hcase⟩
  rw [hq0'.out, hq1'.out] at hcase
  rcases hcase with ⟨_, _, _, h1, h2⟩ | ⟨rfl, hg0, hg1, h1, h2, h3, hr5, hgq, hgb⟩
  · exact absurd h2 (by simp at h1 ⊢; omega)
  have hc0 : c = 0 := by simp at h2; omega
  subst hc0
  have K5 := Lib.hid (Dr.call K4.out k5)
  have HO := Lib.hid ho
  have G0 : Hid (g0 = f0'.add 10) := by rw [hg0]; exact Lib.hid (by simp)
  have R5 := Lib.hid hr5
  have G1 := Lib.hid (And.intro hgq hgb)
  clear k5 ho hg0 hr5 hgq hgb hg1 h1 h2 h3 K4 hb4
  have K6 := Lib.hid (Dr.inbox2 K5.out 34 (encP6 ⟨1, 1, 0, 5, 2, 0⟩))
  have x0 : w6.cell? ⟨H, 0, none⟩ = some (.int .i64 0) := (K5.out.blk 1 rfl).cell 0
  have x1 : w6.cell? ⟨H, 1, none⟩ = some (.int .i64 1) := (K5.out.blk 1 rfl).cell 1
  have xl : H < w6.heap.size := (K5.out.blk 1 rfl).lt
  obtain ⟨B, hB⟩ : ∃ B, w6.heap.size = B := ⟨_, rfl⟩
  rw [hB] at K6 xl
  clear K5
  go_wp2_with fail
  refine (c_def0 hb5 K6.out.hs.right HO.out).mono ?_
  rintro e w7 ⟨rfl, f7⟩
  have hdf : g0.df = 10 := by
    rw [G0.out]
    show f0'.df + 10 = 10
    rw [HT.out.d0]; rfl
  rw [hdf]
  have K7 := Lib.hid (K6.out.same f7)
  clear f7 x0 x1 xl hB K6 hdf
  go_wp2_with fail
  have gq : g0.q = [⟨0, 1, 0, 12, 1, 0⟩] := by rw [G0.out]; exact HT.out.q0
  have gdf : g0.df = 10 := by rw [G0.out]; show f0'.df + 10 = 10; rw [HT.out.d0]; rfl
  have gqt : g0.qt = 10 := by rw [G0.out]; exact hq0'.out
  have gby : g0.by_ = 12 := by rw [G0.out]; exact HT.out.b0
  have gsz : g0.sz = 12 := by simp [Fl.sz, gq]
  have gfine : Fine g0 := ⟨by rw [gq]; simp, by omega, by omega, by omega, by omega, by omega⟩
  refine (c_last hb5 K7.out.hs.right HO.out (by rw [R5.out, G0.out]; rfl) gfine gq (by rw [gdf, gqt]; simp) gby (by simp) G1.out.1 G1.out.2 0).mono ?_
  clear gq gdf gqt gby gsz gfine
  rintro e w8 ⟨d6, rfl, k8, hb6, hn6⟩
  have K8 := Lib.hid (Dr.call K7.out k8)
  have K9 := Lib.hid (Dr.inbox2 K8.out 34 (encP6 ⟨0, 1, 0, 12, 1, 0⟩))
  have x3 : w8.cell? ⟨B, 3, none⟩ = some (.int .i64 5) := (K8.out.blk 0 rfl).cell 3
  have x4 : w8.cell? ⟨B, 4, none⟩ = some (.int .i64 2) := (K8.out.blk 0 rfl).cell 4
  have xl : B < w8.heap.size := (K8.out.blk 0 rfl).lt
  have HN := Lib.hid hn6
  clear k8 hn6 K8 K7 HT hq0' hq1' HO G0 R5 G1 hb5
  go_wp2_with fail
  refine (c_len hb6 K9.out.hs.right).mono ?_
  rintro e w9 ⟨rfl, hw9⟩
  rw [hw9, HN.out]
  clear hw9 HN x3 x4 xl
  have fin := Lib.hid K9.out.fr
  clear K9
  go_wp2
  go_ret
  exact ⟨rfl, fin.out⟩
end Go.Proofs.Yteojodcdehkejaa
