/- A discipline by turns: skip. -/
import Derived.Test.YteojodcdehkejaaMA5
import Derived.Sort.LoopGhostIn
import Derived.Test.YteojodcdehkejaaMA4
set_option linter.unusedVariables false
namespace Go.Proofs.Yteojodcdehkejaa
open Go Go.RowKit
attribute [local go_sem] calmQ_normal wide_fn wide_depth Oper.semAt_some run_store_func

def blocksOf (fl : List Fl) (ri : List Nat) : List Nat := ri.map fun i => ((fl[i]?).map (·.b)).getD 0
/-- what choose works on -/
def Dr.cch (d : Dr) (ri : List Nat) : List Chunk := [CHd d, CRingq d.rb d.rds (blocksOf d.fl ri)] ++ (d.fl.map CStr ++ d.fl.map CQ)
/-- a flow of the ring that cannot send yet -/
structure Short (f : Fl) : Prop where
  q : f.q ≠ []
  q1 : 1 ≤ f.qt
  q2 : f.qt ≤ 1073741824
  d1 : 0 ≤ f.df
  d2 : f.df < f.sz
  s2 : f.sz ≤ 65536
/-- in how many turns it can -/
def Fl.m (f : Fl) : Int := (f.sz - f.df + f.qt - 1) / f.qt
theorem Short.m1 {f : Fl} (h : Short f) : 1 ≤ f.m := by
  have := h.q1; have := h.d2
  unfold Fl.m
  rw [Int.le_ediv_iff_mul_le (by omega)]
  omega
theorem Short.m2 {f : Fl} (h : Short f) : f.m ≤ 65536 := by
  have h1 := h.q1; have h2 := h.d2; have h3 := h.d1; have h4 := h.s2
  unfold Fl.m
  have : (f.sz - f.df + f.qt - 1) / f.qt < 65537 := by
    rw [Int.ediv_lt_iff_lt_mul (by omega)]
    have : 65537 * 1 ≤ 65537 * f.qt - 65536 * (f.qt - 1) := by omega
    omega
  omega
theorem Short.lt {f : Fl} (h : Short f) {c : Int} (hc : c < f.m) : f.df + c * f.qt < f.sz := by
  have h1 := h.q1
  unfold Fl.m at hc
  have h2 : c + 1 ≤ (f.sz - f.df + f.qt - 1) / f.qt := by omega
  rw [Int.le_ediv_iff_mul_le (by omega), Int.add_mul] at h2
  omega
theorem sub_w {a b : Int} (h : 0 ≤ b) (h2 : b < a) (h3 : a ≤ 65536) : ∃ A : Nat, wrap64 (a - b) = (A : Int) ∧ (A : Int) = a - b := ⟨(a - b).toNat, by unfold wrap64; omega, by omega⟩
theorem add_w (A q : Nat) (h : A ≤ 65536) (hq : 1 ≤ q) (h2 : q ≤ 1073741824) : ∃ B : Nat, wrap64 ((A : Int) + (q : Int)) = (B : Int) + 1 ∧ B + 1 = A + q := ⟨A + q - 1, by unfold wrap64; omega, by omega⟩
theorem div_w (B q : Nat) (h : B ≤ 4294967296) : wrap64 ((wrap64 (B : Int)).tdiv (q : Int)) = ((B / q : Nat) : Int) := by
  have h1 : wrap64 (B : Int) = (B : Int) := by unfold wrap64; omega
  have h2 : (B : Int).tdiv (q : Int) = ((B / q : Nat) : Int) := rfl
  rw [h1, h2]
  have h3 : B / q ≤ B := Nat.div_le_self B q
  generalize B / q = x at h3
  unfold wrap64; omega
theorem m_eq {f : Fl} {B q A : Nat} (h1 : f.qt = (q : Int)) (h2 : (A : Int) = f.sz - f.df) (h3 : B + 1 = A + q) : f.m = ((B / q : Nat) : Int) := by
  have e : f.sz - f.df + f.qt - 1 = (B : Int) := by omega
  unfold Fl.m
  rw [e, h1]
  rfl
theorem skip_w {df qt sz : Int} {c : Nat} (hL : (c : Int) + 1 ≤ 65536) (q1 : 1 ≤ qt) (q2 : qt ≤ 1073741824) (d1 : 0 ≤ df) (h : df + (c : Int) * qt < sz) (s2 : sz ≤ 65536) :
    wrap64 (df + wrap64 ((c : Int) * qt)) = df + (c : Int) * qt := by
  have h0 : (0 : Int) ≤ (c : Int) * qt := Int.mul_nonneg (by omega) (by omega)
  generalize (c : Int) * qt = x at *
  have h2 : wrap64 x = x := by unfold wrap64; omega
  rw [h2]
  unfold wrap64; omega
theorem cch_str {d : Dr} {ri : List Nat} {k : Nat} {f : Fl} (h : d.fl[k]? = some f) : (d.cch ri)[2 + k]? = some (CStr f) := by
  have hk := some_lt h
  unfold Dr.cch
  rw [List.getElem?_append_right (by simp), List.getElem?_append_left (by simp; omega)]
  simp [h]
theorem cch_que {d : Dr} {ri : List Nat} {k : Nat} {f : Fl} (h : d.fl[k]? = some f) : (d.cch ri)[2 + d.fl.length + k]? = some (CQ f) := by
  unfold Dr.cch
  rw [List.getElem?_append_right (by simp; omega), List.getElem?_append_right (by simp; omega)]
  simp [h, show 2 + d.fl.length + k - 2 - d.fl.length = k from by omega]
theorem blocksOf_bump (fl : List Fl) (ri r : List Nat) (c : Int) : blocksOf (bump fl r c) ri = blocksOf fl ri := by
  unfold blocksOf
  refine List.map_congr_left fun i _ => ?_
  rw [bump_b]
theorem zip_at {ri : List Nat} {fl : List Fl} {pre post : List (Option Nat × Nat)} {x : Option Nat × Nat} (hx : ((blocksOf fl ri).map some).zipIdx = pre ++ x :: post) (hin : ∀ i, i ∈ ri → i < fl.length) :
    ∃ i f, ri[pre.length]? = some i ∧ fl[i]? = some f ∧ x = (some f.b, pre.length) := by
  have h : (((blocksOf fl ri).map some).zipIdx)[pre.length]? = some x := by rw [hx]; simp
  have hl := congrArg List.length hx
  simp [blocksOf] at hl
  have hk : pre.length < ri.length := by omega
  obtain ⟨i, hi⟩ : ∃ i, ri[pre.length]? = some i := ⟨ri[pre.length], by simp [hk]⟩
  obtain ⟨f, hf⟩ : ∃ f, fl[i]? = some f := ⟨fl[i]'(hin i (List.mem_of_getElem? hi)), by simp [hin i (List.mem_of_getElem? hi)]⟩
  refine ⟨i, f, hi, hf, ?_⟩
  rw [List.getElem?_zipIdx] at h
  simp [blocksOf, hi, hf] at h
  rw [← h]

set_option maxRecDepth 100000 in
set_option maxHeartbeats 4000000 in
theorem dskip {w : World} {d : Dr} {ri : List Nat} (h : Holds w (d.cch ri)) (hwf : ∀ i, i ∈ ri → ∃ f, d.fl[i]? = some f ∧ Short f) (hnd : ri.Nodup) (hne : 0 < ri.length) :
    Calls Try.prog 74 #[.pointer (some ⟨d.b, 0, none⟩)] w fun e w' => e = .returned (.tuple #[]) ∧ ∃ c : Nat, (∀ i, i ∈ ri → ∃ f, d.fl[i]? = some f ∧ f.df + (c : Int) * f.qt < f.sz) ∧
      Sep w (Chunks.bs (d.cch ri)) w' (({ d with fl := bump d.fl ri c } : Dr).cch ri) := by
  have hin : ∀ i, i ∈ ri → i < d.fl.length := fun i hi => by obtain ⟨f, hf, _⟩ := hwf i hi; exact some_lt hf
  have H := Lib.hid h
  have HWF := Lib.hid hwf
  have hb1 : w.cell? ⟨d.b, 1, none⟩ = some (.pointer (some ⟨d.rb, 0, none⟩)) := (show Blk w d.b 92 d.head from h.get (i := 0) rfl).cell 1
  have hlb : d.b < w.heap.size := (show Blk w d.b 92 d.head from h.get (i := 0) rfl).lt
  clear h hwf
  refine callsIn_wide.1 (callsIn_of_wp_marks (n := 0) (F := Fence.wide) Try.func74 rfl trivial ?_ rfl)
  simp only [Try.ntmps74, List.size_toArray, List.length_cons, List.length_nil, Nat.reduceAdd, Nat.reduceSub, Array.replicate_succ, Array.replicate_zero, List.push_toArray, List.append_toArray, List.nil_append, List.cons_append]
  gi_wp2_with (gi_at_call 46; refine (wideIn _ (all_q _ d.rb)).mono ?_; rintro er w' ⟨rfl, rfl⟩)
  obtain ⟨lb, hlb2⟩ : ∃ lb, w.heap.size = lb := ⟨_, rfl⟩
  have K0 := Lib.hid (((Sep.start H.out).alloc 3 [.int .i64 (-1)]).alloc 87 [.pointer (some ⟨d.rb, 0, none⟩)])
  rw [World.size_alloc] at K0
  obtain ⟨W, hW⟩ : ∃ W, (w.alloc (.cells #[.int .i64 (-1)] 3)).alloc (.cells #[.pointer (some ⟨d.rb, 0, none⟩)] 87) = W := ⟨_, rfl⟩
  have K0' : Sep w (Chunks.bs (d.cch ri)) W (d.cch ri ++ [Chunk.blk lb 3 [.int .i64 (-1)]] ++ [Chunk.blk (lb + 1) 87 [.pointer (some ⟨d.rb, 0, none⟩)]]) := by
    rw [← hW, ← hlb2]; exact K0.out
  have hclt : ∀ b, b ∈ Chunks.bs (d.cch ri) → b < lb := by rw [← hlb2]; exact H.out.lt
  have hlbW : lb + 1 < W.heap.size := by rw [← hW, ← hlb2]; simp
  rw [hW, hlb2]
  rw [hlb2] at hlb
  have K0 := Lib.hid K0'
  have HC : Hid (Holds W (d.cch ri)) := Lib.hid K0'.hs.left.left
  have hL0 : Blk W lb 3 [.int .i64 (-1)] := K0'.hs.ok (Chunk.blk lb 3 [.int .i64 (-1)]) (by simp)
  have hB0 : W.cell? ⟨lb + 1, 0, none⟩ = some (.pointer (some ⟨d.rb, 0, none⟩)) := (show Blk W (lb + 1) _ _ from K0'.hs.ok (Chunk.blk (lb + 1) 87 [.pointer (some ⟨d.rb, 0, none⟩)]) (by simp)).cell 0
  have hseq := seq_q (show Rgq W d.rb d.rds ((blocksOf d.fl ri).map some) from HC.out.get (i := 1) rfl) hB0
  clear hW K0' hlb2
  obtain ⟨J, hJ⟩ : ∃ J : List Nat → List (Option Nat × Nat) → World → Prop, Hid (J = fun S1 pre X => S1 = [lb] ∧ ∃ L : Int, Blk X lb 3 [.int .i64 L] ∧
      ((pre = [] ∧ L = -1) ∨ (0 < pre.length ∧ 1 ≤ L ∧ L ≤ 65536 ∧ ∀ j i f, j < pre.length → ri[j]? = some i → d.fl[i]? = some f → L ≤ f.m))) := ⟨_, Lib.hid rfl⟩
  have locJ : Loc W.heap.size J := by
    rw [hJ.out]
    rintro S1 pre X Y T ⟨rfl, L, hb, hL⟩ fr ht
    exact ⟨rfl, L, hb.fr fr (fun hm => (ht _ hm).2 (by simp)), hL⟩
  refine wp_rangeF1 (gf := 83) (lb := #[.pointer (some ⟨lb + 1, 0, none⟩)]) rfl (enters_of Try.func83 (by kernel_rfl) rfl) hseq (fun _ => rfl)
    J (fun _ _ _ _ => False) [lb] (by simp; omega) locJ (fun _ _ _ _ _ _ h _ _ => h) (by rw [hJ.out]; exact ⟨rfl, -1, hL0, .inl ⟨rfl, rfl⟩⟩)
    (fun x => { tmps := #[.pointer (some ⟨d.b, 0, none⟩), undef, .pointer (some ⟨lb, 0, none⟩), undef, ptrV x.1, undef, undef, undef, undef, undef, .pointer (some ⟨d.b, 0, none⟩), .pointer (some ⟨d.b, 0, none⟩), .pointer (some ⟨d.b, 1, none⟩), .pointer (some ⟨d.rb, 0, none⟩), .func (.func 83) #[] #[.pointer (some ⟨lb + 1, 0, none⟩)], .int .i64 x.2, ptrV x.1, undef, undef, undef, undef, undef, undef, undef, undef, undef, undef, undef, undef, undef, undef, undef, undef, undef, undef, undef, undef, undef, undef, undef, undef, undef, undef, undef, undef, undef, undef, undef, undef, undef, undef, undef, undef, undef, undef, undef, undef, undef, undef, undef, undef, undef, undef, undef, undef, undef, undef, undef, undef, undef, undef, undef, undef, undef], defers := [] })
    ?assign1 ?body1 ?done1 ?stop1
  case stop1 => intro _ _ _ _ _ _ _ _ _ _ _ _ h _; exact h.elim
  case assign1 =>
    intro l x X K hK
    simp only [entq]
    gi_wp2
    exact hK
  case body1 =>
    rintro l pre x post S1 X hx hz hg hf hl hnl hr hj
    rw [hJ.out] at hj
    obtain ⟨rfl, L, hLb, hL⟩ := hj
    obtain ⟨i, f, hi, hfi, rfl⟩ := zip_at hx hin
    obtain ⟨f', hf', hs⟩ := HWF.out i (List.mem_of_getElem? hi)
    rw [hfi] at hf'
    cases hf'
    obtain ⟨pk, rest, hq⟩ : ∃ pk rest, f.q = pk :: rest := by
      have := hs.q
      cases hq : f.q with
      | nil => exact absurd hq this
      | cons a b => exact ⟨a, b, rfl⟩
    have hsz : f.sz = pk.f3 := by simp [Fl.sz, hq]
    have HX : Holds X (d.cch ri) := HC.out.fr' hf (fun b hb hm => by have := hclt b hb; simp at hm; omega)
    have hring : Rgp6 X f.r f.ds (pk :: rest) := by rw [← hq]; exact HX.get (cch_que hfi)
    have hst : Blk X f.b 95 f.cells := HX.get (cch_str hfi)
    have s3 : X.cell? ⟨f.b, 3, none⟩ = some (.int .i64 f.qt) := hst.cell 3
    have s4 : X.cell? ⟨f.b, 4, none⟩ = some (.int .i64 f.df) := hst.cell 4
    have s5 : X.cell? ⟨f.b, 5, none⟩ = some (.pointer (some ⟨f.r, 0, none⟩)) := hst.cell 5
    have hfl := hst.lt
    have hll := hLb.lt
    have HS := Lib.hid hs
    have HLB := Lib.hid hLb
    have HFX := Lib.hid hf
    have HI := Lib.hid hi
    have HFI := Lib.hid hfi
    clear hx hr hg hf hLb hst hi hfi HX hs hq hL0 hB0 hseq
    simp only [ptrV, Option.map_some]
    gi_wp2_with fail
    refine (wideIn _ (front_p6 hring)).mono ?_
    rintro er X1 ⟨rfl, f1⟩
    have t3 := (f1.cell (p := ⟨f.b, 3, none⟩) hfl (by simp)).trans s3
    have t4 := (f1.cell (p := ⟨f.b, 4, none⟩) hfl (by simp)).trans s4
    have HL1 := Lib.hid (HLB.out.fr f1 (by simp))
    have t0 := HL1.out.cell 0
    have q0 := HL1.out.frz 0
    simp only [List.getElem?_cons_zero] at t0
    have l1 := HL1.out.lt
    have l2 := Nat.lt_of_lt_of_le hfl f1.size
    have F1 : Hid (Fr [lb] X X1) := f1.mono (by simp)
    clear hring s3 s4 s5 f1 HLB hll hfl
    obtain ⟨q', hq', hq1, hq2⟩ : ∃ q' : Nat, f.qt = (q' : Int) ∧ 1 ≤ q' ∧ q' ≤ 1073741824 := ⟨f.qt.toNat, by have := HS.out.q1; omega, by have := HS.out.q1; omega, by have := HS.out.q2; have := HS.out.q1; omega⟩
    obtain ⟨A, hw1, hA⟩ := sub_w HS.out.d1 HS.out.d2 HS.out.s2
    have hA2 : A ≤ 65536 := by have := HS.out.s2; have := HS.out.d1; omega
    obtain ⟨B, hw2, hB⟩ := add_w A q' hA2 hq1 hq2
    have hw3 := Lib.hid (div_w B q' (by omega))
    have hm := Lib.hid (m_eq hq' hA hB)
    have hqz : ((q' : Int) == 0) = false := by rw [beq_eq_false_iff_ne]; omega
    have hqz2 : q' ≠ 0 := by omega
    obtain ⟨M, hM⟩ : ∃ M, B / q' = M := ⟨_, rfl⟩
    rw [hM] at hw3 hm
    have hM1 : 1 ≤ M := by have := HS.out.m1; have := hm.out; omega
    have hM2 : M ≤ 65536 := by have := HS.out.m2; have := hm.out; omega
    rw [hq'] at t3
    rw [hsz] at hw1
    have HQ := Lib.hid hq'
    clear hq' hA hB hA2 hM hq1 hq2 hsz
    gi_wp2
    refine wpIn_head_tail 18 (by kernel_rfl) (by kernel_rfl) (by kernel_rfl) ?_
    simp only [List.take_succ_cons, List.take_zero, List.drop_succ_cons, List.drop_zero]
    repeat (first | go_big_quiet_step (fail) | quiet_step (fail))
    refine wpQuiet_nil ?_
    rintro _ ⟨nq, rfl⟩
    go_wp2
    try rw [onlyN_normal]
    rw [hw3.out]
    clear hqz hqz2 hw1 hw2 t3 t4
    have nM : M + 0 = M := rfl
    have hlast : Hid (∀ j i' f', j < (pre ++ [(some f.b, pre.length)]).length → ri[j]? = some i' → d.fl[i']? = some f' → (j < pre.length) ∨ f'.m = (M : Int)) := fun j i' f' hj hi' hf' => by
      rw [List.length_append, List.length_singleton] at hj
      rcases Nat.lt_or_ge j pre.length with h | h
      · exact .inl h
      · have e : j = pre.length := by omega
        subst e
        have h1 := HI.out
        rw [hi'] at h1
        cases h1
        have h2 := HFI.out
        rw [hf'] at h2
        cases h2
        exact .inr hm.out
    have hdone : Hid (∀ (V : Int) (Z : World), Fr [lb] X Z → Blk Z lb 3 [.int .i64 V] → 1 ≤ V → V ≤ 65536 → V ≤ (M : Int) → (∀ j i' f', j < pre.length → ri[j]? = some i' → d.fl[i']? = some f' → V ≤ f'.m) →
        ∃ S', Gr X [lb] S' ∧ Fr [lb] X Z ∧ J S' (pre ++ [(some f.b, pre.length)]) Z) := fun V Z hZ hV h1 h2 h3 h4 => by
      refine ⟨[lb], Gr.refl _ _, hZ, ?_⟩
      rw [hJ.out]
      refine ⟨rfl, V, hV, .inr ⟨by simp, h1, h2, fun j i' f' hj hi' hf' => ?_⟩⟩
      rcases hlast.out j i' f' hj hi' hf' with h | h
      · exact h4 j i' f' h hi' hf'
      · rw [h]; exact h3
    have F2 : Hid (∀ o n, Fr [lb] X ((X1.alloc o).drewN n)) := fun o n => (F1.out.alloc o).drewN n
    have HLq : Hid (∀ o n, Blk ((X1.alloc o).drewN n) lb 3 [.int .i64 L]) := fun o n => (HL1.out.alloc o).drewN n
    clear hlast HI HFI hm HQ nM HFX
    rcases hL with ⟨hp, rfl⟩ | ⟨hp, hL1, hL2, hL3⟩
    · have hpl : Hid (∀ j, ¬ j < pre.length) := by rw [hp]; exact fun j hj => by simp at hj
      clear hp
      gi_wp2
      exact hdone.out M _ ((F2.out _ _).setCell _ (.inl (by simp))) ((HLq.out _ _).set 0 _) (by omega) (by omega) (by omega) (fun j i' f' hj => absurd hj (hpl.out j))
    · have HL3 := Lib.hid hL3
      clear hL3
      have hk1 : decide (L < 0) = false := decide_eq_false (by omega)
      by_cases hML : (M : Int) < L
      · have hk2 : decide ((M : Int) < L) = true := decide_eq_true hML
        gi_wp2
        exact hdone.out M _ ((F2.out _ _).setCell _ (.inl (by simp))) ((HLq.out _ _).set 0 _) (by omega) (by omega) (by omega) (fun j i' f' hj hi' hf' => by have := HL3.out j i' f' hj hi' hf'; omega)
      · have hk2 : decide ((M : Int) < L) = false := decide_eq_false hML
        gi_wp2
        exact hdone.out L _ (F2.out _ _) (HLq.out _ _) hL1 hL2 (by omega) (fun j i' f' hj hi' hf' => HL3.out j i' f' hj hi' hf')
  case done1 =>
    rintro D S' X hD hDS hg hf hj hKD
    rw [hJ.out] at hj
    obtain ⟨rfl, L, hLb, hL⟩ := hj
    obtain ⟨hL1, hL2, hL3⟩ : 1 ≤ L ∧ L ≤ 65536 ∧ ∀ j i f, j < ri.length → ri[j]? = some i → d.fl[i]? = some f → L ≤ f.m := by
      have hlen : (((blocksOf d.fl ri).map some).zipIdx).length = ri.length := by simp [blocksOf]
      rcases hL with ⟨hp, _⟩ | ⟨_, h1, h2, h3⟩
      · rw [hp] at hlen; simp at hlen; omega
      · rw [hlen] at h3; exact ⟨h1, h2, h3⟩
    have K1 := Lib.hid (Sep.mid (a := d.cch ri) (b := [Chunk.blk lb 3 [.int .i64 (-1)]]) (b' := [Chunk.blk lb 3 [.int .i64 L]]) (by rw [← List.append_assoc]; exact K0.out) (Sep.ranged hf hg rfl (Holds.one (c := Chunk.blk lb 3 [.int .i64 L]) hLb) hD hDS hKD))
    have t0 := hLb.cell 0
    simp only [List.getElem?_cons_zero] at t0
    have b1 : X.cell? ⟨d.b, 1, none⟩ = some (.pointer (some ⟨d.rb, 0, none⟩)) := (show Blk X d.b 92 d.head from K1.out.hs.left.left.get (i := 0) rfl).cell 1
    have HL3 := Lib.hid hL3
    have HDm := Lib.hid hKD
    clear hL hL3 hLb hg hf hKD hL0 hB0 hseq locJ
    by_cases hL4 : L < 2
    · have hk1 : decide (L < 2) = true := decide_eq_true hL4
      gi_wp2_with fail
      refine leaves_marks' [D] _ (by simp) (by simpa using HDm.out) (fun W' fW => ?_)
      refine ⟨_, results_none rfl _ _ _, rfl, 0, fun i hi => ?_, ?_⟩
      · obtain ⟨f, hf, hs⟩ := HWF.out i hi
        exact ⟨f, hf, by have := hs.d2; simpa using this⟩
      · have := (K1.out.gone (cs := d.cch ri ++ ([Chunk.blk lb 3 [.int .i64 L]] ++ [Chunk.blk (lb + 1) 87 [.pointer (some ⟨d.rb, 0, none⟩)]])) fW (fun b hb => by simpa [Chunks.bs, Chunk.mark] using hb)).sub (List.sublist_append_left _ _)
        simp only [Int.natCast_zero]
        rw [bump_zero]
        exact this
    · have hk1 : decide (L < 2) = false := decide_eq_false hL4
      gi_wp2_with (gi_at_call 46; refine (wideIn _ (all_q _ d.rb)).mono ?_; rintro er w' ⟨rfl, rfl⟩)
      obtain ⟨c, hc⟩ : ∃ c : Nat, L = (c : Int) + 1 := ⟨(L - 1).toNat, by omega⟩
      subst hc
      have K2 := Lib.hid (K1.out.alloc 87 [.pointer (some ⟨d.rb, 0, none⟩)])
      obtain ⟨B1, hB1⟩ : ∃ B1, X.heap.size = B1 := ⟨_, rfl⟩
      obtain ⟨Y, hY⟩ : ∃ Y, X.alloc (.cells #[.pointer (some ⟨d.rb, 0, none⟩)] 87) = Y := ⟨_, rfl⟩
      have K2' : Sep w (Chunks.bs (d.cch ri)) Y ([CHd d, CRingq d.rb d.rds (blocksOf d.fl ri)] ++ (d.fl.map CStr ++ (d.fl.map CQ ++ [Chunk.blk lb 3 [.int .i64 ((c : Int) + 1)], Chunk.blk (lb + 1) 87 [.pointer (some ⟨d.rb, 0, none⟩)], Chunk.mark D, Chunk.blk B1 87 [.pointer (some ⟨d.rb, 0, none⟩)]]))) := by
        have := K2.out
        rw [hY, hB1] at this
        simpa [Dr.cch] using this
      have hDY : Y.heap[D]? = some (.deferred (some [])) := K2'.hs.ok (Chunk.mark D) (by simp)
      rw [hY, hB1]
      have hm1 : ∀ x, x ∈ ([Chunk.blk lb 3 [.int .i64 ((c : Int) + 1)], Chunk.blk (lb + 1) 87 [.pointer (some ⟨d.rb, 0, none⟩)], Chunk.mark D, Chunk.blk B1 87 [.pointer (some ⟨d.rb, 0, none⟩)]] : List Chunk) → x ∈ [CHd d, CRingq d.rb d.rds (blocksOf d.fl ri)] ++ (d.fl.map CStr ++ (d.fl.map CQ ++ [Chunk.blk lb 3 [.int .i64 ((c : Int) + 1)], Chunk.blk (lb + 1) 87 [.pointer (some ⟨d.rb, 0, none⟩)], Chunk.mark D, Chunk.blk B1 87 [.pointer (some ⟨d.rb, 0, none⟩)]])) := fun x hx => by
        rw [List.mem_append, List.mem_append, List.mem_append]; exact .inr (.inr (.inr hx))
      have hLY : Blk Y lb 3 [.int .i64 ((c : Int) + 1)] := K2'.hs.ok (Chunk.blk lb 3 [.int .i64 ((c : Int) + 1)]) (hm1 _ (by simp))
      have hBY : Y.cell? ⟨B1, 0, none⟩ = some (.pointer (some ⟨d.rb, 0, none⟩)) := (show Blk Y B1 _ _ from K2'.hs.ok (Chunk.blk B1 87 [.pointer (some ⟨d.rb, 0, none⟩)]) (hm1 _ (by simp))).cell 0
      have hseq2 := seq_q (show Rgq Y d.rb d.rds ((blocksOf d.fl ri).map some) from K2'.hs.get (i := 1) rfl) hBY
      have hstrY : Holds Y (d.fl.map CStr) := K2'.hs.right.left
      have hcl : ∀ b, b ∈ Chunks.bs (d.fl.map CStr) → b < lb := fun b hb => hclt b (by unfold Dr.cch; rw [Chunks.bs_app, Chunks.bs_app]; simp [hb])
      have hlY : lb < Y.heap.size := hLY.lt
      have K2 := Lib.hid K2'
      clear hY hB1 K2' hm1 hBY K1 b1 t0
      obtain ⟨J2, hJ2⟩ : ∃ J2 : List Nat → List (Option Nat × Nat) → World → Prop, Hid (J2 = fun S1 pre X => S1 = Chunks.bs (d.fl.map CStr) ∧ Holds X ((bump d.fl (ri.take pre.length) c).map CStr)) := ⟨_, Lib.hid rfl⟩
      have locJ2 : Loc Y.heap.size J2 := by
        rw [hJ2.out]
        rintro S1 pre X Z T ⟨rfl, hh⟩ fr ht
        exact ⟨rfl, hh.fr' fr (fun b hb hm => (ht b hm).2 (by rw [bump_bs] at hb; exact hb))⟩
      refine wp_rangeF1 (gf := 83) (lb := #[.pointer (some ⟨B1, 0, none⟩)]) rfl (enters_of Try.func83 (by kernel_rfl) rfl) hseq2 (fun _ => rfl)
        J2 (fun _ _ _ _ => False) (Chunks.bs (d.fl.map CStr)) (fun b hb => Nat.lt_trans (hcl b hb) hlY) locJ2 (fun _ _ _ _ _ _ h _ _ => h) (by rw [hJ2.out]; exact ⟨rfl, by simpa [bump_nil] using hstrY⟩)
        (fun x => { tmps := #[.pointer (some ⟨d.b, 0, none⟩), undef, .pointer (some ⟨lb, 0, none⟩), undef, undef, undef, undef, undef, undef, ptrV x.1, .pointer (some ⟨d.b, 0, none⟩), .pointer (some ⟨d.b, 0, none⟩), .pointer (some ⟨d.b, 1, none⟩), .pointer (some ⟨d.rb, 0, none⟩), .func (.func 83) #[] #[.pointer (some ⟨lb + 1, 0, none⟩)], undef, undef, undef, undef, undef, undef, undef, undef, undef, undef, undef, undef, undef, undef, undef, undef, undef, undef, undef, undef, undef, undef, undef, undef, undef, undef, undef, undef, undef, undef, undef, undef, undef, undef, undef, undef, .int .i64 ((c : Int) + 1), .bool false, .pointer (some ⟨d.b, 0, none⟩), .pointer (some ⟨d.b, 0, none⟩), .pointer (some ⟨d.b, 1, none⟩), .pointer (some ⟨d.rb, 0, none⟩), .func (.func 83) #[] #[.pointer (some ⟨B1, 0, none⟩)], .int .i64 x.2, ptrV x.1, undef, undef, undef, undef, undef, undef, undef, undef, undef, undef, undef, undef, undef, undef], defers := [] })
        ?assign2 ?body2 ?done2 ?stop2
      case stop2 => intro _ _ _ _ _ _ _ _ _ _ _ _ h _; exact h.elim
      case assign2 =>
        intro l x Z K hK
        simp only [entq]
        gi_wp2
        exact hK
      case body2 =>
        rintro l pre x post S1 Z hx hz hg hf hl hnl hr hj
        rw [hJ2.out] at hj
        obtain ⟨rfl, hh⟩ := hj
        obtain ⟨i, f, hi, hfi, rfl⟩ := zip_at hx hin
        obtain ⟨f', hf', hs⟩ := HWF.out i (List.mem_of_getElem? hi)
        rw [hfi] at hf'
        cases hf'
        obtain ⟨hbi, hbn⟩ := bump_take (c := c) hnd hi hfi
        have hst : ((bump d.fl (ri.take pre.length) c).map CStr)[i]? = some (CStr f) := by rw [List.getElem?_map, hbi]; rfl
        have hsb : Blk Z f.b 95 f.cells := hh.get hst
        have s3 : Z.cell? ⟨f.b, 3, none⟩ = some (.int .i64 f.qt) := hsb.cell 3
        have s4 : Z.cell? ⟨f.b, 4, none⟩ = some (.int .i64 f.df) := hsb.cell 4
        have q4 := hsb.frz 4
        have hl9 : lb ∉ Chunks.bs (d.fl.map CStr) := fun hm => by have := hcl lb hm; omega
        have hLZ := hLY.fr hf hl9
        have t0 := hLZ.cell 0
        simp only [List.getElem?_cons_zero] at t0
        have hcm : (c : Int) < f.m := by
          obtain ⟨hk1, hk2⟩ := List.getElem?_eq_some_iff.1 hi
          have := HL3.out pre.length i f hk1 hi hfi
          omega
        have hlt := hs.lt hcm
        have hw := Lib.hid (skip_w hL2 hs.q1 hs.q2 hs.d1 hlt hs.s2)
        have hfin : ∃ S', Gr Z (Chunks.bs (d.fl.map CStr)) S' ∧ Fr (Chunks.bs (d.fl.map CStr)) Z (Z.setCell ⟨f.b, 4, none⟩ (.int .i64 (f.df + (c : Int) * f.qt))) ∧ J2 S' (pre ++ [(some f.b, pre.length)]) (Z.setCell ⟨f.b, 4, none⟩ (.int .i64 (f.df + (c : Int) * f.qt))) := by
          have k := (Sep.start hh).set i hst 4 (.int .i64 (f.df + (c : Int) * f.qt))
          rw [bump_bs] at k
          refine ⟨_, Gr.refl _ _, k.fr, ?_⟩
          rw [hJ2.out]
          refine ⟨rfl, ?_⟩
          rw [List.length_append, List.length_singleton, hbn, List.map_set]
          exact k.hs
        have HF : Hid (∀ n, ∃ S', Gr Z (Chunks.bs (d.fl.map CStr)) S' ∧ Fr (Chunks.bs (d.fl.map CStr)) Z ((Z.setCell ⟨f.b, 4, none⟩ (.int .i64 (f.df + (c : Int) * f.qt))).drewN n) ∧ J2 S' (pre ++ [(some f.b, pre.length)]) ((Z.setCell ⟨f.b, 4, none⟩ (.int .i64 (f.df + (c : Int) * f.qt))).drewN n)) := fun n => by
          obtain ⟨S', g1, g2, g3⟩ := hfin
          refine ⟨S', g1, g2.drewN n, ?_⟩
          rw [hJ2.out] at g3 ⊢
          exact ⟨g3.1, g3.2.fr' ((Fr.refl [] _).drewN n) (by simp)⟩
        clear hfin hr hx hg hf hh hst hsb hLZ hs hcm hbi hbn hlt hfi hi hstrY hLY
        simp only [ptrV, Option.map_some]
        gi_wp2
        refine wpIn_head_tail 14 (by kernel_rfl) (by kernel_rfl) (by kernel_rfl) ?_
        simp only [List.take_succ_cons, List.take_zero, List.drop_succ_cons, List.drop_zero]
        repeat (first | go_big_quiet_step (fail) | quiet_step (fail))
        refine wpQuiet_nil ?_
        rintro _ ⟨nq, rfl⟩
        go_wp2
        try rw [onlyN_normal]
        rw [hw.out]
        gi_wp2
        exact HF.out nq
      case done2 =>
        rintro D2 S' Z hD2 hDS2 hg hf hj hKD2
        rw [hJ2.out] at hj
        obtain ⟨rfl, hh⟩ := hj
        have hlen : (((blocksOf d.fl ri).map some).zipIdx).length = ri.length := by simp [blocksOf]
        rw [hlen, List.take_length] at hh
        have K3 := Lib.hid (Sep.mid K2.out (Sep.ranged hf hg (by rw [bump_bs]) hh hD2 hDS2 hKD2))
        have hmk : ∀ x, x ∈ [D2, D] → Z.heap[x]? = some (.deferred (some [])) := fun x hx => by
          simp at hx
          rcases hx with rfl | rfl
          · exact hKD2
          · exact K3.out.hs.ok (Chunk.mark x) (by simp)
        have hnd2 : [D2, D].Nodup := by
          have := (Array.getElem?_eq_some_iff.1 hDY).1
          simp; omega
        have HMK := Lib.hid hmk
        clear hmk hh hf hg hKD2 hseq2 locJ2 hstrY hLY hDY
        gi_wp2_with fail
        refine leaves_marks' [D2, D] _ hnd2 HMK.out (fun W' fW => ?_)
        refine ⟨_, results_none rfl _ _ _, rfl, c, fun i hi => ?_, ?_⟩
        · obtain ⟨f, hf, hs⟩ := HWF.out i hi
          obtain ⟨k, hk⟩ := List.getElem?_of_mem hi
          exact ⟨f, hf, hs.lt (by have := HL3.out k i f (some_lt hk) hk hf; omega)⟩
        · have e : (({ d with fl := bump d.fl ri c } : Dr).cch ri) = [CHd d, CRingq d.rb d.rds (blocksOf d.fl ri)] ++ ((bump d.fl ri c).map CStr ++ d.fl.map CQ) := by
            unfold Dr.cch
            simp only [CHd, Dr.head, blocksOf_bump, bump_q]
          rw [e]
          have k := K3.out.perm (cs' := ([CHd d, CRingq d.rb d.rds (blocksOf d.fl ri)] ++ ((bump d.fl ri c).map CStr ++ d.fl.map CQ)) ++ ([Chunk.blk lb 3 [.int .i64 ((c : Int) + 1)], Chunk.blk (lb + 1) 87 [.pointer (some ⟨d.rb, 0, none⟩)], Chunk.mark D, Chunk.blk B1 87 [.pointer (some ⟨d.rb, 0, none⟩)]] ++ [Chunk.mark D2])) (by simp only [List.append_assoc]; exact List.Perm.refl _)
          exact k.gone fW (fun b hb => by
            simp at hb
            rcases hb with rfl | rfl <;> simp [Chunks.bs, Chunk.mark])
end Go.Proofs.Yteojodcdehkejaa
/- Rings of *millrace/drr.flow: the contracts of their functions: the ends. -/
namespace Go.Proofs.Yteojodcdehkejaa
open Go Go.RowKit
attribute [local go_sem] calmQ_normal wide_fn wide_depth Oper.semAt_some

theorem front_q {w : World} {r : Nat} {ds : List Nat} {x : (Option Nat)} {xs : List (Option Nat)} (h : Rgq w r ds (x :: xs)) :
    Calls Try.prog 48 #[.pointer (some ⟨r, 0, none⟩)] w fun e w' => e = .returned (.tuple #[ptrV x, .bool true]) ∧ ∃ n, w' = w.drewN n := by
  have hcall := Lib.hid (at_yesZ_q h (i := 0) (x := x) (by omega) (by simp))
  clear h
  go_enter Try.func48, Try.ntmps48
  go_wp2_with (go_at_call 85; refine hcall.out.mono ?_; rintro e w' ⟨rfl, n1, rfl⟩)
  go_ret2
  exact ⟨rfl, _, rfl⟩
theorem front_no_q {w : World} {r : Nat} {ds : List Nat} (h : Rgq w r ds []) :
    Calls Try.prog 48 #[.pointer (some ⟨r, 0, none⟩)] w fun e w' => e = .returned (.tuple #[ptrV none, .bool false]) ∧ w' = w := by
  have hcall := Lib.hid (at_no_q h 0 (by simp))
  clear h
  go_enter Try.func48, Try.ntmps48
  go_wp2_with (go_at_call 85; refine hcall.out.mono ?_; rintro e w' ⟨rfl, rfl⟩)
  go_ret2
  exact ⟨rfl, rfl⟩
end Go.Proofs.Yteojodcdehkejaa
