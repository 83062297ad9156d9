/- The statements' ranged: the walk. -/
import Derived.Test.YtoodgjmgkjhpoaaRingRanged
namespace Go.Proofs.Ytoodgjmgkjhpoaa
open Go Go.RowKit
attribute [local go_sem] calmQ_normal wide_fn wide_depth Oper.semAt_some run_store_func

/-- how the range may be left: what was told is true -/
def rjI (N : Int) (h r : Nat) (ds : List Nat) (v : Value) (xs : List Int) (S : List Nat) (S' : List Nat) (pre : List (Int × Nat)) (W : World) : Prop :=
  ∃ ds' Sl l' xs', S' = rjF h r ds' Sl ∧ RJ h r ds v xs S pre.length ds' Sl l' xs' W ∧ xs'.length ≤ xs.length + 3 ∧ ((pre.length : Int) ≤ N → xs'.length ≤ xs.length)
def rjX (h r : Nat) (ds : List Nat) (v : Value) (xs : List Int) (S : List Nat) (c : Code) (S' : List Nat) (_pre : List (Int × Nat)) (W : World) : Prop :=
  c = .ret ∧ ∃ cn ds' Sl l' xs', S' = rjF h r ds' Sl ∧ RJ h r ds v xs S cn ds' Sl l' xs' W ∧ xs'.length ≤ xs.length + 3 ∧ Blk W (h + 3) 22 [l'] ∧ Blk W (h + 4) 4 [.bool true]

/-- the end of ranged: the results' cells are read, the block of deferred calls is put away -/
theorem ranged_end {w W2 W : World} {r : Nat} {ds : List Nat} {v : Value} {xs : List Int} {S : List Nat} {cn : Int} {ds' Sl : List Nat} {l' : Value} {xs' : List Int} {D : Nat}
    (k : RJ w.heap.size r ds v xs S cn ds' Sl l' xs' W) (hlen : xs'.length ≤ xs.length + 3) (h3 : Blk W (w.heap.size + 3) 22 [l']) (h4 : Blk W (w.heap.size + 4) 4 [.bool true])
    (f2 : Fr [] w W2) (hf : Fr (rjF w.heap.size r ds S) W2 W) (hz : W2.heap.size = w.heap.size + 9) (hD : W2.heap.size ≤ D) (hK : W.heap[D]? = some (.deferred (some []))) :
    (W.putObj D (.deferred none)).cell? ⟨w.heap.size + 3, 0, none⟩ = some l' ∧ (W.putObj D (.deferred none)).cell? ⟨w.heap.size + 4, 0, none⟩ = some (.bool true) ∧
      DidN w r ds S (xs.length + 3) (.returned (.tuple #[l', .bool true])) (W.putObj D (.deferred none)) := by
  have f3 : Fr [D] W (W.putObj D (.deferred none)) := (Fr.refl _ _).putObj _ (.inl (by simp))
  have hb := k.big
  have ring : Rgi (W.putObj D (.deferred none)) r ds' xs' := by
    obtain ⟨L, head, sv, q1, q2, q3⟩ := k.ring
    refine ⟨L, head, sv, q1.fr f3 ?_, q2, ?_⟩
    · intro hm; simp at hm; subst hm
      have := k.old r (.inl rfl); omega
    · rcases q3 with q3 | ⟨d, cs, h1, h2, h5, h6, h7⟩
      · exact .inl q3
      · refine .inr ⟨d, cs, h1, h2, h5, h6.fr f3 ?_, h7⟩
        intro hm; simp at hm; subst hm
        unfold Blk at h6; rw [hK] at h6; cases h6
  have list : OwnS (W.putObj D (.deferred none)) 3 1 l' xs'.length (xs'.flatMap encI) Sl := by
    refine k.list.fr f3 ?_
    intro b hb' hm
    simp at hm; subst hm
    rcases k.list.2 with ⟨_, _, rfl⟩ | ⟨g, cap, cur, _, rfl, hg, _⟩
    · simp at hb'
    · simp at hb'; subst hb'
      rw [hK] at hg; cases hg
  refine ⟨?_, ?_, l', Sl, ds', xs', rfl, ring, list, ?_, ?_, ?_, k.apart, hlen⟩
  · have := (h3.fr f3 (by simp; omega)).cell 0
    simpa using this
  · have := (h4.fr f3 (by simp; omega)).cell 0
    simpa using this
  · refine (f2.mono (T := r :: ds) (by simp)).trans (S' := (r :: ds) ++ rjF w.heap.size r ds S ++ [D]) ?_ ?_
    · intro x hx
      simp only [List.mem_append, List.mem_singleton] at hx
      rcases hx with (hx | hx) | hx
      · exact .inl hx
      · rw [mem_rjF] at hx
        rcases hx with hx | hx | hx | hx | hx | hx | hx
        · right; omega
        · right; omega
        · right; omega
        · right; omega
        · left; simp [hx]
        · left; simp [hx]
        · right; omega
      · right; omega
    · exact (hf.mono (by intro b hb; simp [hb])).trans' (f3.mono (by intro b hb; simp at hb; simp [hb]))
  · intro x hx
    rcases k.grd x hx with h | h
    · exact .inl h
    · right; omega
  · intro x hx
    rcases k.grs x hx with h | h
    · exact .inl h
    · right; omega

set_option maxRecDepth 100000 in
set_option maxHeartbeats 4000000 in
theorem ranged_ok {w : World} {r : Nat} {ds : List Nat} {xs : List Int} {v : Value} {S : List Nat} (hr : Rgi w r ds xs) (hv : OwnS w 3 1 v xs.length (xs.flatMap encI) S) (hd : ∀ x, x ∈ S → x ∉ r :: ds) (hn : xs.length ≤ 60000) (K o n V : Int) (hK : K = 8 ∨ K = 9 ∨ K = 10) :
    Calls Try.prog 45 #[.pointer (some ⟨r, 0, none⟩), v, .agg #[.int .i64 K, .int .i64 o, .int .i64 n, .int .i64 V]] w (DidN w r ds S (xs.length + 3)) := by
  refine callsIn_wide.1 (callsIn_of_wp_marks (n := 0) (F := Fence.wide) Try.func45 rfl trivial ?_ rfl)
  simp only [Try.ntmps45, List.size_toArray, List.length_cons, List.length_nil, Nat.reduceAdd, Nat.reduceSub, Array.replicate_succ, Array.replicate_zero, List.push_toArray, List.append_toArray, List.nil_append, List.cons_append]
  have HR := Lib.hid hr
  have HV := Lib.hid hv
  have HD := Lib.hid hd
  have hrl := Lib.hid hr.lt
  have hsl := Lib.hid hv.lt
  obtain ⟨m, hm⟩ : ∃ m, xs.length = m := ⟨_, rfl⟩
  have HM := Lib.hid hm
  obtain ⟨ao, cap, rfl⟩ := hv.val
  rw [hm] at hn ⊢
  clear hr hv hd hm
  gi_wp2_with fail
  obtain ⟨W0, hW0⟩ : ∃ W0, (((((w.alloc (.cells #[.pointer (some ⟨r, 0, none⟩)] 47)).alloc (.cells #[.slice ao m cap] 22)).alloc (.cells #[.int .i64 K, .int .i64 o, .int .i64 n, .int .i64 V] 64)).alloc (.cells #[.slice none 0 0] 22)).alloc (.cells #[.bool false] 4)) = W0 := ⟨_, rfl⟩
  have hz0 : W0.heap.size = w.heap.size + 5 := by rw [← hW0]; simp
  have q3 : Blk W0 w.heap.size 47 [.pointer (some ⟨r, 0, none⟩)] := by rw [← hW0]; exact ((((Blk.new w _ [_]).alloc _).alloc _).alloc _).alloc _
  have q4 : Blk W0 (w.heap.size + 1) 22 [.slice ao m cap] := by
    have := (((Blk.new (w.alloc (.cells #[.pointer (some ⟨r, 0, none⟩)] 47)) 22 [.slice ao m cap]).alloc (.cells #[.int .i64 K, .int .i64 o, .int .i64 n, .int .i64 V] 64)).alloc (.cells #[.slice none 0 0] 22)).alloc (.cells #[.bool false] 4)
    rw [← hW0]; simpa only [World.size_alloc, Nat.add_assoc, Nat.reduceAdd] using this
  have q5 : Blk W0 (w.heap.size + 2) 64 [.int .i64 K, .int .i64 o, .int .i64 n, .int .i64 V] := by
    have := ((Blk.new ((w.alloc (.cells #[.pointer (some ⟨r, 0, none⟩)] 47)).alloc (.cells #[.slice ao m cap] 22)) 64 [.int .i64 K, .int .i64 o, .int .i64 n, .int .i64 V]).alloc (.cells #[.slice none 0 0] 22)).alloc (.cells #[.bool false] 4)
    rw [← hW0]; simpa only [World.size_alloc, Nat.add_assoc, Nat.reduceAdd] using this
  have q6 : Blk W0 (w.heap.size + 3) 22 [.slice none 0 0] := by
    have := (Blk.new (((w.alloc (.cells #[.pointer (some ⟨r, 0, none⟩)] 47)).alloc (.cells #[.slice ao m cap] 22)).alloc (.cells #[.int .i64 K, .int .i64 o, .int .i64 n, .int .i64 V] 64)) 22 [.slice none 0 0]).alloc (.cells #[.bool false] 4)
    rw [← hW0]; simpa only [World.size_alloc, Nat.add_assoc, Nat.reduceAdd] using this
  have q7 : Blk W0 (w.heap.size + 4) 4 [.bool false] := by
    have := Blk.new ((((w.alloc (.cells #[.pointer (some ⟨r, 0, none⟩)] 47)).alloc (.cells #[.slice ao m cap] 22)).alloc (.cells #[.int .i64 K, .int .i64 o, .int .i64 n, .int .i64 V] 64)).alloc (.cells #[.slice none 0 0] 22)) 4 [.bool false]
    rw [← hW0]; simpa only [World.size_alloc, Nat.add_assoc, Nat.reduceAdd] using this
  have f0 : Fr [] w W0 := by rw [← hW0]; exact (((((Fr.refl [] w).alloc _).alloc _).alloc _).alloc _).alloc _
  rw [hW0]
  clear hW0
  simp only [Nat.add_assoc, Nat.reduceAdd]
  refine (wideIn _ (all_i _ r)).mono ?_
  rintro e w1 ⟨rfl, rfl⟩
  have z1 : (W0.alloc (.cells #[.pointer (some ⟨r, 0, none⟩)] 47)).heap.size = w.heap.size + 6 := by simp; omega
  have p3 := (q3.alloc (.cells #[.pointer (some ⟨r, 0, none⟩)] 47))
  have p4 := (q4.alloc (.cells #[.pointer (some ⟨r, 0, none⟩)] 47))
  have p5 := (q5.alloc (.cells #[.pointer (some ⟨r, 0, none⟩)] 47))
  have p6 := (q6.alloc (.cells #[.pointer (some ⟨r, 0, none⟩)] 47))
  have p7 := (q7.alloc (.cells #[.pointer (some ⟨r, 0, none⟩)] 47))
  have pc := Blk.new W0 47 [.pointer (some ⟨r, 0, none⟩)]
  have f1 := f0.alloc (.cells #[.pointer (some ⟨r, 0, none⟩)] 47)
  rw [hz0] at pc ⊢
  obtain ⟨W1, hW1⟩ : ∃ W1, W0.alloc (.cells #[.pointer (some ⟨r, 0, none⟩)] 47) = W1 := ⟨_, rfl⟩
  rw [hW1] at z1 p3 p4 p5 p6 p7 pc f1 ⊢
  clear q3 q4 q5 q6 q7 f0 hW1 hz0
  have c4 := p4.cell 0
  simp only [List.getElem?_cons_zero] at c4
  have l4 := p4.lt
  have l5 := pc.lt
  have l4' : w.heap.size + 1 < W1.heap.size + 1 := by omega
  have l4'' : w.heap.size + 1 < W1.heap.size + 1 + 1 := by omega
  have Z1 := Lib.hid z1
  clear z1
  have hfn : ∀ (f : Fn) (a b : Array Value) (X : World), (binOp .eql 54 (.func f a b) .nilFunc).run Try.prog X = .ok (.bool false) X := fun f a b X => run_eql_func_nil Try.underlying54 f a b
  gi_wp2_with fail
  obtain ⟨W2, hW2⟩ : ∃ W2, ((W1.alloc (.cells #[.func (.func 66) #[] #[.pointer (some ⟨w.heap.size + 5, 0, none⟩)]] 54)).alloc (.cells #[.int .i64 0] 3)).alloc (.cells #[.slice ao m cap] 22) = W2 := ⟨_, rfl⟩
  rw [hW2]
  have z2 : W2.heap.size = w.heap.size + 9 := by rw [← hW2]; simp [Z1.out]
  have f2 : Fr [] w W2 := by rw [← hW2]; exact ((f1.alloc _).alloc _).alloc _
  have g2 : Fr [] W1 W2 := by rw [← hW2]; exact (((Fr.refl [] W1).alloc _).alloc _).alloc _
  have P3 := Lib.hid (p3.fr g2 (by simp))
  have P5 := Lib.hid (p5.fr g2 (by simp))
  have PC := Lib.hid (pc.fr g2 (by simp))
  have P8 : Hid (Blk W2 (w.heap.size + 6) 54 [.func (.func 66) #[] #[.pointer (some ⟨w.heap.size + 5, 0, none⟩)]]) := by
    have := ((Blk.new W1 54 [.func (.func 66) #[] #[.pointer (some ⟨w.heap.size + 5, 0, none⟩)]]).alloc (.cells #[.int .i64 0] 3)).alloc (.cells #[.slice ao m cap] 22)
    rw [Z1.out] at this
    rw [← hW2]; exact this
  have P10 : Hid (Blk W2 (w.heap.size + 8) 22 [.slice ao m cap]) := by
    have := (Blk.new ((W1.alloc (.cells #[.func (.func 66) #[] #[.pointer (some ⟨w.heap.size + 5, 0, none⟩)]] 54)).alloc (.cells #[.int .i64 0] 3)) 22 [.slice ao m cap])
    rw [World.size_alloc, World.size_alloc, Z1.out] at this
    rw [← hW2]; exact this
  have J0 : Hid (RJ w.heap.size r ds (.slice ao m cap) xs S 0 ds S (.slice ao m cap) xs W2) := by
    have hv := HV.out
    rw [HM.out] at hv
    have hl := HM.out
    refine ⟨p4.fr g2 (by simp), ⟨_, p6.fr g2 (by simp)⟩, ⟨_, p7.fr g2 (by simp)⟩, ?_, HR.out.fr f2 (by simp), ?_, ?_, HD.out, HD.out, fun _ h => .inl h, fun _ h => .inl h, ?_, by omega⟩
    · have := (Blk.new (W1.alloc (.cells #[.func (.func 66) #[] #[.pointer (some ⟨w.heap.size + 5, 0, none⟩)]] 54)) 3 [.int .i64 0]).alloc (.cells #[.slice ao m cap] 22)
      rw [World.size_alloc, Z1.out] at this
      rw [← hW2]; exact this
    · rw [hl]; exact hv.fr f2 (by simp)
    · rw [hl]; exact hv.fr f2 (by simp)
    · rintro x (rfl | h | h)
      · exact hrl.out _ (by simp)
      · exact hrl.out x (by simp [h])
      · exact hsl.out x h
  have Z2 := Lib.hid z2
  have F2 := Lib.hid f2
  rw [Z1.out]
  simp only [Nat.add_assoc, Nat.reduceAdd]
  clear hW2 z2 f2 g2 p3 p4 p5 p6 p7 pc c4 l4 l5 l4' l4'' f1 Z1
  have hlocI : Loc W2.heap.size (rjI n w.heap.size r ds (.slice ao m cap) xs S) := by
    intro S' pre A B T ⟨ds', Sl, l', xs', hS', k, hlen⟩ f ht
    subst hS'
    rw [Z2.out] at ht
    exact ⟨ds', Sl, l', xs', rfl, k.loc f ht, hlen⟩
  have hlocX : ∀ c, Loc W2.heap.size (rjX w.heap.size r ds (.slice ao m cap) xs S c) := by
    intro c S' pre A B T ⟨hc, cn, ds', Sl, l', xs', hS', k, hlen, h1, h2⟩ f ht
    subst hS'
    rw [Z2.out] at ht
    exact ⟨hc, cn, ds', Sl, l', xs', rfl, k.loc f ht, hlen, h1.fr f (fun hm => (ht _ hm).2 (mem_rjF.2 (by simp))), h2.fr f (fun hm => (ht _ hm).2 (mem_rjF.2 (by simp)))⟩
  have hseq : SeqF Try.prog 66 #[.pointer (some ⟨w.heap.size + 5, 0, none⟩)] enti xs.zipIdx W2 := seq_i J0.out.ring (by simpa using PC.out.cell 0)
  refine wp_rangeF1 (gf := 66) (lb := #[.pointer (some ⟨w.heap.size + 5, 0, none⟩)]) rfl (enters_of Try.func66 (by kernel_rfl) rfl) hseq (fun _ => rfl)
    (rjI n w.heap.size r ds (.slice ao m cap) xs S) (rjX w.heap.size r ds (.slice ao m cap) xs S) (rjF w.heap.size r ds S)
    (by intro b hb; rw [mem_rjF] at hb; rw [Z2.out]; have h1 := J0.out.old b; rcases hb with h | h | h | h | h | h | h <;> first | omega | (have := h1 (.inl h); omega) | (have := h1 (.inr (.inl h)); omega) | (have := h1 (.inr (.inr h.1)); omega))
    hlocI hlocX ⟨ds, S, _, xs, rfl, J0.out, by omega, fun _ => Nat.le_refl _⟩
    ?_ ?assign ?body ?done ?stop
  case assign =>
    intro l x W K hK
    simp only [enti]
    gi_wp2
    exact hK
  case body =>
    rintro l pre x post S1 W hx hzW hg hf hl hnl hlr ⟨ds', Sl, l', xs', rfl, k, hlen, hlenN⟩
    have hpl : pre.length < m := by
      have := congrArg List.length hx
      rw [List.length_zipIdx, HM.out] at this
      simp at this
      omega
    obtain ⟨x0, hx0, rfl⟩ : ∃ x0, xs[pre.length]? = some x0 ∧ x = (x0, pre.length) := by
      have h1 : xs.zipIdx[pre.length]? = some x := by rw [hx]; simp
      rw [List.getElem?_zipIdx] at h1
      cases h2 : xs[pre.length]? with
      | none => rw [h2] at h1; cases h1
      | some x0 => rw [h2] at h1; simp at h1; exact ⟨x0, rfl, h1.symm⟩
    obtain ⟨p, hp⟩ : ∃ p, pre.length = p := ⟨_, rfl⟩
    have HPL : Hid ((pre ++ [(x0, p)]).length = p + 1) := by unfold Hid; simp [hp]
    have KJ : Hid (RJ w.heap.size r ds (.slice ao m cap) xs S p ds' Sl l' xs' W) := hp ▸ k
    rw [hp] at hpl hx0 hlenN ⊢
    obtain ⟨la, lc, rfl⟩ := KJ.out.list.val
    have G3 := Lib.hid (P3.out.fr hf (J0.out.notin (by omega) (by omega) (by omega)))
    have G5 := Lib.hid (P5.out.fr hf (J0.out.notin (by omega) (by omega) (by omega)))
    have G10 := Lib.hid (P10.out.fr hf (J0.out.notin (by omega) (by omega) (by omega)))
    obtain ⟨g, cap', hao, hS⟩ := (HM.out ▸ KJ.out.was : OwnS W 3 1 (.slice ao m cap) m (xs.flatMap encI) S).head (by omega)
    cases hao
    have cg : W.cell? ⟨g, p, none⟩ = some (.int .i64 x0) := by
      rw [(HM.out ▸ KJ.out.was : OwnS W 3 1 (.slice (some ⟨g, 0, none⟩) m cap) m (xs.flatMap encI) S).cellAt p (by omega), flat1, List.getElem?_map, hx0]
      rfl
    have c9 := KJ.out.b9.cell 0
    have c10 := G10.out.cell 0
    have c4 := KJ.out.b4.cell 0
    have d0 := G5.out.cell 0
    have d2 := G5.out.cell 2
    have d3 := G5.out.cell 3
    simp only [List.getElem?_cons_zero, List.getElem?_cons_succ] at c9 c10 c4 d0 d2 d3
    have q9 := KJ.out.b9.frz 0
    have q4 := KJ.out.b4.frz 0
    have fin : ∀ W' ds2 Sl2 l2 xs2, RJ w.heap.size r ds (.slice (some ⟨g, 0, none⟩) m cap) xs S ((p : Int) + 1) ds2 Sl2 l2 xs2 W' → xs2.length ≤ xs.length + 3 → (((p : Int) + 1) ≤ n → xs2.length ≤ xs.length) → Gr W ds' ds2 → Gr W Sl Sl2 → Fr (rjF w.heap.size r ds' Sl) W W' →
        postF (rjI n w.heap.size r ds (.slice (some ⟨g, 0, none⟩) m cap) xs S) (rjX w.heap.size r ds (.slice (some ⟨g, 0, none⟩) m cap) xs S) (rjF w.heap.size r ds' Sl) (pre ++ [(x0, p)]) W .normal ⟨#[], []⟩ W' := by
      intro W' ds2 Sl2 l2 xs2 k2 hl2 hl3 hg1 hg2 hf2
      refine ⟨_, KJ.out.gr hg1 hg2, hf2, ds2, Sl2, l2, xs2, rfl, ?_, hl2, ?_⟩
      · rw [HPL.out]
        exact k2
      · rw [HPL.out]
        exact fun h => hl3 (by simpa using h)
    have FIN := Lib.hid fin
    clear fin k hx hx0 hS hzW hg hp hlocI hlocX hseq
    have HLR := Lib.hid hlr
    have HF := Lib.hid hf
    clear hlr hf
    by_cases hpn : n = (p : Int)
    · subst hpn
      rcases hK with rfl | rfl | rfl
      · -- left behind n things
        obtain ⟨q6, b6⟩ := KJ.out.b6
        obtain ⟨q7, b7⟩ := KJ.out.b7
        have c6 := b6.cell 0
        have c7 := b7.cell 0
        simp only [List.getElem?_cons_zero] at c6 c7
        have z6 := b6.frz 0
        have z7 := b7.frz 0
        have B6 := Lib.hid b6
        have B7 := Lib.hid b7
        have b66 := b6.set 0 (.slice la xs'.length lc)
        have b77 := b7.set 0 (.bool true)
        simp only [List.set_cons_zero] at b66 b77
        have l6 := b6.lt
        have l7 := b7.lt
        have hm6 : w.heap.size + 3 ∈ rjF w.heap.size r ds' Sl := mem_rjF.2 (by simp)
        have hm7 : w.heap.size + 4 ∈ rjF w.heap.size r ds' Sl := mem_rjF.2 (by simp)
        have hret : postF (rjI p w.heap.size r ds (.slice (some ⟨g, 0, none⟩) m cap) xs S) (rjX w.heap.size r ds (.slice (some ⟨g, 0, none⟩) m cap) xs S) (rjF w.heap.size r ds' Sl) (pre ++ [(x0, p)]) W .ret ⟨#[], []⟩
            ((W.setCell ⟨w.heap.size + 3, 0, none⟩ (.slice la xs'.length lc)).setCell ⟨w.heap.size + 4, 0, none⟩ (.bool true)) := by
          refine ⟨_, Gr.refl _ _, ((Fr.refl _ _).setCell _ (.inl hm6)).setCell _ (.inl hm7), rfl, p, ds', Sl, _, xs', rfl, KJ.out.res _ _, hlen, b66.other (p := ⟨w.heap.size + 4, 0, none⟩) _ (by simp), ?_⟩
          exact (b7.other (p := ⟨w.heap.size + 3, 0, none⟩) _ (by simp)).set 0 _
        have RET := Lib.hid hret
        clear b6 b7 b66 b77 hret hm6 hm7
        gi_wp2_with fail
        exact RET.out
      · -- the ring is changed within
        gi_wp2_with fail
        rw [show decide (m ≤ p) = false from by simp; omega]
        clear c9 c10 q9 cg c4 d0 d2 d3 q4
        have L0 := hlenN (Int.le_refl _)
        gi_loopg [13] 4 (fun kk iv wr => ∃ j : Nat, kk + j = 4 ∧ j ≤ 3 ∧ iv = .int .i64 j ∧ ∃ ds2 Sl2 l2 xs2, Hid (RJ w.heap.size r ds (.slice (some ⟨g, 0, none⟩) m cap) xs S p ds2 Sl2 l2 xs2 wr) ∧ Hid (Gr W ds' ds2 ∧ Gr W Sl Sl2 ∧ Fr (rjF w.heap.size r ds' Sl) W wr) ∧ xs2.length ≤ xs.length + j)
        case atStart => exact ⟨0, by omega, by omega, rfl, ds', Sl, _, xs', KJ, ⟨Gr.refl _ _, Gr.refl _ _, Fr.refl _ _⟩, by omega⟩
        case round =>
          obtain ⟨j, hk, hj, rfl, ds2, Sl2, l2, xs2, K2, F2', hlen2⟩ := hrel
          obtain ⟨l2a, l2c, rfl⟩ := K2.out.list.val
          have e3 := (G3.out.fr F2'.out.2.2 (KJ.out.notin (by omega) (by omega) (by omega))).cell 0
          have B5 := Lib.hid (G5.out.fr F2'.out.2.2 (KJ.out.notin (by omega) (by omega) (by omega)))
          have e0 := B5.out.cell 0
          have e2 := B5.out.cell 2
          have d3 := B5.out.cell 3
          have c4 := K2.out.b4.cell 0
          have c9 := K2.out.b9.cell 0
          have q9 := K2.out.b9.frz 0
          simp only [List.getElem?_cons_zero, List.getElem?_cons_succ] at e3 e0 e2 d3 c4 c9
          have hcase : j = 0 ∨ j = 1 ∨ j = 2 ∨ j = 3 := by omega
          rcases hcase with rfl | rfl | rfl | rfl
          case' inr.inr.inr =>
            have hl3 : xs2.length ≤ xs.length + 3 := by omega
            gi_wp2_with fail
            refine FIN.out _ _ _ _ _ (K2.out.num _) hl3 (fun h => by omega) F2'.out.1 F2'.out.2.1 (F2'.out.2.2.trans (KJ.out.gr F2'.out.1 F2'.out.2.1) ((Fr.refl _ _).setCell _ (.inl (mem_rjF.2 (by simp)))))
          all_goals
            gi_wp2_with fail
            refine wpIn_head_tail 15 (by kernel_rfl) (by kernel_rfl) (by kernel_rfl) ?_
            simp only [List.take_succ_cons, List.take_zero, List.drop_succ_cons, List.drop_zero]
            repeat (first | go_big_quiet_step (fail) | quiet_step (fail))
            refine wpQuiet_nil ?_
            rintro _ ⟨nq, rfl⟩
            have hlm := HM.out
            go_wp2_with fail
            refine (do_ok (K2.out.ring.drewN nq) (K2.out.list.sim ⟨rfl, rfl, rfl, rfl⟩) K2.out.apart (by omega) _ 0 _ V).mono ?_
            rintro e w3 ⟨u, S3, ds3, xs3, rfl, k3, o3, f3, g3, gs3, ap3, hl3⟩
            have f3' : Fr (r :: ds2) wr w3 := ((Fr.refl (r :: ds2) wr).drewN nq).trans' f3
            have K3 := Lib.hid (K2.out.did k3 o3 f3' g3 gs3 ap3)
            have b4 := K2.out.b4.fr f3' (fun hm => by have := K2.out.farr _ hm; omega)
            have c4 := b4.cell 0
            have q4 := b4.frz 0
            simp only [List.getElem?_cons_zero] at c4
            obtain ⟨u1, u2, rfl⟩ := o3.val
            have F3 : Hid (Gr W ds' ds3 ∧ Gr W Sl S3 ∧ Fr (rjF w.heap.size r ds' Sl) W (w3.setCell ⟨w.heap.size + 1, 0, none⟩ (.slice u1 xs3.length u2))) := by
              refine ⟨F2'.out.1.trans F2'.out.2.2.size g3, F2'.out.2.1.trans F2'.out.2.2.size gs3, ?_⟩
              refine F2'.out.2.2.trans (KJ.out.gr F2'.out.1 F2'.out.2.1) ((f3'.mono (fun b hb => mem_rjF.2 ?_)).setCell _ (.inl (mem_rjF.2 (by simp))))
              rcases List.mem_cons.1 hb with hb | hb <;> simp [hb]
            clear k3 o3 f3 f3' g3 gs3 ap3 b4 hlm
            go_wp2
            rw [onlyN_normal]
            gi_wp2_with fail
            gi_roundg (gk - 1)
            case measure => omega
            case rel => first
              | exact ⟨1, by omega, by omega, by go_num, ds3, S3, _, xs3, K3, F3, by omega⟩
              | exact ⟨2, by omega, by omega, by go_num, ds3, S3, _, xs3, K3, F3, by omega⟩
              | exact ⟨3, by omega, by omega, by go_num, ds3, S3, _, xs3, K3, F3, by omega⟩
      · -- nested
        have G8 := Lib.hid (P8.out.fr HF.out (J0.out.notin (by omega) (by omega) (by omega)))
        have GC := Lib.hid (PC.out.fr HF.out (J0.out.notin (by omega) (by omega) (by omega)))
        have c8 := G8.out.cell 0
        simp only [List.getElem?_cons_zero] at c8
        have l8 := G8.out.lt
        have l1 := KJ.out.b4.lt
        gi_wp2_with fail
        rw [show decide (m ≤ p) = false from by simp; omega]
        clear c8 c9 c10 q9 cg c4 d0 d2 d3 q4 l8 l1
        obtain ⟨lr, hlr⟩ := HLR.out
        obtain ⟨W3, hW3⟩ : ∃ W3, W.alloc (.cells #[.int .i64 0] 3) = W3 := ⟨_, rfl⟩
        have f3 : Fr [] W W3 := by rw [← hW3]; exact (Fr.refl _ _).alloc _
        have B0 : Blk W3 W.heap.size 3 [.int .i64 (0 : Nat)] := by rw [← hW3]; exact Blk.new W 3 [.int .i64 0]
        have hlr3 : W3.heap[l]? = some (.loop lr) := (f3.block l (Array.getElem?_eq_some_iff.1 hlr).1 (by simp)).trans hlr
        have z3 : W3.heap.size = W.heap.size + 1 := by rw [← hW3]; simp
        have K3 := Lib.hid (KJ.out.fr0 f3)
        have hseq : SeqF Try.prog 66 #[.pointer (some ⟨w.heap.size + 5, 0, none⟩)] enti xs'.zipIdx W3 := seq_i K3.out.ring (by simpa using (GC.out.fr f3 (by simp)).cell 0)
        rw [hW3]
        obtain ⟨kb, hkb⟩ : ∃ kb, W.heap.size = kb := ⟨_, rfl⟩
        have HKB := Lib.hid hkb
        have F3 := Lib.hid f3
        have hbig := KJ.out.big
        rw [hkb] at z3 B0 hbig ⊢
        clear hW3 hkb f3 hlr
        have hloc2 : Loc W3.heap.size (fun S (pre : List (Int × Nat)) X => S = [kb] ∧ Blk X kb 3 [.int .i64 (pre.length : Nat)]) := by
          intro S pre A B T ⟨hS, hb⟩ f ht
          subst hS
          exact ⟨rfl, hb.fr f (fun hm => (ht _ hm).2 (by simp))⟩
        refine wp_rangeF_in1 hlr3 (gf := 66) (lb := #[.pointer (some ⟨w.heap.size + 5, 0, none⟩)]) rfl (enters_of Try.func66 (by kernel_rfl) rfl) hseq (fun _ => rfl)
          (fun S (pre : List (Int × Nat)) X => S = [kb] ∧ Blk X kb 3 [.int .i64 (pre.length : Nat)]) (fun _ _ _ _ => False) [kb] (by simp; omega) hloc2 (fun _ _ _ _ _ _ h _ _ => h) ⟨rfl, B0⟩
          ?_ ?assignN ?bodyN ?doneN ?stopN
        case assignN =>
          intro l x X K hK
          simp only [enti]
          gi_wp2
          exact hK
        case stopN => intro _ _ _ _ _ _ _ _ _ h; exact h.elim
        case bodyN =>
          rintro l2 pre2 x2 post2 S2 X hx2 hzX hg2 hf2 hl2 hnl2 hlr2 ⟨rfl, hb⟩
          have hpl2 : pre2.length < xs'.length := by
            have := congrArg List.length hx2
            rw [List.length_zipIdx] at this
            simp at this
            omega
          obtain ⟨y0, hy0, rfl⟩ : ∃ y0, xs'[pre2.length]? = some y0 ∧ x2 = (y0, pre2.length) := by
            have h1 : xs'.zipIdx[pre2.length]? = some x2 := by rw [hx2]; simp
            rw [List.getElem?_zipIdx] at h1
            cases h2 : xs'[pre2.length]? with
            | none => rw [h2] at h1; cases h1
            | some x0 => rw [h2] at h1; simp at h1; exact ⟨x0, rfl, h1.symm⟩
          have K4 := Lib.hid (KJ.out.new (Nat.le_of_eq HKB.out) F3.out hf2)
          obtain ⟨g2, c2', hv2, hS2⟩ := K4.out.list.head (by omega)
          cases hv2
          obtain ⟨p2, hp2⟩ : ∃ p2, pre2.length = p2 := ⟨_, rfl⟩
          have HPL2 : Hid ((pre2 ++ [(y0, p2)]).length = p2 + 1) := by unfold Hid; simp [hp2]
          rw [hp2] at hpl2 hy0 hb ⊢
          have e1 : X.cell? ⟨g2, p2, none⟩ = some (.int .i64 y0) := by
            rw [K4.out.list.cellAt p2 (by omega), flat1, List.getElem?_map, hy0]
            rfl
          have e2 := K4.out.b4.cell 0
          have e3 := hb.cell 0
          simp only [List.getElem?_cons_zero] at e2 e3
          have e4 := hb.frz 0
          have hst : postF (fun S (pre : List (Int × Nat)) X => S = [kb] ∧ Blk X kb 3 [.int .i64 (pre.length : Nat)]) (fun _ _ _ _ => False) [kb] (pre2 ++ [(y0, p2)]) X .normal ⟨#[], []⟩ (X.setCell ⟨kb, 0, none⟩ (.int .i64 ((p2 : Int) + 1))) := by
            refine ⟨[kb], Gr.refl _ _, (Fr.refl _ _).setCell _ (.inl (by simp)), rfl, ?_⟩
            have := hb.set 0 (.int .i64 ((p2 : Int) + 1))
            rw [HPL2.out]
            simpa using this
          have HST := Lib.hid hst
          have hl60 : xs'.length ≤ 60003 := by have := HM.out; omega
          clear hst hb hy0 hx2 hp2 hS2 hf2 hzX
          gi_wp2_with fail
          exact HST.out
        case doneN =>
          rintro S' X hgX hfX ⟨rfl, hb⟩
          rw [List.length_zipIdx] at hb
          have K4 := Lib.hid (KJ.out.new (Nat.le_of_eq HKB.out) F3.out hfX)
          have F4 : Hid (Fr (rjF w.heap.size r ds' Sl) W X) := (F3.out.trans (fun x hx => by simp at hx; subst hx; exact .inr (Nat.le_of_eq HKB.out)) hfX).mono (by simp)
          have e2 := K4.out.b4.cell 0
          have e3 := hb.cell 0
          have e5 := K4.out.b9.cell 0
          simp only [List.getElem?_cons_zero] at e2 e3 e5
          have e6 := K4.out.b9.frz 0
          have hl60 : xs'.length ≤ 60003 := by have := HM.out; omega
          have heq : (((xs'.length : Nat) : Int) == ((xs'.length : Nat) : Int)) = true := by simp
          clear hb hfX
          gi_wp2_with fail
          refine FIN.out _ _ _ _ _ (K4.out.num _) hlen (fun h => by omega) (Gr.refl _ _) (Gr.refl _ _) (F4.out.setCell _ (.inl (mem_rjF.2 (by simp))))
    · have hpn' : ((p : Int) == n) = false := by simp; omega
      rcases hK with rfl | rfl | rfl
      all_goals
        gi_wp2_with fail
        refine FIN.out _ _ _ _ _ (KJ.out.num _) hlen (fun h => hlenN (by omega)) (Gr.refl _ _) (Gr.refl _ _) ((Fr.refl _ _).setCell _ (.inl (mem_rjF.2 (by simp))))
  case stop =>
    rintro D c S' pre x post W hD hDS hg hf hx ⟨rfl, cn, ds', Sl, l', xs', rfl, k, hlen, h3, h4⟩ hK
    have HE := Lib.hid (ranged_end k hlen h3 h4 F2.out hf Z2.out hD hK)
    obtain ⟨r1, r2, r3⟩ := HE.out
    gi_wp2_with fail
    refine ⟨by simp, .inl ⟨_, _, rfl, run_takeDeferred hK, ?_⟩⟩
    refine ⟨.tuple #[l', .bool true], by simp [results, Try.results45, go_sem, r1, r2], ?_⟩
    rw [← HM.out]
    exact r3
  case done =>
    rintro D S' W hD hDS hg hf ⟨ds', Sl, l', xs', rfl, k, hlen, _⟩ hK
    rw [List.length_zipIdx] at k
    obtain ⟨la, lc, rfl⟩ := k.list.val
    have G10 := Lib.hid (P10.out.fr hf (J0.out.notin (by omega) (by omega) (by omega)))
    have c4 := k.b4.cell 0
    have c9 := k.b9.cell 0
    have c10 := G10.out.cell 0
    obtain ⟨q6, b6⟩ := k.b6
    obtain ⟨q7, b7⟩ := k.b7
    have c6 := b6.cell 0
    have c7 := b7.cell 0
    simp only [List.getElem?_cons_zero] at c4 c9 c10 c6 c7
    have z6 := b6.frz 0
    have z7 := b7.frz 0
    rw [HM.out] at c9
    have hDD : D ≠ w.heap.size + 3 ∧ D ≠ w.heap.size + 4 := by have := Z2.out; omega
    have hend : ((W.setCell ⟨w.heap.size + 3, 0, none⟩ (.slice la xs'.length lc)).setCell ⟨w.heap.size + 4, 0, none⟩ (.bool true)).drew.heap[D]? = some (.deferred (some [])) :=
      (Below.heap_setCell _ _ _ D (by simpa using hDD.2)).trans ((Below.heap_setCell _ _ _ D (by simpa using hDD.1)).trans hK)
    have hres := ranged_end ((k.res (.slice la xs'.length lc) (.bool true)).fr0 (Fr.refl [] _).drew) hlen (((b6.set 0 (.slice la xs'.length lc)).other (p := ⟨w.heap.size + 4, 0, none⟩) (.bool true) (by simp)).drew) (((b7.other (p := ⟨w.heap.size + 3, 0, none⟩) (.slice la xs'.length lc) (by simp)).set 0 (.bool true)).drew)
      F2.out (((hf.setCell _ (.inl (mem_rjF.2 (by simp)))).setCell _ (.inl (mem_rjF.2 (by simp)))).drew) Z2.out hD hend
    have HEND := Lib.hid hend
    have HRES := Lib.hid hres
    clear hend hres b6 b7 k hf hg hK
    gi_wp2_with fail
    refine wpIn_wide.2 ?_
    go_region_held3 (fun w' => w'.cell? ⟨w.heap.size + 1, 0, none⟩ = some (.slice la xs'.length lc) ∧ w'.cell? ⟨w.heap.size + 7, 0, none⟩ = some (.int .i64 m) ∧ w'.cell? ⟨w.heap.size + 8, 0, none⟩ = some (.slice ao m cap)) (go_keep) (fail)
    obtain ⟨r1, r2, r3⟩ := HRES.out
    gi_wp2_with fail
    refine ⟨by simp, .inl ⟨_, _, rfl, run_takeDeferred HEND.out, ?_⟩⟩
    refine ⟨.tuple #[.slice la xs'.length lc, .bool true], by simp [results, Try.results45, go_sem, r1, r2], ?_⟩
    rw [← HM.out]
    exact r3
end Go.Proofs.Ytoodgjmgkjhpoaa
