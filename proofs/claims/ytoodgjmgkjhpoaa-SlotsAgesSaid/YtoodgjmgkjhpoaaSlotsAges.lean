/- The statement SlotsAges: the walk: of whatever turns it answers true. -/
import Derived.Test.YtoodgjmgkjhpoaaSlotsPI
import Derived.Test.YtoodgjmgkjhpoaaSlotsTold
import Derived.Test.YtoodgjmgkjhpoaaArith
namespace Go.Proofs.Ytoodgjmgkjhpoaa
open Go Go.RowKit
attribute [local go_sem] calmQ_normal wide_fn wide_depth Oper.semAt_some

def alive (L : List (Slot Int)) (p : Nat × Nat) : Bool := match L[p.1]? with | some s => s.held && s.gen == p.2 | none => false
structure AG (L : List (Slot Int)) (G : List (Nat × Nat)) (cnt : Nat) : Prop where
  nd : G.Nodup
  le : ∀ p, p ∈ G → ∃ s, L[p.1]? = some s ∧ p.2 ≤ s.gen
  cnt : cnt = L.countP (·.held)
theorem alive_set {L : List (Slot Int)} {i : Nat} {s0 : Slot Int} (s1 : Slot Int) (p : Nat × Nat) (hs : L[i]? = some s0) : alive (L.set i s1) p = if p.1 = i then s1.held && s1.gen == p.2 else alive L p := by
  unfold alive
  by_cases h : p.1 = i
  · rw [if_pos h, h, List.getElem?_set_self (some_lt hs)]
  · rw [if_neg h, List.getElem?_set_ne (Ne.symm h)]
theorem AG.put {L : List (Slot Int)} {G : List (Nat × Nat)} {cnt i : Nat} {s : Slot Int} (h : AG L G cnt) (hs : L[i]? = some s) (hh : s.held = false) (v : Int) :
    AG (L.set i ⟨v, true, s.gen + 1⟩) (G ++ [(i, s.gen + 1)]) (cnt + 1) ∧ (G ++ [(i, s.gen + 1)]).map (alive (L.set i ⟨v, true, s.gen + 1⟩)) = G.map (alive L) ++ [true] := by
  obtain ⟨hil, hie⟩ := List.getElem?_eq_some_iff.1 hs
  have hnot : (i, s.gen + 1) ∉ G := fun hm => by
    obtain ⟨s', hs', hle⟩ := h.le _ hm
    rw [hs] at hs'
    cases hs'
    simp at hle
    omega
  refine ⟨⟨?_, fun p hp => ?_, ?_⟩, ?_⟩
  · rw [List.nodup_append]
    exact ⟨h.nd, by simp, by intro a ha b hb e; simp at hb; subst hb; subst e; exact hnot ha⟩
  · rw [List.mem_append] at hp
    rcases hp with hp | hp
    · obtain ⟨s', hs', hle⟩ := h.le p hp
      by_cases e : p.1 = i
      · rw [e] at hs' ⊢
        rw [hs] at hs'
        cases hs'
        exact ⟨_, List.getElem?_set_self hil, by simp; omega⟩
      · exact ⟨s', by rw [List.getElem?_set_ne (Ne.symm e)]; exact hs', hle⟩
    · simp at hp
      subst hp
      exact ⟨_, List.getElem?_set_self hil, by simp⟩
  · rw [List.countP_set hil, hie, hh, h.cnt]
    simp
  · rw [List.map_append]
    congr 1
    · refine List.map_congr_left fun p hp => ?_
      rw [alive_set _ p hs]
      by_cases e : p.1 = i
      · rw [if_pos e]
        obtain ⟨s', hs', hle⟩ := h.le p hp
        unfold alive
        rw [e] at hs' ⊢
        rw [hs] at hs' ⊢
        cases hs'
        simp [hh]
        omega
      · rw [if_neg e]
    · simp only [List.map_cons, List.map_nil]
      rw [alive_set _ _ hs]
      simp
theorem AG.drop {L : List (Slot Int)} {G : List (Nat × Nat)} {cnt k : Nat} {p : Nat × Nat} (h : AG L G cnt) (hk : G[k]? = some p) (ha : alive L p = true) :
    ∃ s c, L[p.1]? = some s ∧ s.held = true ∧ s.gen = p.2 ∧ cnt = c + 1 ∧ AG (L.set p.1 ⟨0, false, s.gen⟩) G c ∧ G.map (alive (L.set p.1 ⟨0, false, s.gen⟩)) = (G.map (alive L)).set k false := by
  obtain ⟨s, hs, _⟩ := h.le p (List.mem_of_getElem? hk)
  unfold alive at ha
  rw [hs] at ha
  simp at ha
  obtain ⟨hil, hie⟩ := List.getElem?_eq_some_iff.1 hs
  have hpos : 0 < cnt := by
    rw [h.cnt, List.countP_pos_iff]
    exact ⟨s, List.mem_of_getElem? hs, ha.1⟩
  refine ⟨s, cnt - 1, hs, ha.1, ha.2, by omega, ⟨h.nd, fun q hq => ?_, ?_⟩, ?_⟩
  · obtain ⟨s', hs', hle⟩ := h.le q hq
    by_cases e : q.1 = p.1
    · rw [e] at hs' ⊢
      rw [hs] at hs'
      cases hs'
      exact ⟨_, List.getElem?_set_self hil, hle⟩
    · exact ⟨s', by rw [List.getElem?_set_ne (Ne.symm e)]; exact hs', hle⟩
  · rw [List.countP_set hil, hie, ha.1, h.cnt]
    simp
  · obtain ⟨hkl, hke⟩ := List.getElem?_eq_some_iff.1 hk
    refine List.ext_getElem (by simp) fun j h1 h2 => ?_
    simp only [List.length_map, List.length_set] at h1 h2
    rw [List.getElem_map, List.getElem_set, List.getElem_map, alive_set _ _ hs]
    by_cases e : k = j
    · subst e
      rw [if_pos rfl, hke, if_pos rfl]
      rfl
    · rw [if_neg e]
      by_cases e2 : G[j].1 = p.1
      · rw [if_pos e2]
        have hne : G[j].2 ≠ s.gen := fun e3 => by
          have : G[j] = G[k] := by rw [hke]; exact Prod.ext e2 (by rw [e3, ha.2])
          have hp := List.pairwise_iff_getElem.1 h.nd
          rcases Nat.lt_or_ge k j with h3 | h3
          · exact hp k j hkl h1 h3 this.symm
          · exact hp j k h1 hkl (by omega) this
        unfold alive
        rw [e2, hs]
        simp
        intro _
        exact fun h => hne h.symm
      · rw [if_neg e2]

theorem get_alive {w : World} {b d last cnt : Nat} {L : List (Slot Int)} (h : Sli w b d last L cnt) (p : Nat × Nat) :
    Calls Try.prog 14 #[.pointer (some ⟨b, 0, none⟩), .agg #[.int .i64 p.1, .int .i64 p.2]] w fun e w' => ∃ v, e = .returned (.tuple #[.int .i64 v, .int .i64 (if alive L p then 0 else 60)]) ∧ Fr [] w w' := by
  by_cases ha : alive L p = true
  · rw [if_pos ha]
    unfold alive at ha
    cases hs : L[p.1]? with
    | none => rw [hs] at ha; cases ha
    | some s =>
      rw [hs] at ha
      simp at ha
      rw [← ha.2]
      exact (get_yesi h hs ha.1).mono fun e w' ⟨h1, h2⟩ => ⟨_, h1, h2⟩
  · rw [if_neg ha]
    refine (get_noi h p.1 p.2 ?_).mono fun e w' ⟨h1, h2⟩ => ⟨_, h1, h2⟩
    intro s _ hs hh e
    refine ha ?_
    unfold alive
    rw [show L[p.1]? = some s from by simpa using hs]
    simp [hh]
    omega

theorem handleInfo6 : (Try.prog.info? 32).map (fun i => (i.zero, i.size, i.bytes)) = some (some (.agg #[.int .i64 0, .int .i64 0]), 2, 16) := by kernel_rfl
theorem boolInfo6 : (Try.prog.info? 4).map (fun i => (i.zero, i.size, i.bytes)) = some (some (.bool false), 1, 1) := by kernel_rfl

def genAt (L : List (Slot Int)) (k : Nat) : Nat := match L[k]? with | some s => s.gen | none => 0
def heldAt (L : List (Slot Int)) (k : Nat) : Nat := match L[k]? with | some s => if s.held then 1 else 0 | none => 0
def tms (L : List (Slot Int)) : List Value := (List.range 16).map fun k => .int .i64 (genAt L k)
def bsy (L : List (Slot Int)) : List Value := (List.range 16).map fun k => .int .i64 (heldAt L k)
theorem tms_at {L : List (Slot Int)} {k : Nat} {s : Slot Int} (hk : k < 16) (hs : L[k]? = some s) : (tms L)[k]? = some (.int .i64 s.gen) := by
  unfold tms genAt
  simp [hk, hs]
theorem bsy_at {L : List (Slot Int)} {k : Nat} {s : Slot Int} (hk : k < 16) (hs : L[k]? = some s) : (bsy L)[k]? = some (.int .i64 (if s.held then 1 else 0 : Nat)) := by
  unfold bsy heldAt
  simp [hk, hs]
theorem tms_set {L : List (Slot Int)} {k : Nat} (s : Slot Int) (hk : k < L.length) : tms (L.set k s) = (tms L).set k (.int .i64 s.gen) := by
  refine List.ext_getElem (by simp [tms]) fun j h1 h2 => ?_
  simp [tms] at h1
  simp only [tms, List.getElem_map, List.getElem_range, List.getElem_set, genAt]
  by_cases e : k = j
  · subst e; simp [hk]
  · simp [e, List.getElem?_set_ne e]
theorem bsy_set {L : List (Slot Int)} {k : Nat} (s : Slot Int) (hk : k < L.length) : bsy (L.set k s) = (bsy L).set k (.int .i64 (if s.held then 1 else 0 : Nat)) := by
  refine List.ext_getElem (by simp [bsy]) fun j h1 h2 => ?_
  simp [bsy] at h1
  simp only [bsy, List.getElem_map, List.getElem_range, List.getElem_set, heldAt]
  by_cases e : k = j
  · subst e; simp [hk]
  · simp [e, List.getElem?_set_ne e]
theorem tms_keep {L : List (Slot Int)} {k : Nat} {s t : Slot Int} (hs : L[k]? = some s) (hg : t.gen = s.gen) : tms (L.set k t) = tms L := by
  refine List.ext_getElem (by simp [tms]) fun j h1 h2 => ?_
  simp only [tms, List.getElem_map, List.getElem_range, genAt]
  by_cases e : k = j
  · subst e; rw [List.getElem?_set_self (some_lt hs), hs]; simp [hg]
  · simp [List.getElem?_set_ne e]

def lvs (L : List (Slot Int)) (G : List (Nat × Nat)) : List Value := (G.map (alive L)).map .bool
def encH (p : Nat × Nat) : List Value := [.int .i64 p.1, .int .i64 p.2]
theorem encH_len (p : Nat × Nat) : (encH p).length = 2 := rfl

structure AgeP (w wr : World) (b d T tb bb : Nat) (gv lv : Value) (L : List (Slot Int)) (cnt : Nat) (tcs bcs : List Value) (ng : Nat) (gs : List Value) (nl : Nat) (ls : List Value) (S1 S2 : List Nat) : Prop where
  sl : Sli wr b d T L cnt
  ht : Blk wr tb 30 tcs
  hb : Blk wr bb 30 bcs
  hg : OwnS wr 32 2 gv ng gs S1
  hl : OwnS wr 4 1 lv nl ls S2
  out : ∀ x, x ∈ S1 ∨ x ∈ S2 → x ∉ [b, d, tb, bb] ∧ w.heap.size ≤ x
  dis : ∀ x, x ∈ S1 → x ∉ S2
  old : ∀ x, x ∈ [b, d, tb, bb] → w.heap.size ≤ x
  n1 : tb ∉ [b, d] ∧ bb ∉ [b, d] ∧ tb ≠ bb
  fr : Fr [] w wr
section
variable {w wr : World} {b d T tb bb : Nat} {gv lv : Value} {L : List (Slot Int)} {cnt : Nat} {tcs bcs : List Value} {ng : Nat} {gs : List Value} {nl : Nat} {ls : List Value} {S1 S2 : List Nat}
theorem AgeP.fr0 (h : AgeP w wr b d T tb bb gv lv L cnt tcs bcs ng gs nl ls S1 S2) {w' : World} (f : Fr [] wr w') : AgeP w w' b d T tb bb gv lv L cnt tcs bcs ng gs nl ls S1 S2 :=
  ⟨h.sl.fr f (by simp), h.ht.fr f (by simp), h.hb.fr f (by simp), h.hg.fr f (by simp), h.hl.fr f (by simp), h.out, h.dis, h.old, h.n1, h.fr.trans' f⟩
theorem AgeP.slots (h : AgeP w wr b d T tb bb gv lv L cnt tcs bcs ng gs nl ls S1 S2) {w' : World} {L' : List (Slot Int)} {cnt' : Nat} (k : Sli w' b d T L' cnt') (f : Fr [b, d] wr w') : AgeP w w' b d T tb bb gv lv L' cnt' tcs bcs ng gs nl ls S1 S2 :=
  ⟨k, h.ht.fr f h.n1.1, h.hb.fr f h.n1.2.1, h.hg.fr f (fun x hx => by have := (h.out x (.inl hx)).1; simp at this ⊢; omega), h.hl.fr f (fun x hx => by have := (h.out x (.inr hx)).1; simp at this ⊢; omega), h.out, h.dis, h.old, h.n1,
   h.fr.trans (fun x hx => .inr (h.old x (by simp at hx ⊢; omega))) f⟩
theorem AgeP.setT (h : AgeP w wr b d T tb bb gv lv L cnt tcs bcs ng gs nl ls S1 S2) (k : Nat) (v : Value) : AgeP w (wr.setCell ⟨tb, k, none⟩ v) b d T tb bb gv lv L cnt (tcs.set k v) bcs ng gs nl ls S1 S2 := by
  have f : Fr [tb] wr (wr.setCell ⟨tb, k, none⟩ v) := (Fr.refl _ _).setCell _ (.inl (by simp))
  have n1 := h.n1
  simp at n1
  exact ⟨h.sl.fr f (by simp; omega), h.ht.set k v, h.hb.fr f (by simp; omega), h.hg.fr f (fun x hx => by have := (h.out x (.inl hx)).1; simp at this ⊢; omega), h.hl.fr f (fun x hx => by have := (h.out x (.inr hx)).1; simp at this ⊢; omega), h.out, h.dis, h.old, h.n1,
   h.fr.trans (fun x hx => .inr (h.old x (by simp at hx ⊢; omega))) f⟩
theorem AgeP.setB (h : AgeP w wr b d T tb bb gv lv L cnt tcs bcs ng gs nl ls S1 S2) (k : Nat) (v : Value) : AgeP w (wr.setCell ⟨bb, k, none⟩ v) b d T tb bb gv lv L cnt tcs (bcs.set k v) ng gs nl ls S1 S2 := by
  have f : Fr [bb] wr (wr.setCell ⟨bb, k, none⟩ v) := (Fr.refl _ _).setCell _ (.inl (by simp))
  have n1 := h.n1
  simp at n1
  exact ⟨h.sl.fr f (by simp; omega), h.ht.fr f (by simp; omega), h.hb.set k v, h.hg.fr f (fun x hx => by have := (h.out x (.inl hx)).1; simp at this ⊢; omega), h.hl.fr f (fun x hx => by have := (h.out x (.inr hx)).1; simp at this ⊢; omega), h.out, h.dis, h.old, h.n1,
   h.fr.trans (fun x hx => .inr (h.old x (by simp at hx ⊢; omega))) f⟩
theorem AgeP.lt (h : AgeP w wr b d T tb bb gv lv L cnt tcs bcs ng gs nl ls S1 S2) : b < wr.heap.size ∧ d < wr.heap.size ∧ tb < wr.heap.size ∧ bb < wr.heap.size := ⟨h.sl.hb.lt, h.sl.hd.lt, h.ht.lt, h.hb.lt⟩
theorem AgeP.app1 (h : AgeP w wr b d T tb bb gv lv L cnt tcs bcs ng gs nl ls S1 S2) {w' : World} {gv' : Value} {ng' : Nat} {gs' : List Value} {S1' : List Nat} (k : OwnS w' 32 2 gv' ng' gs' S1') (g : Gr wr S1 S1') (f : Fr S1 wr w') : AgeP w w' b d T tb bb gv' lv L cnt tcs bcs ng' gs' nl ls S1' S2 := by
  have ho := fun x hx => (h.out x (.inl hx)).1
  obtain ⟨l1, l2, l3, l4⟩ := h.lt
  have hz := h.fr.size
  have hn : ∀ x, x ∈ [b, d, tb, bb] → x ∉ S1 := fun x hx hm => ho x hm hx
  refine ⟨h.sl.fr f (fun x hx => hn x (by simp at hx ⊢; omega)), h.ht.fr f (hn _ (by simp)), h.hb.fr f (hn _ (by simp)), k, h.hl.fr f (fun x hx hm => h.dis x hm hx), fun x hx => ?_, fun x hx => ?_, h.old, h.n1, h.fr.trans (fun x hx => .inr (h.out x (.inl hx)).2) f⟩
  · rcases hx with hx | hx
    · rcases g x hx with h' | h'
      · exact h.out x (.inl h')
      · simp; omega
    · exact h.out x (.inr hx)
  · rcases g x hx with h' | h'
    · exact h.dis x h'
    · intro hm
      have := h.hl.lt x hm
      omega
theorem AgeP.setL {gl cap : Nat} (h : AgeP w wr b d T tb bb gv (.slice (some ⟨gl, 0, none⟩) nl cap) L cnt tcs bcs ng gs nl ls S1 S2) (hS : S2 = [gl]) (k : Nat) (v : Value) : AgeP w (wr.setCell ⟨gl, k, none⟩ v) b d T tb bb gv (.slice (some ⟨gl, 0, none⟩) nl cap) L cnt tcs bcs ng gs nl (ls.set k v) S1 S2 := by
  have f : Fr [gl] wr (wr.setCell ⟨gl, k, none⟩ v) := (Fr.refl _ _).setCell _ (.inl (by simp))
  have ho := (h.out gl (.inr (by rw [hS]; simp))).1
  have hw := (h.out gl (.inr (by rw [hS]; simp))).2
  have hn : ∀ x, x ∈ [b, d, tb, bb] → x ∉ [gl] := fun x hx hm => by simp at hm; subst hm; exact ho hx
  exact ⟨h.sl.fr f (fun x hx => hn x (by simp at hx ⊢; omega)), h.ht.fr f (hn _ (by simp)), h.hb.fr f (hn _ (by simp)), h.hg.fr f (fun x hx hm => h.dis x hx (by rw [hS]; exact hm)), h.hl.set k v, h.out, h.dis, h.old, h.n1,
    h.fr.trans (fun x hx => .inr (by simp at hx; subst hx; exact hw)) f⟩
theorem AgeP.app2 (h : AgeP w wr b d T tb bb gv lv L cnt tcs bcs ng gs nl ls S1 S2) {w' : World} {lv' : Value} {nl' : Nat} {ls' : List Value} {S2' : List Nat} (k : OwnS w' 4 1 lv' nl' ls' S2') (g : Gr wr S2 S2') (f : Fr S2 wr w') : AgeP w w' b d T tb bb gv lv' L cnt tcs bcs ng gs nl' ls' S1 S2' := by
  have ho := fun x hx => (h.out x (.inr hx)).1
  obtain ⟨l1, l2, l3, l4⟩ := h.lt
  have hz := h.fr.size
  have hn : ∀ x, x ∈ [b, d, tb, bb] → x ∉ S2 := fun x hx hm => ho x hm hx
  refine ⟨h.sl.fr f (fun x hx => hn x (by simp at hx ⊢; omega)), h.ht.fr f (hn _ (by simp)), h.hb.fr f (hn _ (by simp)), h.hg.fr f (fun x hx hm => h.dis x hx hm), k, fun x hx => ?_, fun x hx => ?_, h.old, h.n1, h.fr.trans (fun x hx => .inr (h.out x (.inr hx)).2) f⟩
  · rcases hx with hx | hx
    · exact h.out x (.inl hx)
    · rcases g x hx with h' | h'
      · exact h.out x (.inr h')
      · simp; omega
  · intro hm
    rcases g x hm with h' | h'
    · exact h.dis x hx h'
    · have := h.hg.lt x hx
      omega
end

theorem put_some_i {w : World} {b d last cnt : Nat} {L : List (Slot Int)} (h : Sli w b d last L cnt) (hcnt : cnt ≤ 65536) (v : Int) {i : Nat} {s : Slot Int} (hi : freeIdx last L = some i) (hs : L[i]? = some s) :
    Calls Try.prog 12 #[.pointer (some ⟨b, 0, none⟩), .int .i64 v] w fun e w' => e = .returned (.tuple #[.agg #[.int .i64 i, .int .i64 (s.gen + 1 : Int)], .int .i64 0]) ∧ Sli w' b d last (L.set i ⟨v, true, s.gen + 1⟩) (cnt + 1) ∧ Fr [b, d] w w' := by
  refine (puti h hcnt v).mono ?_
  intro e w' hp
  unfold PutPosti at hp
  rw [hi] at hp
  obtain ⟨s', hs', h1, h2, h3⟩ := hp
  rw [hs] at hs'
  cases hs'
  exact ⟨h1, h2, h3⟩
theorem put_none_i {w : World} {b d last cnt : Nat} {L : List (Slot Int)} (h : Sli w b d last L cnt) (hcnt : cnt ≤ 65536) (v : Int) (hi : freeIdx last L = none) :
    Calls Try.prog 12 #[.pointer (some ⟨b, 0, none⟩), .int .i64 v] w fun e w' => e = .returned (.tuple #[.agg #[.int .i64 0, .int .i64 0], .int .i64 61]) ∧ Fr [] w w' := by
  refine (puti h hcnt v).mono ?_
  intro e w' hp
  unfold PutPosti at hp
  rw [hi] at hp
  exact hp

set_option maxRecDepth 100000 in
set_option maxHeartbeats 4000000 in
theorem ages_walk (w : World) (a0 a1 : Int) (ao : Option Addr) (len cap : Nat) (zs : List Int) (hlm : len ≤ maxLen)
    (_w0 : (Lit.int .i64 a0).wf = true) (_w1 : (Lit.int .i64 a1).wf = true)
    (hcell : ∀ k, k < len → ∃ b off, ao = some ⟨b, off, none⟩ ∧ w.cell? ⟨b, off + k, none⟩ = some (.int .i64 (zs.getD k 0)) ∧ (Lit.int .i64 (zs.getD k 0)).wf = true) :
    Calls Try.prog 3 #[.int .i64 a0, .int .i64 a1, .slice ao len cap] w fun e w' => e = .returned (.bool true) ∧ Fr [] w w' := by
  obtain ⟨i0, hi, hz0, hz1, hz2⟩ := info_parts handleInfo6
  obtain ⟨j0, hj, hy0, hy1, hy2⟩ := info_parts boolInfo6
  obtain ⟨N, hN, hN1, hN2⟩ := and_up a0 15 (by omega)
  obtain ⟨T, hT, hT1, hT2⟩ := and_up a1 7 (by omega)
  have HN := Lib.hid hN
  have HT := Lib.hid hT
  unfold maxLen at hlm
  have HC := Lib.hid hcell
  clear hcell hN hT
  go_enter Try.func3, Try.ntmps3
  go_wp2_with fail
  rw [show wrap64 (bits .and .i64 a0 15 + 1) = (N : Int) from HN.out, show wrap64 (bits .and .i64 a1 7 + 1) = (T : Int) from HT.out]
  refine (snew_yesi w N T hN1 (by omega) hT1 (by omega)).mono ?_
  rintro e w1 ⟨b, d, rfl, h1, f1, hb, hd⟩
  go_wp2_with fail
  refine (told6 w1).mono ?_
  rintro e w2 ⟨rfl, f2⟩
  have H2 := Lib.hid (h1.fr f2 (by simp))
  have F2 := Lib.hid (f1.trans' f2)
  have hbl := H2.out.hb.lt
  have hdl := H2.out.hd.lt
  clear h1 f1 f2
  go_wp2_with fail
  obtain ⟨R, hR1, hR2, hR3⟩ : ∃ R : Nat, R ≤ len ∧ R ≤ 200 ∧ Hid (len ≤ R ∨ 200 ≤ R) := ⟨min len 200, by omega, by omega, by unfold Hid; omega⟩
  go_loopg [9, 10, 13] R (fun k gv lv iv wr => ∃ j : Nat, k + j = R ∧ iv = .int .i64 j ∧ ∃ L G cnt S1 S2, Hid (G.length ≤ j ∧ L.length = N ∧ AG L G cnt ∧ AgeP w wr b d T w2.heap.size (w2.heap.size + 1) gv lv L cnt (tms L) (bsy L) G.length (G.flatMap encH) G.length (lvs L G) S1 S2))
  case atStart =>
    have hz2' := F2.out.size
    refine ⟨0, by omega, rfl, List.replicate N ⟨0, false, 0⟩, [], 0, [], [], by simp, by simp, ⟨by simp, by simp, by simp [List.countP_replicate]⟩, ?_⟩
    have e1 : tms (List.replicate N ⟨0, false, 0⟩) = List.replicate 16 (.int .i64 0) := by
      refine List.ext_getElem (by simp [tms]) fun j h1 h2 => ?_
      simp only [tms, List.getElem_map, List.getElem_range, List.getElem_replicate, genAt, List.getElem?_replicate]
      by_cases e : j < N <;> simp [e]
    have e2 : bsy (List.replicate N ⟨0, false, 0⟩) = List.replicate 16 (.int .i64 0) := by
      refine List.ext_getElem (by simp [bsy]) fun j h1 h2 => ?_
      simp only [bsy, List.getElem_map, List.getElem_range, List.getElem_replicate, heldAt, List.getElem?_replicate]
      by_cases e : j < N <;> simp [e]
    rw [e1, e2]
    refine ⟨H2.out.fr (((Fr.refl [] w2).alloc _).alloc _) (by simp), ?_, ?_, OwnS.nil _ _ _, OwnS.nil _ _ _, by simp, by simp, fun x hx => by simp at hx; omega, by simp; omega, (F2.out.alloc _).alloc _⟩
    · exact (Blk.new w2 30 (List.replicate 16 (.int .i64 0))).alloc _
    · have q := Blk.new (w2.alloc (.cells (List.replicate 16 (Value.int .i64 0)).toArray 30)) 30 (List.replicate 16 (.int .i64 0))
      rw [World.size_alloc] at q
      exact q
  case round =>
    obtain ⟨j, hk, rfl, L, G, cnt, S1, S2, hR⟩ := hrel
    by_cases hjR : j < R
    · obtain ⟨b0, off, hao, hc0, hwf0⟩ := HC.out j (by omega)
      have hx0 := (hR.out.2.2.2.fr.cell (p := ⟨b0, off + j, none⟩) (World.block_lt_of_cell? _ _ hc0) (by simp)).trans hc0
      generalize zs.getD j 0 = z at *
      subst hao
      obtain ⟨ga, gcap, rfl⟩ := hR.out.2.2.2.hg.val
      have hGj := hR.out.1
      have hLN := hR.out.2.1
      have hdec : (0 < z ∨ (z ≤ 0 ∧ ((G.length : Int) == 0) = true)) ∨ (z ≤ 0 ∧ 0 < G.length) := by rw [beq_iff_eq]; omega
      rcases hdec with hput | ⟨hz0, hG0⟩
      · have hlt := hR.out.2.2.2.lt
        rcases hput with hz | ⟨hz, hG0⟩
        all_goals
          go_wp2_with fail
          go_loopg [14] (N + 1) (fun k li wl => ∃ m : Nat, k + m = N + 1 ∧ m ≤ N ∧ li = .int .i64 m ∧ wl = wr ∧ Hid (∀ (j' : Nat) (s' : Slot Int), j' < m → L[j']? = some s' → s'.held = true ∨ s'.gen = T))
          case atStart => exact ⟨0, by omega, by omega, rfl, rfl, fun j' _ h => by omega⟩
          case round =>
            obtain ⟨m, hk2, hm, rfl, rfl, hsk⟩ := hrel
            by_cases hmN : m < N
            · obtain ⟨s, hs⟩ : ∃ s, L[m]? = some s := ⟨L[m]'(by omega), by simp [show m < L.length by omega]⟩
              have c0 := (hR.out.2.2.2.ht.cell m).trans (tms_at (by omega) hs)
              have c1 := (hR.out.2.2.2.hb.cell m).trans (bsy_at (by omega) hs)
              have hgl : s.gen ≤ T := hR.out.2.2.2.sl.gens s (List.mem_of_getElem? hs)
              have HS := Lib.hid hs
              have hstep : Hid (s.held = true ∨ s.gen = T → ∀ (j' : Nat) (s' : Slot Int), j' < m + 1 → L[j']? = some s' → s'.held = true ∨ s'.gen = T) := fun hor j' s' hj' hs' => by
                by_cases e : j' = m
                · subst e
                  have := HS.out
                  rw [hs'] at this
                  cases this
                  exact hor
                · exact hsk.out j' s' (by omega) hs'
              clear hs
              cases hh : s.held with
              | true =>
                rw [hh] at c1
                simp only [if_true] at c1
                have hor : Hid (s.held = true ∨ s.gen = T) := .inl hh
                clear hh
                go_wp2
                go_roundg (gk - 1)
                case measure => omega
                case rel => exact ⟨m + 1, by omega, by omega, by go_num, rfl, hstep.out hor.out⟩
              | false =>
                rw [hh] at c1
                simp only [Bool.false_eq_true, if_false] at c1
                have hh' := Lib.hid hh
                clear hh
                by_cases hgn : s.gen = T
                · have hor : Hid (s.held = true ∨ s.gen = T) := .inr hgn
                  rw [hgn] at c0
                  clear hgn
                  go_wp2
                  go_roundg (gk - 1)
                  case measure => omega
                  case rel => exact ⟨m + 1, by omega, by omega, by go_num, rfl, hstep.out hor.out⟩
                · have hne3 : ((s.gen : Int) == (T : Int)) = false := by rw [beq_eq_false_iff_ne]; omega
                  have hfree : Hid (freeIdx T L = some m) := freeIdx_some HS.out hh'.out hgn (fun j' s' hj' hs' => hsk.out j' s' hj' hs')
                  have hcnt : cnt ≤ 65536 := by
                    rw [hR.out.2.2.1.cnt]
                    exact Nat.le_trans List.countP_le_length (by omega)
                  have hcall := Lib.hid (put_some_i hR.out.2.2.2.sl hcnt (j : Int) hfree.out HS.out)
                  clear hgn hstep
                  go_wp2_with fail
                  refine hcall.out.mono ?_
                  rintro e w3 ⟨rfl, h3, f3⟩
                  have P3 := Lib.hid (hR.out.2.2.2.slots h3 f3)
                  clear h3 f3 hcall
                  have q0 := (P3.out.ht.cell m).trans (tms_at (by omega) HS.out)
                  have q1 := (P3.out.hb.cell m).trans (bsy_at (by omega) HS.out)
                  have q2 := P3.out.ht.frz m
                  have q3 := P3.out.hb.frz m
                  obtain ⟨l1, l2, l3, l4⟩ := P3.out.lt
                  have hmN2 : ((m : Int) == (N : Int)) = false := by rw [beq_eq_false_iff_ne]; omega
                  go_wp2_with fail
                  have P4 := Lib.hid (fun q => ((((P3.out.setT m (.int .i64 (s.gen + 1 : Int))).setB m (.int .i64 1)).fr0 ((Fr.refl [] _).alloc (.cells #[.int .i64 m, .int .i64 (s.gen + 1 : Int)] 32))).fr0 ((Fr.refl [] _).drewN q)).fr0 ((Fr.refl [] _).alloc (.cells #[.int .i64 m, .int .i64 (s.gen + 1 : Int)] 32)))
                  go_quiet (fail)
                  go_wp2_with (at_builtin; refine wpList_append_S _ rfl (.tmp 111) (.tmp 113) 28 rfl 32 i0 (.agg #[.int .i64 0, .int .i64 0]) 2 16 Try.underlying28 hi hz0 hz1 hz2 rfl _ _ _ _ rfl (P4.out nq).hg ⟨w3.heap.size + 1, 0, none⟩ 1 1 [.int .i64 m, .int .i64 (s.gen + 1 : Int)] rfl rfl ?c1 ?c2 ?c3 ?c4 ?_)
                  case c1 =>
                    have q := (Blk.new ((((w3.setCell ⟨w2.heap.size, m, none⟩ (.int .i64 (s.gen + 1 : Int))).setCell ⟨w2.heap.size + 1, m, none⟩ (.int .i64 1)).alloc (.cells #[.int .i64 m, .int .i64 (s.gen + 1 : Int)] 32)).drewN nq) 32 [.int .i64 m, .int .i64 (s.gen + 1 : Int)]).news
                    simp only [World.size_alloc, World.size_setCell, show ∀ (A : World) n, (A.drewN n).heap = A.heap from fun _ _ => rfl] at q
                    exact q
                  case c2 => intro u hu; simp at hu; rcases hu with rfl | rfl <;> rfl
                  case c3 => unfold maxLen; omega
                  case c4 => omega
                  intro v' w4 S' hown' hgr' hfr'
                  have P5 := Lib.hid (((P4.out nq).app1 hown' hgr' hfr').fr0 ((Fr.refl [] _).alloc (.cells #[.bool true] 4)))
                  clear hown' hgr' hfr'
                  go_wp2_with (at_builtin; refine wpList_append_S _ rfl (.tmp 115) (.tmp 116) 29 rfl 4 j0 (.bool false) 1 1 Try.underlying29 hj hy0 hy1 hy2 rfl _ _ _ _ rfl P5.out.hl ⟨w4.heap.size, 0, none⟩ 1 1 [.bool true] rfl rfl ?d1 ?d2 ?d3 ?d4 ?_)
                  case d1 => exact (Blk.new w4 4 [.bool true]).news
                  case d2 => intro u hu; simp at hu; subst hu; rfl
                  case d3 => unfold maxLen; omega
                  case d4 => omega
                  intro v'' w6 S'' hown' hgr' hfr'
                  have P7 := Lib.hid (P5.out.app2 hown' hgr' hfr')
                  clear hown' hgr' hfr'
                  go_wp2
                  go_roundg (R - j - 1)
                  case measure => omega
                  case rel =>
                    obtain ⟨hag, hal⟩ := hR.out.2.2.1.put HS.out hh'.out (j : Int)
                    refine ⟨j + 1, by omega, by go_num, L.set m ⟨j, true, s.gen + 1⟩, G ++ [(m, s.gen + 1)], cnt + 1, S', S'', by simp; omega, by simp [hLN], hag, ?_⟩
                    rw [tms_set _ (by omega), bsy_set _ (by omega), show lvs (L.set m ⟨j, true, s.gen + 1⟩) (G ++ [(m, s.gen + 1)]) = lvs L G ++ [.bool true] from by unfold lvs; rw [hal, List.map_append]; rfl]
                    simpa only [List.length_append, List.length_cons, List.length_nil, List.flatMap_append, List.flatMap_cons, List.flatMap_nil, encH, if_true, Int.natCast_add, Int.natCast_one, List.append_nil, Nat.zero_add] using P7.out
            · obtain rfl : m = N := by omega
              have hnone : Hid (freeIdx T L = none) := freeIdx_none (fun j' s' hj' hs' => hsk.out j' s' (by omega) hs')
              have hcnt : cnt ≤ 65536 := by
                rw [hR.out.2.2.1.cnt]
                exact Nat.le_trans List.countP_le_length (by omega)
              have hcall := Lib.hid (put_none_i hR.out.2.2.2.sl hcnt (j : Int) hnone.out)
              go_wp2_with fail
              refine hcall.out.mono ?_
              rintro e w3 ⟨rfl, f3⟩
              have P3 := Lib.hid (hR.out.2.2.2.fr0 f3)
              clear f3 hcall
              go_wp2
              go_roundg (R - j - 1)
              case measure => omega
              case rel => exact ⟨j + 1, by omega, by go_num, L, G, cnt, S1, S2, by omega, hLN, hR.out.2.2.1, P3.out.fr0 ((Fr.refl [] _).alloc _)⟩
      · obtain ⟨k, hkk, hkl⟩ : ∃ k : Nat, (bits BinOp.and IntKind.i64 (wrap64 (-wrap64 (z + 1))) 1099511627775).tmod ↑G.length = (k : Int) ∧ k < G.length := by
          obtain ⟨r, hr, _⟩ := and_range (wrap64 (-wrap64 (z + 1))) 1099511627775 (by omega)
          refine ⟨r % G.length, ?_, Nat.mod_lt _ hG0⟩
          rw [show bits BinOp.and IntKind.i64 (wrap64 (-wrap64 (z + 1))) 1099511627775 = (r : Int) from hr]
          exact Int.ofNat_tmod r G.length |>.symm
        have hGb : ((G.length : Int) == 0) = false := by rw [beq_eq_false_iff_ne]; omega
        obtain ⟨g, cap1, hv1, hS1⟩ := hR.out.2.2.2.hg.head hG0
        cases hv1
        obtain ⟨gl, cap2, rfl, hS2⟩ := hR.out.2.2.2.hl.head hG0
        obtain ⟨p, hp⟩ : ∃ p, G[k]? = some p := ⟨G[k], by simp [hkl]⟩
        obtain ⟨p1, p2⟩ := p
        have c0 : wr.cell? ⟨g, k * 2, none⟩ = some (.int .i64 p1) := by
          rw [hR.out.2.2.2.hg.cellAt _ (by omega)]
          exact flatMap_at encH_len hp (j := 0) (by decide)
        have c1 : wr.cell? ⟨g, k * 2 + 1, none⟩ = some (.int .i64 p2) := by
          rw [hR.out.2.2.2.hg.cellAt _ (by omega)]
          exact flatMap_at encH_len hp (j := 1) (by decide)
        have HP := Lib.hid hp
        have hgb := (hR.out.2.2.2.out g (.inl (by rw [hS1]; simp))).1
        simp at hgb
        have hglb := (hR.out.2.2.2.out gl (.inr (by rw [hS2]; simp))).1
        simp at hglb
        have hggl : g ≠ gl := fun e => hR.out.2.2.2.dis g (by rw [hS1]; simp) (by rw [hS2, e]; simp)
        have hlive : ∀ (W : World) (ls : List Value) L' c' t' b', AgeP w W b d T w2.heap.size (w2.heap.size + 1) (.slice (some ⟨g, 0, none⟩) G.length gcap) (.slice (some ⟨gl, 0, none⟩) G.length cap2) L' c' t' b' G.length (G.flatMap encH) G.length ls S1 S2 → W.cell? ⟨gl, k, none⟩ = ls[k]? := fun W ls L' c' t' b' h => h.hl.cellAt k (by omega)
        have hlk : (lvs L G)[k]? = some (.bool (alive L (p1, p2))) := by simp [lvs, HP.out]
        have HLV := Lib.hid hlive
        have HLK := Lib.hid hlk
        have HGG := Lib.hid hggl
        have HSS := Lib.hid (And.intro hS1 hS2)
        clear hp hlive hlk hggl hS1 hS2
        by_cases ha : alive L (p1, p2) = true
        case' pos =>
          obtain ⟨s, c, hs, hheld, hgen, hcc, hag', hmap⟩ := hR.out.2.2.1.drop HP.out ha
          simp only at hs hgen hag' hmap
          subst hgen
          subst hcc
          have hc65 : c ≤ 65536 := by
            have := hR.out.2.2.1.cnt
            have h2 : L.countP (·.held) ≤ L.length := List.countP_le_length
            omega
          have hcall := Lib.hid (drop_yesi hR.out.2.2.2.sl hc65 hs hheld)
          have hp16 := some_lt hs
          have HS := Lib.hid (And.intro hs (And.intro hag' (And.intro hmap ha)))
          clear hs hheld hag' hmap ha
          go_wp2_with fail
          refine hcall.out.mono ?_
          rintro e w3 ⟨rfl, h3, f3⟩
          have P3 := Lib.hid (hR.out.2.2.2.slots h3 f3)
          clear h3 f3 hcall c0 c1
          have c0 : w3.cell? ⟨g, k * 2, none⟩ = some (.int .i64 p1) := by
            rw [P3.out.hg.cellAt _ (by omega)]
            exact flatMap_at encH_len HP.out (j := 0) (by decide)
          have c2 := (HLV.out _ _ _ _ _ _ P3.out).trans HLK.out
          rw [HS.out.2.2.2] at c2
          have q2 := P3.out.hl.frz k
          have q3 := P3.out.hb.frz p1
          have q4 := P3.out.hb.cell p1
          rw [bsy_at (by omega) HS.out.1] at q4
          obtain ⟨l1, l2, l3, l4⟩ := P3.out.lt
          have l5 : gl < w3.heap.size := P3.out.hl.lt gl (by rw [HSS.out.2]; simp)
          have l6 : g < w3.heap.size := P3.out.hg.lt g (by rw [HSS.out.1]; simp)
          have hggl : gl ≠ g := Ne.symm HGG.out
          go_wp2_with fail
          have PX0 := Lib.hid ((P3.out.setL HSS.out.2 k (.bool false)).setB p1 (.int .i64 0))
          obtain ⟨L2, cnt2, hL2, hag2, PX⟩ : ∃ L2 cnt2, L2.length = N ∧ Hid (AG L2 G cnt2) ∧ Hid (AgeP w ((w3.setCell ⟨gl, k, none⟩ (.bool false)).setCell ⟨w2.heap.size + 1, p1, none⟩ (.int .i64 0)) b d T w2.heap.size (w2.heap.size + 1) (.slice (some ⟨g, 0, none⟩) G.length gcap) (.slice (some ⟨gl, 0, none⟩) G.length cap2) L2 cnt2 (tms L2) (bsy L2) G.length (G.flatMap encH) G.length (lvs L2 G) S1 S2) := by
            refine ⟨L.set p1 ⟨0, false, s.gen⟩, c, by simp [hLN], HS.out.2.1, ?_⟩
            rw [tms_keep (t := ⟨0, false, s.gen⟩) HS.out.1 rfl, bsy_set _ hp16, show lvs (L.set p1 ⟨0, false, s.gen⟩) G = (lvs L G).set k (.bool false) from by unfold lvs; rw [HS.out.2.2.1, List.map_set]]
            exact PX0.out
          clear PX0
        case' neg =>
          have ha : alive L (p1, p2) = false := by simpa using ha
          have hcall := Lib.hid (drop_noi hR.out.2.2.2.sl (p1 : Int) (p2 : Int) (by
            intro s _ hs hh e
            unfold alive at ha
            rw [show L[p1]? = some s from by simpa using hs] at ha
            simp [hh] at ha
            omega))
          have HA := Lib.hid ha
          clear ha
          go_wp2_with fail
          refine hcall.out.mono ?_
          rintro e w3 ⟨rfl, f3⟩
          have P3 := Lib.hid (hR.out.2.2.2.fr0 f3)
          clear f3 hcall c0 c1
          have c2 := (HLV.out _ _ _ _ _ _ P3.out).trans HLK.out
          rw [HA.out] at c2
          go_wp2_with fail
          obtain ⟨L2, cnt2, hL2, hag2, PX⟩ : ∃ L2 cnt2, L2.length = N ∧ Hid (AG L2 G cnt2) ∧ Hid (AgeP w w3 b d T w2.heap.size (w2.heap.size + 1) (.slice (some ⟨g, 0, none⟩) G.length gcap) (.slice (some ⟨gl, 0, none⟩) G.length cap2) L2 cnt2 (tms L2) (bsy L2) G.length (G.flatMap encH) G.length (lvs L2 G) S1 S2) := ⟨L, cnt, hLN, hR.out.2.2.1, P3.out⟩
        all_goals
          go_loopg [20] (G.length + 1) (fun k iv wl => ∃ q : Nat, k + q = G.length + 1 ∧ q ≤ G.length ∧ iv = .int .i64 q ∧ Hid (AgeP w wl b d T w2.heap.size (w2.heap.size + 1) (.slice (some ⟨g, 0, none⟩) G.length gcap) (.slice (some ⟨gl, 0, none⟩) G.length cap2) L2 cnt2 (tms L2) (bsy L2) G.length (G.flatMap encH) G.length (lvs L2 G) S1 S2))
          case atStart => exact ⟨0, by omega, by omega, rfl, PX⟩
          case round =>
            obtain ⟨q, hkq, hq, rfl, hQ⟩ := hrel
            clear PX P3
            by_cases hql : q < G.length
            · obtain ⟨x, hx⟩ : ∃ x, G[q]? = some x := ⟨G[q], by simp [hql]⟩
              have d0 : wr.cell? ⟨g, q * 2, none⟩ = some (.int .i64 x.1) := by
                rw [hQ.out.hg.cellAt _ (by omega)]
                exact flatMap_at encH_len hx (j := 0) (by decide)
              have d1 : wr.cell? ⟨g, q * 2 + 1, none⟩ = some (.int .i64 x.2) := by
                rw [hQ.out.hg.cellAt _ (by omega)]
                exact flatMap_at encH_len hx (j := 1) (by decide)
              have hcall := Lib.hid (get_alive hQ.out.sl x)
              have hlq : (lvs L2 G)[q]? = some (.bool (alive L2 x)) := by simp [lvs, hx]
              have HLQ := Lib.hid hlq
              clear hx hlq
              go_wp2_with fail
              refine hcall.out.mono ?_
              rintro e w5 ⟨v, rfl, f5⟩
              have hQ5 := Lib.hid (hQ.out.fr0 f5)
              have d2 : w5.cell? ⟨gl, q, none⟩ = some (.bool (alive L2 x)) := by
                rw [hQ5.out.hl.cellAt _ (by omega)]
                exact HLQ.out
              clear f5 hcall d0 d1 HLQ
              obtain ⟨av, hav⟩ : ∃ av, alive L2 x = av := ⟨_, rfl⟩
              rw [hav] at d2 ⊢
              clear hav
              cases av
              all_goals
                go_wp2_with fail
                go_roundg (G.length - q)
                case measure => omega
                case rel => exact ⟨q + 1, by omega, by omega, by go_num, hQ5⟩
            · obtain rfl : q = G.length := by omega
              go_wp2_with fail
              go_roundg (R - j - 1)
              case measure => omega
              case rel => exact ⟨j + 1, by omega, by go_num, L2, G, cnt2, S1, S2, by omega, hL2, hag2, hQ.out⟩
    · obtain rfl : j = R := by omega
      have h200 : j < len → 200 ≤ j := fun h => by rcases hR3.out with h' | h' <;> omega
      have hfr : Hid (Fr [] w wr) := hR.out.2.2.2.fr
      clear hR
      by_cases hlen : j < len
      · have h3 : 200 ≤ j := h200 hlen
        clear h200
        go_wp2
        go_ret
        exact ⟨rfl, hfr.out⟩
      · clear h200
        go_wp2
        go_ret
        exact ⟨rfl, hfr.out⟩
end Go.Proofs.Ytoodgjmgkjhpoaa
