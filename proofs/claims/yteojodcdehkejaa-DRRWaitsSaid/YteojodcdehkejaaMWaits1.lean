/- No flow is left behind, in plain terms. -/
import Derived.Test.YteojodcdehkejaaMA11
set_option linter.unusedVariables false
namespace Go.Proofs.Yteojodcdehkejaa
open Go Go.RowKit

/-- the packets of a flow have rising numbers -/
def Sorted (x : Wd) : Prop := ∀ s, s < 4 → (x.L s).Pairwise fun p q => p.f4 < q.f4
theorem sorted_cut {x : Wd} (hs : Sorted x) {f t : Nat} (ht : t < 4) {qs : List P6} (h : t = f → qs.Pairwise fun p q => p.f4 < q.f4) : (upd x.L f qs t).Pairwise fun p q => p.f4 < q.f4 := by
  by_cases e : t = f
  · subst e; rw [upd_self]; exact h rfl
  · rw [upd_ne _ _ e]; exact hs t ht
theorem MvR.sorted {x x' : Wd} {N : Nat} (h : Wf x N) (hs : Sorted x) {kd fl sz : Int} (hR : MvR kd fl sz x x') : Sorted x' := by
  intro t ht
  have e : x'.L = x'.dat.L := rfl
  rw [e]
  obtain ⟨f, hf, _, hc⟩ := hR
  rcases hc with ⟨_, ⟨_, hd⟩ | ⟨df1, s, rest, t1, p, qs, ns, hd⟩⟩ | ⟨_, ⟨_, hd⟩ | ⟨qs, v, hq, hd⟩⟩ | ⟨_, hd⟩ | ⟨_, z, hz, _, _, hd⟩ <;> rw [hd]
  · exact hs t ht
  · refine sorted_cut (x := x) hs ht (f := s) (qs := qs) (fun e => ?_)
    subst e
    have := hs t ht
    rw [ns.q] at this
    exact (List.pairwise_cons.1 this).2
  · exact hs t ht
  · by_cases hqs : qs = []
    · rw [if_pos hqs]
      exact sorted_cut (x := x) hs ht (f := f) (qs := []) (fun _ => List.Pairwise.nil)
    · rw [if_neg hqs]
      refine sorted_cut (x := x) hs ht (f := f) (qs := qs) (fun e => ?_)
      subst e
      have := hs t ht
      rw [hq] at this
      exact (List.pairwise_append.1 this).1
  · exact sorted_cut (x := x) hs ht (f := f) (qs := []) (fun _ => List.Pairwise.nil)
  · refine sorted_cut (x := x) hs ht (f := f) (qs := x.L f ++ [x.pkt f z]) (fun e => ?_)
    subst e
    refine List.pairwise_append.2 ⟨hs t ht, List.pairwise_singleton _ _, fun a ha b hb => ?_⟩
    have hb' : b = x.pkt t z := by simpa using hb
    subst hb'
    have := (h.pk t ht a ha).2.2.2.2.2.1
    show a.f4 < x.seq + 1
    omega
theorem MvR.put_of {x x' : Wd} {fl sz : Int} (hR : MvR 0 fl sz x x') : ∃ (f : Nat) (z : Int), f < 4 ∧ bits .and .i64 fl 3 = (f : Int) ∧ x'.dat = (x.put f z [] [] (.slice none 0 0) []).dat := by
  obtain ⟨f, hf, he, hc⟩ := hR
  rcases hc with ⟨h, _⟩ | ⟨h, _⟩ | ⟨h, _⟩ | ⟨_, z, _, _, _, hd⟩
  · omega
  · omega
  · omega
  · exact ⟨f, z, hf, he, hd⟩
theorem MvR.next_of {x x' : Wd} {fl sz : Int} (hR : MvR 1 fl sz x x') : NxR x x' := by
  obtain ⟨f, hf, he, hc⟩ := hR
  rcases hc with ⟨_, h⟩ | ⟨h, _⟩ | ⟨h, _⟩ | ⟨h, _⟩
  · exact h
  · omega
  · omega
  · exact absurd rfl h.1
theorem mt_df {Q : Nat → Int} {L : Nat → List P6} {df : Nat → Int} {r : List Nat} {t : Bool} {df' : Nat → Int} {r' : List Nat} {t' : Bool} (k : MT Q L df r t df' r' t') (f : Nat) : ∃ T : Nat, df' f = df f + T * Q f := by
  induction k with
  | refl => exact ⟨0, by simp⟩
  | @step df s rest t df' r' t' _ _ ih =>
    obtain ⟨T, hT⟩ := ih
    by_cases e : f = s
    · subst e
      rw [upd_self] at hT
      cases t with
      | true => exact ⟨T, by simp at hT; exact hT⟩
      | false =>
        refine ⟨T + 1, ?_⟩
        simp only [Bool.false_eq_true, if_false] at hT
        rw [hT, show ((T + 1 : Nat) : Int) = T + 1 from by omega, Int.add_mul]
        omega
    · rw [upd_ne _ _ e] at hT
      exact ⟨T, hT⟩
/-- the first packet of f waits, and how long it may -/
def Wt (x : Wd) (f : Nat) (from_ : Nat → Int) : Prop :=
  ∃ (D : Int) (T : Nat), 0 ≤ D ∧ x.df f = D + T * x.Q f ∧ ∀ g, g < 4 → g ≠ f → g ∈ x.ring ∧ x.dat.X g f - x.dat.P g f + D * x.Q g ≤ from_ g * x.Q f - x.sent f * x.Q g + 1024 * x.Q f
theorem Wt.start {x : Wd} {N : Nat} (h : Wf x N) {f : Nat} (hf : f ∈ x.ring) (hall : ∀ g, g < 4 → g ∈ x.ring) {from_ : Nat → Int} (hs : ∀ g, g < 4 → x.sent g = from_ g) : Wt x f from_ := by
  refine ⟨x.df f, 0, h.d0 f (h.lt hf), by simp, fun g hg hgf => ⟨hall g hg, ?_⟩⟩
  have bd : (x.turn = true ∧ x.ring.head? = some g → x.df g ≤ x.Q g + 1024) ∧ (¬ (x.turn = true ∧ x.ring.head? = some g) → x.df g ≤ 1024) :=
    ⟨fun hh => by have := h.dh g hh; have := h.mo.2; omega, fun hh => by have := h.ds g (hall g hg) hh; have := (h.hd (hall g hg)).2; have := h.mo.2; omega⟩
  have qf := (h.q f (h.lt hf)).1
  have qg := (h.q g hg).1
  have lo := phi_lo (Q := x.Q) (df := upd x.df f 0) (t := x.turn) (M := 1024) h.nd (hall g hg) hf hgf (by omega) (by omega) (by rw [upd_self]; omega) (by rw [upd_ne _ _ hgf]; exact bd.1) (by rw [upd_ne _ _ hgf]; exact bd.2)
  unfold phi at lo
  rw [upd_self, upd_ne _ _ hgf] at lo
  show (x.sent g * x.Q f - x.sent f * x.Q g) - phi x.Q x.df x.ring x.turn g f + x.df f * x.Q g ≤ _
  unfold phi
  rw [hs g hg, Int.mul_comm 1024 (x.Q f)]
  simp only [Int.zero_mul, Int.add_zero] at lo
  omega
theorem nq_le {Q : Nat → Int} {r : List Nat} {t : Bool} {a b : Nat} (h : 0 ≤ Q a * Q b) : nq Q r t a b ≤ Q a * Q b := by
  by_cases e : nx r t a b
  · rw [nq_yes e]; exact h
  · rw [nq_no e]; exact Int.le_refl _
theorem Wt.bound {x : Wd} {N : Nat} (h : Wf x N) {f : Nat} {from_ : Nat → Int} (W : Wt x f from_) (hf : f ∈ x.ring) (hnh : ¬ x.hold f) {k : Int} (hk : szOf (x.L f) ≤ k * x.Q f) {g : Nat} (hg : g < 4) (hgf : g ≠ f) : x.sent g - from_ g < k * x.Q g + 65536 := by
  obtain ⟨D, T, hD, hdf, hW⟩ := W
  have h1 := (hW g hg hgf).2
  have hds := h.ds f hf hnh
  have qf := (h.q f (h.lt hf)).1
  have qg := (h.q g hg).1
  have dg := h.d0 g hg
  have hT : (T : Int) + 1 ≤ k := by
    by_cases e : (T : Int) + 1 ≤ k
    · exact e
    · have := Int.mul_le_mul_of_nonneg_right (show k ≤ (T : Int) by omega) (show 0 ≤ x.Q f by omega)
      omega
  have e1 : x.dat.X g f = x.sent g * x.Q f - x.sent f * x.Q g := rfl
  have e2 : x.dat.P g f = nq x.Q x.ring x.turn g f - x.df g * x.Q f + x.df f * x.Q g := rfl
  have e3 := nq_le (Q := x.Q) (r := x.ring) (t := x.turn) (a := g) (b := f) (Int.mul_nonneg (by omega) (by omega))
  have e4 := Int.mul_nonneg dg (show 0 ≤ x.Q f by omega)
  rw [e1, e2, hdf, Int.add_mul] at h1
  have e5 : (T : Int) * x.Q f * x.Q g = T * x.Q g * x.Q f := by rw [Int.mul_assoc, Int.mul_comm (x.Q f), ← Int.mul_assoc]
  rw [e5] at h1
  have e6 : (x.sent g - from_ g) * x.Q f ≤ (x.Q g + T * x.Q g + 1024) * x.Q f := by
    rw [Int.sub_mul, Int.add_mul, Int.add_mul]
    omega
  have e7 := Int.le_of_mul_le_mul_right e6 (by omega)
  have e8 := Int.mul_le_mul_of_nonneg_right hT (show 0 ≤ x.Q g by omega)
  rw [Int.add_mul] at e8
  omega
theorem Wt.put {x x' : Wd} {N : Nat} (h : Wf x N) {f : Nat} {from_ : Nat → Int} (W : Wt x f from_) (hf : f ∈ x.ring) {fl sz : Int} (hR : MvR 0 fl sz x x') : Wt x' f from_ := by
  obtain ⟨D, T, hD, hdf, hW⟩ := W
  have hQ := hR.Q
  have hfair := fun g (hgf : g ≠ f) ha ha' hb' => mv_fair h hR (a := g) (b := f) hgf ha hf ha' hb'
  obtain ⟨u, z, hu, _, hd⟩ := hR.put_of
  have er : ∀ s, s ∈ x.ring → s ∈ x'.ring := fun s hs => by
    show s ∈ x'.dat.ring
    rw [hd]
    show s ∈ (if x.L u = [] then x.ring ++ [u] else x.ring)
    split
    · simp [hs]
    · exact hs
  have edf : x'.df = x.df := by show x'.dat.df = _; rw [hd]; rfl
  have ese : x'.sent = x.sent := by show x'.dat.sent = _; rw [hd]; rfl
  refine ⟨D, T, hD, by rw [edf, hQ]; exact hdf, fun g hg hgf => ?_⟩
  obtain ⟨h1, h2⟩ := hW g hg hgf
  refine ⟨er g h1, ?_⟩
  rw [hfair g hgf h1 (er g h1) (er f hf), hQ, ese]
  exact h2
/-- what the loop keeps -/
structure Lp (x : Wd) (f : Nat) (p : P6) (from_ : Nat → Int) (k : Int) : Prop where
  bd : ∀ g, g < 4 → g ≠ f → x.sent g - from_ g < k * x.Q g + 65536
  wt : (x.L f).head? = some p → (∀ g, g < 4 → x.sent g = from_ g) ∨ Wt x f from_
  so : Sorted x
theorem Lp.put {x x' : Wd} {N : Nat} (h : Wf x N) {f : Nat} {p : P6} {from_ : Nat → Int} {k : Int} (P : Lp x f p from_ k) (hp : (x.L f).head? = some p) (hf : f < 4) {g : Nat} (hg : g < 4) {sz : Int} (hR : MvR 0 g sz x x') : Lp x' f p from_ k ∧ (x'.L f).head? = some p ∧ (∀ t, t < 4 → (x'.L t).length = (x.L t).length + if t = g then 1 else 0) := by
  obtain ⟨u, z, hu, hue, hd⟩ := hR.put_of
  have hug : u = g := by rw [and3 hg] at hue; omega
  subst hug
  have ese : x'.sent = x.sent := by show x'.dat.sent = _; rw [hd]; rfl
  have eL : x'.L = upd x.L u (x.L u ++ [x.pkt u z]) := by show x'.dat.L = _; rw [hd]; rfl
  have hfr : f ∈ x.ring := (h.mem f).2 ⟨hf, fun e => by rw [e] at hp; cases hp⟩
  refine ⟨⟨fun g hg hgf => by rw [ese, hR.Q]; exact P.bd g hg hgf, fun _ => ?_, hR.sorted h P.so⟩, ?_, fun t ht => ?_⟩
  · rcases P.wt hp with h0 | hw
    · exact .inl (fun g hg => by rw [ese]; exact h0 g hg)
    · exact .inr (hw.put h hfr hR)
  · rw [eL]
    by_cases e : f = u
    · subst e
      rw [upd_self]
      cases hl : x.L f with
      | nil => rw [hl] at hp; cases hp
      | cons a l => rw [hl] at hp; exact hp
    · rw [upd_ne _ _ e]; exact hp
  · rw [eL]
    by_cases e : t = u
    · subst e; rw [upd_self, if_pos rfl]; simp
    · rw [upd_ne _ _ e, if_neg e]; rfl
theorem Lp.next {x x' : Wd} {N : Nat} (h : Wf x N) (h' : Wf x' (N + 1)) {f : Nat} {p : P6} {from_ : Nat → Int} {k : Int} (P : Lp x f p from_ k) (hp : (x.L f).head? = some p) (hf : f < 4) (hk : p.f3 ≤ k * x.Q f)
    (h2 : ∀ g, g < 4 → g ≠ f → 2 ≤ (x.L g).length) {fl sz : Int} (hR : MvR 1 fl sz x x') : Lp x' f p from_ k := by
  have hfr : f ∈ x.ring := (h.mem f).2 ⟨hf, fun e => by rw [e] at hp; cases hp⟩
  have hall : ∀ g, g < 4 → g ∈ x.ring := fun g hg => by
    by_cases e : g = f
    · rw [e]; exact hfr
    · exact (h.mem g).2 ⟨hg, fun e2 => by have := h2 g hg e; rw [e2] at this; simp at this⟩
  have hw : Wt x f from_ := (P.wt hp).elim (fun h0 => Wt.start h hfr hall h0) id
  have hQ := hR.Q
  have hfair := fun g (hgf : g ≠ f) ha ha' hb' => mv_fair h hR (a := g) (b := f) hgf ha hfr ha' hb'
  have hso := hR.sorted h P.so
  rcases hR.next_of with ⟨hr, _⟩ | ⟨df1, s, rest, t1, p', qs, ns, hd⟩
  · rw [hr] at hfr; cases hfr
  · have ese : x'.sent = upd x.sent s (x.sent s + p'.f3) := by show x'.dat.sent = _; rw [hd]; rfl
    have eL : x'.L = upd x.L s qs := by show x'.dat.L = _; rw [hd]; rfl
    have hs4 : s < 4 := (Wf.mt ns.mt rfl rfl rfl rfl rfl h).lt (s := s) (by simp)
    by_cases e : s = f
    · subst e
      refine ⟨fun g hg hgf => by rw [ese, upd_ne _ _ hgf, hQ]; exact P.bd g hg hgf, fun hh => ?_, hso⟩
      rw [eL, upd_self] at hh
      have hq := ns.q
      rw [hq] at hp
      simp at hp
      subst hp
      have := P.so s hf
      rw [hq] at this
      have hm : p' ∈ qs := List.mem_of_mem_head? hh
      have := (List.pairwise_cons.1 this).1 p' hm
      omega
    · have hfs : f ≠ s := Ne.symm e
      have hLf : x'.L f = x.L f := by rw [eL, upd_ne _ _ hfs]
      have hlen := h2 s hs4 e
      rw [ns.q, List.length_cons] at hlen
      have hqs : qs ≠ [] := fun e => by rw [e] at hlen; simp at hlen
      have hall' : ∀ g, g < 4 → g ∈ x'.ring := fun g hg => (h'.mem g).2 ⟨hg, fun e0 => by
        rw [eL] at e0
        by_cases eg : g = s
        · subst eg; rw [upd_self] at e0; exact hqs e0
        · rw [upd_ne _ _ eg] at e0; exact ((h.mem g).1 (hall g hg)).2 e0⟩
      have edf : x'.df f = df1 f := by
        show x'.dat.df f = _
        rw [hd]
        show upd df1 s _ f = _
        rw [upd_ne _ _ hfs]
      obtain ⟨T2, hT2⟩ := mt_df ns.mt f
      have hw' : Wt x' f from_ := by
        obtain ⟨D, T, hD, hdf, hW⟩ := hw
        refine ⟨D, T + T2, hD, ?_, fun g hg hgf => ⟨hall' g hg, ?_⟩⟩
        · rw [edf, hT2, hdf, hQ, show ((T + T2 : Nat) : Int) = T + T2 from by omega, Int.add_mul]; omega
        · have esf : x'.sent f = x.sent f := by rw [ese, upd_ne _ _ hfs]
          rw [hfair g hgf (hall g hg) (hall' g hg) (hall' f hf), hQ, esf]
          exact (hW g hg hgf).2
      have hnh : ¬ x'.hold f := fun hh => by
        have h1 : x'.dat.ring.head? = some f := hh.2
        rw [hd] at h1
        have h1' : (if qs = [] then rest else s :: rest).head? = some f := h1
        rw [if_neg hqs] at h1'
        exact e (by simpa using h1')
      have hsz : szOf (x'.L f) ≤ k * x'.Q f := by
        rw [hLf, hQ]
        cases hl : x.L f with
        | nil => rw [hl] at hp; cases hp
        | cons a l =>
          rw [hl] at hp
          simp at hp
          subst hp
          exact hk
      exact ⟨fun g hg hgf => hw'.bound h' (hall' f hf) hnh hsz hg hgf, fun _ => .inr hw', hso⟩
end Go.Proofs.Yteojodcdehkejaa
