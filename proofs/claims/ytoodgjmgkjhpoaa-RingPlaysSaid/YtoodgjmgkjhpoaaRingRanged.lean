/- The statements' ranged: what its walk keeps. -/
import Derived.Test.YtoodgjmgkjhpoaaRingDo3
import Derived.Test.YtoodgjmgkjhpoaaHeldIn
import Derived.Sort.LoopGhostIn
namespace Go.Proofs.Ytoodgjmgkjhpoaa
open Go Go.RowKit
attribute [local go_sem] calmQ_normal wide_fn wide_depth Oper.semAt_some

/-- what a call leaves: the ring r and the list u hold the same numbers, at most N -/
def DidN (w : World) (r : Nat) (ds S : List Nat) (N : Nat) (e : Ending) (w' : World) : Prop :=
  ∃ u S' ds' xs', e = .returned (.tuple #[u, .bool true]) ∧ Rgi w' r ds' xs' ∧ OwnS w' 3 1 u xs'.length (xs'.flatMap encI) S' ∧ Fr (r :: ds) w w' ∧ Gr w ds ds' ∧ Gr w S S' ∧ (∀ x, x ∈ S' → x ∉ r :: ds') ∧ xs'.length ≤ N

/-- ranged's cells from block h on; the ring and the list as they are now; the list as it was -/
structure RJ (h r : Nat) (ds : List Nat) (v : Value) (xs : List Int) (S : List Nat) (cn : Int) (ds' Sl : List Nat) (l' : Value) (xs' : List Int) (W : World) : Prop where
  b4 : Blk W (h + 1) 22 [l']
  b6 : ∃ q, Blk W (h + 3) 22 [q]
  b7 : ∃ q, Blk W (h + 4) 4 [q]
  b9 : Blk W (h + 7) 3 [.int .i64 cn]
  ring : Rgi W r ds' xs'
  list : OwnS W 3 1 l' xs'.length (xs'.flatMap encI) Sl
  was : OwnS W 3 1 v xs.length (xs.flatMap encI) S
  apart : ∀ x, x ∈ Sl → x ∉ r :: ds'
  wasap : ∀ x, x ∈ S → x ∉ r :: ds'
  grd : ∀ x, x ∈ ds' → x ∈ ds ∨ h + 9 ≤ x
  grs : ∀ x, x ∈ Sl → x ∈ S ∨ h + 9 ≤ x
  old : ∀ x, (x = r ∨ x ∈ ds ∨ x ∈ S) → x < h
  big : h + 9 ≤ W.heap.size
/-- its footprint -/
def rjF (h r : Nat) (ds' Sl : List Nat) : List Nat := (h + 1) :: (h + 3) :: (h + 4) :: (h + 7) :: r :: (ds' ++ Sl.filter (fun x => decide (h + 9 ≤ x)))
section
variable {h r : Nat} {ds : List Nat} {v : Value} {xs : List Int} {S : List Nat} {cn : Int} {ds' Sl : List Nat} {l' : Value} {xs' : List Int} {W W' : World}
theorem mem_rjF {x : Nat} : x ∈ rjF h r ds' Sl ↔ x = h + 1 ∨ x = h + 3 ∨ x = h + 4 ∨ x = h + 7 ∨ x = r ∨ x ∈ ds' ∨ (x ∈ Sl ∧ h + 9 ≤ x) := by
  simp [rjF]
theorem RJ.farr (k : RJ h r ds v xs S cn ds' Sl l' xs' W) : ∀ x, x ∈ r :: ds' → x < h ∨ h + 9 ≤ x := fun x hx => by
  rcases List.mem_cons.1 hx with rfl | hx
  · exact .inl (k.old _ (.inl rfl))
  · rcases k.grd x hx with h' | h'
    · exact .inl (k.old _ (.inr (.inl h')))
    · exact .inr h'
theorem RJ.fars (k : RJ h r ds v xs S cn ds' Sl l' xs' W) : ∀ x, x ∈ Sl → x < h ∨ h + 9 ≤ x := fun x hx => by
  rcases k.grs x hx with h' | h'
  · exact .inl (k.old _ (.inr (.inr h')))
  · exact .inr h'
theorem RJ.loc (k : RJ h r ds v xs S cn ds' Sl l' xs' W) {T : List Nat} (f : Fr T W W') (ht : ∀ b, b ∈ T → h + 9 ≤ b ∧ b ∉ rjF h r ds' Sl) : RJ h r ds v xs S cn ds' Sl l' xs' W' := by
  have n1 : ∀ x, x < h + 9 → x ∉ T := fun x hx hm => by have := (ht x hm).1; omega
  have hz := f.size
  have hb := k.big
  refine ⟨k.b4.fr f (n1 _ (by omega)), ?_, ?_, k.b9.fr f (n1 _ (by omega)), k.ring.fr f ?_, k.list.fr f ?_, k.was.fr f ?_, k.apart, k.wasap, k.grd, k.grs, k.old, by omega⟩
  · obtain ⟨q, hq⟩ := k.b6; exact ⟨q, hq.fr f (n1 _ (by omega))⟩
  · obtain ⟨q, hq⟩ := k.b7; exact ⟨q, hq.fr f (n1 _ (by omega))⟩
  · intro b hb hm
    refine (ht b hm).2 (mem_rjF.2 ?_)
    rcases List.mem_cons.1 hb with h' | h'
    · simp [h']
    · simp [h']
  · intro b hb hm
    exact (ht b hm).2 (mem_rjF.2 (by have := (ht b hm).1; simp [hb, this]))
  · intro b hb hm
    have := k.old b (.inr (.inr hb))
    exact n1 b (by omega) hm
theorem RJ.fr0 (k : RJ h r ds v xs S cn ds' Sl l' xs' W) (f : Fr [] W W') : RJ h r ds v xs S cn ds' Sl l' xs' W' := k.loc f (by simp)
theorem RJ.num (k : RJ h r ds v xs S cn ds' Sl l' xs' W) (m : Int) : RJ h r ds v xs S m ds' Sl l' xs' (W.setCell ⟨h + 7, 0, none⟩ (.int .i64 m)) := by
  have f : Fr [h + 7] W (W.setCell ⟨h + 7, 0, none⟩ (.int .i64 m)) := (Fr.refl _ _).setCell _ (.inl (by simp))
  have hs := k.b9.set 0 (.int .i64 m)
  refine ⟨k.b4.fr f (by simp), ?_, ?_, by simpa using hs, k.ring.fr f ?_, k.list.fr f ?_, k.was.fr f ?_, k.apart, k.wasap, k.grd, k.grs, k.old, by simpa using k.big⟩
  · obtain ⟨q, hq⟩ := k.b6; exact ⟨q, hq.fr f (by simp)⟩
  · obtain ⟨q, hq⟩ := k.b7; exact ⟨q, hq.fr f (by simp)⟩
  · intro b hb hm
    have := k.farr b hb
    simp at hm; omega
  · intro b hb hm
    have := k.fars b hb
    simp at hm; omega
  · intro b hb hm
    have := k.old b (.inr (.inr hb))
    simp at hm; omega
/-- behind do, and the store of its list -/
theorem RJ.did (k : RJ h r ds v xs S cn ds' Sl l' xs' W) {ds'' S'' : List Nat} {u : Value} {xs'' : List Int} (q : Rgi W' r ds'' xs'') (o : OwnS W' 3 1 u xs''.length (xs''.flatMap encI) S'')
    (f : Fr (r :: ds') W W') (g : Gr W ds' ds'') (gs : Gr W Sl S'') (ap : ∀ x, x ∈ S'' → x ∉ r :: ds'') :
    RJ h r ds v xs S cn ds'' S'' u xs'' (W'.setCell ⟨h + 1, 0, none⟩ u) := by
  have f1 : Fr [h + 1] W' (W'.setCell ⟨h + 1, 0, none⟩ u) := (Fr.refl _ _).setCell _ (.inl (by simp))
  have hz := f.size
  have hb := k.big
  have hl := k.was.lt
  have n1 : ∀ x, h ≤ x → x < h + 9 → x ∉ r :: ds' := fun x h1 h2 hm => by have := k.farr x hm; omega
  have g1 : ∀ x, x ∈ ds'' → x ∈ ds ∨ h + 9 ≤ x := fun x hx => by
    rcases g x hx with h' | h'
    · exact k.grd x h'
    · exact .inr (by omega)
  have g2 : ∀ x, x ∈ S'' → x ∈ S ∨ h + 9 ≤ x := fun x hx => by
    rcases gs x hx with h' | h'
    · exact k.grs x h'
    · exact .inr (by omega)
  have b4 := (k.b4.fr f (n1 _ (by omega) (by omega))).set 0 u
  refine ⟨by simpa using b4, ?_, ?_, (k.b9.fr f (n1 _ (by omega) (by omega))).fr f1 (by simp), q.fr f1 ?_, o.fr f1 ?_, (k.was.fr f k.wasap).fr f1 ?_, ap, ?_, g1, g2, k.old, by simp; omega⟩
  · obtain ⟨q, hq⟩ := k.b6; exact ⟨q, (hq.fr f (n1 _ (by omega) (by omega))).fr f1 (by simp)⟩
  · obtain ⟨q, hq⟩ := k.b7; exact ⟨q, (hq.fr f (n1 _ (by omega) (by omega))).fr f1 (by simp)⟩
  · intro b hb' hm
    simp at hm; subst hm
    rcases List.mem_cons.1 hb' with h' | h'
    · have := k.old r (.inl rfl); omega
    · rcases g1 _ h' with h2 | h2
      · have := k.old _ (.inr (.inl h2)); omega
      · omega
  · intro b hb' hm
    simp at hm; subst hm
    rcases g2 _ hb' with h2 | h2
    · have := k.old _ (.inr (.inr h2)); omega
    · omega
  · intro b hb' hm
    have := k.old b (.inr (.inr hb'))
    simp at hm; omega
  · intro b hb' hm
    have h1 := k.old b (.inr (.inr hb'))
    rcases List.mem_cons.1 hm with h' | h'
    · exact k.wasap b hb' (by simp [h'])
    · rcases g b h' with h2 | h2
      · exact k.wasap b hb' (by simp [h2])
      · omega
/-- the footprint grows so -/
theorem RJ.gr {W0 : World} (_k : RJ h r ds v xs S cn ds' Sl l' xs' W) {ds'' S'' : List Nat} (g : Gr W0 ds' ds'') (gs : Gr W0 Sl S'') : Gr W0 (rjF h r ds' Sl) (rjF h r ds'' S'') := fun x hx => by
  rw [mem_rjF] at hx ⊢
  rcases hx with hx | hx | hx | hx | hx | hx | hx
  · simp [hx]
  · simp [hx]
  · simp [hx]
  · simp [hx]
  · simp [hx]
  · rcases g x hx with h' | h'
    · simp [h']
    · exact .inr h'
  · rcases gs x hx.1 with h' | h'
    · simp [h', hx.2]
    · exact .inr h'
theorem RJ.notin (k : RJ h r ds v xs S cn ds' Sl l' xs' W) {y : Nat} (h1 : h ≤ y) (h2 : y < h + 9) (h3 : y ≠ h + 1 ∧ y ≠ h + 3 ∧ y ≠ h + 4 ∧ y ≠ h + 7) : y ∉ rjF h r ds' Sl := fun hm => by
  rw [mem_rjF] at hm
  obtain ⟨n1, n2, n3, n4⟩ := h3
  rcases hm with hm | hm | hm | hm | hm | hm | hm
  · exact n1 hm
  · exact n2 hm
  · exact n3 hm
  · exact n4 hm
  · have := k.old y (.inl hm); omega
  · have := k.farr y (by simp [hm]); omega
  · omega
/-- the cells of the results are written -/
theorem RJ.res (k : RJ h r ds v xs S cn ds' Sl l' xs' W) (u q : Value) : RJ h r ds v xs S cn ds' Sl l' xs' ((W.setCell ⟨h + 3, 0, none⟩ u).setCell ⟨h + 4, 0, none⟩ q) := by
  have f : Fr [h + 3, h + 4] W ((W.setCell ⟨h + 3, 0, none⟩ u).setCell ⟨h + 4, 0, none⟩ q) := ((Fr.refl _ _).setCell _ (.inl (by simp))).setCell _ (.inl (by simp))
  obtain ⟨q6, b6⟩ := k.b6
  obtain ⟨q7, b7⟩ := k.b7
  refine ⟨k.b4.fr f (by simp), ⟨u, by simpa using (b6.set 0 u).other (p := ⟨h + 4, 0, none⟩) q (by simp)⟩, ⟨q, by simpa using (b7.other (p := ⟨h + 3, 0, none⟩) u (by simp)).set 0 q⟩, k.b9.fr f (by simp), k.ring.fr f ?_, k.list.fr f ?_, k.was.fr f ?_, k.apart, k.wasap, k.grd, k.grs, k.old, by simpa using k.big⟩
  · intro b hb hm
    have := k.farr b hb
    simp at hm; omega
  · intro b hb hm
    have := k.fars b hb
    simp at hm; omega
  · intro b hb hm
    have := k.old b (.inr (.inr hb))
    simp at hm; omega
theorem RJ.lt (k : RJ h r ds v xs S cn ds' Sl l' xs' W) : ∀ b, b ∈ rjF h r ds' Sl → b < W.heap.size := fun b hb => by
  have := k.big
  rw [mem_rjF] at hb
  rcases hb with hb | hb | hb | hb | hb | hb | hb
  · omega
  · omega
  · omega
  · omega
  · exact k.ring.lt b (by simp [hb])
  · exact k.ring.lt b (by simp [hb])
  · exact k.list.lt b hb.1
/-- what is turned in a new block alone -/
theorem RJ.new (k : RJ h r ds v xs S cn ds' Sl l' xs' W) {b : Nat} (hb : W.heap.size ≤ b) {W1 : World} (f0 : Fr [] W W1) (f : Fr [b] W1 W') : RJ h r ds v xs S cn ds' Sl l' xs' W' :=
  k.loc (f0.trans (fun x hx => by simp at hx; subst hx; exact .inr hb) f) (by simp)
end
end Go.Proofs.Ytoodgjmgkjhpoaa
