/- Slots and the reference's slots: what each call answers and leaves, in one form for both. -/
import Derived.Test.YtoodgjmgkjhpoaaSlotsCount
import Derived.Test.YtoodgjmgkjhpoaaSlotsSet
namespace Go.Proofs.Ytoodgjmgkjhpoaa
open Go Go.RowKit

/-- the slot that a handle names, if it is held at that age -/
def pick (L : List (Slot Int)) (i g : Int) : Option (Slot Int) :=
  if 0 ≤ i then match L[i.toNat]? with
    | some s => if s.held = true ∧ (s.gen : Int) = g then some s else none
    | none => none
  else none
theorem pick_yes {L : List (Slot Int)} {k : Nat} {s : Slot Int} (hs : L[k]? = some s) (hh : s.held = true) : pick L k s.gen = some s := by
  simp [pick, hs, hh]
theorem pick_no {L : List (Slot Int)} {i g : Int} (h : ∀ s, 0 ≤ i → L[i.toNat]? = some s → s.held = true → (s.gen : Int) ≠ g) : pick L i g = none := by
  unfold pick
  by_cases hi : 0 ≤ i
  · rw [if_pos hi]
    cases hs : L[i.toNat]? with
    | none => rfl
    | some s =>
      have := h s hi hs
      simp only
      rw [if_neg (fun hc => this hc.1 hc.2)]
  · rw [if_neg hi]
def getR (L : List (Slot Int)) (i g : Int) : Int × Int := match pick L i g with
  | some s => (s.v, 0)
  | none => (0, 60)
def dropL (L : List (Slot Int)) (i g : Int) : List (Slot Int) := match pick L i g with
  | some s => L.set i.toNat ⟨0, false, s.gen⟩
  | none => L
def setR (L : List (Slot Int)) (i g : Int) : Int := match pick L i g with
  | some _ => 0
  | none => 60
def setL (L : List (Slot Int)) (i g V : Int) : List (Slot Int) := match pick L i g with
  | some s => L.set i.toNat ⟨V, true, s.gen⟩
  | none => L
def putR (last : Nat) (L : List (Slot Int)) : Int × Int × Int := match freeIdx last L with
  | some i => (i, ((L[i]?.map (·.gen)).getD 0 + 1 : Nat), 0)
  | none => (0, 0, 61)
def putL (last : Nat) (L : List (Slot Int)) (V : Int) : List (Slot Int) := match freeIdx last L with
  | some i => L.set i ⟨V, true, (L[i]?.map (·.gen)).getD 0 + 1⟩
  | none => L
section
variable {w : World} {b d last B e : Nat} {L : List (Slot Int)}
theorem sget (h : Sli w b d last L (held L)) (i g : Int) :
    Calls Try.prog 14 #[.pointer (some ⟨b, 0, none⟩), .agg #[.int .i64 i, .int .i64 g]] w fun r w' => r = .returned (.tuple #[.int .i64 (getR L i g).1, .int .i64 (getR L i g).2]) ∧ Fr [] w w' := by
  rcases held_or (L := L) i g with ⟨k, s, rfl, hs, hh, rfl⟩ | hno
  · have hp := pick_yes hs hh
    simp only [getR, hp]
    exact get_yesi h hs hh
  · have hp := pick_no hno
    simp only [getR, hp]
    exact get_noi h i g hno
theorem rget (h : RefAt w e L) (l : Int) (i g : Int) :
    Calls Try.prog 52 #[.agg #[.slice (some ⟨e, 0, none⟩) L.length L.length, .int .i64 l], .agg #[.int .i64 i, .int .i64 g]] w fun r w' => r = .returned (.tuple #[.int .i64 (getR L i g).1, .int .i64 (getR L i g).2]) ∧ Fr [] w w' := by
  rcases held_or (L := L) i g with ⟨k, s, rfl, hs, hh, rfl⟩ | hno
  · have hp := pick_yes hs hh
    simp only [getR, hp]
    exact rget_yes h l hs hh
  · have hp := pick_no hno
    simp only [getR, hp]
    exact rget_no h l i g hno
theorem sdrop (h : Sli w b d last L (held L)) (i g : Int) :
    Calls Try.prog 13 #[.pointer (some ⟨b, 0, none⟩), .agg #[.int .i64 i, .int .i64 g]] w fun r w' => r = .returned (.tuple #[.int .i64 (getR L i g).1, .int .i64 (getR L i g).2]) ∧ Sli w' b d last (dropL L i g) (held (dropL L i g)) ∧ Fr [b, d] w w' := by
  rcases held_or (L := L) i g with ⟨k, s, rfl, hs, hh, rfl⟩ | hno
  · have hp := pick_yes hs hh
    simp only [getR, dropL, hp]
    have hc := held_drop hs hh s.gen 0
    rw [hc] at h
    have h1 := held_le (L.set k ⟨0, false, s.gen⟩)
    have h2 := h.room
    rw [List.length_set] at h1
    exact drop_yesi h (by omega) hs hh
  · have hp := pick_no hno
    simp only [getR, dropL, hp]
    refine (drop_noi h i g hno).mono ?_
    rintro r w' ⟨h1, h2⟩
    exact ⟨h1, h.fr h2 (by simp), h2.mono (by simp)⟩
theorem rdrop (h : RefP w B e last L) (i g : Int) :
    Calls Try.prog 55 #[.pointer (some ⟨B, 0, none⟩), .agg #[.int .i64 i, .int .i64 g]] w fun r w' => r = .returned (.tuple #[.int .i64 (getR L i g).1, .int .i64 (getR L i g).2]) ∧ RefP w' B e last (dropL L i g) ∧ Fr [e] w w' := by
  rcases held_or (L := L) i g with ⟨k, s, rfl, hs, hh, rfl⟩ | hno
  · have hp := pick_yes hs hh
    simp only [getR, dropL, hp]
    exact rdrop_yes h hs hh
  · have hp := pick_no hno
    simp only [getR, dropL, hp]
    refine (rdrop_no h i g hno).mono ?_
    rintro r w' ⟨h1, h2⟩
    exact ⟨h1, h.fr h2 (by simp) (by simp), h2.mono (by simp)⟩
theorem sset (h : Sli w b d last L (held L)) (i g V : Int) :
    Calls Try.prog 53 #[.pointer (some ⟨b, 0, none⟩), .agg #[.int .i64 i, .int .i64 g], .int .i64 V] w fun r w' => r = .returned (.int .i64 (setR L i g)) ∧ Sli w' b d last (setL L i g V) (held (setL L i g V)) ∧ Fr [b, d] w w' := by
  rcases held_or (L := L) i g with ⟨k, s, rfl, hs, hh, rfl⟩ | hno
  · have hp := pick_yes hs hh
    simp only [setR, setL, hp]
    refine (sset_yes h hs hh V).mono ?_
    rintro r w' ⟨h1, h2, h3⟩
    refine ⟨h1, ?_, h3.mono (by simp)⟩
    rw [← held_same hs hh s.gen V] at h2
    exact h2
  · have hp := pick_no hno
    simp only [setR, setL, hp]
    refine (sset_no h i g hno V).mono ?_
    rintro r w' ⟨h1, h2⟩
    exact ⟨h1, h.fr h2 (by simp), h2.mono (by simp)⟩
theorem rset (h : RefP w B e last L) (i g V : Int) :
    Calls Try.prog 54 #[.pointer (some ⟨B, 0, none⟩), .agg #[.int .i64 i, .int .i64 g], .int .i64 V] w fun r w' => r = .returned (.int .i64 (setR L i g)) ∧ RefP w' B e last (setL L i g V) ∧ Fr [e] w w' := by
  rcases held_or (L := L) i g with ⟨k, s, rfl, hs, hh, rfl⟩ | hno
  · have hp := pick_yes hs hh
    simp only [setR, setL, hp]
    exact rset_yes h hs hh V
  · have hp := pick_no hno
    simp only [setR, setL, hp]
    refine (rset_no h i g hno V).mono ?_
    rintro r w' ⟨h1, h2⟩
    exact ⟨h1, h.fr h2 (by simp) (by simp), h2.mono (by simp)⟩
theorem sput (h : Sli w b d last L (held L)) (V : Int) :
    Calls Try.prog 12 #[.pointer (some ⟨b, 0, none⟩), .int .i64 V] w fun r w' => r = .returned (.tuple #[.agg #[.int .i64 (putR last L).1, .int .i64 (putR last L).2.1], .int .i64 (putR last L).2.2]) ∧ Sli w' b d last (putL last L V) (held (putL last L V)) ∧ Fr [b, d] w w' := by
  have hc : held L ≤ 65536 := by have := held_le L; have := h.room; omega
  cases hf : freeIdx last L with
  | some i =>
    obtain ⟨s, hs, hh, hg⟩ := freeIdx_at hf
    simp only [putR, putL, hf, hs]
    refine (put_some_i h hc V hf hs).mono ?_
    rintro r w' ⟨h1, h2, h3⟩
    refine ⟨by simpa using h1, ?_, h3⟩
    rw [← held_put hs hh (s.gen + 1) V] at h2
    simpa using h2
  | none =>
    simp only [putR, putL, hf]
    refine (put_none_i h hc V hf).mono ?_
    rintro r w' ⟨h1, h2⟩
    exact ⟨h1, h.fr h2 (by simp), h2.mono (by simp)⟩
theorem rput' (h : RefP w B e last L) (V : Int) :
    Calls Try.prog 51 #[.pointer (some ⟨B, 0, none⟩), .int .i64 V] w fun r w' => r = .returned (.tuple #[.agg #[.int .i64 (putR last L).1, .int .i64 (putR last L).2.1], .int .i64 (putR last L).2.2]) ∧ RefP w' B e last (putL last L V) ∧ Fr [e] w w' := by
  cases hf : freeIdx last L with
  | some i =>
    obtain ⟨s, hs, hh, hg⟩ := freeIdx_at hf
    simp only [putR, putL, hf, hs]
    refine (rput_some h V hf hs).mono ?_
    rintro r w' ⟨h1, h2, h3⟩
    exact ⟨by simpa using h1, by simpa using h2, h3⟩
  | none =>
    simp only [putR, putL, hf]
    refine (rput_none h V hf).mono ?_
    rintro r w' ⟨h1, h2⟩
    exact ⟨h1, h.fr h2 (by simp) (by simp), h2.mono (by simp)⟩
theorem dropL_len (L : List (Slot Int)) (i g : Int) : (dropL L i g).length = L.length := by
  unfold dropL; split <;> simp
theorem setL_len (L : List (Slot Int)) (i g V : Int) : (setL L i g V).length = L.length := by
  unfold setL; split <;> simp
theorem putL_len (last : Nat) (L : List (Slot Int)) (V : Int) : (putL last L V).length = L.length := by
  unfold putL; split <;> simp
end
end Go.Proofs.Ytoodgjmgkjhpoaa
