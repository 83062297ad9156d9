/- Turns, in plain lists: what choose does, one turn after the other. -/
import Derived.Test.YteojodcdehkejaaDrrCore
namespace Go.Proofs.Yteojodcdehkejaa
open Go Go.RowKit

/-- the size of a flow's first packet -/
def Fl.sz (f : Fl) : Int := match f.q with
  | [] => 0
  | p :: _ => p.f3
def Fl.add (f : Fl) (x : Int) : Fl := { f with df := f.df + x }
theorem Fl.add_sz (f : Fl) (x : Int) : (f.add x).sz = f.sz := rfl

/-- turns that send nothing -/
inductive Turns : List Fl → List Nat → Bool → List Fl → List Nat → Bool → Prop
  | refl (fl : List Fl) (ri : List Nat) (t : Bool) : Turns fl ri t fl ri t
  | step {fl : List Fl} {i : Nat} {rest : List Nat} {t : Bool} {f : Fl} {fl' : List Fl} {ri' : List Nat} {t' : Bool} (hf : fl[i]? = some f) (h : f.df + (if t then 0 else f.qt) < f.sz)
      (k : Turns (fl.set i (f.add (if t then 0 else f.qt))) (rest ++ [i]) false fl' ri' t') : Turns fl (i :: rest) t fl' ri' t'
theorem Turns.trans {a : List Fl} {ra : List Nat} {ta : Bool} {b : List Fl} {rb : List Nat} {tb : Bool} {c : List Fl} {rc : List Nat} {tc : Bool} (h : Turns a ra ta b rb tb) (k : Turns b rb tb c rc tc) : Turns a ra ta c rc tc := by
  induction h with
  | refl => exact k
  | step hf h _ ih => exact Turns.step hf h (ih k)
theorem Turns.one {fl : List Fl} {i : Nat} {rest : List Nat} {t : Bool} {f : Fl} (hf : fl[i]? = some f) (h : f.df + (if t then 0 else f.qt) < f.sz) : Turns fl (i :: rest) t (fl.set i (f.add (if t then 0 else f.qt))) (rest ++ [i]) false :=
  Turns.step hf h (Turns.refl _ _ _)

/-- all of the ring get so many quanta -/
def bump (fl : List Fl) (ri : List Nat) (c : Int) : List Fl := fl.mapIdx fun i f => if i ∈ ri then f.add (c * f.qt) else f
theorem bump_at {fl : List Fl} {ri : List Nat} {c : Int} {i : Nat} : (bump fl ri c)[i]? = (fl[i]?).map fun f => if i ∈ ri then f.add (c * f.qt) else f := by
  simp [bump, List.getElem?_mapIdx]
theorem bump_len (fl : List Fl) (ri : List Nat) (c : Int) : (bump fl ri c).length = fl.length := by simp [bump]
theorem bump_zero (fl : List Fl) (ri : List Nat) : bump fl ri 0 = fl := by
  refine List.ext_getElem? fun i => ?_
  rw [bump_at]
  cases fl[i]? with
  | none => rfl
  | some f => simp [Fl.add]
theorem bump_nil (fl : List Fl) (c : Int) : bump fl [] c = fl := by
  refine List.ext_getElem? fun i => ?_
  rw [bump_at]
  cases fl[i]? with
  | none => rfl
  | some f => simp
theorem bump_bump (fl : List Fl) (ri : List Nat) (c e : Int) : bump (bump fl ri c) ri e = bump fl ri (c + e) := by
  refine List.ext_getElem? fun i => ?_
  rw [bump_at, bump_at, bump_at]
  cases fl[i]? with
  | none => rfl
  | some f =>
    by_cases h : i ∈ ri
    · simp [h, Fl.add, Int.add_mul, Int.add_assoc]
    · simp [h]
theorem bump_cons {fl : List Fl} {i : Nat} {a : List Nat} {f : Fl} (hf : fl[i]? = some f) (hn : i ∉ a) : bump (fl.set i (f.add f.qt)) a 1 = bump fl (i :: a) 1 := by
  have hi := some_lt hf
  refine List.ext_getElem? fun j => ?_
  rw [bump_at, bump_at]
  by_cases e : j = i
  · subst e
    rw [List.getElem?_set_self hi, hf]
    simp [hn]
  · rw [List.getElem?_set_ne (Ne.symm e)]
    simp [e]

theorem bump_take {fl : List Fl} {ri : List Nat} {k i : Nat} {f : Fl} {c : Int} (hn : ri.Nodup) (hk : ri[k]? = some i) (hf : fl[i]? = some f) : (bump fl (ri.take k) c)[i]? = some f ∧ bump fl (ri.take (k + 1)) c = (bump fl (ri.take k) c).set i (f.add (c * f.qt)) := by
  have hi := some_lt hf
  obtain ⟨hkl, hk'⟩ := List.getElem?_eq_some_iff.1 hk
  have hni : i ∉ ri.take k := fun hm => by
    obtain ⟨j, hj, he⟩ := List.getElem_of_mem hm
    rw [List.getElem_take] at he
    simp at hj
    have := (List.getElem_inj (h₀ := by omega) (h₁ := hkl) hn).1 (he.trans hk'.symm)
    omega
  refine ⟨by rw [bump_at, hf]; simp [hni], ?_⟩
  refine List.ext_getElem? fun j => ?_
  rw [bump_at, List.take_add_one, hk]
  by_cases e : i = j
  · subst e
    rw [List.getElem?_set_self (by rw [bump_len]; exact hi), hf]
    simp
  · rw [List.getElem?_set_ne e, bump_at]
    simp [Ne.symm e]
theorem bump_bs (fl : List Fl) (ri : List Nat) (c : Int) : Chunks.bs ((bump fl ri c).map CStr) = Chunks.bs (fl.map CStr) := by
  unfold Chunks.bs bump
  rw [List.flatMap_map, List.flatMap_map]
  have : ∀ (l : List Fl) (n : Nat), (l.mapIdx fun i f => if (i + n) ∈ ri then f.add (c * f.qt) else f).flatMap (fun x => (CStr x).bs) = l.flatMap (fun x => (CStr x).bs) := by
    intro l
    induction l with
    | nil => intro n; rfl
    | cons a l ih =>
      intro n
      rw [List.mapIdx_cons]
      simp only [List.flatMap_cons, Nat.zero_add]
      have := ih (n + 1)
      rw [show (fun i (f : Fl) => if i + 1 + n ∈ ri then f.add (c * f.qt) else f) = (fun i f => if i + (n + 1) ∈ ri then f.add (c * f.qt) else f) from by funext i f; rw [Nat.add_assoc, Nat.add_comm 1 n]]
      rw [this]
      congr 1
      split <;> rfl
  have h := this fl 0
  simpa using h
theorem bump_q (fl : List Fl) (ri : List Nat) (c : Int) : (bump fl ri c).map CQ = fl.map CQ := by
  refine List.ext_getElem? fun i => ?_
  rw [List.getElem?_map, List.getElem?_map, bump_at]
  cases fl[i]? with
  | none => rfl
  | some f => simp only [Option.map_some]; congr 1; split <;> rfl
theorem bump_b {fl : List Fl} {ri : List Nat} {c : Int} (i : Nat) : ((bump fl ri c)[i]?).map (·.b) = (fl[i]?).map (·.b) := by
  rw [bump_at]
  cases fl[i]? with
  | none => rfl
  | some f => simp only [Option.map_some]; congr 1; split <;> rfl
theorem Turns.round : ∀ (a b : List Nat) (fl : List Fl), (a ++ b).Nodup → (∀ i, i ∈ a → ∃ f, fl[i]? = some f ∧ f.df + f.qt < f.sz) → Turns fl (a ++ b) false (bump fl a 1) (b ++ a) false
  | [], b, fl, _, _ => by rw [bump_nil, List.append_nil]; exact Turns.refl _ _ _
  | i :: a, b, fl, hn, h => by
    obtain ⟨f, hf, hl⟩ := h i (by simp)
    have hn' := List.nodup_cons.1 (show (i :: (a ++ b)).Nodup from hn)
    have hia : i ∉ a := fun hm => hn'.1 (by simp [hm])
    refine Turns.step hf (by simpa using hl) ?_
    have ih := Turns.round a (b ++ [i]) (fl.set i (f.add f.qt)) ?_ (fun j hj => ?_)
    · rw [bump_cons hf hia] at ih
      simpa using ih
    · rw [← List.append_assoc]
      refine List.nodup_append.2 ⟨hn'.2, by simp, fun x hx y hy e => ?_⟩
      simp at hy; subst hy; subst e; exact hn'.1 hx
    · obtain ⟨g, hg, hgl⟩ := h j (by simp [hj])
      refine ⟨g, ?_, hgl⟩
      rw [List.getElem?_set_ne (fun e => hia (by rw [e]; exact hj))]
      exact hg
theorem Turns.rounds (ri : List Nat) (hn : ri.Nodup) (fl : List Fl) : ∀ c : Nat, (∀ i, i ∈ ri → ∃ f, fl[i]? = some f ∧ f.df + (c : Int) * f.qt < f.sz ∧ 0 ≤ f.qt) → Turns fl ri false (bump fl ri c) ri false
  | 0, _ => by
    have := bump_zero fl ri
    simp only [Int.natCast_zero]
    rw [this]
    exact Turns.refl _ _ _
  | c + 1, h => by
    have e : ((c + 1 : Nat) : Int) = (c : Int) + 1 := by omega
    have h1 := Turns.rounds ri hn fl c (fun i hi => by
      obtain ⟨f, hf, hl, hq⟩ := h i hi
      refine ⟨f, hf, ?_, hq⟩
      rw [e, Int.add_mul] at hl
      omega)
    have h2 := Turns.round ri [] (bump fl ri c) (by simpa using hn) (fun i hi => by
      obtain ⟨f, hf, hl, hq⟩ := h i hi
      refine ⟨f.add (c * f.qt), by rw [bump_at, hf]; simp [hi], ?_⟩
      rw [e, Int.add_mul] at hl
      simp only [Fl.add, Fl.sz] at *
      omega)
    rw [bump_bump] at h2
    simp only [List.append_nil, List.nil_append] at h2
    rw [e]
    exact h1.trans h2
end Go.Proofs.Yteojodcdehkejaa
