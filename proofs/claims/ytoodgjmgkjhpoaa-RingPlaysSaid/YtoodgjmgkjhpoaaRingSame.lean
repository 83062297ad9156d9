/- The statements' same: two rows of the same numbers; rows; turns in plain lists; two rings. -/
import Derived.Test.YtoodgjmgkjhpoaaRingTold
namespace Go.Proofs.Ytoodgjmgkjhpoaa
open Go Go.RowKit
attribute [local go_sem] calmQ_normal wide_fn wide_depth Oper.semAt_some

/-- a slice of the numbers xs, wherever it lies -/
def RowI (w : World) (ao : Option Addr) (xs : List Int) : Prop :=
  ∀ k x, xs[k]? = some x → ∃ b off, ao = some ⟨b, off, none⟩ ∧ w.cell? ⟨b, off + k, none⟩ = some (.int .i64 x)
theorem RowI.fr {w w' : World} {ao : Option Addr} {xs : List Int} (h : RowI w ao xs) {S : List Nat} (f : Fr S w w') (hn : ∀ b off, ao = some ⟨b, off, none⟩ → b ∉ S) : RowI w' ao xs := fun k x hk => by
  obtain ⟨b, off, h1, h2⟩ := h k x hk
  exact ⟨b, off, h1, (f.cell (p := ⟨b, off + k, none⟩) (World.block_lt_of_cell? _ _ h2) (hn b off h1)).trans h2⟩
theorem OwnS.row {w : World} {t : Nat} {ao : Option Addr} {n cap : Nat} {xs : List Int} {S : List Nat} (h : OwnS w t 1 (.slice ao n cap) n (xs.flatMap encI) S) : RowI w ao xs := fun k x hk => by
  have hl := h.1
  rw [length_flatMap_enc (fun _ => rfl) xs (sz := 1)] at hl
  have hkl := some_lt hk
  obtain ⟨g, cap', hv, _⟩ := h.head (by omega)
  cases hv
  refine ⟨g, 0, rfl, ?_⟩
  rw [Nat.zero_add, h.cellAt k (by omega)]
  have := flatMap_at (sz := 1) (enc := encI) (fun _ => rfl) hk (j := 0) (by decide)
  simpa [encI] using this

set_option maxRecDepth 100000 in
set_option maxHeartbeats 4000000 in
theorem same_yes {w : World} {ao bo : Option Addr} {n ca cb : Nat} {xs : List Int} (hn : n = xs.length) (hm : n ≤ maxLen) (ha : RowI w ao xs) (hb : RowI w bo xs) :
    Calls Try.prog 30 #[.slice ao n ca, .slice bo n cb] w fun e w' => e = .returned (.bool true) ∧ Fr [] w w' := by
  have HA := Lib.hid ha
  have HB := Lib.hid hb
  have HN := Lib.hid hn
  unfold maxLen at hm
  clear ha hb hn
  go_enter Try.func30, Try.ntmps30
  go_wp2
  go_loopg [5] (n + 1) (fun k iv wr => ∃ j : Nat, k + j = n + 1 ∧ j ≤ n ∧ iv = .int .i64 j ∧ Hid (Fr [] w wr))
  case atStart => exact ⟨0, by omega, by omega, rfl, Fr.refl _ _⟩
  case round =>
    obtain ⟨j, hk, hj, rfl, hf⟩ := hrel
    by_cases hjn : j < n
    · obtain ⟨x, hx⟩ : ∃ x, xs[j]? = some x := ⟨xs[j]'(by have := HN.out; omega), by have := HN.out; simp [show j < xs.length by omega]⟩
      obtain ⟨b1, o1, rfl, h1⟩ := HA.out j x hx
      obtain ⟨b2, o2, rfl, h2⟩ := HB.out j x hx
      have c1 := (hf.out.cell (p := ⟨b1, o1 + j, none⟩) (World.block_lt_of_cell? _ _ h1) (by simp)).trans h1
      have c2 := (hf.out.cell (p := ⟨b2, o2 + j, none⟩) (World.block_lt_of_cell? _ _ h2) (by simp)).trans h2
      clear h1 h2 hx
      go_wp2
      go_quiet (fail)
      go_wp2
      go_roundg (gk - 1)
      case measure => omega
      case rel => exact ⟨j + 1, by omega, by omega, by go_num, hf.out.drewN _⟩
    · obtain rfl : j = n := by omega
      go_wp2
      go_ret
      exact ⟨rfl, hf.out⟩

/-- turned, of whatever list -/
def rotZ (xs : List Int) (i : Int) : List Int := if xs.length = 0 then xs else rot xs (i % xs.length).toNat
theorem rot_at {xs : List Int} {a k : Nat} (ha : a < xs.length) (hk : k < xs.length) : (rot xs a)[k]? = xs[(a + k) % xs.length]? := by
  unfold rot
  by_cases h : k < xs.length - a
  · rw [List.getElem?_append_left (by rw [List.length_drop]; exact h), List.getElem?_drop, Nat.mod_eq_of_lt (by omega)]
  · rw [List.getElem?_append_right (by rw [List.length_drop]; omega), List.length_drop, List.getElem?_take_of_lt (by omega)]
    rw [Nat.mod_eq_sub_mod (by omega), Nat.mod_eq_of_lt (by omega)]
    congr 1
    omega
theorem rotZ_len (xs : List Int) (i : Int) : (rotZ xs i).length = xs.length := by
  unfold rotZ
  by_cases h : xs.length = 0
  · rw [if_pos h]
  · rw [if_neg h]
    exact rot_len_i xs _ (by have := Int.emod_lt_of_pos i (show (0 : Int) < xs.length by omega); omega)
theorem rotZ_at {xs : List Int} (i : Int) {k : Nat} (hk : k < xs.length) : (rotZ xs i)[k]? = xs[((i + k) % xs.length).toNat]? := by
  have h0 := Int.emod_nonneg i (show (xs.length : Int) ≠ 0 by omega)
  have h1 := Int.emod_lt_of_pos i (show (0 : Int) < xs.length by omega)
  unfold rotZ
  rw [if_neg (by omega), rot_at (by omega) hk]
  congr 1
  have h2 : (((i % xs.length).toNat + k : Nat) : Int) = i % xs.length + k := by omega
  have h3 : ((((i % xs.length).toNat + k) % xs.length : Nat) : Int) = (i + k) % xs.length := by
    rw [Int.natCast_emod, h2, Int.emod_add_emod]
  omega
theorem rotZ_add (xs : List Int) (i j : Int) : rotZ (rotZ xs i) j = rotZ xs (i + j) := by
  refine List.ext_getElem? fun k => ?_
  by_cases hk : k < xs.length
  · have h0 := Int.emod_nonneg (j + k) (show (xs.length : Int) ≠ 0 by omega)
    have h1 := Int.emod_lt_of_pos (j + k) (show (0 : Int) < xs.length by omega)
    rw [rotZ_at j (by rw [rotZ_len]; exact hk), rotZ_len, rotZ_at i (by omega), rotZ_at (i + j) hk]
    congr 2
    rw [Int.toNat_of_nonneg h0, Int.add_emod_emod, Int.add_assoc]
  · rw [List.getElem?_eq_none (by rw [rotZ_len, rotZ_len]; omega), List.getElem?_eq_none (by rw [rotZ_len]; omega)]
theorem rotZ_none (xs : List Int) (i : Int) (h : i % xs.length = 0) : rotZ xs i = xs := by
  unfold rotZ
  by_cases h0 : xs.length = 0
  · rw [if_pos h0]
  · rw [if_neg h0, h]
    simp [rot]
theorem turnZ {w : World} {r : Nat} {ds : List Nat} {xs : List Int} (h : Rgi w r ds xs) (hx : xs.length ≤ 268435456) (i : Int) :
    Calls Try.prog 29 #[.pointer (some ⟨r, 0, none⟩), .int .i64 i] w fun e w' => e = .returned (.tuple #[]) ∧ ∃ ds', Rgi w' r ds' (rotZ xs i) ∧ Fr (r :: ds) w w' ∧ Gr w ds ds' := by
  by_cases h0 : xs.length = 0
  · obtain rfl := List.eq_nil_of_length_eq_zero h0
    refine (turn_no_i h i).mono fun e w' ⟨h1, h2⟩ => ⟨h1, ds, ?_, ?_, Gr.refl _ _⟩
    · rw [h2]; exact h
    · rw [h2]; exact Fr.refl _ _
  · refine (turn_i h (by omega) hx i).mono fun e w' ⟨h1, ds', h2, h3⟩ => ⟨h1, ds', ?_, h3⟩
    unfold rotZ
    rw [if_neg h0]
    exact h2

/-- two rings made since w₀, apart -/
structure R2 (w₀ w : World) (r : Nat) (dr : List Nat) (xs : List Int) (s : Nat) (dt : List Nat) (ys : List Int) : Prop where
  a : Rgi w r dr xs
  b : Rgi w s dt ys
  dis : ∀ x, x ∈ r :: dr → x ∉ s :: dt
  new : ∀ x, x ∈ r :: dr ∨ x ∈ s :: dt → w₀.heap.size ≤ x
  fr : Fr [] w₀ w
section
variable {w₀ w w' : World} {r s : Nat} {dr dt dr' dt' : List Nat} {xs xs' ys ys' : List Int}
theorem R2.fr0 (h : R2 w₀ w r dr xs s dt ys) (f : Fr [] w w') : R2 w₀ w' r dr xs s dt ys := ⟨h.a.fr f (by simp), h.b.fr f (by simp), h.dis, h.new, h.fr.trans' f⟩
theorem R2.swap (h : R2 w₀ w r dr xs s dt ys) : R2 w₀ w s dt ys r dr xs := ⟨h.b, h.a, fun x hx hm => h.dis x hm hx, fun x hx => h.new x hx.symm, h.fr⟩
theorem R2.one (h : R2 w₀ w r dr xs s dt ys) (k : Rgi w' r dr' xs') (f : Fr (r :: dr) w w') (g : Gr w dr dr') : R2 w₀ w' r dr' xs' s dt ys := by
  have hz := h.fr.size
  have hs := h.b.lt
  refine ⟨k, h.b.fr f (fun x hx hm => h.dis x hm hx), fun x hx hm => ?_, fun x hx => ?_, h.fr.trans (fun x hx => .inr (h.new x (.inl hx))) f⟩
  · rcases List.mem_cons.1 hx with rfl | hx
    · exact h.dis _ (by simp) hm
    · rcases g x hx with h' | h'
      · exact h.dis x (by simp [h']) hm
      · have := hs x hm
        omega
  · rcases hx with hx | hx
    · rcases List.mem_cons.1 hx with rfl | hx
      · exact h.new _ (.inl (by simp))
      · rcases g x hx with h' | h'
        · exact h.new x (.inl (by simp [h']))
        · omega
    · exact h.new x (.inr hx)
theorem R2.two (h : R2 w₀ w r dr xs s dt ys) (k : Rgi w' s dt' ys') (f : Fr (s :: dt) w w') (g : Gr w dt dt') : R2 w₀ w' r dr xs s dt' ys' := (h.swap.one k f g).swap
end
end Go.Proofs.Ytoodgjmgkjhpoaa
