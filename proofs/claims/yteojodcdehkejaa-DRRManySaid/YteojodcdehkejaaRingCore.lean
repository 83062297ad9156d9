/- Rings, in plain lists: cells that lie round. -/
import Derived.Test.YteojodcdehkejaaTail
namespace Go.Proofs.Yteojodcdehkejaa
open Go Go.RowKit

/-- a pointer to the head of a block, or none -/
abbrev ptrV (o : Option Nat) : Value := .pointer (o.map fun b => ⟨b, 0, none⟩)

theorem mod2 {a L : Nat} (h : a < L + L) : a % L = if a < L then a else a - L := by
  split
  · exact Nat.mod_eq_of_lt (by assumption)
  · rw [Nat.mod_eq_sub_mod (by omega)]; exact Nat.mod_eq_of_lt (by omega)

/-- ys stands at place m of cs' (places are sz cells wide), all else as in cs. -/
def Splice (cs cs' : List Value) (sz m : Nat) (ys : List Value) : Prop :=
  cs'.length = cs.length ∧ (∀ j, j < sz → cs'[m * sz + j]? = ys[j]?) ∧ ∀ k, (k < m * sz ∨ m * sz + sz ≤ k) → cs'[k]? = cs[k]?

theorem Splice.one {cs : List Value} {m : Nat} (h : m < cs.length) (v : Value) : Splice cs (cs.set m v) 1 m [v] := by
  refine ⟨by simp, fun j hj => ?_, fun k hk => ?_⟩
  · have : j = 0 := by omega
    subst this
    simp [h]
  · rw [List.getElem?_set_ne (by omega)]

theorem Splice.row {cs ys : List Value} {sz m : Nat} (hy : ys.length = sz) (h : m * sz + sz ≤ cs.length) : Splice cs (cs.take (m * sz) ++ ys ++ cs.drop (m * sz + sz)) sz m ys := by
  subst hy
  refine ⟨by simp; omega, fun j hj => ?_, fun k hk => ?_⟩
  · rw [List.append_assoc, List.getElem?_append_right (by simp; omega), List.length_take, Nat.min_eq_left (by omega), Nat.add_sub_cancel_left, List.getElem?_append_left hj]
  · rcases hk with hk | hk
    · rw [List.append_assoc, List.getElem?_append_left (by simp; omega), List.getElem?_take_of_lt hk]
    · rw [List.getElem?_append_right (by simp; omega), List.getElem?_drop, List.length_append, List.length_take, Nat.min_eq_left (by omega)]
      congr 1; omega
theorem Splice.take {cs cs' : List Value} {sz m : Nat} {ys : List Value} (h : Splice cs cs' sz m ys) {q j : Nat} (hq : q ≠ m) (hj : j < sz) : cs'[q * sz + j]? = cs[q * sz + j]? := by
  refine h.2.2 _ ?_
  rcases Nat.lt_or_gt_of_ne hq with hlt | hgt
  · left
    calc q * sz + j < q * sz + sz := by omega
      _ = (q + 1) * sz := by rw [Nat.add_mul, Nat.one_mul]
      _ ≤ m * sz := Nat.mul_le_mul_right _ hlt
  · right
    calc m * sz + sz = (m + 1) * sz := by rw [Nat.add_mul, Nat.one_mul]
      _ ≤ q * sz := Nat.mul_le_mul_right _ hgt
      _ ≤ q * sz + j := by omega

/-- The things of xs lie round in cs, from head on. -/
structure Cyc {α : Type} (L head sz : Nat) (enc : α → List Value) (cs : List Value) (xs : List α) : Prop where
  len : cs.length = L * sz
  room : xs.length ≤ L
  headL : head < L
  at_ : ∀ i x, xs[i]? = some x → ∀ j, j < sz → cs[((head + i) % L) * sz + j]? = (enc x)[j]?

variable {α : Type} {L head sz : Nat} {enc : α → List Value} {cs cs' : List Value} {xs : List α}

theorem some_lt {i : Nat} {x : α} (h : xs[i]? = some x) : i < xs.length := (List.getElem?_eq_some_iff.1 h).1

theorem Cyc.set (h : Cyc L head sz enc cs xs) {i : Nat} (hi : i < xs.length) {y : α} (s : Splice cs cs' sz ((head + i) % L) (enc y)) : Cyc L head sz enc cs' (xs.set i y) := by
  refine ⟨by rw [s.1, h.len], by rw [List.length_set]; exact h.room, h.headL, fun k x hk j hj => ?_⟩
  have hr := h.room
  have hh := h.headL
  by_cases e : k = i
  · subst e
    rw [List.getElem?_set_self hi] at hk
    cases hk
    exact s.2.1 j hj
  · rw [List.getElem?_set_ne (Ne.symm e)] at hk
    have hkl := some_lt hk
    rw [s.take ?_ hj]
    · exact h.at_ k x hk j hj
    · rw [mod2 (by omega), mod2 (by omega)]
      split <;> split <;> omega

theorem Cyc.back (h : Cyc L head sz enc cs xs) (hr : xs.length < L) {y : α} (s : Splice cs cs' sz ((head + xs.length) % L) (enc y)) : Cyc L head sz enc cs' (xs ++ [y]) := by
  refine ⟨by rw [s.1, h.len], by simp; omega, h.headL, fun k x hk j hj => ?_⟩
  have hh := h.headL
  have hkl := some_lt hk
  simp at hkl
  by_cases e : k = xs.length
  · subst e
    rw [List.getElem?_append_right (Nat.le_refl _)] at hk
    simp at hk
    subst hk
    exact s.2.1 j hj
  · rw [List.getElem?_append_left (by omega)] at hk
    rw [s.take ?_ hj]
    · exact h.at_ k x hk j hj
    · rw [mod2 (by omega), mod2 (by omega)]
      split <;> split <;> omega

theorem Cyc.front (h : Cyc L head sz enc cs xs) (hr : xs.length < L) {y : α} {hd : Nat} (hhd : hd = (head + (L - 1)) % L) (s : Splice cs cs' sz hd (enc y)) : Cyc L hd sz enc cs' (y :: xs) := by
  have hh := h.headL
  have e1 : hd = if head + (L - 1) < L then head + (L - 1) else head + (L - 1) - L := by rw [hhd]; exact mod2 (by omega)
  have hdL : hd < L := by rw [e1]; split <;> omega
  refine ⟨by rw [s.1, h.len], by simp; omega, hdL, fun k x hk j hj => ?_⟩
  have hkl := some_lt hk
  simp at hkl
  cases k with
  | zero =>
    simp at hk
    subst hk
    rw [Nat.add_zero, Nat.mod_eq_of_lt hdL]
    exact s.2.1 j hj
  | succ k =>
    simp at hk
    have e : (hd + (k + 1)) % L = (head + k) % L := by
      rw [mod2 (by omega), mod2 (by omega), e1]
      split <;> split <;> split <;> omega
    rw [e, s.take ?_ hj]
    · exact h.at_ k x hk j hj
    · rw [mod2 (by omega), e1]
      split <;> split <;> omega

theorem Cyc.popF {x0 : α} (h : Cyc L head sz enc cs (x0 :: xs)) {ys : List Value} (s : Splice cs cs' sz head ys) : Cyc L ((head + 1) % L) sz enc cs' xs := by
  have hh := h.headL
  have hr := h.room
  simp at hr
  have e1 : (head + 1) % L = if head + 1 < L then head + 1 else head + 1 - L := mod2 (by omega)
  have hdL : (head + 1) % L < L := Nat.mod_lt _ (by omega)
  refine ⟨by rw [s.1, h.len], by omega, hdL, fun k x hk j hj => ?_⟩
  have hkl := some_lt hk
  have e : ((head + 1) % L + k) % L = (head + (k + 1)) % L := by
    rw [Nat.mod_add_mod]; congr 1; omega
  rw [e, s.take ?_ hj]
  · exact h.at_ (k + 1) x (by simpa using hk) j hj
  · rw [mod2 (by omega)]
    split <;> omega

theorem Cyc.popB {x0 : α} (h : Cyc L head sz enc cs (xs ++ [x0])) {ys : List Value} (s : Splice cs cs' sz ((head + xs.length) % L) ys) : Cyc L head sz enc cs' xs := by
  have hh := h.headL
  have hr := h.room
  simp at hr
  refine ⟨by rw [s.1, h.len], by omega, hh, fun k x hk j hj => ?_⟩
  have hkl := some_lt hk
  rw [s.take ?_ hj]
  · exact h.at_ k x (by rw [List.getElem?_append_left hkl]; exact hk) j hj
  · rw [mod2 (by omega), mod2 (by omega)]
    split <;> split <;> omega

/-- Straight, from the first cell on: what an owned row holds. -/
theorem Cyc.straight {L' : Nat} (hL : xs.length ≤ L') (h0 : 0 < L') (hlen : cs.length = L' * sz) (henc : ∀ x, (enc x).length = sz) (ht : cs.take (xs.length * sz) = xs.flatMap enc) : Cyc L' 0 sz enc cs xs := by
  refine ⟨hlen, hL, h0, fun i x hi j hj => ?_⟩
  have hil := some_lt hi
  rw [Nat.zero_add, Nat.mod_eq_of_lt (by omega)]
  have e : cs[i * sz + j]? = (cs.take (xs.length * sz))[i * sz + j]? := by
    rw [List.getElem?_take_of_lt]
    calc i * sz + j < i * sz + sz := by omega
      _ = (i + 1) * sz := by rw [Nat.add_mul, Nat.one_mul]
      _ ≤ xs.length * sz := Nat.mul_le_mul_right _ hil
  rw [e, ht]
  clear e ht hlen h0 hL
  induction xs generalizing i with
  | nil => simp at hi
  | cons y ys ih =>
    simp only [List.flatMap_cons]
    cases i with
    | zero =>
      simp at hi
      subst hi
      rw [Nat.zero_mul, Nat.zero_add, List.getElem?_append_left (by rw [henc]; exact hj)]
    | succ i =>
      simp at hi
      have := ih i hi (some_lt hi)
      rw [List.getElem?_append_right (by rw [henc, Nat.add_mul]; omega), henc]
      rw [show (i + 1) * sz + j - sz = i * sz + j from by rw [Nat.add_mul]; omega]
      exact this

theorem length_flatMap_enc (henc : ∀ x, (enc x).length = sz) (xs : List α) : (xs.flatMap enc).length = xs.length * sz := by
  induction xs with
  | nil => simp
  | cons x xs ih => simp [henc, ih, Nat.add_mul]; omega

theorem flatMap_at (henc : ∀ x, (enc x).length = sz) {i : Nat} {x : α} (hi : xs[i]? = some x) {j : Nat} (hj : j < sz) : (xs.flatMap enc)[i * sz + j]? = (enc x)[j]? := by
  have hl := length_flatMap_enc henc xs
  have := (Cyc.straight (L' := xs.length) (Nat.le_refl _) (by have := some_lt hi; omega) (cs := xs.flatMap enc) hl henc (by rw [← hl, List.take_length])).at_ i x hi j hj
  rwa [Nat.zero_add, Nat.mod_eq_of_lt (some_lt hi)] at this

theorem flatMap_splice (henc : ∀ x, (enc x).length = sz) {i : Nat} (hi : i < xs.length) {y : α} {cs' : List Value} (s : Splice (xs.flatMap enc) cs' sz i (enc y)) : cs' = (xs.set i y).flatMap enc := by
  have hl := length_flatMap_enc henc xs
  have hl' := length_flatMap_enc henc (xs.set i y)
  rw [List.length_set] at hl'
  by_cases hsz : sz = 0
  · subst hsz
    have e1 := s.1
    rw [hl] at e1
    simp only [Nat.mul_zero] at e1 hl'
    rw [List.eq_nil_of_length_eq_zero e1, List.eq_nil_of_length_eq_zero hl']
  refine List.ext_getElem? fun k => ?_
  by_cases hk : k < xs.length * sz
  · obtain ⟨q, j, hj, rfl⟩ : ∃ q j, j < sz ∧ k = q * sz + j := ⟨k / sz, k % sz, Nat.mod_lt _ (by omega), by rw [Nat.mul_comm]; exact (Nat.div_add_mod k sz).symm⟩
    have hq : q < xs.length := by
      rcases Nat.lt_or_ge q xs.length with h | h
      · exact h
      · have := Nat.mul_le_mul_right sz h
        omega
    by_cases e : q = i
    · subst e
      rw [s.2.1 j hj, flatMap_at henc (xs := xs.set q y) (x := y) (by simp [hq]) hj]
    · rw [s.take e hj, flatMap_at henc (x := xs[q]) (by simp [hq]) hj, flatMap_at henc (xs := xs.set i y) (x := xs[q]) (by rw [List.getElem?_set_ne (Ne.symm e)]; simp [hq]) hj]
  · rw [List.getElem?_eq_none (by rw [s.1, hl]; omega), List.getElem?_eq_none (by omega)]

/-- A ring in memory: the struct at the head of block r, its things in the block of ds (none: it never held one). -/
def RingAt (TR E sz : Nat) (enc : α → List Value) (w : World) (r : Nat) (ds : List Nat) (xs : List α) : Prop :=
  ∃ (L head : Nat) (sv : Value), Blk w r TR [sv, .int .i64 head, .int .i64 xs.length] ∧ L ≤ 1073741824 ∧
    ((L = 0 ∧ head = 0 ∧ xs = [] ∧ ds = [] ∧ sv = .slice none 0 0) ∨
     ∃ d cs, ds = [d] ∧ d ≠ r ∧ sv = .slice (some ⟨d, 0, none⟩) L L ∧ Blk w d E cs ∧ Cyc L head sz enc cs xs)

theorem RingAt.kept {TR E sz : Nat} {enc : α → List Value} {w w' : World} {r : Nat} {ds : List Nat} {xs : List α} (h : RingAt TR E sz enc w r ds xs) (hk : ∀ b, b ∈ r :: ds → w'.heap[b]? = w.heap[b]?) : RingAt TR E sz enc w' r ds xs := by
  obtain ⟨L, head, sv, hb, hL, h⟩ := h
  refine ⟨L, head, sv, (hk r (by simp)).trans hb, hL, ?_⟩
  rcases h with h | ⟨d, cs, rfl, hd, hsv, hbd, hc⟩
  · exact .inl h
  · exact .inr ⟨d, cs, rfl, hd, hsv, (hk d (by simp)).trans hbd, hc⟩
theorem RingAt.lt {TR E sz : Nat} {enc : α → List Value} {w : World} {r : Nat} {ds : List Nat} {xs : List α} (h : RingAt TR E sz enc w r ds xs) : ∀ b, b ∈ r :: ds → b < w.heap.size := by
  obtain ⟨L, head, sv, hb, hL, h⟩ := h
  intro b hm
  rcases List.mem_cons.1 hm with rfl | hm
  · exact hb.lt
  · rcases h with ⟨_, _, _, rfl, _⟩ | ⟨d, cs, rfl, hd, hsv, hbd, hc⟩
    · simp at hm
    · simp at hm; subst hm; exact hbd.lt
theorem RingAt.fr {TR E sz : Nat} {enc : α → List Value} {w w' : World} {r : Nat} {ds : List Nat} {xs : List α} (h : RingAt TR E sz enc w r ds xs) {S : List Nat} (f : Fr S w w') (hd : ∀ b, b ∈ r :: ds → b ∉ S) : RingAt TR E sz enc w' r ds xs :=
  h.kept fun b hb => f.block b (h.lt b hb) (hd b hb)
theorem RingAt.drewN {TR E sz : Nat} {enc : α → List Value} {w : World} {r : Nat} {ds : List Nat} {xs : List α} (h : RingAt TR E sz enc w r ds xs) (n : Nat) : RingAt TR E sz enc (w.drewN n) r ds xs := h
theorem RingAt.alloc {TR E sz : Nat} {enc : α → List Value} {w : World} {r : Nat} {ds : List Nat} {xs : List α} (h : RingAt TR E sz enc w r ds xs) (o : Obj) : RingAt TR E sz enc (w.alloc o) r ds xs := h.fr ((Fr.refl [] w).alloc o) (by simp)
theorem RingAt.nd {TR E sz : Nat} {enc : α → List Value} {w : World} {r : Nat} {ds : List Nat} {xs : List α} (h : RingAt TR E sz enc w r ds xs) : r ∉ ds := by
  obtain ⟨L, head, sv, hb, hL, h⟩ := h
  rcases h with ⟨_, _, _, rfl, _⟩ | ⟨d, cs, rfl, hd, hsv, hbd, hc⟩
  · simp
  · simpa using Ne.symm hd
theorem RingAt.sim {TR E sz : Nat} {enc : α → List Value} {w w' : World} {r : Nat} {ds : List Nat} {xs : List α} (h : RingAt TR E sz enc w r ds xs) (s : Sim w w') : RingAt TR E sz enc w' r ds xs := h.kept fun b _ => by rw [s.heap]
end Go.Proofs.Yteojodcdehkejaa
