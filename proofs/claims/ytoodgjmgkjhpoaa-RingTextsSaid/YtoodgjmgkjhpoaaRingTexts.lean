/- The statement RingTexts: the walk: of whatever steps and words it answers true. -/
import Derived.Test.YtoodgjmgkjhpoaaRingTS
import Derived.Test.YtoodgjmgkjhpoaaStepRow
namespace Go.Proofs.Ytoodgjmgkjhpoaa
open Go Go.RowKit
attribute [local go_sem] calmQ_normal wide_fn wide_depth Oper.semAt_some

/-- a ring of numbers and a ring of texts made since w₀, apart -/
structure RX (w₀ w : World) (r : Nat) (dr : List Nat) (xs : List Int) (s : Nat) (dt : List Nat) (ys : List ByteArray) : Prop where
  a : Rgi w r dr xs
  b : Rgs w s dt ys
  dis : ∀ x, x ∈ r :: dr → x ∉ s :: dt
  new : ∀ x, x ∈ r :: dr ∨ x ∈ s :: dt → w₀.heap.size ≤ x
  fr : Fr [] w₀ w
section
variable {w₀ w w' : World} {r s : Nat} {dr dt dr' dt' : List Nat} {xs xs' : List Int} {ys ys' : List ByteArray}
theorem RX.fr0 (h : RX w₀ w r dr xs s dt ys) (f : Fr [] w w') : RX w₀ w' r dr xs s dt ys := ⟨h.a.fr f (by simp), h.b.fr f (by simp), h.dis, h.new, h.fr.trans' f⟩
theorem RX.one (h : RX w₀ w r dr xs s dt ys) (k : Rgi w' r dr' xs') (f : Fr (r :: dr) w w') (g : Gr w dr dr') : RX w₀ w' r dr' xs' s dt ys := by
  have hz := h.fr.size
  have hs := h.b.lt
  refine ⟨k, h.b.fr f (fun x hx hm => h.dis x hm hx), fun x hx hm => ?_, fun x hx => ?_, h.fr.trans (fun x hx => .inr (h.new x (.inl hx))) f⟩
  · rcases List.mem_cons.1 hx with rfl | hx
    · exact h.dis _ (by simp) hm
    · rcases g x hx with h' | h'
      · exact h.dis x (by simp [h']) hm
      · have := hs x hm
        omega
  · rcases hx with hx | hx
    · rcases List.mem_cons.1 hx with rfl | hx
      · exact h.new _ (.inl (by simp))
      · rcases g x hx with h' | h'
        · exact h.new x (.inl (by simp [h']))
        · omega
    · exact h.new x (.inr hx)
theorem RX.two (h : RX w₀ w r dr xs s dt ys) (k : Rgs w' s dt' ys') (f : Fr (s :: dt) w w') (g : Gr w dt dt') : RX w₀ w' r dr xs s dt' ys' := by
  have hz := h.fr.size
  have hs := h.a.lt
  refine ⟨h.a.fr f (fun x hx hm => h.dis x hx hm), k, fun x hx hm => ?_, fun x hx => ?_, h.fr.trans (fun x hx => .inr (h.new x (.inr hx))) f⟩
  · rcases List.mem_cons.1 hm with rfl | hm
    · exact h.dis _ hx (by simp)
    · rcases g x hm with h' | h'
      · exact h.dis x hx (by simp [h'])
      · have := hs x hx
        omega
  · rcases hx with hx | hx
    · exact h.new x (.inl hx)
    · rcases List.mem_cons.1 hx with rfl | hx
      · exact h.new _ (.inr (by simp))
      · rcases g x hx with h' | h'
        · exact h.new x (.inr (by simp [h']))
        · omega
end

theorem eraseIdx_map' {β γ : Type} (f : β → γ) : ∀ (ks : List β) (n : Nat), (ks.map f).eraseIdx n = (ks.eraseIdx n).map f
  | [], _ => by simp
  | _ :: _, 0 => by simp
  | _ :: ks, n + 1 => by simp [eraseIdx_map' f ks n]
theorem fr_eq {A B : World} (h : B = A) : Fr [] A B := by subst h; exact Fr.refl _ _
theorem fr_drew {A B : World} {n : Nat} (h : B = A.drewN n) : Fr [] A B := by subst h; exact (Fr.refl _ _).drewN _
/-- turned, of whatever list -/
def rotW {β : Type} (xs : List β) (i : Int) : List β := if xs.length = 0 then xs else rot xs (i % xs.length).toNat
theorem rotW_map {β γ : Type} (f : β → γ) (xs : List β) (i : Int) : rotW (xs.map f) i = (rotW xs i).map f := by
  unfold rotW
  rw [List.length_map]
  by_cases h : xs.length = 0
  · rw [if_pos h, if_pos h]
  · rw [if_neg h, if_neg h]
    unfold rot
    rw [List.map_append, List.map_drop, List.map_take]
theorem rotW_mem {β : Type} (xs : List β) (i : Int) {x : β} (h : x ∈ rotW xs i) : x ∈ xs := by
  unfold rotW at h
  by_cases h0 : xs.length = 0
  · rwa [if_pos h0] at h
  · rw [if_neg h0] at h
    unfold rot at h
    rw [List.mem_append] at h
    rcases h with h | h
    · exact List.mem_of_mem_drop h
    · exact List.mem_of_mem_take h
theorem rotW_len {β : Type} (xs : List β) (i : Int) : (rotW xs i).length = xs.length := by
  unfold rotW
  by_cases h : xs.length = 0
  · rw [if_pos h]
  · rw [if_neg h]
    have := Int.emod_lt_of_pos i (show (0 : Int) < xs.length by omega)
    unfold rot
    simp
    omega
theorem turnS {w : World} {r : Nat} {ds : List Nat} {xs : List ByteArray} (h : Rgs w r ds xs) (hx : xs.length ≤ 268435456) (i : Int) :
    Calls Try.prog 41 #[.pointer (some ⟨r, 0, none⟩), .int .i64 i] w fun e w' => e = .returned (.tuple #[]) ∧ ∃ ds', Rgs w' r ds' (rotW xs i) ∧ Fr (r :: ds) w w' ∧ Gr w ds ds' := by
  by_cases h0 : xs.length = 0
  · obtain rfl := List.eq_nil_of_length_eq_zero h0
    refine (turn_no_s h i).mono fun e w' ⟨h1, h2⟩ => ⟨h1, ds, ?_, ?_, Gr.refl _ _⟩
    · rw [h2]; exact h
    · rw [h2]; exact Fr.refl _ _
  · refine (turn_s h (by omega) hx i).mono fun e w' ⟨h1, ds', h2, h3⟩ => ⟨h1, ds', ?_, h3⟩
    unfold rotW
    rw [if_neg h0]
    exact h2

/-- the numbers at the places ks, and the words there -/
abbrev ni (ks : List Nat) : List Int := ks.map fun k : Nat => (k : Int)
abbrev nw (ws : List ByteArray) (ks : List Nat) : List ByteArray := ks.map fun k : Nat => ws.getD k ByteArray.empty

set_option maxRecDepth 100000 in
set_option maxHeartbeats 8000000 in
theorem texts4_walk (w : World) (so : Option Addr) (sl scap : Nat) (bo : Option Addr) (W wcap : Nat) (ws : List ByteArray) (hsl : sl ≤ maxLen) (hW : W ≤ maxLen)
    (hsteps : StepRow w so sl)
    (hword : ∀ k, k < W → ∃ b off, bo = some ⟨b, off, none⟩ ∧ w.cell? ⟨b, off + k, none⟩ = some (.string (ws.getD k ByteArray.empty))) :
    Calls Try.prog 7 #[.slice so sl scap, .slice bo W wcap] w fun e w' => e = .returned (.bool true) ∧ Fr [] w w' := by
  have HS := Lib.hid hsteps
  have HW := Lib.hid hword
  unfold maxLen at hsl hW
  clear hsteps hword
  go_enter Try.func7, Try.ntmps7
  go_wp2_with fail
  refine (new_i w).mono ?_
  rintro e w1 ⟨rfl, h1, f1, hz1'⟩
  have hz1 : w.heap.size < w1.heap.size := by omega
  clear hz1'
  go_wp2_with fail
  refine (new_s w1).mono ?_
  rintro e w2 ⟨rfl, h2, f2, hz2⟩
  have T0 : Hid (RX w w2 w.heap.size [] [] w1.heap.size [] []) := ⟨h1.fr f2 (by simp), h2, by simp; omega, by simp; omega, f1.trans' f2⟩
  clear h1 f1 h2 f2 hz2
  go_wp2_with fail
  refine (told4 w2).mono ?_
  rintro e w3 ⟨rfl, f3⟩
  have T1 := Lib.hid (T0.out.fr0 f3)
  clear f3 T0
  by_cases hW0 : W = 0
  · have hW0' : ((W : Int) == 0) = true := by rw [beq_iff_eq]; omega
    clear hW0
    go_wp2_with fail
    refine (told4 w3).mono ?_
    rintro e w4 ⟨rfl, f4⟩
    have F4 := Lib.hid (T1.out.fr.trans' f4)
    clear f4
    go_wp2
    go_ret
    exact ⟨rfl, F4.out⟩
  have hWp : 0 < W := by omega
  have hWb : ((W : Int) == 0) = false := by rw [beq_eq_false_iff_ne]; omega
  clear hW0
  obtain ⟨wb, wo, hbo, hw0⟩ := HW.out 0 hWp
  have hwb : wb < w.heap.size := World.block_lt_of_cell? _ _ hw0
  have HW2 : Hid (∀ k, k < W → w.cell? ⟨wb, wo + k, none⟩ = some (.string (ws.getD k ByteArray.empty))) := fun k hk => by
    obtain ⟨b, off, h1, h2⟩ := HW.out k hk
    rw [hbo] at h1
    cases h1
    exact h2
  subst hbo
  clear hw0 HW
  go_wp2_with fail
  obtain ⟨R, hR1, hR2, hR3⟩ : ∃ R : Nat, R ≤ sl ∧ R ≤ 200 ∧ Hid (sl ≤ R ∨ 200 ≤ R) := ⟨min sl 200, by omega, by omega, by unfold Hid; omega⟩
  go_loopg [7] R (fun k iv wr => ∃ j : Nat, k + j = R ∧ iv = .int .i64 j ∧ ∃ ks dr dt, List.length ks ≤ j ∧ Hid (∀ k, k ∈ ks → k < W) ∧ Hid (RX w wr w.heap.size dr (ni ks) w1.heap.size dt (nw ws ks)))
  case atStart => exact ⟨0, by omega, rfl, [], [], [], by simp, by unfold Hid; simp, T1⟩
  case round =>
    obtain ⟨j, hk, rfl, ks, dr, dt, hksj, hksW, hT⟩ := hrel
    clear T1
    by_cases hjR : j < R
    · obtain ⟨sb, sof, K, O, NN, V, hso, s0, s1, s2, s3⟩ := HS.out j (by omega)
      have hsbl := World.block_lt_of_cell? _ _ s0
      have c0 := (hT.out.fr.cell (p := ⟨sb, sof + j * 4, none⟩) hsbl (by simp)).trans s0
      have c1 : wr.cell? ⟨sb, sof + j * 4 + 1, none⟩ = some (.int .i64 O) := by rw [Nat.add_assoc]; exact (hT.out.fr.cell (p := ⟨sb, sof + (j * 4 + 1), none⟩) hsbl (by simp)).trans s1
      have c2 : wr.cell? ⟨sb, sof + j * 4 + 2, none⟩ = some (.int .i64 NN) := by rw [Nat.add_assoc]; exact (hT.out.fr.cell (p := ⟨sb, sof + (j * 4 + 2), none⟩) hsbl (by simp)).trans s2
      have c3 : wr.cell? ⟨sb, sof + j * 4 + 3, none⟩ = some (.int .i64 V) := by rw [Nat.add_assoc]; exact (hT.out.fr.cell (p := ⟨sb, sof + (j * 4 + 3), none⟩) hsbl (by simp)).trans s3
      subst hso
      clear s0 s1 s2 s3
      obtain ⟨k, hkk, hkl⟩ : ∃ k : Nat, (bits BinOp.and IntKind.i64 V 1099511627775).tmod ↑W = (k : Int) ∧ k < W := by
        obtain ⟨r, hr, _⟩ := and_range V 1099511627775 (by omega)
        refine ⟨r % W, ?_, Nat.mod_lt _ hWp⟩
        rw [show bits BinOp.and IntKind.i64 V 1099511627775 = (r : Int) from hr]
        exact Int.ofNat_tmod r W |>.symm
      have cw := (hT.out.fr.cell (p := ⟨wb, wo + k, none⟩) hwb (by simp)).trans (HW2.out k hkl)
      have hlt1 := hT.out.a.lt w.heap.size (by simp)
      have hwbr : wb < wr.heap.size := by omega
      obtain ⟨wd, hwd⟩ : ∃ wd, ws.getD k ByteArray.empty = wd := ⟨_, rfl⟩
      rw [hwd] at cw
      have HWD := Lib.hid hwd
      clear hwd
      have hT2 := Lib.hid (hT.out.fr0 ((Fr.refl [] wr).alloc (.cells #[.int .i64 K, .int .i64 O, .int .i64 NN, .int .i64 V] 64)))
      have hsz : wr.heap.size < (wr.alloc (.cells #[.int .i64 K, .int .i64 O, .int .i64 NN, .int .i64 V] 64)).heap.size := by simp
      have hB := Lib.hid (Blk.new wr 64 [.int .i64 K, .int .i64 O, .int .i64 NN, .int .i64 V])
      have hK : K = 0 ∨ K = 1 ∨ K = 2 ∨ K = 3 ∨ K = 5 ∨ K = 6 ∨ K = 7 ∨ ((K == 0) = false ∧ (K == 1) = false ∧ (K == 2) = false ∧ (K == 3) = false ∧ (K == 5) = false ∧ (K == 6) = false ∧ (K == 7) = false) := by
        simp only [beq_eq_false_iff_ne]; omega
      have hbx1 : wr.heap.size ∉ w.heap.size :: dr := fun hm => by have := hT.out.a.lt _ hm; omega
      have hbx2 : wr.heap.size ∉ w1.heap.size :: dt := fun hm => by have := hT.out.b.lt _ hm; omega
      clear hT
      rcases hK with rfl | rfl | rfl | rfl | rfl | rfl | rfl | ⟨e0, e1, e2, e3, e5, e6, e7⟩
      case' inl =>
        go_wp2_with fail
        refine (pushB_i hT2.out.a (by simp; omega) (k : Int)).mono ?_
        rintro e w4 ⟨rfl, ds4, k4, f4, g4⟩
        have T4 := Lib.hid (hT2.out.one k4 f4 g4)
        have hB4 := Lib.hid (hB.out.fr f4 hbx1)
        clear k4 f4 g4
        have b2 := hB4.out.cell 2
        simp only [List.getElem?_cons_zero, List.getElem?_cons_succ] at b2
        have bl4 := hB4.out.lt
        go_wp2_with fail
        refine (pushB_s T4.out.b (by simp; omega) wd).mono ?_
        rintro e w5 ⟨rfl, ds5, k5, f5, g5⟩
        have T5 := Lib.hid (T4.out.two k5 f5 g5)
        have hB5 := Lib.hid (hB4.out.fr f5 hbx2)
        clear k5 f5 g5
        obtain ⟨ks', drz, dtz, hks', hkW', TF⟩ : ∃ ks' drz dtz, List.length ks' ≤ j + 1 ∧ Hid (∀ k, k ∈ ks' → k < W) ∧ Hid (RX w w5 w.heap.size drz (ni ks') w1.heap.size dtz (nw ws ks')) := ⟨ks ++ [k], _, _, by first | omega | (simp; omega) | simp, fun x hx => by rw [List.mem_append] at hx; rcases hx with hx | hx; exact hksW.out x hx; simp at hx; omega, by have := T5.out; unfold Hid; simpa [ni, nw, ← HWD.out] using this⟩
      case' inr.inl =>
        go_wp2_with fail
        refine (pushF_i hT2.out.a (by simp; omega) (k : Int)).mono ?_
        rintro e w4 ⟨rfl, ds4, k4, f4, g4⟩
        have T4 := Lib.hid (hT2.out.one k4 f4 g4)
        have hB4 := Lib.hid (hB.out.fr f4 hbx1)
        clear k4 f4 g4
        have b2 := hB4.out.cell 2
        simp only [List.getElem?_cons_zero, List.getElem?_cons_succ] at b2
        have bl4 := hB4.out.lt
        go_wp2_with fail
        refine (pushF_s T4.out.b (by simp; omega) wd).mono ?_
        rintro e w5 ⟨rfl, ds5, k5, f5, g5⟩
        have T5 := Lib.hid (T4.out.two k5 f5 g5)
        have hB5 := Lib.hid (hB4.out.fr f5 hbx2)
        clear k5 f5 g5
        obtain ⟨ks', drz, dtz, hks', hkW', TF⟩ : ∃ ks' drz dtz, List.length ks' ≤ j + 1 ∧ Hid (∀ k, k ∈ ks' → k < W) ∧ Hid (RX w w5 w.heap.size drz (ni ks') w1.heap.size dtz (nw ws ks')) := ⟨k :: ks, _, _, by first | omega | (simp; omega) | simp, fun x hx => by rcases List.mem_cons.1 hx with rfl | hx; omega; exact hksW.out x hx, by have := T5.out; unfold Hid; simpa [ni, nw, ← HWD.out] using this⟩
      case' inr.inr.inl =>
        rcases ks with _ | ⟨k0, ks⟩
        case' nil =>
          go_wp2_with fail
          refine (popF_no_i hT2.out.a).mono ?_
          rintro e w4 ⟨rfl, hw4⟩
          have f4 := fr_eq hw4
          have T4 := Lib.hid (hT2.out.fr0 f4)
          have hB4 := Lib.hid (hB.out.fr f4 (by simp))
          clear f4 hw4
          have b2 := hB4.out.cell 2
          simp only [List.getElem?_cons_zero, List.getElem?_cons_succ] at b2
          have bl4 := hB4.out.lt
          go_wp2_with fail
          refine (popF_no_s T4.out.b).mono ?_
          rintro e w5 ⟨rfl, hw5⟩
          have f5 := fr_eq hw5
          have T5 := Lib.hid (T4.out.fr0 f5)
          have hB5 := Lib.hid (hB4.out.fr f5 (by simp))
          clear f5 hw5
          obtain ⟨ks', drz, dtz, hks', hkW', TF⟩ : ∃ ks' drz dtz, List.length ks' ≤ j + 1 ∧ Hid (∀ k, k ∈ ks' → k < W) ∧ Hid (RX w w5 w.heap.size drz (ni ks') w1.heap.size dtz (nw ws ks')) := ⟨[], _, _, by first | omega | (simp; omega) | simp, hksW, T5⟩
        case' cons =>
          have k0l : k0 < W := hksW.out k0 (by simp)
          go_wp2_with fail
          refine (popF_i hT2.out.a).mono ?_
          rintro e w4 ⟨rfl, k4, f4⟩
          have T4 := Lib.hid (hT2.out.one k4 f4 (Gr.refl _ _))
          have hB4 := Lib.hid (hB.out.fr f4 hbx1)
          clear k4 f4
          have b2 := hB4.out.cell 2
          simp only [List.getElem?_cons_zero, List.getElem?_cons_succ] at b2
          have bl4 := hB4.out.lt
          go_wp2_with fail
          refine (popF_s T4.out.b).mono ?_
          rintro e w5 ⟨rfl, k5, f5⟩
          have T5 := Lib.hid (T4.out.two k5 f5 (Gr.refl _ _))
          have hB5 := Lib.hid (hB4.out.fr f5 hbx2)
          clear k5 f5
          obtain ⟨ks', drz, dtz, hks', hkW', TF⟩ : ∃ ks' drz dtz, List.length ks' ≤ j + 1 ∧ Hid (∀ k, k ∈ ks' → k < W) ∧ Hid (RX w w5 w.heap.size drz (ni ks') w1.heap.size dtz (nw ws ks')) := ⟨ks, _, _, by first | omega | (simp at hksj; omega), fun x hx => hksW.out x (by simp [hx]), T5⟩
          have cz := (TF.out.fr.cell (p := ⟨wb, wo + k0, none⟩) hwb (by simp)).trans (HW2.out k0 k0l)
      case' inr.inr.inr.inl =>
        rcases List.eq_nil_or_concat ks with rfl | ⟨ks1, k0, rfl⟩
        case' inl =>
          go_wp2_with fail
          refine (popB_no_i hT2.out.a).mono ?_
          rintro e w4 ⟨rfl, hw4⟩
          have f4 := fr_eq hw4
          have T4 := Lib.hid (hT2.out.fr0 f4)
          have hB4 := Lib.hid (hB.out.fr f4 (by simp))
          clear f4 hw4
          have b2 := hB4.out.cell 2
          simp only [List.getElem?_cons_zero, List.getElem?_cons_succ] at b2
          have bl4 := hB4.out.lt
          go_wp2_with fail
          refine (popB_no_s T4.out.b).mono ?_
          rintro e w5 ⟨rfl, hw5⟩
          have f5 := fr_eq hw5
          have T5 := Lib.hid (T4.out.fr0 f5)
          have hB5 := Lib.hid (hB4.out.fr f5 (by simp))
          clear f5 hw5
          obtain ⟨ks', drz, dtz, hks', hkW', TF⟩ : ∃ ks' drz dtz, List.length ks' ≤ j + 1 ∧ Hid (∀ k, k ∈ ks' → k < W) ∧ Hid (RX w w5 w.heap.size drz (ni ks') w1.heap.size dtz (nw ws ks')) := ⟨[], _, _, by first | omega | (simp; omega) | simp, hksW, T5⟩
        case' inr =>
          have k0l : k0 < W := hksW.out k0 (by simp)
          have hTb : Hid (RX w (wr.alloc (.cells #[.int .i64 3, .int .i64 O, .int .i64 NN, .int .i64 V] 64)) w.heap.size dr (ni ks1 ++ [(k0 : Int)]) w1.heap.size dt (nw ws ks1 ++ [ws.getD k0 ByteArray.empty])) := by have := hT2.out; unfold Hid; simpa [ni, nw] using this
          go_wp2_with fail
          refine (popB_i hTb.out.a).mono ?_
          rintro e w4 ⟨rfl, k4, f4⟩
          have T4 := Lib.hid (hTb.out.one k4 f4 (Gr.refl _ _))
          have hB4 := Lib.hid (hB.out.fr f4 hbx1)
          clear k4 f4
          have b2 := hB4.out.cell 2
          simp only [List.getElem?_cons_zero, List.getElem?_cons_succ] at b2
          have bl4 := hB4.out.lt
          go_wp2_with fail
          refine (popB_s T4.out.b).mono ?_
          rintro e w5 ⟨rfl, k5, f5⟩
          have T5 := Lib.hid (T4.out.two k5 f5 (Gr.refl _ _))
          have hB5 := Lib.hid (hB4.out.fr f5 hbx2)
          clear k5 f5
          obtain ⟨ks', drz, dtz, hks', hkW', TF⟩ : ∃ ks' drz dtz, List.length ks' ≤ j + 1 ∧ Hid (∀ k, k ∈ ks' → k < W) ∧ Hid (RX w w5 w.heap.size drz (ni ks') w1.heap.size dtz (nw ws ks')) := ⟨ks1, _, _, by first | omega | (simp at hksj; omega), fun x hx => hksW.out x (by simp [hx]), T5⟩
          have cz := (TF.out.fr.cell (p := ⟨wb, wo + k0, none⟩) hwb (by simp)).trans (HW2.out k0 k0l)
      case' inr.inr.inr.inr.inl =>
        have hrng : (NN < 0 ∨ (ks.length : Int) ≤ NN) ∨ (0 ≤ NN ∧ NN.toNat < ks.length) := by omega
        rcases hrng with hrng | ⟨hr1, hr2⟩
        case' inl =>
          go_wp2_with fail
          refine (set_no_i hT2.out.a NN (k : Int) (by simpa using hrng)).mono ?_
          rintro e w4 ⟨rfl, hw4⟩
          have f4 := fr_eq hw4
          have T4 := Lib.hid (hT2.out.fr0 f4)
          have hB4 := Lib.hid (hB.out.fr f4 (by simp))
          clear f4 hw4
          have b2 := hB4.out.cell 2
          simp only [List.getElem?_cons_zero, List.getElem?_cons_succ] at b2
          have bl4 := hB4.out.lt
          go_wp2_with fail
          refine (set_no_s T4.out.b NN wd (by simpa using hrng)).mono ?_
          rintro e w5 ⟨rfl, hw5⟩
          have f5 := fr_eq hw5
          have T5 := Lib.hid (T4.out.fr0 f5)
          have hB5 := Lib.hid (hB4.out.fr f5 (by simp))
          clear f5 hw5
          obtain ⟨ks', drz, dtz, hks', hkW', TF⟩ : ∃ ks' drz dtz, List.length ks' ≤ j + 1 ∧ Hid (∀ k, k ∈ ks' → k < W) ∧ Hid (RX w w5 w.heap.size drz (ni ks') w1.heap.size dtz (nw ws ks')) := ⟨ks, _, _, by omega, hksW, T5⟩
        case' inr =>
          go_wp2_with fail
          refine (set_yesZ_i hT2.out.a hr1 (by simpa using hr2) (k : Int)).mono ?_
          rintro e w4 ⟨rfl, k4, f4'⟩
          have f4 := f4'.mono (fun x hx => List.mem_cons_of_mem w.heap.size hx)
          have T4 := Lib.hid (hT2.out.one k4 f4 (Gr.refl _ _))
          have hB4 := Lib.hid (hB.out.fr f4 hbx1)
          clear k4 f4 f4'
          have b2 := hB4.out.cell 2
          simp only [List.getElem?_cons_zero, List.getElem?_cons_succ] at b2
          have bl4 := hB4.out.lt
          go_wp2_with fail
          refine (set_yesZ_s T4.out.b hr1 (by simpa using hr2) wd).mono ?_
          rintro e w5 ⟨rfl, k5, f5'⟩
          have f5 := f5'.mono (fun x hx => List.mem_cons_of_mem w1.heap.size hx)
          have T5 := Lib.hid (T4.out.two k5 f5 (Gr.refl _ _))
          have hB5 := Lib.hid (hB4.out.fr f5 hbx2)
          clear k5 f5 f5'
          obtain ⟨ks', drz, dtz, hks', hkW', TF⟩ : ∃ ks' drz dtz, List.length ks' ≤ j + 1 ∧ Hid (∀ k, k ∈ ks' → k < W) ∧ Hid (RX w w5 w.heap.size drz (ni ks') w1.heap.size dtz (nw ws ks')) := ⟨ks.set NN.toNat k, _, _, by first | omega | (simp; omega) | simp, fun x hx => by rcases List.mem_or_eq_of_mem_set hx with hx | rfl; exact hksW.out x hx; omega, by have := T5.out; unfold Hid; simpa [ni, nw, List.map_set, ← HWD.out] using this⟩
      case' inr.inr.inr.inr.inr.inl =>
        have hrng : (NN < 0 ∨ (ks.length : Int) ≤ NN) ∨ (0 ≤ NN ∧ NN.toNat < ks.length) := by omega
        rcases hrng with hrng | ⟨hr1, hr2⟩
        case' inl =>
          go_wp2_with fail
          refine (take_no_i hT2.out.a NN (by simpa using hrng)).mono ?_
          rintro e w4 ⟨rfl, hw4⟩
          have f4 := fr_eq hw4
          have T4 := Lib.hid (hT2.out.fr0 f4)
          have hB4 := Lib.hid (hB.out.fr f4 (by simp))
          clear f4 hw4
          have b2 := hB4.out.cell 2
          simp only [List.getElem?_cons_zero, List.getElem?_cons_succ] at b2
          have bl4 := hB4.out.lt
          go_wp2_with fail
          refine (take_no_s T4.out.b NN (by simpa using hrng)).mono ?_
          rintro e w5 ⟨rfl, hw5⟩
          have f5 := fr_eq hw5
          have T5 := Lib.hid (T4.out.fr0 f5)
          have hB5 := Lib.hid (hB4.out.fr f5 (by simp))
          clear f5 hw5
          obtain ⟨ks', drz, dtz, hks', hkW', TF⟩ : ∃ ks' drz dtz, List.length ks' ≤ j + 1 ∧ Hid (∀ k, k ∈ ks' → k < W) ∧ Hid (RX w w5 w.heap.size drz (ni ks') w1.heap.size dtz (nw ws ks')) := ⟨ks, _, _, by omega, hksW, T5⟩
        case' inr =>
          obtain ⟨n, rfl⟩ := Int.eq_ofNat_of_zero_le hr1
          obtain ⟨k0, hk0⟩ : ∃ k0, ks[n]? = some k0 := ⟨ks[n]'(by omega), by simp [show n < ks.length by omega]⟩
          have k0l : k0 < W := hksW.out k0 (List.mem_of_getElem? hk0)
          have hxi : (ni ks)[n]? = some (k0 : Int) := by simp [ni, hk0]
          have hxw : (nw ws ks)[n]? = some (ws.getD k0 ByteArray.empty) := by simp [nw, hk0]
          have HXI := Lib.hid hxi
          have HXW := Lib.hid hxw
          clear hxi hxw hk0 hr1
          go_wp2_with fail
          refine (take_i hT2.out.a HXI.out).mono ?_
          rintro e w4 ⟨rfl, k4, f4⟩
          have T4 := Lib.hid (hT2.out.one k4 f4 (Gr.refl _ _))
          have hB4 := Lib.hid (hB.out.fr f4 hbx1)
          clear k4 f4
          have b2 := hB4.out.cell 2
          simp only [List.getElem?_cons_zero, List.getElem?_cons_succ] at b2
          have bl4 := hB4.out.lt
          go_wp2_with fail
          refine (take_s T4.out.b HXW.out).mono ?_
          rintro e w5 ⟨rfl, k5, f5⟩
          have T5 := Lib.hid (T4.out.two k5 f5 (Gr.refl _ _))
          have hB5 := Lib.hid (hB4.out.fr f5 hbx2)
          clear k5 f5
          obtain ⟨ks', drz, dtz, hks', hkW', TF⟩ : ∃ ks' drz dtz, List.length ks' ≤ j + 1 ∧ Hid (∀ k, k ∈ ks' → k < W) ∧ Hid (RX w w5 w.heap.size drz (ni ks') w1.heap.size dtz (nw ws ks')) := ⟨ks.eraseIdx n, _, _, by rw [List.length_eraseIdx]; split <;> omega, fun x hx => hksW.out x (List.mem_of_mem_eraseIdx hx), by have := T5.out; unfold Hid; simpa [ni, nw, eraseIdx_map'] using this⟩
          have cz := (TF.out.fr.cell (p := ⟨wb, wo + k0, none⟩) hwb (by simp)).trans (HW2.out k0 k0l)
      case' inr.inr.inr.inr.inr.inr.inl =>
        go_wp2_with fail
        refine (turnZ hT2.out.a (by simp; omega) NN).mono ?_
        rintro e w4 ⟨rfl, ds4, k4, f4, g4⟩
        have T4 := Lib.hid (hT2.out.one k4 f4 g4)
        have hB4 := Lib.hid (hB.out.fr f4 hbx1)
        clear k4 f4 g4
        have b2 := hB4.out.cell 2
        simp only [List.getElem?_cons_zero, List.getElem?_cons_succ] at b2
        have bl4 := hB4.out.lt
        go_wp2_with fail
        refine (turnS T4.out.b (by simp; omega) NN).mono ?_
        rintro e w5 ⟨rfl, ds5, k5, f5, g5⟩
        have T5 := Lib.hid (T4.out.two k5 f5 g5)
        have hB5 := Lib.hid (hB4.out.fr f5 hbx2)
        clear k5 f5 g5
        obtain ⟨ks', drz, dtz, hks', hkW', TF⟩ : ∃ ks' drz dtz, List.length ks' ≤ j + 1 ∧ Hid (∀ k, k ∈ ks' → k < W) ∧ Hid (RX w w5 w.heap.size drz (ni ks') w1.heap.size dtz (nw ws ks')) := ⟨rotW ks NN, _, _, by rw [rotW_len]; omega, fun x hx => hksW.out x (rotW_mem ks NN hx), by have := T5.out; unfold Hid; rw [show ni (rotW ks NN) = rotZ (ni ks) NN from (rotW_map _ ks NN).symm, show nw ws (rotW ks NN) = rotW (nw ws ks) NN from (rotW_map _ ks NN).symm]; exact this⟩
      case' inr.inr.inr.inr.inr.inr.inr =>
        have n0 : ¬ K = 0 := by simpa using e0
        have n1 : ¬ K = 1 := by simpa using e1
        have n5 : ¬ K = 5 := by simpa using e5
        have n7 : ¬ K = 7 := by simpa using e7
        have hrng : (NN < 0 ∨ (ks.length : Int) ≤ NN) ∨ (0 ≤ NN ∧ NN.toNat < ks.length) := by omega
        rcases hrng with hrng | ⟨hr1, hr2⟩
        case' inl =>
          go_wp2_with fail
          refine (at_no_i hT2.out.a NN (by simpa using hrng)).mono ?_
          rintro e w4 ⟨rfl, hw4⟩
          have f4 := fr_eq hw4
          have T4 := Lib.hid (hT2.out.fr0 f4)
          have hB4 := Lib.hid (hB.out.fr f4 (by simp))
          clear f4 hw4
          have b2 := hB4.out.cell 2
          simp only [List.getElem?_cons_zero, List.getElem?_cons_succ] at b2
          have bl4 := hB4.out.lt
          go_wp2_with fail
          refine (at_no_s T4.out.b NN (by simpa using hrng)).mono ?_
          rintro e w5 ⟨rfl, hw5⟩
          have f5 := fr_eq hw5
          have T5 := Lib.hid (T4.out.fr0 f5)
          have hB5 := Lib.hid (hB4.out.fr f5 (by simp))
          clear f5 hw5
          obtain ⟨ks', drz, dtz, hks', hkW', TF⟩ : ∃ ks' drz dtz, List.length ks' ≤ j + 1 ∧ Hid (∀ k, k ∈ ks' → k < W) ∧ Hid (RX w w5 w.heap.size drz (ni ks') w1.heap.size dtz (nw ws ks')) := ⟨ks, _, _, by omega, hksW, T5⟩
        case' inr =>
          obtain ⟨n, rfl⟩ := Int.eq_ofNat_of_zero_le hr1
          obtain ⟨k0, hk0⟩ : ∃ k0, ks[n]? = some k0 := ⟨ks[n]'(by omega), by simp [show n < ks.length by omega]⟩
          have k0l : k0 < W := hksW.out k0 (List.mem_of_getElem? hk0)
          have hxi : (ni ks)[n]? = some (k0 : Int) := by simp [ni, hk0]
          have hxw : (nw ws ks)[n]? = some (ws.getD k0 ByteArray.empty) := by simp [nw, hk0]
          have HXI := Lib.hid hxi
          have HXW := Lib.hid hxw
          clear hxi hxw hk0 hr1
          go_wp2_with fail
          refine (at_yes_i hT2.out.a HXI.out).mono ?_
          rintro e w4 ⟨rfl, q4, hw4⟩
          have f4 := fr_drew hw4
          have T4 := Lib.hid (hT2.out.fr0 f4)
          have hB4 := Lib.hid (hB.out.fr f4 (by simp))
          clear f4 hw4
          have b2 := hB4.out.cell 2
          simp only [List.getElem?_cons_zero, List.getElem?_cons_succ] at b2
          have bl4 := hB4.out.lt
          go_wp2_with fail
          refine (at_yes_s T4.out.b HXW.out).mono ?_
          rintro e w5 ⟨rfl, q5, hw5⟩
          have f5 := fr_drew hw5
          have T5 := Lib.hid (T4.out.fr0 f5)
          have hB5 := Lib.hid (hB4.out.fr f5 (by simp))
          clear f5 hw5
          obtain ⟨ks', drz, dtz, hks', hkW', TF⟩ : ∃ ks' drz dtz, List.length ks' ≤ j + 1 ∧ Hid (∀ k, k ∈ ks' → k < W) ∧ Hid (RX w w5 w.heap.size drz (ni ks') w1.heap.size dtz (nw ws ks')) := ⟨ks, _, _, by omega, hksW, T5⟩
          have cz := (TF.out.fr.cell (p := ⟨wb, wo + k0, none⟩) hwb (by simp)).trans (HW2.out k0 k0l)
      all_goals as_aux_lemma =>
        have b0 := hB5.out.cell 0
        simp only [List.getElem?_cons_zero] at b0
        have bl5 := hB5.out.lt
        have hL1 := Lib.hid (show Calls Try.prog 25 #[.pointer (some ⟨w.heap.size, 0, none⟩)] w5 fun e w' => e = .returned (.int .i64 (ks'.length : Nat)) ∧ w' = w5 from by have := len_i TF.out.a; rw [List.length_map] at this; exact this)
        have hL2 := Lib.hid (show Calls Try.prog 43 #[.pointer (some ⟨w1.heap.size, 0, none⟩)] w5 fun e w' => e = .returned (.int .i64 (ks'.length : Nat)) ∧ w' = w5 from by have := len_s TF.out.b; rw [List.length_map] at this; exact this)
        go_wp2_with (first
          | (go_at_call 25; refine hL1.out.mono ?_; rintro e w8 ⟨rfl, hw8⟩; subst hw8)
          | (go_at_call 43; refine hL2.out.mono ?_; rintro e w9 ⟨rfl, hw9⟩; subst hw9))
        go_roundg (R - j - 1)
        case measure => omega
        case rel => exact ⟨j + 1, by omega, by go_num, ks', drz, dtz, hks', hkW', TF⟩
    · obtain rfl : j = R := by omega
      have h200 : j < sl → 200 ≤ j := fun h => by rcases hR3.out with h' | h' <;> omega
      have hlist1 := Lib.hid (show Calls Try.prog 31 #[.pointer (some ⟨w.heap.size, 0, none⟩)] wr fun e w' => ∃ v S, e = .returned v ∧ OwnS w' 3 1 v ks.length ((ni ks).flatMap encI) S ∧ Gr wr [] S ∧ Fr [] wr w' from by
        have := list_i hT.out.a
        rw [List.length_map] at this
        exact this)
      have hlist2 := Lib.hid (fun (X : World) (f : Fr [] wr X) => show Calls Try.prog 44 #[.pointer (some ⟨w1.heap.size, 0, none⟩)] X fun e w' => ∃ v S, e = .returned v ∧ OwnS w' 9 1 v ks.length ((nw ws ks).flatMap encS) S ∧ Gr X [] S ∧ Fr [] X w' from by
        have := list_s (hT.out.b.fr f (by simp))
        rw [List.length_map] at this
        exact this)
      have hF0 : Hid (Fr [] w wr) := hT.out.fr
      clear hT
      have hsplit : (sl ≤ j) ∨ (j < sl ∧ 200 ≤ j) := by
        by_cases h : j < sl
        · exact .inr ⟨h, h200 h⟩
        · exact .inl (by omega)
      clear h200
      rcases hsplit with hs1 | ⟨hs1, hs2⟩
      all_goals as_aux_lemma =>
        go_wp2_with fail
        refine hlist1.out.mono ?_
        rintro e w4 ⟨v4, S4, rfl, o4, g4, f4⟩
        obtain ⟨a4, cap4, rfl⟩ := o4.val
        have F4 := Lib.hid f4
        have G4 := Lib.hid g4
        have O4 := Lib.hid o4
        clear o4 g4 f4
        go_wp2_with fail
        refine (hlist2.out w4 F4.out).mono ?_
        rintro e w5 ⟨v5, S5, rfl, o5, g5, f5⟩
        obtain ⟨a5, cap5, rfl⟩ := o5.val
        have O4' := Lib.hid (O4.out.fr f5 (by simp))
        have O5 := Lib.hid o5
        have F5 := Lib.hid (hF0.out.trans' (F4.out.trans' f5))
        clear o5 g5 f5 O4
        go_wp2_with fail
        go_loopg [18] (ks.length + 1) (fun k iv wl => ∃ q : Nat, k + q = ks.length + 1 ∧ q ≤ ks.length ∧ iv = .int .i64 q ∧ Hid (Fr [] w5 wl))
        case atStart => exact ⟨0, by omega, by omega, rfl, Fr.refl _ _⟩
        case round =>
          obtain ⟨q, hkq, hq, rfl, hQ⟩ := hrel
          by_cases hql : q < ks.length
          · obtain ⟨k0, hk0⟩ : ∃ k0, ks[q]? = some k0 := ⟨ks[q], by simp [hql]⟩
            have hk0l : k0 < W := hksW.out k0 (List.mem_of_getElem? hk0)
            obtain ⟨g4, c4, hv4, hS4⟩ := O4'.out.head (by omega)
            cases hv4
            obtain ⟨g5, c5, hv5, hS5⟩ := O5.out.head (by omega)
            cases hv5
            have d4 : wr.cell? ⟨g4, q, none⟩ = some (.int .i64 k0) := by
              rw [(O4'.out.fr hQ.out (by simp)).cellAt q (by omega)]
              have := flatMap_at (sz := 1) (enc := encI) (fun _ => rfl) (xs := ni ks) (i := q) (x := (k0 : Int)) (by simp [ni, hk0]) (j := 0) (by decide)
              simpa [encI] using this
            have d5 : wr.cell? ⟨g5, q, none⟩ = some (.string (ws.getD k0 ByteArray.empty)) := by
              rw [(O5.out.fr hQ.out (by simp)).cellAt q (by omega)]
              have := flatMap_at (sz := 1) (enc := encS) (fun _ => rfl) (xs := nw ws ks) (i := q) (x := ws.getD k0 ByteArray.empty) (by simp [nw, hk0]) (j := 0) (by decide)
              simpa [encS] using this
            have d6 := ((F5.out.trans' hQ.out).cell (p := ⟨wb, wo + k0, none⟩) hwb (by simp)).trans (HW2.out k0 hk0l)
            clear hk0 hS4 hS5
            go_wp2
            go_quiet (fail)
            go_wp2
            go_roundg (gk - 1)
            case measure => omega
            case rel => exact ⟨q + 1, by omega, by omega, by go_num, hQ.out.drewN _⟩
          · obtain rfl : q = ks.length := by omega
            go_wp2
            go_ret
            exact ⟨rfl, F5.out.trans' hQ.out⟩
end Go.Proofs.Ytoodgjmgkjhpoaa
