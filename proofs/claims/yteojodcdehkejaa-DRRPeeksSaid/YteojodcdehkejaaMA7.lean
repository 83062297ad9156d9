/- A discipline by turns: choose. -/
import Derived.Test.YteojodcdehkejaaMA6
import Derived.Sort.CutIn
import Derived.Scope
set_option linter.unusedVariables false
namespace Go.Proofs.Yteojodcdehkejaa
open Go Go.RowKit
attribute [local go_sem] calmQ_normal wide_fn wide_depth Oper.semAt_some run_store_func

/-- what is asked of a flow of the ring -/
structure Fine (f : Fl) : Prop where
  q : f.q ≠ []
  q1 : 1 ≤ f.qt
  q2 : f.qt ≤ 1073741824
  d1 : 0 ≤ f.df
  d3 : f.df ≤ 1099511627776
  s2 : f.sz ≤ 65536
theorem Fine.short {f : Fl} (h : Fine f) (hd : f.df < f.sz) : Short f := ⟨h.q, h.q1, h.q2, h.d1, hd, h.s2⟩
theorem Short.fine {f : Fl} (h : Short f) : Fine f := ⟨h.q, h.q1, h.q2, h.d1, by have := h.d2; have := h.s2; omega, h.s2⟩
def FineAt (fl : List Fl) (ri : List Nat) : Prop := ∀ i, i ∈ ri → ∃ f, fl[i]? = some f ∧ Fine f
def ShortAt (fl : List Fl) (ri : List Nat) : Prop := ∀ i, i ∈ ri → ∃ f, fl[i]? = some f ∧ Short f
/-- how many bytes are lacking -/
def need (fl : List Fl) (i : Nat) : Nat := match fl[i]? with
  | some f => (f.sz - f.df).toNat
  | none => 0
def meas (fl : List Fl) (ri : List Nat) : Nat := (ri.map (need fl)).sum
theorem meas_rot (fl : List Fl) (i : Nat) (rest : List Nat) : meas fl (rest ++ [i]) = meas fl (i :: rest) := by
  simp [meas, List.sum_append, Nat.add_comm]
theorem meas_cons (fl : List Fl) (i : Nat) (rest : List Nat) : meas fl (i :: rest) = need fl i + meas fl rest := by simp [meas]
theorem meas_set {fl : List Fl} {i : Nat} {rest : List Nat} (g : Fl) (h : i ∉ rest) : meas (fl.set i g) rest = meas fl rest := by
  unfold meas
  congr 1
  refine List.map_congr_left fun j hj => ?_
  unfold need
  rw [List.getElem?_set_ne (fun e => h (by rw [e]; exact hj))]
theorem need_set {fl : List Fl} {i : Nat} (g : Fl) (hi : i < fl.length) : need (fl.set i g) i = (g.sz - g.df).toNat := by
  unfold need
  rw [List.getElem?_set_self hi]
theorem need_at {fl : List Fl} {i : Nat} {f : Fl} (hf : fl[i]? = some f) : need fl i = (f.sz - f.df).toNat := by unfold need; rw [hf]
theorem meas_bump (fl : List Fl) (ri r : List Nat) (c : Nat) (hq : ∀ i, i ∈ ri → ∃ f, fl[i]? = some f ∧ 0 ≤ f.qt) : meas (bump fl r c) ri ≤ meas fl ri := by
  unfold meas
  induction ri with
  | nil => simp
  | cons i ri ih =>
    simp only [List.map_cons, List.sum_cons]
    have h1 := ih (fun j hj => hq j (by simp [hj]))
    have h2 : need (bump fl r c) i ≤ need fl i := by
      obtain ⟨f, hf, hq⟩ := hq i (by simp)
      unfold need
      rw [bump_at, hf]
      simp only [Option.map_some]
      split
      · have : (0 : Int) ≤ (c : Int) * f.qt := Int.mul_nonneg (by omega) hq
        simp only [Fl.add, Fl.sz] at *
        omega
      · omega
    omega
theorem FineAt.set {fl : List Fl} {ri : List Nat} (h : FineAt fl ri) {i : Nat} {g : Fl} (hg : Fine g) : FineAt (fl.set i g) ri := fun j hj => by
  obtain ⟨f, hf, hff⟩ := h j hj
  by_cases e : i = j
  · subst e; exact ⟨g, by rw [List.getElem?_set_self (some_lt hf)], hg⟩
  · exact ⟨f, by rw [List.getElem?_set_ne e]; exact hf, hff⟩
theorem ShortAt.set {fl : List Fl} {ri : List Nat} (h : ShortAt fl ri) {i : Nat} (g : Fl) (hn : i ∉ ri) : ShortAt (fl.set i g) ri := fun j hj => by
  obtain ⟨f, hf, hff⟩ := h j hj
  exact ⟨f, by rw [List.getElem?_set_ne (fun e => hn (by rw [e]; exact hj))]; exact hf, hff⟩
theorem cch_setF {d : Dr} {ri : List Nat} {k : Nat} {f f' : Fl} (h : d.fl[k]? = some f) (hb : f'.b = f.b) (hq : CQ f' = CQ f) : (d.cch ri).set (2 + k) (CStr f') = (d.setF k f').cch ri := by
  have hk := some_lt h
  unfold Dr.cch Dr.setF
  rw [List.set_append_right _ _ (by simp), List.set_append_left _ _ (by simp; omega)]
  have e : blocksOf (d.fl.set k f') ri = blocksOf d.fl ri := by
    unfold blocksOf
    refine List.map_congr_left fun i _ => ?_
    by_cases e : k = i
    · subst e; rw [List.getElem?_set_self hk, h]; simp [hb]
    · rw [List.getElem?_set_ne e]
  simp only [List.length_cons, List.length_nil, Nat.zero_add, Nat.reduceAdd, Nat.add_sub_cancel_left, CHd, Dr.head, e]
  rw [map_set_same CQ h hq, List.map_set]
theorem blocksOf_len (fl : List Fl) (ri : List Nat) : (blocksOf fl ri).length = ri.length := by simp [blocksOf]
theorem blocksOf_cons {fl : List Fl} {i : Nat} {f : Fl} (hf : fl[i]? = some f) (rest : List Nat) : blocksOf fl (i :: rest) = f.b :: blocksOf fl rest := by simp [blocksOf, hf]
theorem blocksOf_rot {fl : List Fl} {i : Nat} {f : Fl} (hf : fl[i]? = some f) (rest : List Nat) : rot ((blocksOf fl (i :: rest)).map some) 1 = (blocksOf fl (rest ++ [i])).map some := by
  simp [blocksOf, rot, hf]

/-- what choose keeps: the flows, the ring, the turn, how many stood idle -/
structure CInv (d : Dr) (ri0 : List Nat) (fl : List Fl) (ri : List Nat) (t : Bool) (idle : Nat) : Prop where
  tr : Turns d.fl ri0 d.turn fl ri t
  fine : FineAt fl ri
  nd : ri.Nodup
  len : ri.length = ri0.length
  ids : ∃ a b, ri = a ++ b ∧ b.length = idle ∧ ShortAt fl b ∧ (idle = 0 ∨ t = false)

theorem Turns.nil {a b : List Fl} {rb : List Nat} {ta tb : Bool} (h : Turns a [] ta b rb tb) : a = b ∧ ta = tb := by
  cases h with
  | refl => exact ⟨rfl, rfl⟩
/-- where the turn has been given, or was given -/
structure CJoin (d : Dr) (ri0 : List Nat) (fl fl' : List Fl) (i : Nat) (rest : List Nat) (t : Bool) (f f' : Fl) (idle : Nat) : Prop where
  tr : Turns d.fl ri0 d.turn fl' (i :: rest) t
  fine : FineAt fl' (i :: rest)
  at_ : fl'[i]? = some f'
  b : f'.b = f.b
  ms : meas fl' (i :: rest) ≤ meas fl (i :: rest)
  ids : ∃ a b, rest = a ++ b ∧ b.length = idle ∧ ShortAt fl' b
theorem grant_w {f : Fl} (h : Fine f) : wrap64 (f.df + f.qt) = f.df + f.qt := by
  have h1 := h.q1; have h2 := h.q2; have h3 := h.d1; have h4 := h.d3
  unfold wrap64; omega
theorem Fl.add_zero (f : Fl) : f.add 0 = f := by simp [Fl.add]
theorem idle_w (n : Nat) (h : n ≤ 1048576) : wrap64 ((n : Int) + 1) = (n : Int) + 1 := by unfold wrap64; omega
theorem results_tmp1 {fn : Func} {t : Tmp} (h : fn.results = #[.tmp t]) (tmps : Array Value) (P : Program) (w : World) : (results fn tmps).run P w = .ok (tmps.getD t undef) w := by
  simp [results, h]
theorem set_same {α : Type} {l : List α} {i : Nat} {x : α} (h : l[i]? = some x) : l.set i x = l := by
  obtain ⟨hi, rfl⟩ := List.getElem?_eq_some_iff.1 h
  simp
theorem rot_one {fl : List Fl} {i : Nat} {f : Fl} {rest : List Nat} (hf : fl[i]? = some f) : rot ((blocksOf fl (i :: rest)).map some) ((1 : Int) % (((blocksOf fl (i :: rest)).map some).length : Int)).toNat = (blocksOf fl (rest ++ [i])).map some := by
  have hl : ((blocksOf fl (i :: rest)).map some).length = rest.length + 1 := by simp [blocksOf]
  rw [hl]
  cases rest with
  | nil => simp [rot, blocksOf, hf]
  | cons j rest =>
    rw [show ((1 : Int) % (((j :: rest).length + 1 : Nat) : Int)).toNat = 1 from by
      have : (1 : Int) % (((j :: rest).length + 1 : Nat) : Int) = 1 := Int.emod_eq_of_lt (by omega) (by simp; omega)
      rw [this]; rfl]
    exact blocksOf_rot hf (j :: rest)
theorem meas_turn {d : Dr} {ri0 : List Nat} {fl fl' : List Fl} {i : Nat} {rest : List Nat} {t : Bool} {f f' f'' : Fl} {idle : Nat} (h : CJoin d ri0 fl fl' i rest t f f' idle) (hn : (i :: rest).Nodup) (hff : f'.add (if t then 0 else f'.qt) = f'')
    {pk : P6} {rs : List P6} (hq : f''.q = pk :: rs) (hlt : f''.df < pk.f3) : 2 * meas (fl'.set i f'') (rest ++ [i]) < 2 * meas fl (i :: rest) + (if t then 1 else 0) ∧ True := by
  refine ⟨?_, trivial⟩
  have h1 := h.ms
  have hni := (List.nodup_cons.1 hn).1
  obtain ⟨g, hg, hfn⟩ := h.fine i (by simp)
  rw [h.at_] at hg
  cases hg
  have hq1 := hfn.q1
  rw [meas_rot, meas_cons, meas_set f'' hni, need_set f'' (some_lt h.at_)]
  rw [meas_cons, need_at h.at_] at h1
  have e2 : f''.sz = f'.sz := by rw [← hff]; rfl
  have e3 : f''.sz = pk.f3 := by simp [Fl.sz, hq]
  have e1 : f''.df = f'.df + (if t then 0 else f'.qt) := by rw [← hff]; rfl
  cases t with
  | true => simp at e1 ⊢; rw [e1, e2]; omega
  | false => simp at e1 ⊢; omega
theorem turn_inv {d : Dr} {ri0 : List Nat} {fl fl' : List Fl} {i : Nat} {rest : List Nat} {t : Bool} {f f' f'' : Fl} {idle idle1 : Nat} (hi : CInv d ri0 fl (i :: rest) t idle) (h : CJoin d ri0 fl fl' i rest t f f' idle1) (hff : f'.add (if t then 0 else f'.qt) = f'')
    {pk : P6} {rs : List P6} (hq : f''.q = pk :: rs) (hlt : f''.df < pk.f3) : CInv d ri0 (fl'.set i f'') (rest ++ [i]) false (idle1 + 1) := by
  obtain ⟨hni, hnr⟩ := List.nodup_cons.1 hi.nd
  obtain ⟨g, hg, hfn⟩ := h.fine i (by simp)
  rw [h.at_] at hg
  cases hg
  have e2 : f''.sz = f'.sz := by rw [← hff]; rfl
  have e3 : f''.sz = pk.f3 := by simp [Fl.sz, hq]
  have e1 : f''.df = f'.df + (if t then 0 else f'.qt) := by rw [← hff]; rfl
  have hge : f'.df ≤ f''.df := by rw [e1]; have := hfn.q1; cases t <;> simp <;> omega
  have hsh : Short f'' := by
    refine ⟨by rw [hq]; simp, ?_, ?_, by have := hfn.d1; omega, by omega, by have := hfn.s2; omega⟩
    · rw [← hff]; exact hfn.q1
    · rw [← hff]; exact hfn.q2
  refine ⟨?_, ?_, ?_, by have := hi.len; simp at this ⊢; omega, ?_⟩
  · have := Turns.one (t := t) (rest := rest) h.at_ (by omega)
    rw [hff] at this
    exact h.tr.trans this
  · have := h.fine.set (i := i) hsh.fine
    intro j hj
    exact this j (by simp at hj ⊢; exact hj.symm)
  · refine List.nodup_append.2 ⟨hnr, by simp, fun x hx y hy e => ?_⟩
    simp at hy; subst hy; subst e; exact hni hx
  · obtain ⟨a, b, hab, hbl, hsb⟩ := h.ids
    refine ⟨a, b ++ [i], by rw [hab]; simp, by simp [hbl], fun j hj => ?_, .inr rfl⟩
    rcases List.mem_append.1 hj with hj | hj
    · exact hsb.set f'' (fun hm => hni (by rw [hab]; simp [hm])) j hj
    · simp at hj
      subst hj
      exact ⟨f'', List.getElem?_set_self (some_lt h.at_), hsh⟩
set_option maxRecDepth 100000 in
set_option maxHeartbeats 4000000 in
theorem dchoose {w : World} {d : Dr} {ri0 : List Nat} (h : Holds w (d.cch ri0)) (hf : FineAt d.fl ri0) (hn : ri0.Nodup) (hl : ri0.length ≤ 1048576) :
    Calls Try.prog 40 #[.pointer (some ⟨d.b, 0, none⟩)] w fun e w' =>
      (ri0 = [] ∧ e = .returned (.pointer none) ∧ ∃ rds', Sep w (Chunks.bs (d.cch ri0)) w' (({ d with rds := rds' } : Dr).cch ri0)) ∨
      ∃ fl t i rest f rds', Turns d.fl ri0 d.turn fl (i :: rest) t ∧ (i :: rest).Nodup ∧ FineAt fl (i :: rest) ∧ fl[i]? = some f ∧ f.sz ≤ f.df + (if t then 0 else f.qt) ∧ e = .returned (.pointer (some ⟨f.b, 0, none⟩)) ∧
        Sep w (Chunks.bs (d.cch ri0)) w' (({ d with fl := fl.set i (f.add (if t then 0 else f.qt)), turn := true, rds := rds' } : Dr).cch (i :: rest)) := by
  have H := Lib.hid h
  have HFF := Lib.hid hf
  clear h hf
  go_enter Try.func40, Try.ntmps40
  go_wp2
  refine wp_scope_straight ?_
  refine (wpIn_wide (n := 0)).1 ?_
  gi_wp2_with fail
  refine wpIn_label ?_
  gi_wp2_with fail
  refine wpIn_loop_ghost_k (fun k' a' w' => ∃ (u : Nat → Value) (dfs : List Deferred), (dfs = [] ∧ ∃ (fl : List Fl) (ri : List Nat) (t : Bool) (rds : List Nat) (idle : Nat), k' = 2 * meas fl ri + (if t then 1 else 0) ∧ u 3 = .int .i64 idle ∧ idle ≤ ri.length ∧ Hid (CInv d ri0 fl ri t idle) ∧
      Hid (Sep w (Chunks.bs (d.cch ri0)) w' (({ d with fl := fl, turn := t, rds := rds } : Dr).cch ri))) ∧ a' = { tmps := #[.pointer (some ⟨d.b, 0, none⟩), undef, .pointer none, u 3, u 4, u 5, u 6, u 7, u 8, u 9, u 10, u 11, u 12, u 13, u 14, u 15, u 16, u 17, u 18, u 19, u 20, u 21, u 22, u 23, u 24, u 25, u 26, u 27, u 28, u 29, u 30, u 31, u 32, u 33, u 34, u 35, u 36, u 37, u 38, u 39, u 40, u 41, u 42, u 43, u 44, u 45, u 46, u 47, u 48, u 49, u 50, u 51, u 52, u 53, u 54, u 55, u 56, u 57, u 58, u 59, u 60, u 61, u 62, u 63, u 64, u 65, u 66, u 67, u 68, u 69, u 70, u 71, u 72, u 73, u 74, u 75], defers := dfs }) (2 * meas d.fl ri0 + (if d.turn then 1 else 0)) ?startu ?roundu
  case' startu => refine meet_frame ?_ rfl
  case' roundu =>
    intro gk _ wr hinv
    obtain ⟨u, dfs, hrel, ha⟩ := hinv
    subst ha
    try dsimp only
    intro _ _ _ _
  case startu => exact ⟨rfl, d.fl, ri0, d.turn, d.rds, 0, rfl, rfl, by omega, ⟨Turns.refl _ _ _, HFF.out, hn, rfl, ri0, [], by simp, rfl, fun i hi => by simp at hi, .inl rfl⟩, Sep.start H.out⟩
  obtain ⟨rfl, fl, ri, t, rds, idle, hk, e3, hid, HI, HK⟩ := hrel
  rw [e3]
  clear e3
  have hlen := HI.out.len
  obtain ⟨dd, hdd⟩ : ∃ dd : Dr, ({ d with fl := fl, turn := t, rds := rds } : Dr) = dd := ⟨_, rfl⟩
  have hb1 : wr.cell? ⟨d.b, 1, none⟩ = some (.pointer (some ⟨d.rb, 0, none⟩)) := (show Blk wr d.b 92 _ from HK.out.get (i := 0) rfl).cell 1
  have hb2 : wr.cell? ⟨d.b, 2, none⟩ = some (.bool t) := (show Blk wr d.b 92 _ from HK.out.get (i := 0) rfl).cell 2
  have hring := Lib.hid (HK.out.ring 1 rfl)
  have hln : ((blocksOf fl ri).map some).length = ri.length := by simp [blocksOf]
  cases ri with
  | nil =>
    simp only [List.length_nil] at hln
    gi_wp2_with (gi_at_call 73; refine (wideIn _ (len_q hring.out)).mono ?_; rintro er w' ⟨rfl, rfl⟩)
    have h0 : ri0 = [] := List.eq_nil_of_length_eq_zero (by simpa using hlen.symm)
    subst h0
    obtain ⟨h1, h2⟩ := HI.out.tr.nil
    have h3 := HK.out
    rw [← h1, ← h2] at h3
    simp only [Exit.noGoto]
    refine bodyPost_ret (fn := Try.f40) (results_tmp1 (t := 2) rfl _ _ _) rfl ?_
    exact Or.inl ⟨rfl, rfl, rds, h3⟩
  | cons i rest =>
    obtain ⟨f, hfi, hfine⟩ := HI.out.fine i (by simp)
    have hnd := List.nodup_cons.1 HI.out.nd
    have hln2 : ((blocksOf fl (i :: rest)).map some).length = rest.length + 1 := by simp [blocksOf]
    have hfront := Lib.hid (front_q (x := some f.b) (xs := (blocksOf fl rest).map some) (by have := hring.out; rw [blocksOf_cons hfi] at this; exact this))
    have hk0 : decide ((0 : Int) < (rest.length : Int) + 1) = true := decide_eq_true (by omega)
    simp only [List.length_cons] at hid hlen
    have HLEN := Lib.hid hlen
    clear hln hdd hlen
    gi_upto_region 3 with (gi_at_call 73; refine (wideIn _ (len_q hring.out)).mono ?_; rintro er w' ⟨rfl, rfl⟩)
    refine wpIn_cut (fun a' w' => ∃ (ua : Nat → Value) (dfs : List Deferred), (dfs = [] ∧ Hid (Sep w (Chunks.bs (d.cch ri0)) w' (({ d with fl := fl, turn := t, rds := rds } : Dr).cch (i :: rest)))) ∧ a' = { tmps := #[.pointer (some ⟨d.b, 0, none⟩), undef, .pointer none, .int .i64 idle, .pointer (some ⟨f.b, 0, none⟩), ua 5, ua 6, ua 7, ua 8, ua 9, ua 10, ua 11, ua 12, ua 13, ua 14, ua 15, ua 16, ua 17, ua 18, ua 19, ua 20, ua 21, ua 22, ua 23, ua 24, ua 25, ua 26, ua 27, ua 28, ua 29, ua 30, ua 31, ua 32, ua 33, ua 34, ua 35, ua 36, ua 37, ua 38, ua 39, ua 40, ua 41, ua 42, ua 43, ua 44, ua 45, ua 46, ua 47, ua 48, ua 49, ua 50, ua 51, ua 52, ua 53, ua 54, ua 55, ua 56, ua 57, ua 58, ua 59, ua 60, ua 61, ua 62, ua 63, ua 64, ua 65, ua 66, ua 67, ua 68, ua 69, ua 70, ua 71, ua 72, ua 73, ua 74, ua 75], defers := dfs }) ?restua ?firstua
    case' restua =>
      intro _ wc hinv
      obtain ⟨ua, dfs, hcut, ha⟩ := hinv
      subst ha
      try dsimp only
    case' firstua => intro _ _ _ _
    case firstua =>
      gi_wp2_with (gi_at_call 48; refine (wideIn _ hfront.out).mono ?_; rintro er w' ⟨rfl, n1, rfl⟩)
      refine Met.intro ?_
      first | gi_step | go_step
      refine meet_frame ?rel rfl
      case rel => exact ⟨rfl, HK.out.drewN n1⟩
    obtain ⟨rfl, HK2⟩ := hcut
    clear HK hring hfront hb1 hb2
    gi_step
    gi_step
    refine wpIn_cut (fun a' w' => ∃ (ub : Nat → Value) (dfs : List Deferred), (dfs = [] ∧ ∃ (fl' : List Fl) (f' : Fl) (rds' : List Nat) (idle1 : Nat), ub 3 = .int .i64 idle1 ∧ idle1 ≤ rest.length ∧ Hid (CJoin d ri0 fl fl' i rest t f f' idle1) ∧
        Hid (Sep w (Chunks.bs (d.cch ri0)) w' (({ d with fl := fl'.set i (f'.add (if t then 0 else f'.qt)), turn := true, rds := rds' } : Dr).cch (i :: rest)))) ∧ a' = { tmps := #[.pointer (some ⟨d.b, 0, none⟩), undef, .pointer none, ub 3, .pointer (some ⟨f.b, 0, none⟩), ub 5, ub 6, ub 7, ub 8, ub 9, ub 10, ub 11, ub 12, ub 13, ub 14, ub 15, ub 16, ub 17, ub 18, ub 19, ub 20, ub 21, ub 22, ub 23, ub 24, ub 25, ub 26, ub 27, ub 28, ub 29, ub 30, ub 31, ub 32, ub 33, ub 34, ub 35, ub 36, ub 37, ub 38, ub 39, ub 40, ub 41, ub 42, ub 43, ub 44, ub 45, ub 46, ub 47, ub 48, ub 49, ub 50, ub 51, ub 52, ub 53, ub 54, ub 55, ub 56, ub 57, ub 58, ub 59, ub 60, ub 61, ub 62, ub 63, ub 64, ub 65, ub 66, ub 67, ub 68, ub 69, ub 70, ub 71, ub 72, ub 73, ub 74, ub 75], defers := dfs }) ?restub ?firstub
    case' restub =>
      intro _ wc hinv
      obtain ⟨ub, dfs, hcut, ha⟩ := hinv
      subst ha
      try dsimp only
    case' firstub => intro _ _ _ _
    case firstub =>
      have hhd0 : Blk wc d.b 92 _ := HK2.out.get (i := 0) rfl
      have c2 : wc.cell? ⟨d.b, 2, none⟩ = some (.bool t) := hhd0.cell 2
      have c1 : wc.cell? ⟨d.b, 1, none⟩ = some (.pointer (some ⟨d.rb, 0, none⟩)) := hhd0.cell 1
      have hring := Lib.hid (HK2.out.ring 1 rfl)
      clear hhd0
      obtain ⟨aa, bb, hab, hbl, hsb, hit⟩ := HI.out.ids
      have HSB := Lib.hid hsb
      have HAB := Lib.hid hab
      clear hsb hab
      cases t with
      | true =>
        obtain rfl : idle = 0 := by rcases hit with h | h; exact h; cases h
        gi_wp2_with fail
        refine Met.intro ?_
        first | gi_step | go_step
        refine meet_frame ?rel rfl
        case rel =>
          refine ⟨rfl, fl, f, rds, 0, rfl, by omega, ⟨HI.out.tr, HI.out.fine, hfi, rfl, Nat.le_refl _, rest, [], by simp, rfl, fun j hj => by simp at hj⟩, ?_⟩
          simp only [if_true, Fl.add_zero, set_same hfi]
          exact HK2
      | false =>
        by_cases hfull : idle = rest.length + 1
        · subst hfull
          have haa : aa = [] := by
            have := congrArg List.length HAB.out
            simp at this
            exact List.eq_nil_of_length_eq_zero (by omega)
          have hall : ∀ j, j ∈ i :: rest → ∃ g, fl[j]? = some g ∧ Short g := by
            have e := HAB.out
            rw [haa, List.nil_append] at e
            rw [e]
            exact HSB.out
          have hskip := Lib.hid (dskip (d := { d with fl := fl, turn := false, rds := rds }) HK2.out.hs hall HI.out.nd (by simp))
          have HALL := Lib.hid hall
          have HFI := Lib.hid hfi
          clear hall haa hfine hfi
          gi_wp2_with (first
            | (gi_at_call 73; refine (wideIn _ (len_q hring.out)).mono ?_; rintro er w' ⟨rfl, rfl⟩)
            | fail)
          refine (wideIn _ hskip.out).mono ?_
          rintro er Z ⟨rfl, c, hc, ks⟩
          have KS : Hid (Sep w (Chunks.bs (d.cch ri0)) Z (({ d with fl := bump fl (i :: rest) c, turn := false, rds := rds } : Dr).cch (i :: rest))) := HK2.out.next ks
          have HC := Lib.hid hc
          have HFJ : Hid ((bump fl (i :: rest) c)[i]? = some (f.add ((c : Int) * f.qt))) := Lib.hid (by rw [bump_at, HFI.out]; simp)
          have hfn : FineAt (bump fl (i :: rest) c) (i :: rest) := fun j hj => by
            obtain ⟨g, hg, hs⟩ := HALL.out j hj
            obtain ⟨g', hg', hl⟩ := HC.out j hj
            have hg2 : fl[j]? = some g' := hg'
            rw [hg] at hg2
            cases hg2
            refine ⟨g.add ((c : Int) * g.qt), by rw [bump_at, hg]; simp [hj], ⟨hs.q, hs.q1, hs.q2, ?_, ?_, hs.s2⟩⟩
            · have : (0 : Int) ≤ (c : Int) * g.qt := Int.mul_nonneg (by omega) (by have := hs.q1; omega)
              have := hs.d1
              simp only [Fl.add]; omega
            · have := hs.s2
              simp only [Fl.add]; omega
          have HFNA := Lib.hid hfn
          have HFN : Hid (Fine (f.add ((c : Int) * f.qt))) := by
            obtain ⟨g, hg, hfg⟩ := hfn i (by simp)
            rw [HFJ.out] at hg
            cases hg
            exact hfg
          clear hc ks hfn hskip hring c1 c2
          have hst : Blk Z (f.add ((c : Int) * f.qt)).b 95 (f.add ((c : Int) * f.qt)).cells := KS.out.get (cch_str (d := { d with fl := (bump fl (i :: rest) c), turn := false, rds := rds }) HFJ.out)
          have hhd : Blk Z d.b 92 _ := KS.out.get (i := 0) rfl
          have s3 : Z.cell? ⟨f.b, 3, none⟩ = some (.int .i64 f.qt) := hst.cell 3
          have s4 : Z.cell? ⟨f.b, 4, none⟩ = some (.int .i64 (f.df + (c : Int) * f.qt)) := hst.cell 4
          have q4 : Z.frozen? ⟨f.b, 4, none⟩ = false := hst.frz 4
          have b2 : Z.cell? ⟨d.b, 2, none⟩ = some (.bool false) := hhd.cell 2
          have q2 := hhd.frz 2
          have hw : Hid (wrap64 (f.df + (c : Int) * f.qt + f.qt) = f.df + (c : Int) * f.qt + f.qt) := grant_w HFN.out
          have hne : d.b ≠ f.b := (show d.b ≠ (f.add ((c : Int) * f.qt)).b from KS.out.bne 0 (2 + i) (by omega) rfl (cch_str (d := { d with fl := (bump fl (i :: rest) c), turn := false, rds := rds }) HFJ.out))
          have hne' := Ne.symm hne
          clear hst hhd
          gi_wp2_with fail
          refine wpIn_wide.2 ?_
          refine wp_region_quiet_tail 11 (by kernel_rfl) (by kernel_rfl) ?_
          simp only [List.take_succ_cons, List.take_zero, List.drop_succ_cons, List.drop_zero]
          repeat (first | go_big_quiet_step (fail) | quiet_step (fail))
          refine wpQuiet_nil ?_
          rintro _ ⟨nq, rfl⟩
          go_wp2
          rw [hw.out]
          gi_wp2_with fail
          have K9 := (KS.out.drewN nq).set (2 + i) (cch_str (d := { d with fl := (bump fl (i :: rest) c), turn := false, rds := rds }) HFJ.out) 4 (.int .i64 (f.df + (c : Int) * f.qt + f.qt))
          have e9 : Chunk.blk (f.add ((c : Int) * f.qt)).b 95 ((f.add ((c : Int) * f.qt)).cells.set 4 (.int .i64 (f.df + (c : Int) * f.qt + f.qt))) = CStr ((f.add ((c : Int) * f.qt)).add (f.add ((c : Int) * f.qt)).qt) := rfl
          rw [e9, cch_setF (d := { d with fl := (bump fl (i :: rest) c), turn := false, rds := rds }) (f' := (f.add ((c : Int) * f.qt)).add (f.add ((c : Int) * f.qt)).qt) HFJ.out rfl rfl] at K9
          have K8 := Lib.hid (K9.set 0 rfl 2 (.bool true))
          clear K9 e9
          refine Met.intro ?_
          first | gi_step | go_step
          refine meet_frame ?rel rfl
          case rel =>
            refine ⟨rfl, bump fl (i :: rest) c, f.add ((c : Int) * f.qt), rds, 0, rfl, by omega, ⟨HI.out.tr.trans (Turns.rounds _ HI.out.nd fl c (fun j hj => ?_)), HFNA.out, HFJ.out, rfl, meas_bump _ _ _ _ (fun j hj => ?_), rest, [], by simp, rfl, fun j hj => by simp at hj⟩, K8⟩
            · obtain ⟨g1, hg1, hs⟩ := HALL.out j hj
              obtain ⟨g2, hg2, hl⟩ := HC.out j hj
              have hg3 : fl[j]? = some g2 := hg2
              rw [hg1] at hg3
              cases hg3
              exact ⟨g1, hg1, hl, by have := hs.q1; omega⟩
            · obtain ⟨g1, hg1, hs⟩ := HALL.out j hj
              exact ⟨g1, hg1, by have := hs.q1; omega⟩
        · have hk1 : ((idle : Int) == ((rest.length : Int) + 1)) = false := by rw [beq_eq_false_iff_ne]; omega
          have HFJ := Lib.hid hfi
          have HFN := Lib.hid hfine
          have hidr : idle ≤ rest.length := by omega
          clear hfi hfine
          gi_wp2_with (first
            | (gi_at_call 73; refine (wideIn _ (len_q hring.out)).mono ?_; rintro er w' ⟨rfl, rfl⟩)
            | fail)
          clear hk1 c1 c2
          have hst : Blk w' f.b 95 f.cells := HK2.out.get (cch_str (d := { d with fl := fl, turn := false, rds := rds }) HFJ.out)
          have hhd : Blk w' d.b 92 _ := HK2.out.get (i := 0) rfl
          have s3 : w'.cell? ⟨f.b, 3, none⟩ = some (.int .i64 f.qt) := hst.cell 3
          have s4 : w'.cell? ⟨f.b, 4, none⟩ = some (.int .i64 (f.df)) := hst.cell 4
          have q4 : w'.frozen? ⟨f.b, 4, none⟩ = false := hst.frz 4
          have b2 : w'.cell? ⟨d.b, 2, none⟩ = some (.bool false) := hhd.cell 2
          have q2 := hhd.frz 2
          have hw : Hid (wrap64 (f.df + f.qt) = f.df + f.qt) := grant_w HFN.out
          have hne : d.b ≠ f.b := (show d.b ≠ f.b from HK2.out.bne 0 (2 + i) (by omega) rfl (cch_str (d := { d with fl := fl, turn := false, rds := rds }) HFJ.out))
          have hne' := Ne.symm hne
          clear hst hhd
          gi_wp2_with fail
          refine wpIn_wide.2 ?_
          refine wp_region_quiet_tail 11 (by kernel_rfl) (by kernel_rfl) ?_
          simp only [List.take_succ_cons, List.take_zero, List.drop_succ_cons, List.drop_zero]
          repeat (first | go_big_quiet_step (fail) | quiet_step (fail))
          refine wpQuiet_nil ?_
          rintro _ ⟨nq, rfl⟩
          go_wp2
          rw [hw.out]
          gi_wp2_with fail
          have K9 := (HK2.out.drewN nq).set (2 + i) (cch_str (d := { d with fl := fl, turn := false, rds := rds }) HFJ.out) 4 (.int .i64 (f.df + f.qt))
          have e9 : Chunk.blk f.b 95 (f.cells.set 4 (.int .i64 (f.df + f.qt))) = CStr (f.add f.qt) := rfl
          rw [e9, cch_setF (d := { d with fl := fl, turn := false, rds := rds }) (f' := f.add f.qt) HFJ.out rfl rfl] at K9
          have K8 := Lib.hid (K9.set 0 rfl 2 (.bool true))
          clear K9 e9
          refine Met.intro ?_
          first | gi_step | go_step
          refine meet_frame ?rel rfl
          case rel =>
            refine ⟨rfl, fl, f, rds, idle, rfl, hidr, ⟨HI.out.tr, HI.out.fine, HFJ.out, rfl, Nat.le_refl _, ?_⟩, K8⟩
            cases aa with
            | nil =>
              have := congrArg List.length HAB.out
              simp at this
              omega
            | cons x aa =>
              have e := HAB.out
              rw [List.cons_append] at e
              cases e
              exact ⟨aa, bb, rfl, hbl, HSB.out⟩
    obtain ⟨rfl, fl', f', rds', idle1, e3, hid1, HJ, HK3⟩ := hcut
    rw [e3]
    clear e3 HK2
    have hfa : ({ d with fl := fl'.set i (f'.add (if t then 0 else f'.qt)), turn := true, rds := rds' } : Dr).fl[i]? = some (f'.add (if t then 0 else f'.qt)) := List.getElem?_set_self (some_lt HJ.out.at_)
    obtain ⟨g2, hg2⟩ : ∃ g2 : Int, (if t then 0 else f'.qt) = g2 := ⟨_, rfl⟩
    rw [hg2] at HK3 hfa
    have hbb : f'.b = f.b := HJ.out.b
    obtain ⟨f'', hff⟩ : ∃ f'' : Fl, f'.add g2 = f'' := ⟨_, rfl⟩
    have hqf : f''.q = f'.q := by rw [← hff]; rfl
    have hbf : f''.b = f.b := by rw [← hff]; exact hbb
    rw [hff] at HK3 hfa
    obtain ⟨pk, rs, hq⟩ : ∃ pk rs, f''.q = pk :: rs := by
      obtain ⟨g, hg, hgf⟩ := HJ.out.fine i (by simp)
      rw [HJ.out.at_] at hg
      cases hg
      rw [hqf]
      have := hgf.q
      cases hq : f'.q with
      | nil => exact absurd hq this
      | cons a b => exact ⟨a, b, rfl⟩
    have hst : Blk wc f''.b 95 f''.cells := HK3.out.get (cch_str hfa)
    have hque : Rgp6 wc f''.r f''.ds (pk :: rs) := by rw [← hq]; exact HK3.out.get (cch_que hfa)
    have s4 : wc.cell? ⟨f.b, 4, none⟩ = some (.int .i64 f''.df) := by rw [← hbf]; exact hst.cell 4
    have s5 : wc.cell? ⟨f.b, 5, none⟩ = some (.pointer (some ⟨f''.r, 0, none⟩)) := by rw [← hbf]; exact hst.cell 5
    have lf : f.b < wc.heap.size := by rw [← hbf]; exact hst.lt
    have HFA := Lib.hid hfa
    have HG2 := Lib.hid hg2
    have HFF2 := Lib.hid hff
    have HQ := Lib.hid hq
    clear hst hfa hg2 hff hq hqf hbf hfi hfine hnd
    gi_wp2_with fail
    refine (wideIn _ (front_p6 hque)).mono ?_
    rintro er Z1 ⟨rfl, f1⟩
    have K4 := Lib.hid ((HK3.out.same f1).alloc 34 (encP6 pk))
    have t4 := (f1.cell (p := ⟨f.b, 4, none⟩) lf (by simp)).trans s4
    have lz : f.b < Z1.heap.size := Nat.lt_of_lt_of_le lf f1.size
    have hhd : Blk Z1 d.b 92 _ := (HK3.out.same f1).get (i := 0) rfl
    have b1 : Z1.cell? ⟨d.b, 1, none⟩ = some (.pointer (some ⟨d.rb, 0, none⟩)) := hhd.cell 1
    have b2 : Z1.cell? ⟨d.b, 2, none⟩ = some (.bool true) := hhd.cell 2
    have q2 := hhd.frz 2
    have lb := hhd.lt
    clear hque s4 s5 f1 hhd lf
    by_cases hlt : f''.df < pk.f3
    · have hk1 : decide (f''.df < pk.f3) = true := decide_eq_true hlt
      gi_wp2_with fail
      refine wpIn_wide.2 ?_
      go_quiet (fail)
      gi_wp2_with fail
      have K5 := Lib.hid ((K4.out.drewN nq).set 0 rfl 2 (.bool false))
      refine (wideIn _ (turn_q (K5.out.ring 1 rfl) (by simp [blocksOf]) (by simp [blocksOf]; have := HLEN.out; omega) 1)).mono ?_
      rintro er Z2 ⟨rfl, ds2, hr2, f2, g2'⟩
      have K6 := K5.out.ring1 1 rfl hr2 f2 g2'
      rw [rot_one HFA.out] at K6
      have K7 : Hid (Sep w (Chunks.bs (d.cch ri0)) Z2 (({ d with fl := fl'.set i f'', turn := false, rds := ds2 } : Dr).cch (rest ++ [i]))) := K6.sub (List.sublist_append_left _ _)
      have hms := Lib.hid (meas_turn HJ.out HI.out.nd (by rw [HG2.out, HFF2.out]) HQ.out hlt)
      clear K6 K5 K4 hr2 f2 g2' t4 b1 b2 q2
      have hidb : idle1 ≤ 1048576 := by have := HLEN.out; omega
      have HWI := Lib.hid (idle_w idle1 hidb)
      clear hidb
      gi_wp2_with fail
      refine Handed.intro (2 * meas (fl'.set i f'') (rest ++ [i])) ?measure ?_
      rotate_left
      first | gi_step | go_step
      refine meet_frame ?rel rfl
      case measure => have := hms.out.1; omega
      case rel => exact ⟨rfl, _, _, false, ds2, idle1 + 1, rfl, by first | go_num | exact congrArg (Value.int .i64) HWI.out, by simp; omega, turn_inv HI.out HJ.out (by rw [HG2.out, HFF2.out]) HQ.out hlt, K7⟩
    · have hk1 : decide (f''.df < pk.f3) = false := decide_eq_false hlt
      gi_wp2_with fail
      refine wpIn_wide.2 ?_
      go_quiet (fail)
      gi_wp2_with fail
      simp only [Exit.noGoto]
      refine bodyPost_ret (fn := Try.f40) (results_tmp1 (t := 2) rfl _ _ _) rfl ?_
      refine Or.inr ⟨fl', t, i, rest, f', rds', HJ.out.tr, HI.out.nd, HJ.out.fine, HJ.out.at_, ?_, by rw [HJ.out.b]; rfl, ?_⟩
      · have e1 : f''.df = f'.df + g2 := by rw [← HFF2.out]; rfl
        have e2 : f'.sz = pk.f3 := by
          have : f'.sz = f''.sz := by rw [← HFF2.out]; rfl
          rw [this]; simp [Fl.sz, HQ.out]
        rw [HG2.out]; omega
      · rw [HG2.out, HFF2.out]
        exact (K4.out.drewN nq).sub (List.sublist_append_left _ _)
end Go.Proofs.Yteojodcdehkejaa
/- A discipline by turns: New, check, Deficit, Admit. -/
namespace Go.Proofs.Yteojodcdehkejaa
open Go Go.RowKit
attribute [local go_sem] calmQ_normal wide_fn wide_depth Oper.semAt_some run_store_func

def Dr.new (b rb : Nat) : Dr := { b := b, fv := .slice none 0 0, fS := [], fl := [], rb := rb, rds := [], ring := [], turn := false, seq := 0, came := 0, n := 0 }
set_option maxRecDepth 100000 in
set_option maxHeartbeats 1000000 in
theorem dnew (w : World) :
    Calls Try.prog 10 #[] w fun e w' => ∃ b rb, e = .returned (.pointer (some ⟨b, 0, none⟩)) ∧ Sep w [] w' (Dr.new b rb).chunks := by
  have hnew := Lib.hid (new_q w)
  go_enter Try.func10, Try.ntmps10
  go_wp2_with fail
  refine hnew.out.mono ?_
  rintro e w1 ⟨rfl, hr, f1, z1⟩
  have K1 : Sep w [] w1 [CRingq w.heap.size [] []] := Sep.of_one f1 hr (fun b hb => by simp [Chunk.ring] at hb; right; omega)
  have K2 := ((K1.alloc 92 (Dr.new w1.heap.size w.heap.size).head).call0 (Sep.of_one0 (Fr.refl _ _) (OwnS.nil _ 89 1) (Gr.nil _ _) : Sep _ [] _ [Chunk.own 89 1 (.slice none 0 0) 0 [] []])).pick [1, 2, 0] (by decide)
  have K3 := Lib.hid K2
  clear K2 K1 hr f1 z1
  go_wp2
  go_ret
  exact ⟨w1.heap.size, w.heap.size, rfl, K3.out⟩

set_option maxRecDepth 100000 in
set_option maxHeartbeats 1000000 in
theorem ddeficit {w : World} {d : Dr} (h : Holds w d.chunks) {s g : Int} {k : Nat} {f : Fl} (hk : d.look s g = some k) (hf : d.fl[k]? = some f) :
    Calls Try.prog 15 #[.pointer (some ⟨d.b, 0, none⟩), .agg #[.int .i64 s, .int .i64 g]] w fun e w' => e = .returned (.tuple #[.int .i64 f.df, .int .i64 0]) ∧ Fr [] w w' := by
  have hcall := Lib.hid (fun X (fX : Fr [] w X) => dfind (h.fr' fX (by simp)) s g)
  have hst : Blk w f.b 95 f.cells := h.get (Dr.str_at hf)
  have s4 : w.cell? ⟨f.b, 4, none⟩ = some (.int .i64 f.df) := hst.cell 4
  have hl := hst.lt
  have hp : d.ptr (d.look s g) = .pointer (some ⟨f.b, 0, none⟩) := by simp [Dr.ptr, hk, hf]
  clear h hst
  go_enter Try.func15, Try.ntmps15
  go_wp2_with fail
  refine (hcall.out _ ((Fr.refl [] w).alloc _)).mono ?_
  rw [hp]
  rintro e w1 ⟨rfl, f1⟩
  have fA : Fr [] w w1 := ((Fr.refl [] w).alloc _).trans' f1
  have t4 := (fA.cell (p := ⟨f.b, 4, none⟩) hl (by simp)).trans s4
  have HF := Lib.hid fA
  clear f1 fA s4
  go_wp2
  go_ret2
  exact ⟨rfl, HF.out⟩

/-- what check lets in -/
structure Dr.Ok (d : Dr) (p : P6) (k : Nat) : Prop where
  look : d.look p.f0 p.f1 = some k
  s1 : 1 ≤ p.f3
  s2 : p.f3 ≤ 65536
  sq : d.seq < p.f4
  c1 : d.came ≤ p.f5
  c2 : p.f5 ≤ 4611686018427387904
set_option maxRecDepth 100000 in
set_option maxHeartbeats 1000000 in
theorem dcheck {w : World} {d : Dr} (h : Holds w d.chunks) {p : P6} {k : Nat} (ho : d.Ok p k) :
    Calls Try.prog 35 #[.pointer (some ⟨d.b, 0, none⟩), aggp6 p] w fun e w' => e = .returned (.int .i64 0) ∧ Fr [] w w' := by
  have hcall := Lib.hid (fun X (fX : Fr [] w X) => dfind (h.fr' fX (by simp)) p.f0 p.f1)
  obtain ⟨f, hf, _⟩ := Dr.look_at ho.look
  have hB : Blk w d.b 92 d.head := h.get (i := 0) rfl
  have hp : d.ptr (d.look p.f0 p.f1) = .pointer (some ⟨f.b, 0, none⟩) := by simp [Dr.ptr, ho.look, hf]
  have HB := Lib.hid hB
  have d1 : decide (p.f3 < 1) = false := decide_eq_false (by have := ho.s1; omega)
  have d2 : decide (65536 < p.f3) = false := decide_eq_false (by have := ho.s2; omega)
  have d3 : decide (p.f4 ≤ d.seq) = false := decide_eq_false (by have := ho.sq; omega)
  have d4 : decide (p.f5 < d.came) = false := decide_eq_false (by have := ho.c1; omega)
  have d5 : decide (4611686018427387904 < p.f5) = false := decide_eq_false (by have := ho.c2; omega)
  clear h hf hB ho
  go_enter Try.func35, Try.ntmps35
  go_wp2_with fail
  refine (hcall.out _ ((Fr.refl [] w).alloc _)).mono ?_
  rw [hp]
  rintro e w1 ⟨rfl, f1⟩
  have fA : Fr [] w w1 := ((Fr.refl [] w).alloc _).trans' f1
  have hbx : Blk w1 w.heap.size 34 (encP6 p) := (Blk.new w _ (encP6 p)).fr f1 (by simp)
  have x3 : w1.cell? ⟨w.heap.size, 3, none⟩ = some (.int .i64 p.f3) := hbx.cell 3
  have x4 : w1.cell? ⟨w.heap.size, 4, none⟩ = some (.int .i64 p.f4) := hbx.cell 4
  have x5 : w1.cell? ⟨w.heap.size, 5, none⟩ = some (.int .i64 p.f5) := hbx.cell 5
  have hb1 := HB.out.fr fA (by simp)
  have y3 : w1.cell? ⟨d.b, 3, none⟩ = some (.int .i64 d.seq) := hb1.cell 3
  have y4 : w1.cell? ⟨d.b, 4, none⟩ = some (.int .i64 d.came) := hb1.cell 4
  have HF := Lib.hid fA
  clear f1 fA hbx hb1 hp
  go_wp2
  go_quiet (fail)
  go_wp2
  go_quiet (fail)
  go_wp2
  go_ret
  exact ⟨rfl, (HF.out.drewN _).drewN _⟩
end Go.Proofs.Yteojodcdehkejaa
/- A discipline by turns: single steps on its memory, whatever lies ahead of it. -/
namespace Go.Proofs.Yteojodcdehkejaa
open Go Go.RowKit

theorem pre_get {α : Type} {pre l : List α} {i : Nat} {c : α} (h : l[i]? = some c) : (pre ++ l)[pre.length + i]? = some c := by
  rw [List.getElem?_append_right (by omega)]
  simpa using h
theorem pre_set {α : Type} (pre l : List α) (i : Nat) (c : α) : (pre ++ l).set (pre.length + i) c = pre ++ l.set i c := by
  rw [List.set_append_right _ _ (by omega)]
  simp
section
variable {w0 w w' : World} {S0 : List Nat} {pre : List Chunk} {d : Dr} {k : Nat} {f : Fl}
theorem Dr.here (K : Sep w0 S0 w (pre ++ d.chunks)) : Holds w d.chunks := K.hs.right
theorem Dr.set1 (K : Sep w0 S0 w (pre ++ d.chunks)) (hf : d.fl[k]? = some f) (f' : Fl) (o : Nat) (v : Value) (hc : f'.cells = f.cells.set o v) (hb : f'.b = f.b) (hq : CQ f' = CQ f) : Sep w0 S0 (w.setCell ⟨f.b, o, none⟩ v) (pre ++ (d.setF k f').chunks) := by
  have h := K.set (pre.length + (3 + k)) (pre_get (Dr.str_at hf)) o v
  rw [pre_set] at h
  have e : Chunk.blk f.b 95 (f.cells.set o v) = CStr f' := by unfold CStr; rw [hc, hb]
  rw [e, Dr.set_str hf hb hq] at h
  exact h
theorem Dr.que1 (K : Sep w0 S0 w (pre ++ d.chunks)) (hf : d.fl[k]? = some f) {q : List P6} {ds : List Nat} (hr : Rgp6 w' f.r ds q) (fr : Fr (f.r :: f.ds) w w') (g : Gr w f.ds ds) : Sep w0 S0 w' (pre ++ (d.setF k { f with q := q, ds := ds }).chunks) := by
  have h := K.ring1 (pre.length + (3 + d.fl.length + k)) (pre_get (Dr.que_at hf)) hr fr g
  rw [pre_set] at h
  have e := Dr.set_que (f' := { f with q := q, ds := ds }) hf rfl rfl
  have e2 : Chunk.ring 134 34 6 encP6 f.r ds q = CQ { f with q := q, ds := ds } := rfl
  rw [e2, e] at h
  exact h
theorem Dr.hd1 (K : Sep w0 S0 w (pre ++ d.chunks)) (d' : Dr) (o : Nat) (v : Value) (e : d.chunks.set 0 (Chunk.blk d.b 92 (d.head.set o v)) = d'.chunks) : Sep w0 S0 (w.setCell ⟨d.b, o, none⟩ v) (pre ++ d'.chunks) := by
  have h := K.set (pre.length + 0) (pre_get (c := CHd d) rfl) o v
  rw [pre_set, e] at h
  exact h
theorem Dr.ring1 (K : Sep w0 S0 w (pre ++ d.chunks)) {ring : List Nat} {rds : List Nat} (hr : Rgq w' d.rb rds (ring.map some)) (fr : Fr (d.rb :: d.rds) w w') (g : Gr w d.rds rds) : Sep w0 S0 w' (pre ++ ({ d with ring := ring, rds := rds } : Dr).chunks) := by
  have h := K.ring1 (pre.length + 2) (pre_get (c := CRingq d.rb d.rds d.ring) rfl) hr fr g
  rw [pre_set] at h
  exact h
theorem Dr.inbox (K : Sep w0 S0 w d.chunks) (t : TypeId) (vs : List Value) : Sep w0 S0 (w.alloc (.cells vs.toArray t)) ([Chunk.blk w.heap.size t vs] ++ d.chunks) := (K.alloc t vs).perm List.perm_append_comm
theorem Dr.inbox2 (K : Sep w0 S0 w (pre ++ d.chunks)) (t : TypeId) (vs : List Value) : Sep w0 S0 (w.alloc (.cells vs.toArray t)) ((Chunk.blk w.heap.size t vs :: pre) ++ d.chunks) := (K.alloc t vs).perm List.perm_append_comm
theorem Dr.outbox (K : Sep w0 S0 w (pre ++ d.chunks)) : Sep w0 S0 w d.chunks := K.sub (List.sublist_append_right _ _)
theorem Dr.setF_at (hf : d.fl[k]? = some f) (f' : Fl) : (d.setF k f').fl[k]? = some f' := List.getElem?_set_self (some_lt hf)
theorem Dr.setF_setF (d : Dr) (k : Nat) (f f' : Fl) : (d.setF k f).setF k f' = d.setF k f' := by simp [Dr.setF]
theorem Dr.strs (K : Sep w0 S0 w (pre ++ d.chunks)) (hf : d.fl[k]? = some f) : Blk w f.b 95 f.cells := K.hs.right.get (Dr.str_at hf)
theorem Dr.ques (K : Sep w0 S0 w (pre ++ d.chunks)) (hf : d.fl[k]? = some f) : Rgp6 w f.r f.ds f.q := K.hs.right.get (Dr.que_at hf)
theorem Dr.hds (K : Sep w0 S0 w (pre ++ d.chunks)) : Blk w d.b 92 d.head := K.hs.right.get (i := 0) rfl
theorem Dr.rings (K : Sep w0 S0 w (pre ++ d.chunks)) : Rgq w d.rb d.rds (d.ring.map some) := K.hs.right.get (i := 2) rfl
end

/-- a flow that has got a packet -/
def Fl.got (f : Fl) (p : P6) (ds : List Nat) : Fl := { f with q := f.q ++ [p], ds := ds, df := if f.q = [] then 0 else f.df, by_ := f.by_ + p.f3 }
def Dr.admitted (d : Dr) (k : Nat) (f : Fl) (p : P6) (rds ds : List Nat) : Dr := { d.setF k (f.got p ds) with ring := if f.q = [] then d.ring ++ [f.b] else d.ring, rds := rds, n := d.n + 1, seq := p.f4, came := p.f5 }
theorem add_w2 {a b : Int} (h1 : 0 ≤ a) (h2 : a ≤ 1125899906842624) (h3 : 0 ≤ b) (h4 : b ≤ 1125899906842624) : wrap64 (a + b) = a + b := by unfold wrap64; omega
theorem sub_w2 {a b : Int} (h1 : 0 ≤ b) (h2 : b ≤ a) (h3 : a ≤ 1125899906842624) : wrap64 (a - b) = a - b := by unfold wrap64; omega
end Go.Proofs.Yteojodcdehkejaa
