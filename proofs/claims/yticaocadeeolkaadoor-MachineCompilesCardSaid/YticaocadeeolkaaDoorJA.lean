/-
  PLAIN: the machine's commands, its check, and the law of beginnings.
  THE WALK of machine.Check, with slices.Contains at bools: the answer is the plain check's.
  THE WALK of machine.Check, whole.
-/
import Derived.Test.YticaocadeeolkaaDoorMC
import Derived.Test.YticaocadeeolkaaDoorME
import Derived.Deep.DeepCutAuto

namespace Go.Proofs.YticaocadeeolkaaDoor.Plain
open Go

/-- A command. -/
structure Cm where
  kind : Int
  r : Int
  tgt : Int
  op : Int
  n : Int
  name : ByteArray
def Cm.bare (c : Cm) : Bool := (c.op == 0) && (c.n == 0) && c.name.toList.isEmpty
abbrev St := Int × List Bool
/-- One command: the registers and the holes behind it; none: it is not sound. -/
def stepM (h : Nat) (s : St) (c : Cm) : Option St :=
  if c.r < 0 ∨ s.1 ≤ c.r then none
  else if c.kind = 1 then
    match arity c.op with
    | none => none
    | some k => if c.tgt = s.1 ∧ formB c.op c.n c.name k = true then some (s.1 + k, s.2) else none
  else if c.kind = 2 then (if c.bare = true ∧ 0 ≤ c.tgt ∧ c.tgt < s.1 then some s else none)
  else if c.kind = 3 then (if c.bare = true ∧ 0 ≤ c.tgt ∧ c.tgt < (h : Int) ∧ s.2.getD c.tgt.toNat true = false then some (s.1, s.2.set c.tgt.toNat true) else none)
  else none
def runM (h : Nat) : List Cm → St → Option St
  | [], s => some s
  | c :: r, s => match stepM h s c with | none => none | some s' => runM h r s'
def runStart (h : Nat) : St := (1, List.replicate h false)
def mcheck (prog : List Cm) (holes : Int) : Bool := decide (0 ≤ holes) && decide (holes ≤ 6) && decide (prog.length ≤ 64) && (match runM holes.toNat prog (runStart holes.toNat) with | none => false | some s => s.2.all id)

theorem runM_append (h : Nat) : ∀ (a b : List Cm) (s : St), runM h (a ++ b) s = match runM h a s with | none => none | some s' => runM h b s'
  | [], _, _ => rfl
  | c :: a, b, s => by
    simp only [List.cons_append, runM]
    cases stepM h s c with
    | none => rfl
    | some s' => exact runM_append h a b s'
theorem runM_snoc {h : Nat} {a : List Cm} {c : Cm} {s s1 : St} (h1 : runM h a s = some s1) : runM h (a ++ [c]) s = stepM h s1 c := by
  rw [runM_append, h1]
  simp only [runM]
  cases stepM h s1 c <;> rfl
/-- What a step does. -/
theorem stepM_cases {h : Nat} {s s' : St} {c : Cm} (hs : stepM h s c = some s') :
    0 ≤ c.r ∧ c.r < s.1 ∧
    ((c.kind = 1 ∧ ∃ k, arity c.op = some k ∧ s' = (s.1 + k, s.2)) ∨ (c.kind = 2 ∧ s' = s) ∨
     (c.kind = 3 ∧ c.bare = true ∧ 0 ≤ c.tgt ∧ c.tgt < (h : Int) ∧ s.2.getD c.tgt.toNat true = false ∧ s' = (s.1, s.2.set c.tgt.toNat true))) := by
  unfold stepM at hs
  split at hs
  · cases hs
  rename_i h1
  refine ⟨by omega, by omega, ?_⟩
  split at hs
  · rename_i h2
    split at hs
    · cases hs
    · rename_i k hk
      split at hs
      · exact .inl ⟨h2, k, hk, (Option.some.inj hs).symm⟩
      · cases hs
  split at hs
  · rename_i h2
    split at hs
    · exact .inr (.inl ⟨h2, (Option.some.inj hs).symm⟩)
    · cases hs
  split at hs
  · rename_i h2
    split at hs
    · rename_i h3
      exact .inr (.inr ⟨h2, h3.1, h3.2.1, h3.2.2.1, h3.2.2.2, (Option.some.inj hs).symm⟩)
    · cases hs
  · cases hs
theorem stepM_regs {h : Nat} {s s' : St} {c : Cm} (hs : stepM h s c = some s') : s.1 ≤ s'.1 ∧ s'.1 ≤ s.1 + 3 := by
  rcases (stepM_cases hs).2.2 with ⟨_, k, hk, rfl⟩ | ⟨_, rfl⟩ | ⟨_, _, _, _, _, rfl⟩
  · have := arity_le hk; simp only; omega
  · omega
  · simp only; omega
theorem stepM_len {h : Nat} {s s' : St} {c : Cm} (hs : stepM h s c = some s') : s'.2.length = s.2.length := by
  rcases (stepM_cases hs).2.2 with ⟨_, k, hk, rfl⟩ | ⟨_, rfl⟩ | ⟨_, _, _, _, _, rfl⟩
  · rfl
  · rfl
  · simp
theorem count_set_true : ∀ (l : List Bool) (i : Nat), l.getD i true = false → (l.set i true).count true = l.count true + 1
  | [], i, h => by simp at h
  | x :: r, 0, h => by
    have : x = false := by simpa using h
    subst this; simp
  | x :: r, i + 1, h => by
    have := count_set_true r i (by simpa using h)
    simp only [List.set_cons_succ, List.count_cons, this]; omega
theorem stepM_count {h : Nat} {s s' : St} {c : Cm} (hs : stepM h s c = some s') : s'.2.count true = s.2.count true + (if c.kind = 3 then 1 else 0) := by
  rcases (stepM_cases hs).2.2 with ⟨h1, k, hk, rfl⟩ | ⟨h1, rfl⟩ | ⟨h1, _, _, _, h2, rfl⟩
  · rw [if_neg (by omega)]; rfl
  · rw [if_neg (by omega)]; rfl
  · rw [if_pos h1]; exact count_set_true _ _ h2
/-- How many holes are taken. -/
def takes (p : List Cm) : Nat := (p.filter fun c => c.kind == 3).length
theorem takes_snoc (p : List Cm) (c : Cm) : takes (p ++ [c]) = takes p + (if c.kind = 3 then 1 else 0) := by
  unfold takes
  rw [List.filter_append, List.length_append]
  by_cases h : c.kind = 3
  · simp [h]
  · simp [h]
theorem runM_take {h : Nat} {p : List Cm} {s s1 : St} (hr : runM h p s = some s1) (i : Nat) : ∃ s2, runM h (p.take i) s = some s2 := by
  have h1 := runM_append h (p.take i) (p.drop i) s
  rw [List.take_append_drop, hr] at h1
  cases h2 : runM h (p.take i) s with
  | none => rw [h2] at h1; cases h1
  | some s2 => exact ⟨s2, rfl⟩
theorem runM_next {h : Nat} {p : List Cm} {s s1 s2 : St} {i : Nat} {c : Cm} (hr : runM h p s = some s1) (hi : runM h (p.take i) s = some s2) (hc : p[i]? = some c) : ∃ s3, stepM h s2 c = some s3 ∧ runM h (p.take (i + 1)) s = some s3 := by
  obtain ⟨s3, h3⟩ := runM_take hr (i + 1)
  have hlt := (List.getElem?_eq_some_iff.1 hc).1
  have e : p.take (i + 1) = p.take i ++ [c] := by
    rw [List.take_succ_eq_append_getElem hlt]; congr 2; exact (List.getElem?_eq_some_iff.1 hc).2
  refine ⟨s3, ?_, h3⟩
  rw [e, runM_snoc hi] at h3
  exact h3
theorem all_iff_count (l : List Bool) : l.all id = decide (l.count true = l.length) := by
  rw [Bool.eq_iff_iff, decide_eq_true_eq, List.all_eq_true, List.count_eq_length]
  exact ⟨fun h b hb => (h b hb).symm, fun h b hb => (h b hb).symm⟩
/-- How a beginning of a sound program stands. -/
theorem prefix_state {p : List Cm} {h : Nat} {s1 : St} (hr : runM h p (runStart h) = some s1) : ∀ (i : Nat), i ≤ p.length → ∃ s, runM h (p.take i) (runStart h) = some s ∧ s.2.length = h ∧ s.2.count true = takes (p.take i) := by
  intro i
  induction i with
  | zero => intro _; exact ⟨runStart h, by simp [runM], by simp [runStart], by simp [runStart, takes, List.count_replicate]⟩
  | succ i ih =>
    intro hi
    obtain ⟨s, h1, h2, h3⟩ := ih (by omega)
    obtain ⟨c, hc⟩ : ∃ c, p[i]? = some c := ⟨_, List.getElem?_eq_getElem (by omega)⟩
    obtain ⟨s3, h4, h5⟩ := runM_next hr h1 hc
    refine ⟨s3, h5, by rw [stepM_len h4, h2], ?_⟩
    have e : p.take (i + 1) = p.take i ++ [c] := by
      rw [List.take_succ_eq_append_getElem (by omega)]; congr 2; exact (List.getElem?_eq_some_iff.1 hc).2
    rw [stepM_count h4, h3, e, takes_snoc]
theorem mcheck_run {p : List Cm} {holes : Int} (hm : mcheck p holes = true) : 0 ≤ holes ∧ holes ≤ 6 ∧ p.length ≤ 64 ∧ ∃ s, runM holes.toNat p (runStart holes.toNat) = some s := by
  unfold mcheck at hm
  simp only [Bool.and_eq_true, decide_eq_true_eq] at hm
  obtain ⟨⟨⟨h1, h2⟩, h3⟩, h4⟩ := hm
  refine ⟨h1, h2, h3, ?_⟩
  cases hr : runM holes.toNat p (runStart holes.toNat) with
  | none => rw [hr] at h4; cases h4
  | some s => exact ⟨s, rfl⟩
/-- THE LAW OF BEGINNINGS. -/
theorem prefix_law {p : List Cm} {holes : Int} (hm : mcheck p holes = true) {i : Nat} (hi : i ≤ p.length) : mcheck (p.take i) holes = decide ((takes (p.take i) : Int) = holes) := by
  obtain ⟨h1, h2, h3, s, hs⟩ := mcheck_run hm
  obtain ⟨s2, h4, h5, h6⟩ := prefix_state hs i hi
  unfold mcheck
  rw [h4, decide_eq_true h1, decide_eq_true h2, decide_eq_true (show (p.take i).length ≤ 64 by rw [List.length_take]; omega)]
  simp only [Bool.true_and]
  rw [all_iff_count, h5, h6]
  rw [decide_eq_decide]; omega
theorem getD_set_true (l : List Bool) (i : Nat) : (l.set i true).getD i true = true := by
  rw [List.getD_eq_getElem?_getD, List.getElem?_set]
  simp only [if_true]
  split <;> rfl
/-- A taken hole cannot be taken again. -/
theorem again_law {p : List Cm} {holes : Int} (hm : mcheck p holes = true) {i : Nat} {c : Cm} (hc : p[i]? = some c) (h3 : c.kind = 3) : mcheck (p.take (i + 1) ++ [c]) holes = false := by
  obtain ⟨h1, h2, _, s, hs⟩ := mcheck_run hm
  have hlt := (List.getElem?_eq_some_iff.1 hc).1
  obtain ⟨s2, h4, h5, h6⟩ := prefix_state hs i (by omega)
  obtain ⟨s3, h7, h8⟩ := runM_next hs h4 hc
  have hn : runM holes.toNat (p.take (i + 1) ++ [c]) (runStart holes.toNat) = none := by
    rw [runM_snoc h8]
    rcases (stepM_cases h7).2.2 with ⟨h, _⟩ | ⟨h, _⟩ | ⟨_, _, _, _, _, rfl⟩
    · omega
    · omega
    · unfold stepM
      split
      · rfl
      · rw [if_neg (by omega), if_neg (by omega)]
        split
        · rename_i h
          have h := h.2.2.2
          simp only [getD_set_true] at h; cases h
        · rfl
  unfold mcheck
  rw [hn]
  simp
theorem takes_le (p : List Cm) : takes p ≤ p.length := List.length_filter_le _ _
end Go.Proofs.YticaocadeeolkaaDoor.Plain

namespace Go.Proofs.YticaocadeeolkaaDoor
open Go.RowKit Plain Go.Proofs.YticaocadeeolkaaDoorW.PrintWords

def kCm : Kd Cm := Kd.iso (Kd.pair (Kd.int .i64) (Kd.pair (Kd.int .i64) (Kd.pair (Kd.int .i64) (Kd.pair (Kd.int .i64) (Kd.pair (Kd.int .i64) Kd.string))))) (fun x : Cm => (x.kind, x.r, x.tgt, x.op, x.n, x.name))
theorem kCm_open {w : World} {x : Cm} {cs : List Value} (h : kCm.K w x cs) : cs = [.int .i64 x.kind, .int .i64 x.r, .int .i64 x.tgt, .int .i64 x.op, .int .i64 x.n, .string x.name] := by
  obtain ⟨_, _, rfl, rfl, ⟨_, _, rfl, rfl, ⟨_, _, rfl, rfl, ⟨_, _, rfl, rfl, ⟨_, _, rfl, rfl, rfl⟩⟩⟩⟩⟩ := h
  rfl
theorem kCm_mkK (w : World) (x : Cm) : kCm.K w x [.int .i64 x.kind, .int .i64 x.r, .int .i64 x.tgt, .int .i64 x.op, .int .i64 x.n, .string x.name] :=
  ⟨[_], _, rfl, rfl, ⟨[_], _, rfl, rfl, ⟨[_], _, rfl, rfl, ⟨[_], _, rfl, rfl, ⟨[_], _, rfl, rfl, rfl⟩⟩⟩⟩⟩
theorem cm_at {w : World} {A : Option Addr} {n : Nat} {cs : List Cm} (h : Kd.C kCm w A n cs) {k : Nat} {x : Cm} (hx : cs[k]? = some x) :
    ∃ ad, A = some ad ∧ w.cell? (ad.add (k * 6)) = some (.int .i64 x.kind) ∧ w.cell? ⟨(ad.add (k * 6)).block, (ad.add (k * 6)).off + 1, none⟩ = some (.int .i64 x.r) ∧
      w.cell? ⟨(ad.add (k * 6)).block, (ad.add (k * 6)).off + 2, none⟩ = some (.int .i64 x.tgt) ∧ w.cell? ⟨(ad.add (k * 6)).block, (ad.add (k * 6)).off + 3, none⟩ = some (.int .i64 x.op) ∧
      w.cell? ⟨(ad.add (k * 6)).block, (ad.add (k * 6)).off + 4, none⟩ = some (.int .i64 x.n) ∧ w.cell? ⟨(ad.add (k * 6)).block, (ad.add (k * 6)).off + 5, none⟩ = some (.string x.name) := by
  have hlt := (List.getElem?_eq_some_iff.1 hx).1
  have hn : cs.length = n := h.1
  obtain ⟨ad, he, hc⟩ := h.2.2 (by omega)
  obtain ⟨c, hs, hr, hcell⟩ := hc k x hx
  have hr' := kCm_open hr
  subst hr'
  have h7 : kCm.sz = 6 := rfl
  rw [h7] at hcell
  have key : ∀ (j : Nat) (v : Value), 0 < j → [.int .i64 x.kind, .int .i64 x.r, .int .i64 x.tgt, .int .i64 x.op, .int .i64 x.n, .string x.name][j]? = some v → w.cell? ⟨(ad.add (k * 6)).block, (ad.add (k * 6)).off + j, none⟩ = some v := by
    intro j v hj hv
    have h1 := hcell j v hv
    have : (ad.add (k * 6 + j)) = ⟨(ad.add (k * 6)).block, (ad.add (k * 6)).off + j, none⟩ := by
      obtain ⟨b, o, s⟩ := ad
      simp only [Addr.add]
      rw [if_neg (by omega)]
      split
      · simp only [Addr.mk.injEq, and_true, true_and]; omega
      · simp only [Addr.mk.injEq, and_true, true_and]; omega
    rw [← this]; exact h1
  exact ⟨ad, he, hcell 0 _ rfl, key 1 _ (by omega) rfl, key 2 _ (by omega) rfl, key 3 _ (by omega) rfl, key 4 _ (by omega) rfl, key 5 _ (by omega) rfl⟩

/-! ### the row of bools -/
def boolsAt (w : World) (g : Nat) (tk : List Bool) : Prop := w.heap[g]? = some (.cells (tk.map Value.bool).toArray 4 (0, 0))
theorem boolsAt_cell {w : World} {g : Nat} {tk : List Bool} (h : boolsAt w g tk) {j : Nat} {b : Bool} (hb : tk[j]? = some b) : w.cell? ⟨g, j, none⟩ = some (.bool b) := by
  have hj : ((tk.map Value.bool).toArray)[j]? = some (.bool b) := by rw [List.getElem?_toArray, List.getElem?_map, hb]; rfl
  simp [World.cell?, show w.heap[g]? = _ from h, hj]
theorem boolsAt_set {w : World} {g : Nat} {tk : List Bool} (h : boolsAt w g tk) (j : Nat) (b : Bool) : boolsAt (w.setCell ⟨g, j, none⟩ (.bool b)) g (tk.set j b) := by
  have h1 := heap_setCell_same w g j _ _ (.bool b) h
  unfold boolsAt
  rw [h1, List.setIfInBounds_toArray, List.map_set]
theorem ret_idx {a b : Int} (h : a = b) : Ending.returned (.int .i64 a) = .returned (.int .i64 b) := by rw [h]
def IdxOk (tk : List Bool) (w : World) (en : Ending) (w' : World) : Prop := ∃ k : Int, en = .returned (.int .i64 k) ∧ decide (k ≥ 0) = !(tk.all id) ∧ decide (0 ≤ k) = !(tk.all id) ∧ w = w'
set_option maxHeartbeats 2000000 in
theorem bidx_any (g : Nat) (tk : List Bool) (w : World) (hg : boolsAt w g tk) (h6 : tk.length ≤ 6) :
    Calls Tryd.prog 71 #[.slice (some ⟨g, 0, none⟩) tk.length tk.length, .bool false] w (IdxOk tk w) := by
  have HG := Lib.hid hg
  clear hg
  go_enter Tryd.func71, Tryd.ntmps71
  go_wp2
  go_loop [8] (fun iv => ∃ i : Nat, iv = .int .i64 i ∧ i ≤ tk.length ∧ Hid ((tk.take i).all id = true)) (fun iv => tk.length - (intOf iv).toNat)
  case atStart => exact ⟨0, rfl, by omega, Lib.hid rfl⟩
  case round =>
    obtain ⟨i, rfl, hi, hall⟩ := hrel
    by_cases hlt : i < tk.length
    · obtain ⟨b, hb⟩ : ∃ b, tk[i]? = some b := ⟨_, List.getElem?_eq_getElem hlt⟩
      have hc := boolsAt_cell HG.out hb
      have HB := Lib.hid hb
      clear hb
      cases b
      · have HE : Hid (tk.all id = false) := Lib.hid (by
          rw [Bool.eq_false_iff]; intro h
          have := List.all_eq_true.1 h false (List.mem_of_getElem? HB.out)
          cases this)
        go_wp2
        go_ret
        exact ⟨_, rfl, by rw [HE.out]; simp, by rw [HE.out]; simp, rfl⟩
      · have HN : Hid ((tk.take (i + 1)).all id = true) := Lib.hid (by
          rw [List.take_succ_eq_append_getElem hlt, List.all_append, hall.out, (List.getElem?_eq_some_iff.1 HB.out).2]; rfl)
        go_wp2
        go_round
        case rel => exact ⟨i + 1, by go_num, by omega, HN⟩
        case measure => simp [intOf]; omega
    · have hie : i = tk.length := by omega
      have HE : Hid (tk.all id = true) := Lib.hid (by have := hall.out; rwa [hie, List.take_length] at this)
      clear hie
      go_wp2
      go_ret
      exact ⟨_, rfl, by rw [HE.out]; simp, by rw [HE.out]; simp, rfl⟩
theorem contains_any (g : Nat) (tk : List Bool) (w : World) (hg : boolsAt w g tk) (h6 : tk.length ≤ 6) :
    Calls Tryd.prog 57 #[.slice (some ⟨g, 0, none⟩) tk.length tk.length, .bool false] w fun e w' => e = .returned (.bool (!(tk.all id))) ∧ w = w' := by
  have HG := Lib.hid hg
  clear hg
  generalize hq : (!(tk.all id)) = q
  have HQ := Lib.hid hq
  clear hq
  go_enter Tryd.func57, Tryd.ntmps57
  go_wp2_with (go_at_call 71; refine (bidx_any g tk _ HG.out h6).mono ?_; rintro e w' ⟨k, rfl, hk1, hk2, rfl⟩; rw [HQ.out] at hk1 hk2)
  go_ret
  first | exact ⟨rfl, rfl⟩ | simp
theorem zero_bool (w : World) : (zeroValue 4).run Tryd.prog w = .ok (.bool false) w := by kernel_rfl
theorem infoBool : (Tryd.prog.info? 4).map (fun i => (i.zero, i.size, i.bytes)) = some (some (.bool false), 1, 1) := by kernel_rfl
theorem make_bools (h : Nat) (hh : h ≤ 6) (w : World) :
    (Instr.makeSlice 127 (.int .i64 (h : Int)) (.int .i64 (h : Int))).run Tryd.prog w = .ok (.slice (some ⟨w.heap.size, 0, none⟩) h h) (w.alloc (.cells (madeCells #[.bool false] h) 4)) := by
  obtain ⟨i, hi, hzz⟩ := Option.map_eq_some_iff.1 infoBool
  simp only [Prod.mk.injEq] at hzz
  obtain ⟨hz0, hz1, hz2⟩ := hzz
  have := run_make_rowN 127 4 i (.bool false) Tryd.underlying127 hi hz0 .i64 .i64 h h (Nat.le_refl _) (by rw [hz2]; omega) (by omega) w
  rw [hz1, Nat.mul_one] at this
  exact this
theorem made_bools (w : World) (h : Nat) : boolsAt (w.alloc (.cells (madeCells #[.bool false] h) 4)) w.heap.size (List.replicate h false) := by
  unfold boolsAt
  rw [heap_alloc_new]
  congr 2
  unfold madeCells
  apply Array.ext
  · simp
  · intro i h1 h2
    simp [Nat.mod_one]
end Go.Proofs.YticaocadeeolkaaDoor

namespace Go.Proofs.YticaocadeeolkaaDoor
open Go.RowKit Plain Go.Proofs.YticaocadeeolkaaDoorW.PrintWords

theorem mcheck_bad {p : List Cm} {holes : Int} {i : Nat} {c : Cm} {s : St} (hr : runM holes.toNat (p.take i) (runStart holes.toNat) = some s) (hc : p[i]? = some c) (hs : stepM holes.toNat s c = none) : mcheck p holes = false := by
  have hn : runM holes.toNat p (runStart holes.toNat) = none := by
    have hlt := (List.getElem?_eq_some_iff.1 hc).1
    have e : p = p.take i ++ c :: p.drop (i + 1) := by
      conv => lhs; rw [← List.take_append_drop i p, List.drop_eq_getElem_cons hlt]
      congr 2; exact (List.getElem?_eq_some_iff.1 hc).2
    rw [e, runM_append, hr]
    simp only [runM, hs]
  unfold mcheck
  rw [hn]; simp
theorem run_next {p : List Cm} {h i : Nat} {c : Cm} {s s' : St} (hr : runM h (p.take i) (runStart h) = some s) (hc : p[i]? = some c) (hs : stepM h s c = some s') : runM h (p.take (i + 1)) (runStart h) = some s' := by
  have hlt := (List.getElem?_eq_some_iff.1 hc).1
  have e : p.take (i + 1) = p.take i ++ [c] := by
    rw [List.take_succ_eq_append_getElem hlt]; congr 2; exact (List.getElem?_eq_some_iff.1 hc).2
  rw [e, runM_snoc hr, hs]
theorem ret_chk {p : List Cm} {holes : Int} {a : Int} {b : Bool} (h : mcheck p holes = b) (ha : a = errOf b) : Ending.returned (.int .i64 a) = .returned (.int .i64 (errOf (mcheck p holes))) := by rw [h, ha]
structure MInv (p : List Cm) (h : Nat) (g : Nat) (w : World) (i : Nat) (s : St) (wr : World) : Prop where
  run : runM h (p.take i) (runStart h) = some s
  len : s.2.length = h
  tk : boolsAt wr g s.2
  B : Below w.heap.size w wr

theorem step_arity_none {h : Nat} {s : St} {c : Cm} (hr : ¬ (c.r < 0 ∨ s.1 ≤ c.r)) (hk : c.kind = 1) (ha : arity c.op = none) : stepM h s c = none := by
  unfold stepM; rw [if_neg hr, if_pos hk, ha]
theorem step_class {h : Nat} {s : St} {c : Cm} {k : Nat} (hr : ¬ (c.r < 0 ∨ s.1 ≤ c.r)) (hk : c.kind = 1) (ha : arity c.op = some k) (ht : c.tgt = s.1) (hf : formB c.op c.n c.name k = true) : stepM h s c = some (s.1 + k, s.2) := by
  unfold stepM; rw [if_neg hr, if_pos hk, ha]; simp only [ht, hf, and_self, if_true]
theorem step_class_to {h : Nat} {s : St} {c : Cm} (hk : c.kind = 1) (ht : ¬ c.tgt = s.1) : stepM h s c = none := by
  unfold stepM
  by_cases hr : c.r < 0 ∨ s.1 ≤ c.r
  · rw [if_pos hr]
  · rw [if_neg hr, if_pos hk]
    cases arity c.op with
    | none => rfl
    | some k => exact if_neg (fun h => ht h.1)
theorem step_class_form {h : Nat} {s : St} {c : Cm} {k : Nat} (hk : c.kind = 1) (ha : arity c.op = some k) (hf : formB c.op c.n c.name k = false) : stepM h s c = none := by
  unfold stepM
  by_cases hr : c.r < 0 ∨ s.1 ≤ c.r
  · rw [if_pos hr]
  · rw [if_neg hr, if_pos hk, ha]
    simp [hf]
theorem form_self {op n : Int} {name : ByteArray} {k : Nat} (h : arity op = some k) : formB op n name k = ((op == 1 || n == 0) && (if op = 2 then isName name else name.toList.isEmpty)) := by
  simp [formB, h]
theorem step_same {h : Nat} {s : St} {c : Cm} (hr : ¬ (c.r < 0 ∨ s.1 ≤ c.r)) (hk : c.kind = 2) (hb : c.bare = true) (h0 : 0 ≤ c.tgt) (h1 : c.tgt < s.1) : stepM h s c = some s := by
  unfold stepM; rw [if_neg hr, if_neg (by omega), if_pos hk, if_pos ⟨hb, h0, h1⟩]
theorem step_same_bad {h : Nat} {s : St} {c : Cm} (hk : c.kind = 2) (hb : ¬ (c.bare = true ∧ 0 ≤ c.tgt ∧ c.tgt < s.1)) : stepM h s c = none := by
  unfold stepM
  by_cases hr : c.r < 0 ∨ s.1 ≤ c.r
  · rw [if_pos hr]
  · rw [if_neg hr, if_neg (by omega), if_pos hk, if_neg hb]
theorem step_take {h : Nat} {s : St} {c : Cm} (hr : ¬ (c.r < 0 ∨ s.1 ≤ c.r)) (hk : c.kind = 3) (hb : c.bare = true) (h0 : 0 ≤ c.tgt) (h1 : c.tgt < (h : Int)) (h2 : s.2.getD c.tgt.toNat true = false) : stepM h s c = some (s.1, s.2.set c.tgt.toNat true) := by
  unfold stepM; rw [if_neg hr, if_neg (by omega), if_neg (by omega), if_pos hk, if_pos ⟨hb, h0, h1, h2⟩]
theorem step_take_bad {h : Nat} {s : St} {c : Cm} (hk : c.kind = 3) (hb : ¬ (c.bare = true ∧ 0 ≤ c.tgt ∧ c.tgt < (h : Int) ∧ s.2.getD c.tgt.toNat true = false)) : stepM h s c = none := by
  unfold stepM
  by_cases hr : c.r < 0 ∨ s.1 ≤ c.r
  · rw [if_pos hr]
  · rw [if_neg hr, if_neg (by omega), if_neg (by omega), if_pos hk, if_neg hb]
theorem step_none {h : Nat} {s : St} {c : Cm} (h1 : ¬ c.kind = 1) (h2 : ¬ c.kind = 2) (h3 : ¬ c.kind = 3) : stepM h s c = none := by
  unfold stepM
  by_cases hr : c.r < 0 ∨ s.1 ≤ c.r
  · rw [if_pos hr]
  · rw [if_neg hr, if_neg h1, if_neg h2, if_neg h3]
theorem boolsAt_below {B : Nat} {w w' : World} {g : Nat} {tk : List Bool} (hb : Below B w w') (h : boolsAt w g tk) (hB : B = w.heap.size := by rfl) : boolsAt w' g tk :=
  (hb.block g (by rw [hB]; exact (Array.getElem?_eq_some_iff.1 h).1)).trans h
theorem boolsAt_frozen {w : World} {g : Nat} {tk : List Bool} (h : boolsAt w g tk) (j : Nat) : w.frozen? ⟨g, j, none⟩ = false := blk_frozen h j
set_option maxHeartbeats 16000000 in
set_option maxRecDepth 100000 in
theorem mc_any (p : List Cm) (holes : Int) (A : Option Addr) (c : Nat) (w : World) (ht : Tabs w) (hr : Kd.C kCm w A p.length p) (hnm : ∀ x ∈ p, x.name.size ≤ maxLen) :
    Calls Tryd.prog 31 #[.slice A p.length c, .int .i64 holes] w fun e w' => e = .returned (.int .i64 (errOf (mcheck p holes))) ∧ Below w.heap.size w w' := by
  have HT := Lib.hid ht
  have HR := Lib.hid hr
  have HNM := Lib.hid hnm
  clear ht hr hnm
  by_cases h0 : holes < 0
  · have hb : mcheck p holes = false := by unfold mcheck; rw [decide_eq_false (show ¬ 0 ≤ holes by omega)]; rfl
    have d1 : decide (holes < 0) = true := decide_eq_true h0
    have HBAD := Lib.hid hb
    clear hb
    go_enter Tryd.func31, Tryd.ntmps31
    go_wp2
    go_ret
    exact ⟨ret_chk HBAD.out rfl, Below.refl _ _⟩
  by_cases h6 : 6 < holes
  · have hb : mcheck p holes = false := by unfold mcheck; rw [decide_eq_false (show ¬ holes ≤ 6 by omega)]; simp
    have d1 : decide (holes < 0) = false := decide_eq_false h0
    have d2 : decide (6 < holes) = true := decide_eq_true h6
    have d3 : decide (holes > 6) = true := decide_eq_true h6
    have HBAD := Lib.hid hb
    clear hb
    go_enter Tryd.func31, Tryd.ntmps31
    go_wp2
    go_ret
    exact ⟨ret_chk HBAD.out rfl, Below.refl _ _⟩
  obtain ⟨h, rfl⟩ := Int.eq_ofNat_of_zero_le (show 0 ≤ holes by omega)
  have hh6 : h ≤ 6 := by omega
  by_cases h64 : 64 < p.length
  · have hb : mcheck p (h : Int) = false := by unfold mcheck; rw [decide_eq_false (show ¬ p.length ≤ 64 by omega)]; simp
    have HBAD := Lib.hid hb
    clear hb
    go_enter Tryd.func31, Tryd.ntmps31
    go_wp2
    go_ret
    exact ⟨ret_chk HBAD.out rfl, Below.refl _ _⟩
  have hmk := fun w => make_bools h hh6 w
  have hu2 := Tryd.underlying75
  have hl64 : p.length ≤ 64 := by omega
  clear h0 h6 h64
  go_enter Tryd.func31, Tryd.ntmps31
  go_wp2
  go_loopw [5, 27] (fun rv iv wr => ∃ (i : Nat) (s : St) (rg : Nat), iv = .int .i64 i ∧ rv = .int .i64 (rg : Int) ∧ s.1 = (rg : Int) ∧ 1 ≤ rg ∧ rg ≤ 1 + 3 * i ∧ i ≤ p.length ∧ Hid (MInv p h w.heap.size w i s wr)) (fun _ iv _ => p.length - (intOf iv).toNat)
  case atStart => exact ⟨0, runStart h, 1, rfl, rfl, rfl, by omega, by omega, by omega, Lib.hid ⟨rfl, by simp [runStart], made_bools w h, (Below.refl _ _).alloc (Nat.le_refl _) _⟩⟩
  case round =>
    obtain ⟨i, s, rg, rfl, rfl, hrg, hrg1, hrg2, hi, hI⟩ := hrel
    have hwr := hI.out.B.size
    have hgw : w.heap.size < wr.heap.size := (Array.getElem?_eq_some_iff.1 hI.out.tk).1
    obtain ⟨wo, rfl⟩ : ∃ wo : World, wo = wr := ⟨_, rfl⟩
    by_cases hlt : i < p.length
    · obtain ⟨x, hx⟩ : ∃ x, p[i]? = some x := ⟨_, List.getElem?_eq_getElem hlt⟩
      obtain ⟨ad, hA, c0, c1, c2, c3, c4, c5⟩ := cm_at HR.out hx
      subst hA
      have hc0 := nd_below hI.out.B c0
      have hc1 := nd_below hI.out.B c1
      have hc2 := nd_below hI.out.B c2
      have hc3 := nd_below hI.out.B c3
      have hc4 := nd_below hI.out.B c4
      have hc5 := nd_below hI.out.B c5
      have HX := Lib.hid hx
      have HNX := Lib.hid (HNM.out x (List.mem_of_getElem? hx))
      clear c0 c1 c2 c3 c4 c5 hx
      by_cases hr0 : x.r < 0
      · have HBAD : Hid (mcheck p (h : Int) = false) := Lib.hid (mcheck_bad hI.out.run HX.out (by unfold stepM; rw [if_pos (by omega)]))
        have d1 : decide (x.r < 0) = true := decide_eq_true hr0
        clear hrg
        go_wp2
        go_ret
        exact ⟨ret_chk HBAD.out rfl, hI.out.B.alloc hwr _⟩
      by_cases hr1 : (rg : Int) ≤ x.r
      · have HBAD : Hid (mcheck p (h : Int) = false) := Lib.hid (mcheck_bad hI.out.run HX.out (by unfold stepM; rw [if_pos (by omega)]))
        have d1 : decide (x.r < 0) = false := decide_eq_false hr0
        have d2 : decide ((rg : Int) ≤ x.r) = true := decide_eq_true hr1
        have d3 : decide (x.r ≥ (rg : Int)) = true := decide_eq_true hr1
        clear hrg
        go_wp2
        go_ret
        exact ⟨ret_chk HBAD.out rfl, hI.out.B.alloc hwr _⟩
      have HRG := Lib.hid hrg
      have HRR := Lib.hid (show ¬ (x.r < 0 ∨ s.1 ≤ x.r) by omega)
      have d1 : decide (x.r < 0) = false := decide_eq_false hr0
      have d2 : decide ((rg : Int) ≤ x.r) = false := decide_eq_false hr1
      have d3 : decide (x.r ≥ (rg : Int)) = false := decide_eq_false hr1
      clear hrg hr0 hr1
      go_upto_region 10 with fail
      go_cut [9] (fun v9 wx => v9 = .bool x.bare ∧ Hid (wx = wo.alloc (.cells #[.int .i64 x.kind, .int .i64 x.r, .int .i64 x.tgt, .int .i64 x.op, .int .i64 x.n, .string x.name] 75)))
      case first =>
        cases e1 : (x.op == 0)
        · have HB : Hid (x.bare = false) := Lib.hid (by simp [Cm.bare, e1])
          go_wp2_with fail
          go_meet
          exact ⟨by rw [HB.out], Lib.hid rfl⟩
        · cases e2 : (x.n == 0)
          · have HB : Hid (x.bare = false) := Lib.hid (by simp [Cm.bare, e1, e2])
            go_wp2_with fail
            go_meet
            exact ⟨by rw [HB.out], Lib.hid rfl⟩
          · have HB : Hid (x.bare = x.name.toList.isEmpty) := Lib.hid (by simp [Cm.bare, e1, e2])
            go_wp2_with fail
            go_meet
            exact ⟨by rw [HB.out], Lib.hid rfl⟩
      case rest =>
        obtain ⟨rfl, hwx⟩ := hcut
        have hN : wc.heap[wo.heap.size]? = some (.cells #[.int .i64 x.kind, .int .i64 x.r, .int .i64 x.tgt, .int .i64 x.op, .int .i64 x.n, .string x.name] 75 (0, 0)) := by rw [hwx.out]; exact heap_alloc_new wo _
        have q0 := blk_cell hN 0
        have q2 := blk_cell hN 2
        have q3 := blk_cell hN 3
        have q4 := blk_cell hN 4
        have q5 := blk_cell hN 5
        have HBX : Hid (Below w.heap.size w wc) := Lib.hid (by rw [hwx.out]; exact hI.out.B.alloc hwr _)
        have HTK : Hid (boolsAt wc w.heap.size s.2) := Lib.hid (by rw [hwx.out]; exact boolsAt_below ((Below.refl _ _).alloc (Nat.le_refl _) _) hI.out.tk)
        have HTX : Hid (Tabs wc) := Lib.hid (HT.out.below HBX.out)
        have hgx : w.heap.size < wc.heap.size := (Array.getElem?_eq_some_iff.1 HTK.out).1
        clear hN hwx hc0 hc1 hc2 hc3 hc4 hc5 d1 d2 d3 hwr hgw
        by_cases hk1 : x.kind = 1
        · have k1 : (x.kind == 1) = true := beq_iff_eq.2 hk1
          cases ar : arity x.op with
          | none =>
            have he : (arityE x.op != 0) = true := by rw [arityE, ar]; rfl
            have HAR := Lib.hid ar
            have HK1 := Lib.hid hk1
            clear ar hk1
            have HBAD : Hid (mcheck p (h : Int) = false) := Lib.hid (mcheck_bad hI.out.run HX.out (step_arity_none HRR.out HK1.out HAR.out))
            go_wp2_with (first | (go_at_call 55; refine (arity_any x.op _).mono ?_; rintro en w' ⟨rfl, rfl⟩))
            go_ret
            exact ⟨ret_chk HBAD.out rfl, HBX.out⟩
          | some k =>
            have he : (arityE x.op != 0) = false := by rw [arityE, ar]; rfl
            have hj : arityI x.op = (k : Int) := by rw [arityI, ar]
            have hk3 := arity_le ar
            have HAR := Lib.hid ar
            have HK1 := Lib.hid hk1
            clear ar hk1
            by_cases hto : x.tgt = (rg : Int)
            · have t1 : (x.tgt != (rg : Int)) = false := by rw [bne_eq_false_iff_eq]; exact hto
              have HTO : Hid (x.tgt = s.1) := Lib.hid (by rw [hto, HRG.out])
              have HFM := Lib.hid (form_self (n := x.n) (name := x.name) HAR.out)
              clear hto
              cases o1 : (x.op == 1)
              · have o1' : (x.op != 1) = true := by rw [bne, o1]; rfl
                cases n0 : (x.n == 0)
                · have n0' : (x.n != 0) = true := by rw [bne, n0]; rfl
                  have HF : Hid (formB x.op x.n x.name k = false) := Lib.hid (by rw [HFM.out, o1, n0]; rfl)
                  clear o1 n0
                  have HBAD : Hid (mcheck p (h : Int) = false) := Lib.hid (mcheck_bad hI.out.run HX.out (step_class_form HK1.out HAR.out HF.out))
                  go_wp2_with (first | (go_at_call 55; refine (arity_any x.op _).mono ?_; rintro en w' ⟨rfl, rfl⟩))
                  go_ret
                  exact ⟨ret_chk HBAD.out rfl, HBX.out⟩
                · have n0' : (x.n != 0) = false := by rw [bne, n0]; rfl
                  cases o2 : (x.op == 2)
                  · have o2' : (x.op != 2) = true := by rw [bne, o2]; rfl
                    have H2 : Hid (¬ x.op = 2) := Lib.hid (by rw [beq_eq_false_iff_ne] at o2; exact o2)
                    cases se : x.name.toList.isEmpty
                    · have se' : (!x.name.toList.isEmpty) = true := by rw [se]; rfl
                      have HF : Hid (formB x.op x.n x.name k = false) := Lib.hid (by rw [HFM.out, if_neg H2.out, se]; simp)
                      clear o1 n0
                      have HBAD : Hid (mcheck p (h : Int) = false) := Lib.hid (mcheck_bad hI.out.run HX.out (step_class_form HK1.out HAR.out HF.out))
                      go_wp2_with (first | (go_at_call 55; refine (arity_any x.op _).mono ?_; rintro en w' ⟨rfl, rfl⟩))
                      go_ret
                      exact ⟨ret_chk HBAD.out rfl, HBX.out⟩
                    · have se' : (!x.name.toList.isEmpty) = false := by rw [se]; rfl
                      have HF : Hid (formB x.op x.n x.name k = true) := Lib.hid (by rw [HFM.out, if_neg H2.out, se, n0]; simp)
                      clear o1 n0
                      have HST : Hid (runM h (p.take (i + 1)) (runStart h) = some (s.1 + k, s.2)) := Lib.hid (run_next hI.out.run HX.out (step_class HRR.out HK1.out HAR.out HTO.out HF.out))
                      go_wp2_with (first | (go_at_call 55; refine (arity_any x.op _).mono ?_; rintro en w' ⟨rfl, rfl⟩))
                      go_roundw
                      case rel => exact ⟨i + 1, (s.1 + k, s.2), rg + k, by go_num, by go_num, by rw [HRG.out]; go_num, by omega, by omega, by omega, Lib.hid ⟨HST.out, hI.out.len, HTK.out, HBX.out⟩⟩
                      case measure => simp [intOf]; omega
                  · have o2' : (x.op != 2) = false := by rw [bne, o2]; rfl
                    have H2 : Hid (x.op = 2) := Lib.hid (by rw [beq_iff_eq] at o2; exact o2)
                    cases nm : isName x.name
                    · have HF : Hid (formB x.op x.n x.name k = false) := Lib.hid (by rw [HFM.out, if_pos H2.out, nm]; simp)
                      clear o1 n0
                      have HBAD : Hid (mcheck p (h : Int) = false) := Lib.hid (mcheck_bad hI.out.run HX.out (step_class_form HK1.out HAR.out HF.out))
                      go_wp2_with (first | (go_at_call 55; refine (arity_any x.op _).mono ?_; rintro en w' ⟨rfl, rfl⟩) | (go_at_call 56; refine (name_any x.name _ HTX.out HNX.out).mono ?_; rintro en w1 ⟨rfl, hb1⟩; have q3' := nd_below hb1 q3; have q5' := nd_below hb1 q5; have HB1 := Lib.hid hb1; have HBW1 := Lib.hid (HBX.out.trans (hb1.mono HBX.out.size)); have HTK1 := Lib.hid (boolsAt_below hb1 HTK.out); clear hb1))
                      go_ret
                      exact ⟨ret_chk HBAD.out rfl, HBW1.out⟩
                    · have HF : Hid (formB x.op x.n x.name k = true) := Lib.hid (by rw [HFM.out, if_pos H2.out, nm, n0]; simp)
                      clear o1 n0
                      have HST : Hid (runM h (p.take (i + 1)) (runStart h) = some (s.1 + k, s.2)) := Lib.hid (run_next hI.out.run HX.out (step_class HRR.out HK1.out HAR.out HTO.out HF.out))
                      go_wp2_with (first | (go_at_call 55; refine (arity_any x.op _).mono ?_; rintro en w' ⟨rfl, rfl⟩) | (go_at_call 56; refine (name_any x.name _ HTX.out HNX.out).mono ?_; rintro en w1 ⟨rfl, hb1⟩; have q3' := nd_below hb1 q3; have q5' := nd_below hb1 q5; have HB1 := Lib.hid hb1; have HBW1 := Lib.hid (HBX.out.trans (hb1.mono HBX.out.size)); have HTK1 := Lib.hid (boolsAt_below hb1 HTK.out); clear hb1))
                      go_roundw
                      case rel => exact ⟨i + 1, (s.1 + k, s.2), rg + k, by go_num, by go_num, by rw [HRG.out]; go_num, by omega, by omega, by omega, Lib.hid ⟨HST.out, hI.out.len, HTK1.out, HBW1.out⟩⟩
                      case measure => simp [intOf]; omega
              · have o1' : (x.op != 1) = false := by rw [bne, o1]; rfl
                have o2 : (x.op == 2) = false := by rw [beq_iff_eq] at o1; rw [o1]; rfl
                have o2' : (x.op != 2) = true := by rw [bne, o2]; rfl
                have H2 : Hid (¬ x.op = 2) := Lib.hid (by rw [beq_eq_false_iff_ne] at o2; exact o2)
                cases se : x.name.toList.isEmpty
                · have se' : (!x.name.toList.isEmpty) = true := by rw [se]; rfl
                  have HF : Hid (formB x.op x.n x.name k = false) := Lib.hid (by rw [HFM.out, if_neg H2.out, se]; simp)
                  clear o1
                  have HBAD : Hid (mcheck p (h : Int) = false) := Lib.hid (mcheck_bad hI.out.run HX.out (step_class_form HK1.out HAR.out HF.out))
                  go_wp2_with (first | (go_at_call 55; refine (arity_any x.op _).mono ?_; rintro en w' ⟨rfl, rfl⟩))
                  go_ret
                  exact ⟨ret_chk HBAD.out rfl, HBX.out⟩
                · have se' : (!x.name.toList.isEmpty) = false := by rw [se]; rfl
                  have HF : Hid (formB x.op x.n x.name k = true) := Lib.hid (by rw [HFM.out, if_neg H2.out, se, o1]; rfl)
                  clear o1
                  have HST : Hid (runM h (p.take (i + 1)) (runStart h) = some (s.1 + k, s.2)) := Lib.hid (run_next hI.out.run HX.out (step_class HRR.out HK1.out HAR.out HTO.out HF.out))
                  go_wp2_with (first | (go_at_call 55; refine (arity_any x.op _).mono ?_; rintro en w' ⟨rfl, rfl⟩))
                  go_roundw
                  case rel => exact ⟨i + 1, (s.1 + k, s.2), rg + k, by go_num, by go_num, by rw [HRG.out]; go_num, by omega, by omega, by omega, Lib.hid ⟨HST.out, hI.out.len, HTK.out, HBX.out⟩⟩
                  case measure => simp [intOf]; omega
            · have t1 : (x.tgt != (rg : Int)) = true := by rw [bne_iff_ne]; exact hto
              have HTO : Hid (¬ x.tgt = s.1) := Lib.hid (by rw [HRG.out]; exact hto)
              clear hto
              have HBAD : Hid (mcheck p (h : Int) = false) := Lib.hid (mcheck_bad hI.out.run HX.out (step_class_to HK1.out HTO.out))
              go_wp2_with (first | (go_at_call 55; refine (arity_any x.op _).mono ?_; rintro en w' ⟨rfl, rfl⟩))
              go_ret
              exact ⟨ret_chk HBAD.out rfl, HBX.out⟩
        have k1 : (x.kind == 1) = false := beq_eq_false_iff_ne.2 hk1
        by_cases hk2 : x.kind = 2
        · have k2 : (x.kind == 2) = true := beq_iff_eq.2 hk2
          have k3 : (x.kind == 3) = false := by rw [hk2]; rfl
          have HK2 := Lib.hid hk2
          clear hk1 hk2
          cases hb : x.bare
          · have HF : Hid (¬ (x.bare = true ∧ 0 ≤ x.tgt ∧ x.tgt < s.1)) := Lib.hid (fun h => by rw [hb] at h; cases h.1)
            have HBAD : Hid (mcheck p (h : Int) = false) := Lib.hid (mcheck_bad hI.out.run HX.out (step_same_bad HK2.out HF.out))
            go_wp2_with fail
            go_ret
            exact ⟨ret_chk HBAD.out rfl, HBX.out⟩
          · by_cases h0 : 0 ≤ x.tgt
            · have d0 : decide (0 ≤ x.tgt) = true := decide_eq_true h0
              have d0' : decide (x.tgt ≥ 0) = true := decide_eq_true h0
              by_cases h1 : x.tgt < (rg : Int)
              · have d1 : decide (x.tgt < (rg : Int)) = true := decide_eq_true h1
                have HLT : Hid (x.tgt < s.1) := Lib.hid (by rw [HRG.out]; exact h1)
                have HBB := Lib.hid hb
                have HH0 := Lib.hid h0
                clear h0 h1
                have HST : Hid (runM h (p.take (i + 1)) (runStart h) = some s) := Lib.hid (run_next hI.out.run HX.out (step_same HRR.out HK2.out HBB.out HH0.out HLT.out))
                go_wp2_with fail
                go_roundw
                case rel => exact ⟨i + 1, s, rg, by go_num, by go_num, HRG.out, by omega, by omega, by omega, Lib.hid ⟨HST.out, hI.out.len, HTK.out, HBX.out⟩⟩
                case measure => simp [intOf]; omega
              · have d1 : decide (x.tgt < (rg : Int)) = false := decide_eq_false h1
                have HF : Hid (¬ (x.bare = true ∧ 0 ≤ x.tgt ∧ x.tgt < s.1)) := Lib.hid (fun h => by have := h.2.2; rw [HRG.out] at this; exact h1 this)
                clear h0 h1
                have HBAD : Hid (mcheck p (h : Int) = false) := Lib.hid (mcheck_bad hI.out.run HX.out (step_same_bad HK2.out HF.out))
                go_wp2_with fail
                go_ret
                exact ⟨ret_chk HBAD.out rfl, HBX.out⟩
            · have d0 : decide (0 ≤ x.tgt) = false := decide_eq_false h0
              have d0' : decide (x.tgt ≥ 0) = false := decide_eq_false h0
              have HF : Hid (¬ (x.bare = true ∧ 0 ≤ x.tgt ∧ x.tgt < s.1)) := Lib.hid (fun h => h0 h.2.1)
              clear h0
              have HBAD : Hid (mcheck p (h : Int) = false) := Lib.hid (mcheck_bad hI.out.run HX.out (step_same_bad HK2.out HF.out))
              go_wp2_with fail
              go_ret
              exact ⟨ret_chk HBAD.out rfl, HBX.out⟩
        have k2 : (x.kind == 2) = false := beq_eq_false_iff_ne.2 hk2
        by_cases hk3 : x.kind = 3
        · have k3 : (x.kind == 3) = true := beq_iff_eq.2 hk3
          have HK3 := Lib.hid hk3
          clear hk1 hk2 hk3
          cases hb : x.bare
          · have HF : Hid (¬ (x.bare = true ∧ 0 ≤ x.tgt ∧ x.tgt < (h : Int) ∧ s.2.getD x.tgt.toNat true = false)) := Lib.hid (fun h => by rw [hb] at h; cases h.1)
            have HBAD : Hid (mcheck p (h : Int) = false) := Lib.hid (mcheck_bad hI.out.run HX.out (step_take_bad HK3.out HF.out))
            go_wp2_with fail
            go_ret
            exact ⟨ret_chk HBAD.out rfl, HBX.out⟩
          · by_cases h0 : 0 ≤ x.tgt
            · have d0 : decide (0 ≤ x.tgt) = true := decide_eq_true h0
              have d0' : decide (x.tgt ≥ 0) = true := decide_eq_true h0
              by_cases h1 : x.tgt < (h : Int)
              · have d1 : decide (x.tgt < (h : Int)) = true := decide_eq_true h1
                obtain ⟨tn, htn⟩ := Int.eq_ofNat_of_zero_le h0
                have htl : tn < h := by omega
                obtain ⟨b, hbt⟩ : ∃ b, s.2[tn]? = some b := ⟨_, List.getElem?_eq_getElem (by rw [hI.out.len]; exact htl)⟩
                have qb := boolsAt_cell HTK.out hbt
                have qf : wc.frozen? ⟨w.heap.size, tn, none⟩ = false := boolsAt_frozen HTK.out tn
                have HGD : Hid (s.2.getD x.tgt.toNat true = b) := Lib.hid (by rw [htn, Int.toNat_natCast, List.getD_eq_getElem?_getD, hbt]; rfl)
                have HBB := Lib.hid hb
                have HH0 := Lib.hid h0
                have HH1 := Lib.hid h1
                have HTN := Lib.hid htn
                rw [htn] at q2 d0 d0' d1
                clear h0 h1 hbt htn
                cases b
                · have HBS : Hid (Below w.heap.size w (wc.setCell ⟨w.heap.size, tn, none⟩ (.bool true))) := Lib.hid (HBX.out.setCell (p := ⟨w.heap.size, tn, none⟩) (Nat.le_refl _) _)
                  have HTS : Hid (boolsAt (wc.setCell ⟨w.heap.size, tn, none⟩ (.bool true)) w.heap.size (s.2.set x.tgt.toNat true)) := Lib.hid (by rw [HTN.out, Int.toNat_natCast]; exact boolsAt_set HTK.out tn true)
                  have HST : Hid (runM h (p.take (i + 1)) (runStart h) = some (s.1, s.2.set x.tgt.toNat true)) := Lib.hid (run_next hI.out.run HX.out (step_take HRR.out HK3.out HBB.out HH0.out HH1.out HGD.out))
                  go_wp2_with fail
                  go_roundw
                  case rel => exact ⟨i + 1, (s.1, s.2.set x.tgt.toNat true), rg, by go_num, by go_num, HRG.out, by omega, by omega, by omega, Lib.hid ⟨HST.out, by rw [List.length_set]; exact hI.out.len, HTS.out, HBS.out⟩⟩
                  case measure => simp [intOf]; omega
                · have HF : Hid (¬ (x.bare = true ∧ 0 ≤ x.tgt ∧ x.tgt < (h : Int) ∧ s.2.getD x.tgt.toNat true = false)) := Lib.hid (fun h => by have := h.2.2.2; rw [HGD.out] at this; cases this)
                  have HBAD : Hid (mcheck p (h : Int) = false) := Lib.hid (mcheck_bad hI.out.run HX.out (step_take_bad HK3.out HF.out))
                  go_wp2_with fail
                  go_ret
                  exact ⟨ret_chk HBAD.out rfl, HBX.out⟩
              · have d1 : decide (x.tgt < (h : Int)) = false := decide_eq_false h1
                have HF : Hid (¬ (x.bare = true ∧ 0 ≤ x.tgt ∧ x.tgt < (h : Int) ∧ s.2.getD x.tgt.toNat true = false)) := Lib.hid (fun h => h1 h.2.2.1)
                clear h0 h1
                have HBAD : Hid (mcheck p (h : Int) = false) := Lib.hid (mcheck_bad hI.out.run HX.out (step_take_bad HK3.out HF.out))
                go_wp2_with fail
                go_ret
                exact ⟨ret_chk HBAD.out rfl, HBX.out⟩
            · have d0 : decide (0 ≤ x.tgt) = false := decide_eq_false h0
              have d0' : decide (x.tgt ≥ 0) = false := decide_eq_false h0
              have HF : Hid (¬ (x.bare = true ∧ 0 ≤ x.tgt ∧ x.tgt < (h : Int) ∧ s.2.getD x.tgt.toNat true = false)) := Lib.hid (fun h => h0 h.2.1)
              clear h0
              have HBAD : Hid (mcheck p (h : Int) = false) := Lib.hid (mcheck_bad hI.out.run HX.out (step_take_bad HK3.out HF.out))
              go_wp2_with fail
              go_ret
              exact ⟨ret_chk HBAD.out rfl, HBX.out⟩
        have k3 : (x.kind == 3) = false := beq_eq_false_iff_ne.2 hk3
        have HF : Hid (stepM h s x = none) := Lib.hid (step_none hk1 hk2 hk3)
        clear hk1 hk2 hk3
        have HBAD : Hid (mcheck p (h : Int) = false) := Lib.hid (mcheck_bad hI.out.run HX.out (HF.out))
        go_wp2_with fail
        go_ret
        exact ⟨ret_chk HBAD.out rfl, HBX.out⟩
    · have hie : i = p.length := by omega
      have HST : Hid (runM h p (runStart h) = some s) := Lib.hid (by have := hI.out.run; rwa [hie, List.take_length] at this)
      have HMC : Hid (mcheck p (h : Int) = s.2.all id) := Lib.hid (by
        unfold mcheck
        rw [Int.toNat_natCast, HST.out, decide_eq_true (show (0 : Int) ≤ h by omega), decide_eq_true (show (h : Int) ≤ 6 by omega), decide_eq_true hl64]; rfl)
      have hcs := contains_any w.heap.size s.2 wo hI.out.tk (by rw [hI.out.len]; exact hh6)
      rw [hI.out.len] at hcs
      have HCS := Lib.hid hcs
      clear hie hcs
      cases hq : s.2.all id
      · have hq' : (!(s.2.all id)) = true := by rw [hq]; rfl
        go_wp2_with (go_at_call 57; refine HCS.out.mono ?_; rintro en w' ⟨rfl, rfl⟩)
        go_ret
        exact ⟨ret_chk (HMC.out.trans hq) rfl, hI.out.B⟩
      · have hq' : (!(s.2.all id)) = false := by rw [hq]; rfl
        go_wp2_with (go_at_call 57; refine HCS.out.mono ?_; rintro en w' ⟨rfl, rfl⟩)
        go_ret
        exact ⟨ret_chk (HMC.out.trans hq) rfl, hI.out.B⟩
end Go.Proofs.YticaocadeeolkaaDoor
