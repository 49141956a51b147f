/-
  THE WALKS of package runes: zero, has, Kind, inName, bad, Name, each for every argument.
-/
import Derived.Test.YticaocadeeolkaaDoorRows
import Derived.Test.YticaocadeeolkaaDoorAa
import Derived.WalkKit
import Derived.WalkSpells
import Derived.WalkLawsBesides
import Derived.Lib.Hide
import Derived.Handy
namespace Go.Proofs.YticaocadeeolkaaDoor
open Go.RowKit Plain

theorem hide {p : Prop} (h : p) : Hid p := h
/-! ### the tables -/
theorem ret_bool {a b : Bool} (h : a = b) : Ending.returned (.bool a) = .returned (.bool b) := by rw [h]
theorem ret_int {k : IntKind} {a b : Int} (h : a = b) : Ending.returned (.int k a) = .returned (.int k b) := by rw [h]
def lettersCells : List Int := [97, 122, 65, 90, 95, 95, 192, 214, 216, 246, 248, 591, 880, 893, 895, 902, 904, 1023, 1024, 1153, 1162, 1327, 19968, 40959, 66560, 66639]
def zerosCells : List Int := [48, 1632, 65296]
structure Tabs (w : World) : Prop where
  letters : ∀ j v, lettersCells[j]? = some v → w.cell? ⟨0, j, none⟩ = some (.int .i32 v)
  zeros : ∀ j v, zerosCells[j]? = some v → w.cell? ⟨1, j, none⟩ = some (.int .i32 v)
theorem Tabs.below {w w' : World} (h : Tabs w) (hb : Below w.heap.size w w') : Tabs w' :=
  ⟨fun j v hj => (hb.cell (World.block_lt_of_cell? w _ (h.letters j v hj))).trans (h.letters j v hj), fun j v hj => (hb.cell (World.block_lt_of_cell? w _ (h.zeros j v hj))).trans (h.zeros j v hj)⟩

theorem run_loadVar_cells {P : Program} (w : World) (g : Nat) (ty : TypeId) (cs : List Value) (d : TypeDesc) (hg : ∀ j v, cs[j]? = some v → w.cell? ⟨g, j, none⟩ = some v)
    (hu : P.underlying ty = some d) (hd : (match d with | .struct _ | .array _ _ => true | _ => false) = true) (hi : (P.info? ty).map (·.size) = some cs.length) :
    (loadVar ty ⟨g, 0, none⟩).run P w = .ok (.agg cs.toArray) w := by
  have hl : (loadCells ⟨g, 0, none⟩ cs.length).run P w = .ok cs.toArray w :=
    run_loadCells_list (P := P) w ⟨g, 0, none⟩ cs (fun j v hv => by
      have hadd : (⟨g, 0, none⟩ : Addr).add j = ⟨g, j, none⟩ := by unfold Addr.add; split <;> simp_all
      rw [hadd]; exact hg j v hv)
  cases hq : P.info? ty with
  | none => simp [hq] at hi
  | some i =>
    have hs : i.size = cs.length := by simpa [hq] using hi
    have hagg : (isAgg ty).run P w = .ok true w := by
      unfold isAgg
      rw [Sem.run_bind, run_underlying hu w]
      cases d <;> simp_all
    simp [loadVar, Sem.run_bind, hagg, sizeOf, typeInfo, hq, hs, hl]
theorem wpList_load_cells {P : Program} {ops : Array Oper} {rest : List Oper} {o : Oper} {a : Act} {w : World} {Q : Exit → Act → World → Prop} (hgd : o.guard = none) (ty : TypeId) (x : Operand) (ho : o.op = .load ty x)
    (g : Nat) (hx : a.eval x = .pointer (some ⟨g, 0, none⟩)) (cs : List Value) (d : TypeDesc) (hg : ∀ j v, cs[j]? = some v → w.cell? ⟨g, j, none⟩ = some v)
    (hu : P.underlying ty = some d) (hd : (match d with | .struct _ | .array _ _ => true | _ => false) = true) (hi : (P.info? ty).map (·.size) = some cs.length)
    (h : wpList P ops Q rest (a.put o.dst (.agg cs.toArray)) w) : wpList P ops Q (o :: rest) a w :=
  wpList_plain hgd fun _ hK => by
    unfold Oper.wp execOp
    simp only [ho, hx, Instr.loadAt, Instr.sureAddr, Sem.run_bind, Sem.run_pure, Result.andThen_ok, run_loadVar_cells w g ty cs d hg hu hd hi]
    exact hK _ _ h

theorem Tabs.lettersV {w : World} (h : Tabs w) : ∀ (j : Nat) (v : Value), ([.int .i32 97, .int .i32 122, .int .i32 65, .int .i32 90, .int .i32 95, .int .i32 95, .int .i32 192, .int .i32 214, .int .i32 216, .int .i32 246, .int .i32 248, .int .i32 591, .int .i32 880, .int .i32 893, .int .i32 895, .int .i32 902, .int .i32 904, .int .i32 1023, .int .i32 1024, .int .i32 1153, .int .i32 1162, .int .i32 1327, .int .i32 19968, .int .i32 40959, .int .i32 66560, .int .i32 66639] : List Value)[j]? = some v → w.cell? ⟨0, j, none⟩ = some v := by
  have e : ([.int .i32 97, .int .i32 122, .int .i32 65, .int .i32 90, .int .i32 95, .int .i32 95, .int .i32 192, .int .i32 214, .int .i32 216, .int .i32 246, .int .i32 248, .int .i32 591, .int .i32 880, .int .i32 893, .int .i32 895, .int .i32 902, .int .i32 904, .int .i32 1023, .int .i32 1024, .int .i32 1153, .int .i32 1162, .int .i32 1327, .int .i32 19968, .int .i32 40959, .int .i32 66560, .int .i32 66639] : List Value) = lettersCells.map (Value.int .i32) := rfl
  intro j v hj
  rw [e, List.getElem?_map] at hj
  cases hl : lettersCells[j]? with
  | none => rw [hl] at hj; cases hj
  | some u => rw [hl] at hj; cases hj; exact h.letters j u hl
theorem Tabs.zerosV {w : World} (h : Tabs w) : ∀ (j : Nat) (v : Value), ([.int .i32 48, .int .i32 1632, .int .i32 65296] : List Value)[j]? = some v → w.cell? ⟨1, j, none⟩ = some v := by
  have e : ([.int .i32 48, .int .i32 1632, .int .i32 65296] : List Value) = zerosCells.map (Value.int .i32) := rfl
  intro j v hj
  rw [e, List.getElem?_map] at hj
  cases hl : zerosCells[j]? with
  | none => rw [hl] at hj; cases hj
  | some u => rw [hl] at hj; cases hj; exact h.zeros j u hl

theorem zero_fin_yes {r z : Int} (h : zeroOf r = some z) : Ending.returned (.tuple #[.int .i32 z, .bool true]) = .returned (.tuple #[.int .i32 ((zeroOf r).getD 0), .bool (zeroOf r).isSome]) := by rw [h]; rfl
theorem zero_fin_no {r : Int} (h : zeroOf r = none) : Ending.returned (.tuple #[.int .i32 0, .bool false]) = .returned (.tuple #[.int .i32 ((zeroOf r).getD 0), .bool (zeroOf r).isSome]) := by rw [h]; rfl
set_option maxHeartbeats 1000000 in
theorem zero_any (r : Int) (w : World) (ht : Tabs w) (h0 : -2147483648 ≤ r) (h1 : r ≤ 2147483647) :
    Calls Tryd.prog 79 #[.int .i32 r] w fun e w' => e = .returned (.tuple #[.int .i32 ((zeroOf r).getD 0), .bool (zeroOf r).isSome]) ∧ w = w' := by
  have HT := Lib.hid ht.zerosV
  clear ht
  have i0 : ∀ w, (Instr.index 167 (.agg #[.int .i32 48, .int .i32 1632, .int .i32 65296]) (.int .i64 0)).run Tryd.prog w = .ok (.int .i32 48) w := fun _ => by kernel_rfl
  have i1 : ∀ w, (Instr.index 167 (.agg #[.int .i32 48, .int .i32 1632, .int .i32 65296]) (.int .i64 1)).run Tryd.prog w = .ok (.int .i32 1632) w := fun _ => by kernel_rfl
  have i2 : ∀ w, (Instr.index 167 (.agg #[.int .i32 48, .int .i32 1632, .int .i32 65296]) (.int .i64 2)).run Tryd.prog w = .ok (.int .i32 65296) w := fun _ => by kernel_rfl
  go_enter Tryd.func79, Tryd.ntmps79
  go_wp2_with (refine wpList_load_cells rfl 167 _ rfl 1 rfl _ _ HT.out Tryd.underlying167 rfl (by kernel_rfl) ?_)
  refine wp_loop_rounds 4 ?_
  rw [rounds_succ]
  go_wp2
  all_goals try (rw [rounds_succ]; go_wp2)
  all_goals try (rw [rounds_succ]; go_wp2)
  all_goals try (rw [rounds_succ]; go_wp2)
  all_goals go_ret2
  all_goals refine ⟨?_, rfl⟩
  all_goals first
    | exact zero_fin_yes (zeroOf_a (by omega) (by omega))
    | exact zero_fin_yes (zeroOf_b (by omega) (by omega))
    | exact zero_fin_yes (zeroOf_c (by omega) (by omega))
    | exact zero_fin_no (zeroOf_no (by omega) (by omega) (by omega))

/-! ### has -/
theorem has_any_at (s : ByteArray) (r : Int) (w : World) :
    Calls Tryd.prog 81 #[.string s, .int .i32 r] w fun e w' => e = .returned (.bool (hasRune s r)) ∧ Below w.heap.size w w' := by
  go_enter Tryd.func81, Tryd.ntmps81
  go_wp2
  go_loopw [6] (fun _ wr => ∃ (pos : Nat), wr = w.iter s pos ∧ Hid ((runesAt s pos).any (fun p => (p.2 : Int) == r) = hasRune s r)) (fun _ w' => s.size - w'.iterPos w.heap.size)
  case atStart => exact ⟨0, rfl, rfl⟩
  case round =>
    obtain ⟨pos, rfl, hc⟩ := hrel
    by_cases hp : pos < s.size
    · have hnx : ∀ ty, (Instr.next (.pointer (some ⟨w.heap.size, 0, none⟩)) true ty).run Tryd.prog (w.iter s pos) = _ := fun ty => run_next_any w s pos ty hp
      by_cases hr : (((Utf8.decode s pos).1 : Int) == r) = true
      · go_wp2
        go_ret
        have hc' := hc.out
        rw [runesAt_cons s pos hp, List.any_cons] at hc'
        simp only [hr, Bool.true_or] at hc'
        exact ⟨ret_bool hc', by exact (Below.refl _ _).alloc (Nat.le_refl _) _⟩
      · have hr' : (((Utf8.decode s pos).1 : Int) == r) = false := by simpa using hr
        clear hr
        go_wp2
        have hwd := Plain.width_pos s pos
        go_roundw
        case rel =>
          refine ⟨pos + (Utf8.decode s pos).2, rfl, ?_⟩
          have hc' := hc.out
          rw [runesAt_cons s pos hp, List.any_cons] at hc'
          simp only [hr', Bool.false_or] at hc'
          exact hc'
        case measure =>
          simp
          omega
    · have hnx : ∀ ty, (Instr.next (.pointer (some ⟨w.heap.size, 0, none⟩)) true ty).run Tryd.prog (w.iter s pos) = _ := fun ty => run_next_end w s pos ty hp
      go_wp2
      go_ret
      have hc' := hc.out
      rw [runesAt_nil s pos hp] at hc'
      exact ⟨ret_bool hc', by exact (Below.refl _ _).alloc (Nat.le_refl _) _⟩

/-! ### Kind -/
def spanLo (k : Nat) : Int := lettersCells.getD (2 * k) 0
def spanHi (k : Nat) : Int := lettersCells.getD (2 * k + 1) 0
theorem span_yes {k : Nat} {r : Int} (hk : k < 13) (h : spanLo k ≤ r) (h' : r ≤ spanHi k) : isLetter r = true := by
  have : k = 0 ∨ k = 1 ∨ k = 2 ∨ k = 3 ∨ k = 4 ∨ k = 5 ∨ k = 6 ∨ k = 7 ∨ k = 8 ∨ k = 9 ∨ k = 10 ∨ k = 11 ∨ k = 12 := by omega
  rcases this with rfl | rfl | rfl | rfl | rfl | rfl | rfl | rfl | rfl | rfl | rfl | rfl | rfl <;>
    simp [spanLo, spanHi, lettersCells] at h h' <;> simp [isLetter] <;> omega
theorem span_no {r : Int} (h : ∀ j, j < 13 → ¬ (spanLo j ≤ r ∧ r ≤ spanHi j)) : isLetter r = false := by
  have h0 := h 0 (by omega); have h1 := h 1 (by omega); have h2 := h 2 (by omega); have h3 := h 3 (by omega); have h4 := h 4 (by omega); have h5 := h 5 (by omega); have h6 := h 6 (by omega)
  have h7 := h 7 (by omega); have h8 := h 8 (by omega); have h9 := h 9 (by omega); have h10 := h 10 (by omega); have h11 := h 11 (by omega); have h12 := h 12 (by omega)
  simp [spanLo, spanHi, lettersCells] at h0 h1 h2 h3 h4 h5 h6 h7 h8 h9 h10 h11 h12
  simp [isLetter]
  omega
theorem span_index : ∀ (k : Nat), k < 13 → ∀ (w : World),
    (Instr.index 160 (.agg #[.int .i32 97, .int .i32 122, .int .i32 65, .int .i32 90, .int .i32 95, .int .i32 95, .int .i32 192, .int .i32 214, .int .i32 216, .int .i32 246, .int .i32 248, .int .i32 591, .int .i32 880, .int .i32 893, .int .i32 895, .int .i32 902, .int .i32 904, .int .i32 1023, .int .i32 1024, .int .i32 1153, .int .i32 1162, .int .i32 1327, .int .i32 19968, .int .i32 40959, .int .i32 66560, .int .i32 66639]) (.int .i64 k)).run Tryd.prog w = .ok (.agg #[.int .i32 (spanLo k), .int .i32 (spanHi k)]) w
  | 0, _, _ => by kernel_rfl
  | 1, _, _ => by kernel_rfl
  | 2, _, _ => by kernel_rfl
  | 3, _, _ => by kernel_rfl
  | 4, _, _ => by kernel_rfl
  | 5, _, _ => by kernel_rfl
  | 6, _, _ => by kernel_rfl
  | 7, _, _ => by kernel_rfl
  | 8, _, _ => by kernel_rfl
  | 9, _, _ => by kernel_rfl
  | 10, _, _ => by kernel_rfl
  | 11, _, _ => by kernel_rfl
  | 12, _, _ => by kernel_rfl
  | k + 13, h, _ => by omega
theorem valid_any (r : Int) (w : World) :
    Calls Tryd.prog 80 #[.int .i32 r] w fun e w' => e = .returned (.bool (okRune r)) ∧ w = w' := by
  by_cases h1 : 0 ≤ r
  · by_cases h2 : r < 55296
    · go_enter Tryd.func80, Tryd.ntmps80
      go_wp2
      go_ret
      exact ⟨ret_bool (by simp [okRune]; omega), rfl⟩
    · have h2' : 55296 ≤ r := by omega
      have hd : decide (r < 55296) = false := decide_eq_false h2
      go_enter Tryd.func80, Tryd.ntmps80
      go_wp2
      all_goals go_ret
      all_goals exact ⟨ret_bool (by simp [okRune]; omega), rfl⟩
  · have hd : decide (0 ≤ r) = false := decide_eq_false h1
    go_enter Tryd.func80, Tryd.ntmps80
    go_wp2
    all_goals go_ret
    all_goals exact ⟨ret_bool (by simp [okRune]; omega), rfl⟩

theorem has_bl (r : Int) (w : World) (b : Bool) (h : hasRune blanks r = b) : Calls Tryd.prog 81 #[.string ⟨#[32, 9, 10, 13, 194, 160, 227, 128, 128]⟩, .int .i32 r] w fun e w' => e = .returned (.bool b) ∧ Below w.heap.size w w' := by
  subst h; exact has_any_at blanks r w
theorem has_si (r : Int) (w : World) (b : Bool) (h : hasRune signs r = b) : Calls Tryd.prog 81 #[.string ⟨#[40, 41, 43, 45, 42, 47, 37, 38, 124, 94, 126, 60, 62, 61, 63, 58, 59, 44, 64, 194, 172, 194, 183, 195, 151, 195, 183, 226, 136, 146, 226, 136, 167, 226, 136, 168, 226, 137, 161, 226, 137, 170, 226, 137, 171, 226, 138, 149]⟩, .int .i32 r] w fun e w' => e = .returned (.bool b) ∧ Below w.heap.size w w' := by
  subst h; exact has_any_at signs r w
theorem valid_b (r : Int) (w : World) (b : Bool) (h : okRune r = b) : Calls Tryd.prog 80 #[.int .i32 r] w fun e w' => e = .returned (.bool b) ∧ w = w' := by subst h; exact valid_any r w
theorem zero_none (r : Int) (w : World) (ht : Tabs w) (h0 : -2147483648 ≤ r) (h1 : r ≤ 2147483647) (h : (zeroOf r).isSome = false) : Calls Tryd.prog 79 #[.int .i32 r] w fun e w' => e = .returned (.tuple #[.int .i32 0, .bool false]) ∧ w = w' := by
  have := zero_any r w ht h0 h1
  cases hz : zeroOf r with
  | none => rw [hz] at this; exact this
  | some z => rw [hz] at h; cases h
theorem kind_eq_two {r : Int} (h : isLetter r = false) (h2 : (zeroOf r).isSome = true) : (2 : Int) = kindOf r := by simp [kindOf, h, h2]
theorem kind_eq_zero {r : Int} (h : isLetter r = false) (h2 : (zeroOf r).isSome = false) (h3 : okRune r = false) : (0 : Int) = kindOf r := by simp [kindOf, h, h2, h3]
theorem kind_eq_err {r : Int} (h : isLetter r = false) (h2 : (zeroOf r).isSome = false) (h3 : (r == 65533) = true) : (0 : Int) = kindOf r := by simp [kindOf, h, h2, h3]
theorem kind_eq_three {r : Int} (h : isLetter r = false) (h2 : (zeroOf r).isSome = false) (h3 : okRune r = true) (h4 : (r == 65533) = false) (h5 : hasRune blanks r = true) : (3 : Int) = kindOf r := by
  rw [has_blanks] at h5; simp [kindOf, h, h2, h3, h4, h5]
theorem kind_eq_four {r : Int} (h : isLetter r = false) (h2 : (zeroOf r).isSome = false) (h3 : okRune r = true) (h4 : (r == 65533) = false) (h5 : hasRune blanks r = false) (h6 : hasRune signs r = true) : (4 : Int) = kindOf r := by
  rw [has_blanks] at h5; rw [has_signs] at h6; simp [kindOf, h, h2, h3, h4, h5, h6]
theorem kind_eq_five {r : Int} (h : 8320 ≤ r) (h' : r ≤ 8329) : (5 : Int) = kindOf r := by
  have e := kind_five r
  rw [decide_eq_true ⟨h, h'⟩] at e
  have e5 : kindOf r = 5 := by simpa using e
  exact e5.symm
theorem kind_eq_none {r : Int} (h : isLetter r = false) (h2 : (zeroOf r).isSome = false) (_h3 : okRune r = true) (h4 : (r == 65533) = false) (h5 : hasRune blanks r = false) (h6 : hasRune signs r = false) (h7 : r < 8320 ∨ 8329 < r) : (0 : Int) = kindOf r := by
  rw [has_blanks] at h5; rw [has_signs] at h6
  have : ¬ (8320 ≤ r ∧ r ≤ 8329) := by omega
  simp [kindOf, h, h2, h4, h5, h6, this]

set_option maxHeartbeats 2000000 in
theorem kind_any (r : Int) (w : World) (ht : Tabs w) (h0 : -2147483648 ≤ r) (h1 : r ≤ 2147483647) :
    Calls Tryd.prog 69 #[.int .i32 r] w fun e w' => e = .returned (.int .i64 (kindOf r)) ∧ Below w.heap.size w w' := by
  have HT := Lib.hid ht.lettersV
  have HTT := Lib.hid ht
  clear ht
  go_enter Tryd.func69, Tryd.ntmps69
  go_wp2_with (refine wpList_load_cells rfl 160 _ rfl 0 rfl _ _ HT.out Tryd.underlying160 rfl (by kernel_rfl) ?_)
  go_loopw [8] (fun v wr => ∃ k : Nat, k ≤ 13 ∧ v = .int .i64 k ∧ Hid (∀ j, j < k → ¬ (spanLo j ≤ r ∧ r ≤ spanHi j)) ∧ Below w.heap.size w wr) (fun v _ => 13 - (intOf v).toNat)
  case atStart => exact ⟨0, by omega, rfl, fun j hj => by omega, Below.refl _ _⟩
  case round =>
    obtain ⟨k, hk, rfl, hn, hb⟩ := hrel
    have hsz : w.heap.size ≤ wr.heap.size := hb.size
    by_cases hlt : k < 13
    · have hix := span_index k hlt
      by_cases hlo : spanLo k ≤ r
      · by_cases hhi : r ≤ spanHi k
        · have hl := Lib.hid (span_yes hlt hlo hhi)
          go_wp2
          go_ret
          refine ⟨ret_int (by simp [kindOf, hl.out]), hb.alloc hsz _⟩
        · have hhd : decide (r ≤ spanHi k) = false := decide_eq_false hhi
          have hn' : Hid (∀ j, j < k + 1 → ¬ (spanLo j ≤ r ∧ r ≤ spanHi j)) := fun j hj => by
            by_cases e : j = k
            · subst e; exact fun h => hhi h.2
            · exact hn.out j (by omega)
          go_wp2
          go_roundw
          case rel => exact ⟨k + 1, by omega, by go_num, hn', hb.alloc hsz _⟩
          case measure => simp [intOf]; omega
      · have hhd : decide (spanLo k ≤ r) = false := decide_eq_false hlo
        have hn' : Hid (∀ j, j < k + 1 → ¬ (spanLo j ≤ r ∧ r ≤ spanHi j)) := fun j hj => by
          by_cases e : j = k
          · subst e; exact fun h => hlo h.1
          · exact hn.out j (by omega)
        go_wp2
        go_roundw
        case rel => exact ⟨k + 1, by omega, by go_num, hn', hb.alloc hsz _⟩
        case measure => simp [intOf]; omega
    · have e13 : k = 13 := by omega
      subst e13
      have hl := Lib.hid (span_no hn.out)
      clear hn
      have htw := Lib.hid (HTT.out.below hb)
      cases hz : (zeroOf r).isSome
      · have HZ := Lib.hid hz
        clear hz
        cases hv : okRune r
        · have HV := Lib.hid hv
          clear hv
          go_wp2_with (first | (go_at_call 79; refine (zero_none r _ htw.out h0 h1 HZ.out).mono ?_; rintro e w' ⟨rfl, rfl⟩) | (go_at_call 80; refine (valid_b r _ _ HV.out).mono ?_; rintro e w' ⟨rfl, rfl⟩))
          go_ret
          exact ⟨ret_int (kind_eq_zero hl.out HZ.out HV.out), hb⟩
        · have HV := Lib.hid hv
          clear hv
          cases he : (r == 65533)
          · have HE := Lib.hid he
            cases hbl : hasRune blanks r
            · have HB := Lib.hid hbl
              clear hbl
              cases hsi : hasRune signs r
              · have HS := Lib.hid hsi
                clear hsi
                by_cases h5a : 8320 ≤ r
                · by_cases h5b : r ≤ 8329
                  · go_wp2_with (first | (go_at_call 79; refine (zero_none r _ htw.out h0 h1 HZ.out).mono ?_; rintro e w' ⟨rfl, rfl⟩) | (go_at_call 80; refine (valid_b r _ _ HV.out).mono ?_; rintro e w' ⟨rfl, rfl⟩) | (go_at_call 81; first | ((with_reducible refine (has_bl r _ _ HB.out).mono ?_); rintro e w1 ⟨rfl, hb1⟩; have HB1 := Lib.hid hb1; clear hb1) | ((with_reducible refine (has_si r _ _ HS.out).mono ?_); rintro e w2 ⟨rfl, hb2⟩; have HB2 := Lib.hid hb2; clear hb2)))
                    go_ret
                    exact ⟨ret_int (kind_eq_five h5a h5b), (hb.trans (HB1.out.mono hsz)).trans (HB2.out.mono (Nat.le_trans hsz HB1.out.size))⟩
                  · have hd : decide (r ≤ 8329) = false := decide_eq_false h5b
                    go_wp2_with (first | (go_at_call 79; refine (zero_none r _ htw.out h0 h1 HZ.out).mono ?_; rintro e w' ⟨rfl, rfl⟩) | (go_at_call 80; refine (valid_b r _ _ HV.out).mono ?_; rintro e w' ⟨rfl, rfl⟩) | (go_at_call 81; first | ((with_reducible refine (has_bl r _ _ HB.out).mono ?_); rintro e w1 ⟨rfl, hb1⟩; have HB1 := Lib.hid hb1; clear hb1) | ((with_reducible refine (has_si r _ _ HS.out).mono ?_); rintro e w2 ⟨rfl, hb2⟩; have HB2 := Lib.hid hb2; clear hb2)))
                    go_ret
                    exact ⟨ret_int (kind_eq_none hl.out HZ.out HV.out HE.out HB.out HS.out (by omega)), (hb.trans (HB1.out.mono hsz)).trans (HB2.out.mono (Nat.le_trans hsz HB1.out.size))⟩
                · have hd : decide (8320 ≤ r) = false := decide_eq_false h5a
                  go_wp2_with (first | (go_at_call 79; refine (zero_none r _ htw.out h0 h1 HZ.out).mono ?_; rintro e w' ⟨rfl, rfl⟩) | (go_at_call 80; refine (valid_b r _ _ HV.out).mono ?_; rintro e w' ⟨rfl, rfl⟩) | (go_at_call 81; first | ((with_reducible refine (has_bl r _ _ HB.out).mono ?_); rintro e w1 ⟨rfl, hb1⟩; have HB1 := Lib.hid hb1; clear hb1) | ((with_reducible refine (has_si r _ _ HS.out).mono ?_); rintro e w2 ⟨rfl, hb2⟩; have HB2 := Lib.hid hb2; clear hb2)))
                  go_ret
                  exact ⟨ret_int (kind_eq_none hl.out HZ.out HV.out HE.out HB.out HS.out (by omega)), (hb.trans (HB1.out.mono hsz)).trans (HB2.out.mono (Nat.le_trans hsz HB1.out.size))⟩
              · have HS := Lib.hid hsi
                clear hsi
                go_wp2_with (first | (go_at_call 79; refine (zero_none r _ htw.out h0 h1 HZ.out).mono ?_; rintro e w' ⟨rfl, rfl⟩) | (go_at_call 80; refine (valid_b r _ _ HV.out).mono ?_; rintro e w' ⟨rfl, rfl⟩) | (go_at_call 81; first | ((with_reducible refine (has_bl r _ _ HB.out).mono ?_); rintro e w1 ⟨rfl, hb1⟩; have HB1 := Lib.hid hb1; clear hb1) | ((with_reducible refine (has_si r _ _ HS.out).mono ?_); rintro e w2 ⟨rfl, hb2⟩; have HB2 := Lib.hid hb2; clear hb2)))
                go_ret
                exact ⟨ret_int (kind_eq_four hl.out HZ.out HV.out HE.out HB.out HS.out), (hb.trans (HB1.out.mono hsz)).trans (HB2.out.mono (Nat.le_trans hsz HB1.out.size))⟩
            · have HB := Lib.hid hbl
              clear hbl
              go_wp2_with (first | (go_at_call 79; refine (zero_none r _ htw.out h0 h1 HZ.out).mono ?_; rintro e w' ⟨rfl, rfl⟩) | (go_at_call 80; refine (valid_b r _ _ HV.out).mono ?_; rintro e w' ⟨rfl, rfl⟩) | (go_at_call 81; (with_reducible refine (has_bl r _ _ HB.out).mono ?_); rintro e w1 ⟨rfl, hb1⟩; have HB1 := Lib.hid hb1; clear hb1))
              go_ret
              exact ⟨ret_int (kind_eq_three hl.out HZ.out HV.out HE.out HB.out), hb.trans (HB1.out.mono hsz)⟩
          · have HE := Lib.hid he
            go_wp2_with (first | (go_at_call 79; refine (zero_none r _ htw.out h0 h1 HZ.out).mono ?_; rintro e w' ⟨rfl, rfl⟩) | (go_at_call 80; refine (valid_b r _ _ HV.out).mono ?_; rintro e w' ⟨rfl, rfl⟩))
            go_ret
            exact ⟨ret_int (kind_eq_err hl.out HZ.out HE.out), hb⟩
      · have HZ := Lib.hid hz
        go_wp2_with (go_at_call 79; refine (zero_any r _ htw.out h0 h1).mono ?_; rintro e w' ⟨rfl, rfl⟩)
        go_ret
        exact ⟨ret_int (kind_eq_two hl.out HZ.out), hb⟩
end Go.Proofs.YticaocadeeolkaaDoor
