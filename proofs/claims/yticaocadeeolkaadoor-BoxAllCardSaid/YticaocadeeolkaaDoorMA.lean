/-
  PLAIN: the runes of a text, kinds of characters, names: both sides' tables are one. No program in it.
  THE WALKS of package runes: zero, has, Kind, inName, bad, Name, each for every argument.
  THE WALKS of package runes: inName, bad, Name, each for every argument.
  THE WALKS of the reference's package of runes: within, Digit, letter, Kind, behind, each for every argument. (Laid by gen_ad.py.)
  THE WALKS of the reference's Kind, behind, Width, Rune, Name, each for every argument. (Laid by gen_ae.py.)
-/
import GoSem.Core.Utf8
import Derived.Laws.RangeAny
import Derived.Test.YticaocadeeolkaaDoorRows
import Derived.WalkKit
import Derived.WalkSpells
import Derived.WalkLawsBesides
import Derived.Lib.Hide
import Derived.Handy

namespace Go.Proofs.YticaocadeeolkaaDoor.Plain
open Go

/-! ### the runes of a text -/
theorem width_pos (s : ByteArray) (i : Nat) : 1 ≤ (Utf8.decode s i).2 := by
  simp only [Utf8.decode]
  repeat' split
  all_goals simp

theorem width_le (s : ByteArray) (i : Nat) (h : i < s.size) : i + (Utf8.decode s i).2 ≤ s.size := by
  simp only [Utf8.decode]
  repeat' split
  all_goals simp_all
  all_goals omega

/-- The runes from a place on, each with its place. -/
def runesF (s : ByteArray) : Nat → Nat → List (Nat × Nat)
  | 0, _ => []
  | f + 1, i => if i < s.size then (i, (Utf8.decode s i).1) :: runesF s f (i + (Utf8.decode s i).2) else []
theorem runesF_fuel (s : ByteArray) : ∀ f g i, s.size - i ≤ f → s.size - i ≤ g → runesF s f i = runesF s g i := by
  intro f
  induction f with
  | zero =>
    intro g i hf _
    have h : ¬ i < s.size := by omega
    cases g <;> simp [runesF, h]
  | succ f ih =>
    intro g i hf hg
    by_cases h : i < s.size
    · have hw := width_pos s i
      cases g with
      | zero => omega
      | succ g =>
        simp only [runesF, h, if_true]
        rw [ih g _ (by omega) (by omega)]
    · cases g <;> simp [runesF, h]
def runesAt (s : ByteArray) (i : Nat) : List (Nat × Nat) := runesF s s.size i
theorem runesAt_cons (s : ByteArray) (i : Nat) (h : i < s.size) : runesAt s i = (i, (Utf8.decode s i).1) :: runesAt s (i + (Utf8.decode s i).2) := by
  have hw := width_pos s i
  unfold runesAt
  rw [runesF_fuel s s.size (s.size + 1) i (by omega) (by omega)]
  simp only [runesF, h, if_true]
theorem runesAt_nil (s : ByteArray) (i : Nat) (h : ¬ i < s.size) : runesAt s i = [] := by
  unfold runesAt
  cases hs : s.size with
  | zero => rfl
  | succ n => simp [runesF, h]

theorem rune_valid (s : ByteArray) (i : Nat) : Utf8.valid ((Utf8.decode s i).1 : Int) = true := by
  have hb : ∀ k, (s.get! (i + k)).toNat < 256 := fun k => (s.get! (i + k)).toNat_lt
  have h0 := hb 0; have h1 := hb 1
  have he : Utf8.valid ((Utf8.runeError : Nat) : Int) = true := by decide
  have hs : ∀ n : Nat, n < 55296 → Utf8.valid (n : Int) = true := fun n hn => by
    unfold Utf8.valid
    have : decide ((n : Int) < 55296) = true := decide_eq_true (by omega)
    simp [this]
  unfold Utf8.decode
  dsimp only
  split
  · exact hs _ (by omega)
  · split
    · split
      · exact hs _ (by dsimp only; omega)
      · exact he
    · split
      · split
        · rename_i h; simp only [Bool.and_eq_true] at h; exact h.2
        · exact he
      · split
        · split
          · rename_i h; simp only [Bool.and_eq_true] at h; exact h.2
          · exact he
        · exact he

/-! ### kinds -/
def isLetter (r : Int) : Bool :=
  (97 ≤ r && r ≤ 122) || (65 ≤ r && r ≤ 90) || (95 ≤ r && r ≤ 95) || (192 ≤ r && r ≤ 214) || (216 ≤ r && r ≤ 246) || (248 ≤ r && r ≤ 591) || (880 ≤ r && r ≤ 893) || (895 ≤ r && r ≤ 902) || (904 ≤ r && r ≤ 1023) || (1024 ≤ r && r ≤ 1153) || (1162 ≤ r && r ≤ 1327) || (19968 ≤ r && r ≤ 40959) || (66560 ≤ r && r ≤ 66639)
def zeroOf (r : Int) : Option Int :=
  if 48 ≤ r ∧ r ≤ 57 then some 48 else if 1632 ≤ r ∧ r ≤ 1641 then some 1632 else if 65296 ≤ r ∧ r ≤ 65305 then some 65296 else none
def blankList : List Int := [32, 9, 10, 13, 160, 12288]
def signList : List Int := [40, 41, 43, 45, 42, 47, 37, 38, 124, 94, 126, 60, 62, 61, 63, 58, 59, 44, 64, 172, 183, 215, 247, 8722, 8743, 8744, 8801, 8810, 8811, 8853]
def blanks : ByteArray := ⟨#[32, 9, 10, 13, 194, 160, 227, 128, 128]⟩
def signs : ByteArray := ⟨#[40, 41, 43, 45, 42, 47, 37, 38, 124, 94, 126, 60, 62, 61, 63, 58, 59, 44, 64, 194, 172, 194, 183, 195, 151, 195, 183, 226, 136, 146, 226, 136, 167, 226, 136, 168, 226, 137, 161, 226, 137, 170, 226, 137, 171, 226, 138, 149]⟩
def hasRune (s : ByteArray) (r : Int) : Bool := (runesAt s 0).any fun p => (p.2 : Int) == r
theorem has_blanks (r : Int) : hasRune blanks r = blankList.any (· == r) := by
  have h : (runesAt blanks 0).map (fun p => (p.2 : Int)) = blankList := by decide +kernel
  rw [← h, List.any_map]; rfl
theorem has_signs (r : Int) : hasRune signs r = signList.any (· == r) := by
  have h : (runesAt signs 0).map (fun p => (p.2 : Int)) = signList := by decide +kernel
  rw [← h, List.any_map]; rfl
def okRune (r : Int) : Bool := (0 ≤ r && r < 55296) || (57344 ≤ r && r ≤ 1114111)
def kindOf (r : Int) : Int :=
  if isLetter r then 1 else if (zeroOf r).isSome then 2 else if !okRune r || r == 65533 then 0
  else if blankList.any (· == r) then 3 else if signList.any (· == r) then 4 else if 8320 ≤ r ∧ r ≤ 8329 then 5 else 0
theorem zeroOf_a {r : Int} (h : 48 ≤ r) (h' : r ≤ 57) : zeroOf r = some 48 := by unfold zeroOf; rw [if_pos ⟨h, h'⟩]
theorem zeroOf_b {r : Int} (h : 1632 ≤ r) (h' : r ≤ 1641) : zeroOf r = some 1632 := by unfold zeroOf; rw [if_neg (by omega), if_pos ⟨h, h'⟩]
theorem zeroOf_c {r : Int} (h : 65296 ≤ r) (h' : r ≤ 65305) : zeroOf r = some 65296 := by unfold zeroOf; rw [if_neg (by omega), if_neg (by omega), if_pos ⟨h, h'⟩]
theorem zeroOf_no {r : Int} (h : r < 48 ∨ 57 < r) (h1 : r < 1632 ∨ 1641 < r) (h2 : r < 65296 ∨ 65305 < r) : zeroOf r = none := by unfold zeroOf; rw [if_neg (by omega), if_neg (by omega), if_neg (by omega)]
def isNameRune (r : Int) : Bool := kindOf r == 1 || kindOf r == 2 || kindOf r == 5
theorem kind_one (r : Int) : (kindOf r == 1) = isLetter r := by
  unfold kindOf
  cases h : isLetter r
  · simp only [Bool.false_eq_true, if_false]
    repeat' split
    all_goals rfl
  · simp
theorem kind_two (r : Int) : (kindOf r == 2) = (zeroOf r).isSome := by
  unfold kindOf
  cases h : isLetter r
  · simp only [Bool.false_eq_true, if_false]
    cases h2 : (zeroOf r).isSome
    · simp only [Bool.false_eq_true, if_false]
      repeat' split
      all_goals rfl
    · simp
  · simp only [if_true]
    have : zeroOf r = none := by
      unfold zeroOf
      simp [isLetter] at h
      rw [if_neg (by omega), if_neg (by omega), if_neg (by omega)]
    rw [this]; rfl
theorem kind_five (r : Int) : (kindOf r == 5) = decide (8320 ≤ r ∧ r ≤ 8329) := by
  by_cases h : 8320 ≤ r ∧ r ≤ 8329
  · have h1 : isLetter r = false := by simp [isLetter]; omega
    have h2 : zeroOf r = none := by unfold zeroOf; rw [if_neg (by omega), if_neg (by omega), if_neg (by omega)]
    have h3 : (!okRune r || r == 65533) = false := by simp [okRune]; omega
    have h4 : (blankList.any (· == r)) = false := by simp [blankList]; omega
    have h5 : (signList.any (· == r)) = false := by simp [signList]; omega
    simp [kindOf, h1, h2, h3, h4, h5, h]
  · unfold kindOf
    rw [decide_eq_false h]
    repeat' split
    all_goals rfl

/-! ### the reference's kinds -/
def refLetter (r : Int) : Bool :=
  if (97 ≤ r ∧ r ≤ 122) ∨ (65 ≤ r ∧ r ≤ 90) ∨ r = 95 then true
  else if 192 ≤ r ∧ r ≤ 591 then decide (r ≠ 215 ∧ r ≠ 247)
  else if 880 ≤ r ∧ r ≤ 1023 then decide (r ≠ 894 ∧ r ≠ 903)
  else if 1024 ≤ r ∧ r ≤ 1327 then decide ¬ (1154 ≤ r ∧ r ≤ 1161)
  else decide ((19968 ≤ r ∧ r ≤ 40959) ∨ (66560 ≤ r ∧ r ≤ 66639))
theorem refLetter_eq (r : Int) : refLetter r = isLetter r := by
  rw [Bool.eq_iff_iff]
  unfold refLetter isLetter
  simp only [Bool.or_eq_true, Bool.and_eq_true, decide_eq_true_eq]
  repeat' split
  all_goals simp
  all_goals omega
def refKind (r : Int) : Int :=
  if isLetter r then 1 else if (zeroOf r).isSome then 2 else if blankList.any (· == r) then 3 else if 8320 ≤ r ∧ r ≤ 8329 then 5 else if signList.any (· == r) then 4 else 0
theorem refKind_eq (r : Int) (_h : r ≠ 65533) (_h1 : okRune r = true) : refKind r = kindOf r := by
  by_cases h5 : 8320 ≤ r ∧ r ≤ 8329
  · have e := kind_five r
    rw [decide_eq_true h5] at e
    have e5 : kindOf r = 5 := by simpa using e
    have h1 : isLetter r = false := by simp [isLetter]; omega
    have h2 : zeroOf r = none := by unfold zeroOf; rw [if_neg (by omega), if_neg (by omega), if_neg (by omega)]
    have h4 : (blankList.any (· == r)) = false := by simp [blankList]; omega
    rw [e5]; simp [refKind, h1, h2, h4, h5]
  · have h3 : (!okRune r || r == 65533) = false := by simp [_h, _h1]
    simp only [refKind, kindOf, h3, h5, if_false, Bool.false_eq_true]

/-! ### names -/
def nameGo : List (Nat × Nat) → Nat → Bool
  | [], n => decide (1 ≤ n) && decide (n ≤ 16)
  | (_, r) :: l, n => if (n == 0 && !isLetter (r : Int)) || !isNameRune (r : Int) then false else nameGo l (n + 1)
def isName (s : ByteArray) : Bool := nameGo (runesAt s 0) 0
theorem name_fffd : isNameRune 65533 = false := by decide +kernel
theorem name_minus : isNameRune (-1) = false := by decide +kernel
theorem letter_minus : isLetter (-1) = false := by decide +kernel
end Go.Proofs.YticaocadeeolkaaDoor.Plain

namespace Go.Proofs.YticaocadeeolkaaDoor
open Go.RowKit Plain

theorem hide {p : Prop} (h : p) : Hid p := h
/-! ### the tables -/
theorem ret_bool {a b : Bool} (h : a = b) : Ending.returned (.bool a) = .returned (.bool b) := by rw [h]
theorem ret_int {k : IntKind} {a b : Int} (h : a = b) : Ending.returned (.int k a) = .returned (.int k b) := by rw [h]
def lettersCells : List Int := [97, 122, 65, 90, 95, 95, 192, 214, 216, 246, 248, 591, 880, 893, 895, 902, 904, 1023, 1024, 1153, 1162, 1327, 19968, 40959, 66560, 66639]
def zerosCells : List Int := [48, 1632, 65296]
structure Tabs (w : World) : Prop where
  letters : ∀ j v, lettersCells[j]? = some v → w.cell? ⟨0, j, none⟩ = some (.int .i32 v)
  zeros : ∀ j v, zerosCells[j]? = some v → w.cell? ⟨1, j, none⟩ = some (.int .i32 v)
theorem Tabs.below {w w' : World} (h : Tabs w) (hb : Below w.heap.size w w') : Tabs w' :=
  ⟨fun j v hj => (hb.cell (World.block_lt_of_cell? w _ (h.letters j v hj))).trans (h.letters j v hj), fun j v hj => (hb.cell (World.block_lt_of_cell? w _ (h.zeros j v hj))).trans (h.zeros j v hj)⟩

theorem run_loadVar_cells {P : Program} (w : World) (g : Nat) (ty : TypeId) (cs : List Value) (d : TypeDesc) (hg : ∀ j v, cs[j]? = some v → w.cell? ⟨g, j, none⟩ = some v)
    (hu : P.underlying ty = some d) (hd : (match d with | .struct _ | .array _ _ => true | _ => false) = true) (hi : (P.info? ty).map (·.size) = some cs.length) :
    (loadVar ty ⟨g, 0, none⟩).run P w = .ok (.agg cs.toArray) w := by
  have hl : (loadCells ⟨g, 0, none⟩ cs.length).run P w = .ok cs.toArray w :=
    run_loadCells_list (P := P) w ⟨g, 0, none⟩ cs (fun j v hv => by
      have hadd : (⟨g, 0, none⟩ : Addr).add j = ⟨g, j, none⟩ := by unfold Addr.add; split <;> simp_all
      rw [hadd]; exact hg j v hv)
  cases hq : P.info? ty with
  | none => simp [hq] at hi
  | some i =>
    have hs : i.size = cs.length := by simpa [hq] using hi
    have hagg : (isAgg ty).run P w = .ok true w := by
      unfold isAgg
      rw [Sem.run_bind, run_underlying hu w]
      cases d <;> simp_all
    simp [loadVar, Sem.run_bind, hagg, sizeOf, typeInfo, hq, hs, hl]
theorem wpList_load_cells {P : Program} {ops : Array Oper} {rest : List Oper} {o : Oper} {a : Act} {w : World} {Q : Exit → Act → World → Prop} (hgd : o.guard = none) (ty : TypeId) (x : Operand) (ho : o.op = .load ty x)
    (g : Nat) (hx : a.eval x = .pointer (some ⟨g, 0, none⟩)) (cs : List Value) (d : TypeDesc) (hg : ∀ j v, cs[j]? = some v → w.cell? ⟨g, j, none⟩ = some v)
    (hu : P.underlying ty = some d) (hd : (match d with | .struct _ | .array _ _ => true | _ => false) = true) (hi : (P.info? ty).map (·.size) = some cs.length)
    (h : wpList P ops Q rest (a.put o.dst (.agg cs.toArray)) w) : wpList P ops Q (o :: rest) a w :=
  wpList_plain hgd fun _ hK => by
    unfold Oper.wp execOp
    simp only [ho, hx, Instr.loadAt, Instr.sureAddr, Sem.run_bind, Sem.run_pure, Result.andThen_ok, run_loadVar_cells w g ty cs d hg hu hd hi]
    exact hK _ _ h

theorem Tabs.lettersV {w : World} (h : Tabs w) : ∀ (j : Nat) (v : Value), ([.int .i32 97, .int .i32 122, .int .i32 65, .int .i32 90, .int .i32 95, .int .i32 95, .int .i32 192, .int .i32 214, .int .i32 216, .int .i32 246, .int .i32 248, .int .i32 591, .int .i32 880, .int .i32 893, .int .i32 895, .int .i32 902, .int .i32 904, .int .i32 1023, .int .i32 1024, .int .i32 1153, .int .i32 1162, .int .i32 1327, .int .i32 19968, .int .i32 40959, .int .i32 66560, .int .i32 66639] : List Value)[j]? = some v → w.cell? ⟨0, j, none⟩ = some v := by
  have e : ([.int .i32 97, .int .i32 122, .int .i32 65, .int .i32 90, .int .i32 95, .int .i32 95, .int .i32 192, .int .i32 214, .int .i32 216, .int .i32 246, .int .i32 248, .int .i32 591, .int .i32 880, .int .i32 893, .int .i32 895, .int .i32 902, .int .i32 904, .int .i32 1023, .int .i32 1024, .int .i32 1153, .int .i32 1162, .int .i32 1327, .int .i32 19968, .int .i32 40959, .int .i32 66560, .int .i32 66639] : List Value) = lettersCells.map (Value.int .i32) := rfl
  intro j v hj
  rw [e, List.getElem?_map] at hj
  cases hl : lettersCells[j]? with
  | none => rw [hl] at hj; cases hj
  | some u => rw [hl] at hj; cases hj; exact h.letters j u hl
theorem Tabs.zerosV {w : World} (h : Tabs w) : ∀ (j : Nat) (v : Value), ([.int .i32 48, .int .i32 1632, .int .i32 65296] : List Value)[j]? = some v → w.cell? ⟨1, j, none⟩ = some v := by
  have e : ([.int .i32 48, .int .i32 1632, .int .i32 65296] : List Value) = zerosCells.map (Value.int .i32) := rfl
  intro j v hj
  rw [e, List.getElem?_map] at hj
  cases hl : zerosCells[j]? with
  | none => rw [hl] at hj; cases hj
  | some u => rw [hl] at hj; cases hj; exact h.zeros j u hl

theorem zero_fin_yes {r z : Int} (h : zeroOf r = some z) : Ending.returned (.tuple #[.int .i32 z, .bool true]) = .returned (.tuple #[.int .i32 ((zeroOf r).getD 0), .bool (zeroOf r).isSome]) := by rw [h]; rfl
theorem zero_fin_no {r : Int} (h : zeroOf r = none) : Ending.returned (.tuple #[.int .i32 0, .bool false]) = .returned (.tuple #[.int .i32 ((zeroOf r).getD 0), .bool (zeroOf r).isSome]) := by rw [h]; rfl
set_option maxHeartbeats 1000000 in
theorem zero_any (r : Int) (w : World) (ht : Tabs w) (h0 : -2147483648 ≤ r) (h1 : r ≤ 2147483647) :
    Calls Tryd.prog 79 #[.int .i32 r] w fun e w' => e = .returned (.tuple #[.int .i32 ((zeroOf r).getD 0), .bool (zeroOf r).isSome]) ∧ w = w' := by
  have HT := Lib.hid ht.zerosV
  clear ht
  have i0 : ∀ w, (Instr.index 167 (.agg #[.int .i32 48, .int .i32 1632, .int .i32 65296]) (.int .i64 0)).run Tryd.prog w = .ok (.int .i32 48) w := fun _ => by kernel_rfl
  have i1 : ∀ w, (Instr.index 167 (.agg #[.int .i32 48, .int .i32 1632, .int .i32 65296]) (.int .i64 1)).run Tryd.prog w = .ok (.int .i32 1632) w := fun _ => by kernel_rfl
  have i2 : ∀ w, (Instr.index 167 (.agg #[.int .i32 48, .int .i32 1632, .int .i32 65296]) (.int .i64 2)).run Tryd.prog w = .ok (.int .i32 65296) w := fun _ => by kernel_rfl
  go_enter Tryd.func79, Tryd.ntmps79
  go_wp2_with (refine wpList_load_cells rfl 167 _ rfl 1 rfl _ _ HT.out Tryd.underlying167 rfl (by kernel_rfl) ?_)
  refine wp_loop_rounds 4 ?_
  rw [rounds_succ]
  go_wp2
  all_goals try (rw [rounds_succ]; go_wp2)
  all_goals try (rw [rounds_succ]; go_wp2)
  all_goals try (rw [rounds_succ]; go_wp2)
  all_goals go_ret2
  all_goals refine ⟨?_, rfl⟩
  all_goals first
    | exact zero_fin_yes (zeroOf_a (by omega) (by omega))
    | exact zero_fin_yes (zeroOf_b (by omega) (by omega))
    | exact zero_fin_yes (zeroOf_c (by omega) (by omega))
    | exact zero_fin_no (zeroOf_no (by omega) (by omega) (by omega))

/-! ### has -/
theorem has_any_at (s : ByteArray) (r : Int) (w : World) :
    Calls Tryd.prog 81 #[.string s, .int .i32 r] w fun e w' => e = .returned (.bool (hasRune s r)) ∧ Below w.heap.size w w' := by
  go_enter Tryd.func81, Tryd.ntmps81
  go_wp2
  go_loopw [6] (fun _ wr => ∃ (pos : Nat), wr = w.iter s pos ∧ Hid ((runesAt s pos).any (fun p => (p.2 : Int) == r) = hasRune s r)) (fun _ w' => s.size - w'.iterPos w.heap.size)
  case atStart => exact ⟨0, rfl, rfl⟩
  case round =>
    obtain ⟨pos, rfl, hc⟩ := hrel
    by_cases hp : pos < s.size
    · have hnx : ∀ ty, (Instr.next (.pointer (some ⟨w.heap.size, 0, none⟩)) true ty).run Tryd.prog (w.iter s pos) = _ := fun ty => run_next_any w s pos ty hp
      by_cases hr : (((Utf8.decode s pos).1 : Int) == r) = true
      · go_wp2
        go_ret
        have hc' := hc.out
        rw [runesAt_cons s pos hp, List.any_cons] at hc'
        simp only [hr, Bool.true_or] at hc'
        exact ⟨ret_bool hc', by exact (Below.refl _ _).alloc (Nat.le_refl _) _⟩
      · have hr' : (((Utf8.decode s pos).1 : Int) == r) = false := by simpa using hr
        clear hr
        go_wp2
        have hwd := Plain.width_pos s pos
        go_roundw
        case rel =>
          refine ⟨pos + (Utf8.decode s pos).2, rfl, ?_⟩
          have hc' := hc.out
          rw [runesAt_cons s pos hp, List.any_cons] at hc'
          simp only [hr', Bool.false_or] at hc'
          exact hc'
        case measure =>
          simp
          omega
    · have hnx : ∀ ty, (Instr.next (.pointer (some ⟨w.heap.size, 0, none⟩)) true ty).run Tryd.prog (w.iter s pos) = _ := fun ty => run_next_end w s pos ty hp
      go_wp2
      go_ret
      have hc' := hc.out
      rw [runesAt_nil s pos hp] at hc'
      exact ⟨ret_bool hc', by exact (Below.refl _ _).alloc (Nat.le_refl _) _⟩

/-! ### Kind -/
def spanLo (k : Nat) : Int := lettersCells.getD (2 * k) 0
def spanHi (k : Nat) : Int := lettersCells.getD (2 * k + 1) 0
theorem span_yes {k : Nat} {r : Int} (hk : k < 13) (h : spanLo k ≤ r) (h' : r ≤ spanHi k) : isLetter r = true := by
  have : k = 0 ∨ k = 1 ∨ k = 2 ∨ k = 3 ∨ k = 4 ∨ k = 5 ∨ k = 6 ∨ k = 7 ∨ k = 8 ∨ k = 9 ∨ k = 10 ∨ k = 11 ∨ k = 12 := by omega
  rcases this with rfl | rfl | rfl | rfl | rfl | rfl | rfl | rfl | rfl | rfl | rfl | rfl | rfl <;>
    simp [spanLo, spanHi, lettersCells] at h h' <;> simp [isLetter] <;> omega
theorem span_no {r : Int} (h : ∀ j, j < 13 → ¬ (spanLo j ≤ r ∧ r ≤ spanHi j)) : isLetter r = false := by
  have h0 := h 0 (by omega); have h1 := h 1 (by omega); have h2 := h 2 (by omega); have h3 := h 3 (by omega); have h4 := h 4 (by omega); have h5 := h 5 (by omega); have h6 := h 6 (by omega)
  have h7 := h 7 (by omega); have h8 := h 8 (by omega); have h9 := h 9 (by omega); have h10 := h 10 (by omega); have h11 := h 11 (by omega); have h12 := h 12 (by omega)
  simp [spanLo, spanHi, lettersCells] at h0 h1 h2 h3 h4 h5 h6 h7 h8 h9 h10 h11 h12
  simp [isLetter]
  omega
theorem span_index : ∀ (k : Nat), k < 13 → ∀ (w : World),
    (Instr.index 160 (.agg #[.int .i32 97, .int .i32 122, .int .i32 65, .int .i32 90, .int .i32 95, .int .i32 95, .int .i32 192, .int .i32 214, .int .i32 216, .int .i32 246, .int .i32 248, .int .i32 591, .int .i32 880, .int .i32 893, .int .i32 895, .int .i32 902, .int .i32 904, .int .i32 1023, .int .i32 1024, .int .i32 1153, .int .i32 1162, .int .i32 1327, .int .i32 19968, .int .i32 40959, .int .i32 66560, .int .i32 66639]) (.int .i64 k)).run Tryd.prog w = .ok (.agg #[.int .i32 (spanLo k), .int .i32 (spanHi k)]) w
  | 0, _, _ => by kernel_rfl
  | 1, _, _ => by kernel_rfl
  | 2, _, _ => by kernel_rfl
  | 3, _, _ => by kernel_rfl
  | 4, _, _ => by kernel_rfl
  | 5, _, _ => by kernel_rfl
  | 6, _, _ => by kernel_rfl
  | 7, _, _ => by kernel_rfl
  | 8, _, _ => by kernel_rfl
  | 9, _, _ => by kernel_rfl
  | 10, _, _ => by kernel_rfl
  | 11, _, _ => by kernel_rfl
  | 12, _, _ => by kernel_rfl
  | k + 13, h, _ => by omega
theorem valid_any (r : Int) (w : World) :
    Calls Tryd.prog 80 #[.int .i32 r] w fun e w' => e = .returned (.bool (okRune r)) ∧ w = w' := by
  by_cases h1 : 0 ≤ r
  · by_cases h2 : r < 55296
    · go_enter Tryd.func80, Tryd.ntmps80
      go_wp2
      go_ret
      exact ⟨ret_bool (by simp [okRune]; omega), rfl⟩
    · have h2' : 55296 ≤ r := by omega
      have hd : decide (r < 55296) = false := decide_eq_false h2
      go_enter Tryd.func80, Tryd.ntmps80
      go_wp2
      all_goals go_ret
      all_goals exact ⟨ret_bool (by simp [okRune]; omega), rfl⟩
  · have hd : decide (0 ≤ r) = false := decide_eq_false h1
    go_enter Tryd.func80, Tryd.ntmps80
    go_wp2
    all_goals go_ret
    all_goals exact ⟨ret_bool (by simp [okRune]; omega), rfl⟩

theorem has_bl (r : Int) (w : World) (b : Bool) (h : hasRune blanks r = b) : Calls Tryd.prog 81 #[.string ⟨#[32, 9, 10, 13, 194, 160, 227, 128, 128]⟩, .int .i32 r] w fun e w' => e = .returned (.bool b) ∧ Below w.heap.size w w' := by
  subst h; exact has_any_at blanks r w
theorem has_si (r : Int) (w : World) (b : Bool) (h : hasRune signs r = b) : Calls Tryd.prog 81 #[.string ⟨#[40, 41, 43, 45, 42, 47, 37, 38, 124, 94, 126, 60, 62, 61, 63, 58, 59, 44, 64, 194, 172, 194, 183, 195, 151, 195, 183, 226, 136, 146, 226, 136, 167, 226, 136, 168, 226, 137, 161, 226, 137, 170, 226, 137, 171, 226, 138, 149]⟩, .int .i32 r] w fun e w' => e = .returned (.bool b) ∧ Below w.heap.size w w' := by
  subst h; exact has_any_at signs r w
theorem valid_b (r : Int) (w : World) (b : Bool) (h : okRune r = b) : Calls Tryd.prog 80 #[.int .i32 r] w fun e w' => e = .returned (.bool b) ∧ w = w' := by subst h; exact valid_any r w
theorem zero_none (r : Int) (w : World) (ht : Tabs w) (h0 : -2147483648 ≤ r) (h1 : r ≤ 2147483647) (h : (zeroOf r).isSome = false) : Calls Tryd.prog 79 #[.int .i32 r] w fun e w' => e = .returned (.tuple #[.int .i32 0, .bool false]) ∧ w = w' := by
  have := zero_any r w ht h0 h1
  cases hz : zeroOf r with
  | none => rw [hz] at this; exact this
  | some z => rw [hz] at h; cases h
theorem kind_eq_two {r : Int} (h : isLetter r = false) (h2 : (zeroOf r).isSome = true) : (2 : Int) = kindOf r := by simp [kindOf, h, h2]
theorem kind_eq_zero {r : Int} (h : isLetter r = false) (h2 : (zeroOf r).isSome = false) (h3 : okRune r = false) : (0 : Int) = kindOf r := by simp [kindOf, h, h2, h3]
theorem kind_eq_err {r : Int} (h : isLetter r = false) (h2 : (zeroOf r).isSome = false) (h3 : (r == 65533) = true) : (0 : Int) = kindOf r := by simp [kindOf, h, h2, h3]
theorem kind_eq_three {r : Int} (h : isLetter r = false) (h2 : (zeroOf r).isSome = false) (h3 : okRune r = true) (h4 : (r == 65533) = false) (h5 : hasRune blanks r = true) : (3 : Int) = kindOf r := by
  rw [has_blanks] at h5; simp [kindOf, h, h2, h3, h4, h5]
theorem kind_eq_four {r : Int} (h : isLetter r = false) (h2 : (zeroOf r).isSome = false) (h3 : okRune r = true) (h4 : (r == 65533) = false) (h5 : hasRune blanks r = false) (h6 : hasRune signs r = true) : (4 : Int) = kindOf r := by
  rw [has_blanks] at h5; rw [has_signs] at h6; simp [kindOf, h, h2, h3, h4, h5, h6]
theorem kind_eq_five {r : Int} (h : 8320 ≤ r) (h' : r ≤ 8329) : (5 : Int) = kindOf r := by
  have e := kind_five r
  rw [decide_eq_true ⟨h, h'⟩] at e
  have e5 : kindOf r = 5 := by simpa using e
  exact e5.symm
theorem kind_eq_none {r : Int} (h : isLetter r = false) (h2 : (zeroOf r).isSome = false) (_h3 : okRune r = true) (h4 : (r == 65533) = false) (h5 : hasRune blanks r = false) (h6 : hasRune signs r = false) (h7 : r < 8320 ∨ 8329 < r) : (0 : Int) = kindOf r := by
  rw [has_blanks] at h5; rw [has_signs] at h6
  have : ¬ (8320 ≤ r ∧ r ≤ 8329) := by omega
  simp [kindOf, h, h2, h4, h5, h6, this]

set_option maxHeartbeats 2000000 in
theorem kind_any (r : Int) (w : World) (ht : Tabs w) (h0 : -2147483648 ≤ r) (h1 : r ≤ 2147483647) :
    Calls Tryd.prog 69 #[.int .i32 r] w fun e w' => e = .returned (.int .i64 (kindOf r)) ∧ Below w.heap.size w w' := by
  have HT := Lib.hid ht.lettersV
  have HTT := Lib.hid ht
  clear ht
  go_enter Tryd.func69, Tryd.ntmps69
  go_wp2_with (refine wpList_load_cells rfl 160 _ rfl 0 rfl _ _ HT.out Tryd.underlying160 rfl (by kernel_rfl) ?_)
  go_loopw [8] (fun v wr => ∃ k : Nat, k ≤ 13 ∧ v = .int .i64 k ∧ Hid (∀ j, j < k → ¬ (spanLo j ≤ r ∧ r ≤ spanHi j)) ∧ Below w.heap.size w wr) (fun v _ => 13 - (intOf v).toNat)
  case atStart => exact ⟨0, by omega, rfl, fun j hj => by omega, Below.refl _ _⟩
  case round =>
    obtain ⟨k, hk, rfl, hn, hb⟩ := hrel
    have hsz : w.heap.size ≤ wr.heap.size := hb.size
    by_cases hlt : k < 13
    · have hix := span_index k hlt
      by_cases hlo : spanLo k ≤ r
      · by_cases hhi : r ≤ spanHi k
        · have hl := Lib.hid (span_yes hlt hlo hhi)
          go_wp2
          go_ret
          refine ⟨ret_int (by simp [kindOf, hl.out]), hb.alloc hsz _⟩
        · have hhd : decide (r ≤ spanHi k) = false := decide_eq_false hhi
          have hn' : Hid (∀ j, j < k + 1 → ¬ (spanLo j ≤ r ∧ r ≤ spanHi j)) := fun j hj => by
            by_cases e : j = k
            · subst e; exact fun h => hhi h.2
            · exact hn.out j (by omega)
          go_wp2
          go_roundw
          case rel => exact ⟨k + 1, by omega, by go_num, hn', hb.alloc hsz _⟩
          case measure => simp [intOf]; omega
      · have hhd : decide (spanLo k ≤ r) = false := decide_eq_false hlo
        have hn' : Hid (∀ j, j < k + 1 → ¬ (spanLo j ≤ r ∧ r ≤ spanHi j)) := fun j hj => by
          by_cases e : j = k
          · subst e; exact fun h => hlo h.1
          · exact hn.out j (by omega)
        go_wp2
        go_roundw
        case rel => exact ⟨k + 1, by omega, by go_num, hn', hb.alloc hsz _⟩
        case measure => simp [intOf]; omega
    · have e13 : k = 13 := by omega
      subst e13
      have hl := Lib.hid (span_no hn.out)
      clear hn
      have htw := Lib.hid (HTT.out.below hb)
      cases hz : (zeroOf r).isSome
      · have HZ := Lib.hid hz
        clear hz
        cases hv : okRune r
        · have HV := Lib.hid hv
          clear hv
          go_wp2_with (first | (go_at_call 79; refine (zero_none r _ htw.out h0 h1 HZ.out).mono ?_; rintro e w' ⟨rfl, rfl⟩) | (go_at_call 80; refine (valid_b r _ _ HV.out).mono ?_; rintro e w' ⟨rfl, rfl⟩))
          go_ret
          exact ⟨ret_int (kind_eq_zero hl.out HZ.out HV.out), hb⟩
        · have HV := Lib.hid hv
          clear hv
          cases he : (r == 65533)
          · have HE := Lib.hid he
            cases hbl : hasRune blanks r
            · have HB := Lib.hid hbl
              clear hbl
              cases hsi : hasRune signs r
              · have HS := Lib.hid hsi
                clear hsi
                by_cases h5a : 8320 ≤ r
                · by_cases h5b : r ≤ 8329
                  · go_wp2_with (first | (go_at_call 79; refine (zero_none r _ htw.out h0 h1 HZ.out).mono ?_; rintro e w' ⟨rfl, rfl⟩) | (go_at_call 80; refine (valid_b r _ _ HV.out).mono ?_; rintro e w' ⟨rfl, rfl⟩) | (go_at_call 81; first | ((with_reducible refine (has_bl r _ _ HB.out).mono ?_); rintro e w1 ⟨rfl, hb1⟩; have HB1 := Lib.hid hb1; clear hb1) | ((with_reducible refine (has_si r _ _ HS.out).mono ?_); rintro e w2 ⟨rfl, hb2⟩; have HB2 := Lib.hid hb2; clear hb2)))
                    go_ret
                    exact ⟨ret_int (kind_eq_five h5a h5b), (hb.trans (HB1.out.mono hsz)).trans (HB2.out.mono (Nat.le_trans hsz HB1.out.size))⟩
                  · have hd : decide (r ≤ 8329) = false := decide_eq_false h5b
                    go_wp2_with (first | (go_at_call 79; refine (zero_none r _ htw.out h0 h1 HZ.out).mono ?_; rintro e w' ⟨rfl, rfl⟩) | (go_at_call 80; refine (valid_b r _ _ HV.out).mono ?_; rintro e w' ⟨rfl, rfl⟩) | (go_at_call 81; first | ((with_reducible refine (has_bl r _ _ HB.out).mono ?_); rintro e w1 ⟨rfl, hb1⟩; have HB1 := Lib.hid hb1; clear hb1) | ((with_reducible refine (has_si r _ _ HS.out).mono ?_); rintro e w2 ⟨rfl, hb2⟩; have HB2 := Lib.hid hb2; clear hb2)))
                    go_ret
                    exact ⟨ret_int (kind_eq_none hl.out HZ.out HV.out HE.out HB.out HS.out (by omega)), (hb.trans (HB1.out.mono hsz)).trans (HB2.out.mono (Nat.le_trans hsz HB1.out.size))⟩
                · have hd : decide (8320 ≤ r) = false := decide_eq_false h5a
                  go_wp2_with (first | (go_at_call 79; refine (zero_none r _ htw.out h0 h1 HZ.out).mono ?_; rintro e w' ⟨rfl, rfl⟩) | (go_at_call 80; refine (valid_b r _ _ HV.out).mono ?_; rintro e w' ⟨rfl, rfl⟩) | (go_at_call 81; first | ((with_reducible refine (has_bl r _ _ HB.out).mono ?_); rintro e w1 ⟨rfl, hb1⟩; have HB1 := Lib.hid hb1; clear hb1) | ((with_reducible refine (has_si r _ _ HS.out).mono ?_); rintro e w2 ⟨rfl, hb2⟩; have HB2 := Lib.hid hb2; clear hb2)))
                  go_ret
                  exact ⟨ret_int (kind_eq_none hl.out HZ.out HV.out HE.out HB.out HS.out (by omega)), (hb.trans (HB1.out.mono hsz)).trans (HB2.out.mono (Nat.le_trans hsz HB1.out.size))⟩
              · have HS := Lib.hid hsi
                clear hsi
                go_wp2_with (first | (go_at_call 79; refine (zero_none r _ htw.out h0 h1 HZ.out).mono ?_; rintro e w' ⟨rfl, rfl⟩) | (go_at_call 80; refine (valid_b r _ _ HV.out).mono ?_; rintro e w' ⟨rfl, rfl⟩) | (go_at_call 81; first | ((with_reducible refine (has_bl r _ _ HB.out).mono ?_); rintro e w1 ⟨rfl, hb1⟩; have HB1 := Lib.hid hb1; clear hb1) | ((with_reducible refine (has_si r _ _ HS.out).mono ?_); rintro e w2 ⟨rfl, hb2⟩; have HB2 := Lib.hid hb2; clear hb2)))
                go_ret
                exact ⟨ret_int (kind_eq_four hl.out HZ.out HV.out HE.out HB.out HS.out), (hb.trans (HB1.out.mono hsz)).trans (HB2.out.mono (Nat.le_trans hsz HB1.out.size))⟩
            · have HB := Lib.hid hbl
              clear hbl
              go_wp2_with (first | (go_at_call 79; refine (zero_none r _ htw.out h0 h1 HZ.out).mono ?_; rintro e w' ⟨rfl, rfl⟩) | (go_at_call 80; refine (valid_b r _ _ HV.out).mono ?_; rintro e w' ⟨rfl, rfl⟩) | (go_at_call 81; (with_reducible refine (has_bl r _ _ HB.out).mono ?_); rintro e w1 ⟨rfl, hb1⟩; have HB1 := Lib.hid hb1; clear hb1))
              go_ret
              exact ⟨ret_int (kind_eq_three hl.out HZ.out HV.out HE.out HB.out), hb.trans (HB1.out.mono hsz)⟩
          · have HE := Lib.hid he
            go_wp2_with (first | (go_at_call 79; refine (zero_none r _ htw.out h0 h1 HZ.out).mono ?_; rintro e w' ⟨rfl, rfl⟩) | (go_at_call 80; refine (valid_b r _ _ HV.out).mono ?_; rintro e w' ⟨rfl, rfl⟩))
            go_ret
            exact ⟨ret_int (kind_eq_err hl.out HZ.out HE.out), hb⟩
      · have HZ := Lib.hid hz
        go_wp2_with (go_at_call 79; refine (zero_any r _ htw.out h0 h1).mono ?_; rintro e w' ⟨rfl, rfl⟩)
        go_ret
        exact ⟨ret_int (kind_eq_two hl.out HZ.out), hb⟩
end Go.Proofs.YticaocadeeolkaaDoor

namespace Go.Proofs.YticaocadeeolkaaDoor
open Go.RowKit Plain

theorem inName_any (r : Int) (w : World) (ht : Tabs w) (h0 : -2147483648 ≤ r) (h1 : r ≤ 2147483647) :
    Calls Tryd.prog 70 #[.int .i32 r] w fun e w' => e = .returned (.bool (isNameRune r)) ∧ Below w.heap.size w w' := by
  cases hk1 : (kindOf r == 1)
  · cases hk2 : (kindOf r == 2)
    · go_enter Tryd.func70, Tryd.ntmps70
      go_wp2_with (go_at_call 69; refine (kind_any r _ ht h0 h1).mono ?_; rintro e w' ⟨rfl, hb⟩)
      go_ret
      exact ⟨ret_bool (by simp [isNameRune, hk1, hk2]), by assumption⟩
    · go_enter Tryd.func70, Tryd.ntmps70
      go_wp2_with (go_at_call 69; refine (kind_any r _ ht h0 h1).mono ?_; rintro e w' ⟨rfl, hb⟩)
      go_ret
      exact ⟨ret_bool (by simp [isNameRune, hk1, hk2]), by assumption⟩
  · go_enter Tryd.func70, Tryd.ntmps70
    go_wp2_with (go_at_call 69; refine (kind_any r _ ht h0 h1).mono ?_; rintro e w' ⟨rfl, hb⟩)
    go_ret
    exact ⟨ret_bool (by simp [isNameRune, hk1]), by assumption⟩

/-! ### HasPrefix -/
def hasPre (s p : ByteArray) : Bool := decide (p.size ≤ s.size) && ((s.extract 0 p.size).toList == p.toList)
theorem hasPre0_any (s p : ByteArray) (w : World) :
    Calls Tryd.prog 86 #[.string s, .string p] w fun e w' => e = .returned (.bool (hasPre s p)) ∧ w = w' := by
  by_cases hl : p.size ≤ s.size
  · have hl' : (p.size : Int) ≤ (s.size : Int) := by omega
    go_enter Tryd.func86, Tryd.ntmps86
    go_wp2
    go_ret
    exact ⟨ret_bool (by simp [hasPre, hl]), rfl⟩
  · have hl' : decide ((s.size : Int) ≥ (p.size : Int)) = false := decide_eq_false (by omega)
    go_enter Tryd.func86, Tryd.ntmps86
    go_wp2
    go_ret
    exact ⟨ret_bool (by simp [hasPre, hl]), rfl⟩
theorem hasPre_any (s p : ByteArray) (w : World) :
    Calls Tryd.prog 78 #[.string s, .string p] w fun e w' => e = .returned (.bool (hasPre s p)) ∧ w = w' := by
  go_enter Tryd.func78, Tryd.ntmps78
  go_wp2_with (go_at_call 86; refine (hasPre0_any s p _).mono ?_; rintro e w' ⟨rfl, rfl⟩)
  go_ret
  exact ⟨rfl, rfl⟩

/-! ### bad -/
def isBad (s : ByteArray) (i : Nat) (r : Int) : Bool := (r == 65533) && !hasPre (s.extract i s.size) ⟨#[239, 191, 189]⟩
theorem bad_any (s : ByteArray) (i : Nat) (r : Int) (w : World) (hi : i ≤ s.size) :
    Calls Tryd.prog 68 #[.string s, .int .i64 i, .int .i32 r] w fun e w' => e = .returned (.bool (isBad s i r)) ∧ w = w' := by
  cases hr : (r == 65533)
  · go_enter Tryd.func68, Tryd.ntmps68
    go_wp2
    go_ret
    exact ⟨ret_bool (by simp [isBad, hr]), rfl⟩
  · have hi' : (i : Int) ≤ (s.size : Int) := by omega
    go_enter Tryd.func68, Tryd.ntmps68
    go_wp2_with (go_at_call 78; refine (hasPre_any _ _ _).mono ?_; rintro e w' ⟨rfl, rfl⟩)
    go_ret
    exact ⟨ret_bool (by simp [isBad, hr]), rfl⟩
theorem bad_not (s : ByteArray) (i : Nat) (r : Int) (w : World) (hi : i ≤ s.size) (h : (r == 65533) = false) :
    Calls Tryd.prog 68 #[.string s, .int .i64 i, .int .i32 r] w fun e w' => e = .returned (.bool false) ∧ w = w' :=
  (bad_any s i r w hi).mono fun _ _ ⟨he, hw⟩ => ⟨by rw [he]; exact ret_bool (by simp [isBad, h]), hw⟩

/-! ### Name -/
theorem nameGo_cons (p r : Nat) (l : List (Nat × Nat)) (n : Nat) : nameGo ((p, r) :: l) n = if (n == 0 && !isLetter (r : Int)) || !isNameRune (r : Int) then false else nameGo l (n + 1) := rfl
theorem letter_isName {r : Int} (h : isLetter r = true) : isNameRune r = true := by
  have := kind_one r
  rw [h] at this
  simp [isNameRune, this]
set_option maxHeartbeats 2000000 in
set_option maxRecDepth 100000 in
theorem name_any (s : ByteArray) (w : World) (ht : Tabs w) (hs : s.size ≤ maxLen) :
    Calls Tryd.prog 56 #[.string s] w fun e w' => e = .returned (.bool (isName s)) ∧ Below w.heap.size w w' := by
  unfold maxLen at hs
  have HT := Lib.hid ht
  clear ht
  go_enter Tryd.func56, Tryd.ntmps56
  go_wp2
  go_loopw [3] (fun v wr => ∃ (pos n : Nat), v = .int .i64 n ∧ n ≤ pos ∧ pos ≤ s.size ∧ (0 < pos → 0 < n) ∧ Hid (wr.heap[w.heap.size]? = some (.stringIter s pos)) ∧ Hid (nameGo (runesAt s pos) n = isName s) ∧ Below w.heap.size w wr) (fun _ w' => s.size - w'.iterPos w.heap.size)
  case atStart => exact ⟨0, 0, rfl, by omega, by omega, by omega, World.iter_heap w s 0, rfl, (Below.refl _ _).alloc (Nat.le_refl _) _⟩
  case round =>
    obtain ⟨pos, n, rfl, hnp, hps, hpn, hit, hc, hb⟩ := hrel
    by_cases hp : pos < s.size
    · have hwd := Plain.width_pos s pos
      have hwl := Plain.width_le s pos hp
      have hrl := decode_le s pos
      have HTW := Lib.hid (HT.out.below hb)
      have hwsz : w.heap.size < wr.heap.size := (Array.getElem?_eq_some_iff.1 hit.out).1
      have hnx : ∀ ty, (Instr.next (.pointer (some ⟨w.heap.size, 0, none⟩)) true ty).run Tryd.prog wr = _ := fun ty => Lib.run_next_any_at wr w.heap.size s pos ty hit.out hp
      have hit2 : Hid ((wr.iterAt w.heap.size s (pos + (Utf8.decode s pos).2)).heap[w.heap.size]? = some (.stringIter s (pos + (Utf8.decode s pos).2))) := Lib.iterAt_heap wr _ s _ _ hit.out
      have hb2 : Below w.heap.size w (wr.iterAt w.heap.size s (pos + (Utf8.decode s pos).2)) := Lib.below_iterAt hb (Nat.le_refl _) _ _
      have htw2 : Hid (Tabs (wr.iterAt w.heap.size s (pos + (Utf8.decode s pos).2))) := HT.out.below hb2
      have hstep := hc.out
      rw [runesAt_cons s pos hp, nameGo_cons] at hstep
      clear hc
      generalize hw2 : wr.iterAt w.heap.size s (pos + (Utf8.decode s pos).2) = w2 at *
      generalize hr : (Utf8.decode s pos).1 = rn at *
      have hr0 : -2147483648 ≤ (rn : Int) := by omega
      have hr1 : (rn : Int) ≤ 2147483647 := by omega
      have Hstep := Lib.hid hstep
      have HIP := Lib.hid (iterPos_of hit.out)
      clear hstep hw2 hr hit hb
      have hsz2 : w.heap.size ≤ w2.heap.size := hb2.size
      cases hbad : isBad s pos rn
      · have HBAD := Lib.hid hbad
        clear hbad
        by_cases hz : pos = 0
        · have hz1 : ((pos : Int) == 0) = true := by rw [beq_iff_eq]; omega
          have hn0 : (n == 0) = true := by rw [beq_iff_eq]; omega
          have Hn0 := Lib.hid hn0
          clear hn0
          have hz' : pos ≤ 0 := by omega
          clear hz
          cases hl : isLetter (rn : Int)
          · have HL := Lib.hid hl
            have hk : (kindOf (rn : Int) != 1) = true := by show (!(kindOf (rn : Int) == 1)) = true; rw [kind_one, HL.out]; rfl
            clear hl
            go_wp2_with (first | (go_at_call 68; refine (bad_any s pos _ _ hps).mono ?_; rintro e w' ⟨rfl, rfl⟩; rw [HBAD.out]) | (go_at_call 69; refine (kind_any _ _ htw2.out hr0 hr1).mono ?_; rintro e w3 ⟨rfl, hb3⟩; have HB3 := Lib.hid hb3; clear hb3))
            go_ret
            exact ⟨ret_bool (by rw [← Hstep.out, Hn0.out, HL.out]; rfl), hb2.trans (HB3.out.mono hsz2)⟩
          · have HL := Lib.hid hl
            have HI := Lib.hid (letter_isName hl)
            have hk : (kindOf (rn : Int) != 1) = false := by show (!(kindOf (rn : Int) == 1)) = false; rw [kind_one, HL.out]; rfl
            clear hl
            go_wp2_with (first | (go_at_call 68; refine (bad_any s pos _ _ hps).mono ?_; rintro e w' ⟨rfl, rfl⟩; rw [HBAD.out]) | (go_at_call 69; refine (kind_any _ _ htw2.out hr0 hr1).mono ?_; rintro e w3 ⟨rfl, hb3⟩; have HB3 := Lib.hid hb3; clear hb3) | (go_at_call 70; refine (inName_any _ _ (htw2.out.below HB3.out) hr0 hr1).mono ?_; rintro e w4 ⟨rfl, hb4⟩; have HB4 := Lib.hid hb4; clear hb4; rw [HI.out]))
            go_roundw
            case rel =>
              have hb5 := hb2.trans ((HB3.out.trans (HB4.out.mono HB3.out.size)).mono hsz2)
              have hit4 := ((HB3.out.trans (HB4.out.mono HB3.out.size)).block w.heap.size (by have := (Array.getElem?_eq_some_iff.1 hit2.out).1; omega)).trans hit2.out
              have hs' := Hstep.out
              rw [HL.out, HI.out] at hs'
              exact ⟨pos + (Utf8.decode s pos).2, n + 1, by go_num, by omega, by omega, by omega, hit4, Lib.hid (by simpa using hs'), hb5⟩
            case measure =>
              have hit4 := ((HB3.out.trans (HB4.out.mono HB3.out.size)).block w.heap.size (by have := (Array.getElem?_eq_some_iff.1 hit2.out).1; omega)).trans hit2.out
              rw [iterPos_of hit4, HIP.out]
              omega
        · have hz1 : ((pos : Int) == 0) = false := by rw [beq_eq_false_iff_ne]; omega
          have hn0 : (n == 0) = false := by rw [beq_eq_false_iff_ne]; omega
          have Hn0 := Lib.hid hn0
          clear hn0
          cases hi : isNameRune (rn : Int)
          · have HI := Lib.hid hi
            clear hi
            go_wp2_with (first | (go_at_call 68; refine (bad_any s pos _ _ hps).mono ?_; rintro e w' ⟨rfl, rfl⟩; rw [HBAD.out]) | (go_at_call 70; refine (inName_any _ _ htw2.out hr0 hr1).mono ?_; rintro e w4 ⟨rfl, hb4⟩; have HB4 := Lib.hid hb4; clear hb4; rw [HI.out]))
            go_ret
            exact ⟨ret_bool (by rw [← Hstep.out, Hn0.out, HI.out]; rfl), hb2.trans (HB4.out.mono hsz2)⟩
          · have HI := Lib.hid hi
            clear hi
            go_wp2_with (first | (go_at_call 68; refine (bad_any s pos _ _ hps).mono ?_; rintro e w' ⟨rfl, rfl⟩; rw [HBAD.out]) | (go_at_call 70; refine (inName_any _ _ htw2.out hr0 hr1).mono ?_; rintro e w4 ⟨rfl, hb4⟩; have HB4 := Lib.hid hb4; clear hb4; rw [HI.out]))
            go_roundw
            case rel =>
              have hb5 := hb2.trans (HB4.out.mono hsz2)
              have hit4 := (HB4.out.block w.heap.size (by have := (Array.getElem?_eq_some_iff.1 hit2.out).1; omega)).trans hit2.out
              have hs' := Hstep.out
              rw [Hn0.out, HI.out] at hs'
              exact ⟨pos + (Utf8.decode s pos).2, n + 1, by go_num, by omega, by omega, by omega, hit4, Lib.hid (by simpa using hs'), hb5⟩
            case measure =>
              have hit4 := (HB4.out.block w.heap.size (by have := (Array.getElem?_eq_some_iff.1 hit2.out).1; omega)).trans hit2.out
              rw [iterPos_of hit4, HIP.out]
              omega
      · have HBAD := Lib.hid hbad
        clear hbad
        go_wp2_with (first | (go_at_call 68; refine (bad_any s pos _ _ hps).mono ?_; rintro e w' ⟨rfl, rfl⟩; rw [HBAD.out]))
        go_ret
        have h65 : (rn : Int) = 65533 := by have := HBAD.out; simp only [isBad, Bool.and_eq_true, beq_iff_eq] at this; exact this.1
        exact ⟨ret_bool (by rw [← Hstep.out, h65, name_fffd]; simp), hb2⟩
    · have hnx : ∀ ty, (Instr.next (.pointer (some ⟨w.heap.size, 0, none⟩)) true ty).run Tryd.prog wr = _ := fun ty => Lib.run_next_end_at wr w.heap.size s pos ty hit.out hp
      have hc' := hc.out
      rw [runesAt_nil s pos hp] at hc'
      have Hc := Lib.hid hc'
      clear hc' hc
      by_cases h1 : 1 ≤ n
      · go_wp2
        go_ret
        exact ⟨ret_bool (by rw [← Hc.out]; simp [nameGo, h1]; omega), hb⟩
      · have h1d : decide ((1 : Int) ≤ (n : Int)) = false := decide_eq_false (by omega)
        go_wp2
        go_ret
        exact ⟨ret_bool (by rw [← Hc.out]; simp [nameGo, h1]), hb⟩
end Go.Proofs.YticaocadeeolkaaDoor

namespace Go.Proofs.YticaocadeeolkaaDoor
open Go.RowKit Plain

def inR (lo hi r : Int) : Bool := decide (lo ≤ r) && decide (r ≤ hi)
theorem within_any (r lo hi : Int) (w : World) : Calls Tryd.prog 84 #[.int .i32 r, .int .i32 lo, .int .i32 hi] w fun e w' => e = .returned (.bool (inR lo hi r)) ∧ w = w' := by
  by_cases h : lo ≤ r
  · go_enter Tryd.func84, Tryd.ntmps84
    go_wp2
    go_ret
    exact ⟨ret_bool (by simp [inR, h]), rfl⟩
  · have hd : decide (lo ≤ r) = false := decide_eq_false h
    have hd' : decide (r ≥ lo) = false := decide_eq_false h
    go_enter Tryd.func84, Tryd.ntmps84
    go_wp2
    go_ret
    exact ⟨ret_bool (by simp [inR]; omega), rfl⟩
def refLetterB (r : Int) : Bool :=
  if inR 97 122 r then true else if inR 65 90 r then true else if r == 95 then true
  else if inR 192 591 r then (r != 215 && r != 247)
  else if inR 880 1023 r then (r != 894 && r != 903)
  else if inR 1024 1327 r then !inR 1154 1161 r
  else if inR 19968 40959 r then true else inR 66560 66639 r
theorem refLetterB_eq (r : Int) : refLetterB r = isLetter r := by
  rw [Bool.eq_iff_iff]
  unfold refLetterB isLetter inR
  repeat' split
  all_goals simp only [Bool.and_eq_true, Bool.or_eq_true, decide_eq_true_eq, bne_iff_ne, beq_iff_eq, Bool.not_eq_true', Bool.and_eq_false_iff, decide_eq_false_iff_not, true_iff, ne_eq] at *
  all_goals omega

set_option maxHeartbeats 2000000 in
theorem letter_any (r : Int) (w : World) : Calls Tryd.prog 83 #[.int .i32 r] w fun e w' => e = .returned (.bool (isLetter r)) ∧ w = w' := by
  rw [← refLetterB_eq]
  cases h1 : inR 97 122 r
  · skip
    cases h2 : inR 65 90 r
    · skip
      cases h3 : (r == 95)
      · skip
        cases h4 : inR 192 591 r
        · skip
          cases h5 : inR 880 1023 r
          · skip
            cases h6 : inR 1024 1327 r
            · skip
              cases h7 : inR 19968 40959 r
              · skip
                go_enter Tryd.func83, Tryd.ntmps83
                go_wp2_with (go_at_call 84; refine (within_any _ _ _ _).mono ?_; rintro e w' ⟨rfl, rfl⟩)
                go_ret
                exact ⟨ret_bool (by simp [refLetterB, h1, h2, h3, h4, h5, h6, h7]), rfl⟩
              · skip
                go_enter Tryd.func83, Tryd.ntmps83
                go_wp2_with (go_at_call 84; refine (within_any _ _ _ _).mono ?_; rintro e w' ⟨rfl, rfl⟩)
                go_ret
                exact ⟨ret_bool (by simp [refLetterB, h1, h2, h3, h4, h5, h6, h7]), rfl⟩
            · skip
              go_enter Tryd.func83, Tryd.ntmps83
              go_wp2_with (go_at_call 84; refine (within_any _ _ _ _).mono ?_; rintro e w' ⟨rfl, rfl⟩)
              go_ret
              exact ⟨ret_bool (by simp [refLetterB, h1, h2, h3, h4, h5, h6]), rfl⟩
          · skip
            cases g1 : (r != 894)
            · skip
              go_enter Tryd.func83, Tryd.ntmps83
              go_wp2_with (go_at_call 84; refine (within_any _ _ _ _).mono ?_; rintro e w' ⟨rfl, rfl⟩)
              go_ret
              exact ⟨ret_bool (by simp [refLetterB, h1, h2, h3, h4, h5, g1]), rfl⟩
            · skip
              go_enter Tryd.func83, Tryd.ntmps83
              go_wp2_with (go_at_call 84; refine (within_any _ _ _ _).mono ?_; rintro e w' ⟨rfl, rfl⟩)
              go_ret
              exact ⟨ret_bool (by simp [refLetterB, h1, h2, h3, h4, h5, g1]), rfl⟩
        · skip
          cases g1 : (r != 215)
          · skip
            go_enter Tryd.func83, Tryd.ntmps83
            go_wp2_with (go_at_call 84; refine (within_any _ _ _ _).mono ?_; rintro e w' ⟨rfl, rfl⟩)
            go_ret
            exact ⟨ret_bool (by simp [refLetterB, h1, h2, h3, h4, g1]), rfl⟩
          · skip
            go_enter Tryd.func83, Tryd.ntmps83
            go_wp2_with (go_at_call 84; refine (within_any _ _ _ _).mono ?_; rintro e w' ⟨rfl, rfl⟩)
            go_ret
            exact ⟨ret_bool (by simp [refLetterB, h1, h2, h3, h4, g1]), rfl⟩
      · skip
        go_enter Tryd.func83, Tryd.ntmps83
        go_wp2_with (go_at_call 84; refine (within_any _ _ _ _).mono ?_; rintro e w' ⟨rfl, rfl⟩)
        go_ret
        exact ⟨ret_bool (by simp [refLetterB, h1, h2, h3]), rfl⟩
    · skip
      go_enter Tryd.func83, Tryd.ntmps83
      go_wp2_with (go_at_call 84; refine (within_any _ _ _ _).mono ?_; rintro e w' ⟨rfl, rfl⟩)
      go_ret
      exact ⟨ret_bool (by simp [refLetterB, h1, h2]), rfl⟩
  · skip
    go_enter Tryd.func83, Tryd.ntmps83
    go_wp2_with (go_at_call 84; refine (within_any _ _ _ _).mono ?_; rintro e w' ⟨rfl, rfl⟩)
    go_ret
    exact ⟨ret_bool (by simp [refLetterB, h1]), rfl⟩

theorem zero_inR (r : Int) : zeroOf r = if inR 48 57 r then some 48 else if inR 1632 1641 r then some 1632 else if inR 65296 65305 r then some 65296 else none := by
  unfold zeroOf inR
  simp only [Bool.and_eq_true, decide_eq_true_eq]
def digitOf (r : Int) : Int := match zeroOf r with | some z => r - z | none => -1

set_option maxHeartbeats 2000000 in
theorem digit_any (r : Int) (w : World) (h0 : -2147483648 ≤ r) (hm : r ≤ 2147483647) : Calls Tryd.prog 82 #[.int .i32 r] w fun e w' => e = .returned (.tuple #[.int .i64 (digitOf r), .int .i32 ((zeroOf r).getD 0)]) ∧ w = w' := by
  cases h0 : inR 48 57 r
  · skip
    cases h1 : inR 1632 1641 r
    · skip
      cases h2 : inR 65296 65305 r
      · skip
        have hz : Hid (zeroOf r = none) := Lib.hid (by rw [zero_inR]; simp [h0, h1, h2])
        go_enter Tryd.func82, Tryd.ntmps82
        go_wp2_with (go_at_call 84; refine (within_any _ _ _ _).mono ?_; rintro e w' ⟨rfl, rfl⟩)
        go_ret2
        exact ⟨by rw [digitOf, hz.out]; rfl, rfl⟩
      · skip
        have hlo : 65296 ≤ r := by simp [inR] at h2; omega
        have hhi : r ≤ 65305 := by simp [inR] at h2; omega
        have hz : Hid (zeroOf r = some 65296) := Lib.hid (by rw [zero_inR]; simp [h0, h1, h2])
        go_enter Tryd.func82, Tryd.ntmps82
        go_wp2_with (go_at_call 84; refine (within_any _ _ _ _).mono ?_; rintro e w' ⟨rfl, rfl⟩)
        go_ret2
        exact ⟨by rw [digitOf, hz.out]; rfl, rfl⟩
    · skip
      have hlo : 1632 ≤ r := by simp [inR] at h1; omega
      have hhi : r ≤ 1641 := by simp [inR] at h1; omega
      have hz : Hid (zeroOf r = some 1632) := Lib.hid (by rw [zero_inR]; simp [h0, h1])
      go_enter Tryd.func82, Tryd.ntmps82
      go_wp2_with (go_at_call 84; refine (within_any _ _ _ _).mono ?_; rintro e w' ⟨rfl, rfl⟩)
      go_ret2
      exact ⟨by rw [digitOf, hz.out]; rfl, rfl⟩
  · skip
    have hlo : 48 ≤ r := by simp [inR] at h0; omega
    have hhi : r ≤ 57 := by simp [inR] at h0; omega
    have hz : Hid (zeroOf r = some 48) := Lib.hid (by rw [zero_inR]; simp [h0])
    go_enter Tryd.func82, Tryd.ntmps82
    go_wp2_with (go_at_call 84; refine (within_any _ _ _ _).mono ?_; rintro e w' ⟨rfl, rfl⟩)
    go_ret2
    exact ⟨by rw [digitOf, hz.out]; rfl, rfl⟩
end Go.Proofs.YticaocadeeolkaaDoor

namespace Go.Proofs.YticaocadeeolkaaDoor
open Go.RowKit Plain

theorem digit_neg {r : Int} (h : (zeroOf r).isSome = false) : digitOf r = -1 := by
  unfold digitOf
  cases hz : zeroOf r with
  | none => rfl
  | some z => rw [hz] at h; cases h
theorem digit_pos {r : Int} (h : (zeroOf r).isSome = true) : 0 ≤ digitOf r := by
  unfold digitOf
  cases hz : zeroOf r with
  | none => rw [hz] at h; cases h
  | some z =>
    unfold zeroOf at hz
    split at hz
    · cases hz; dsimp only; omega
    · split at hz
      · cases hz; dsimp only; omega
      · split at hz
        · cases hz; dsimp only; omega
        · cases hz
theorem letter_b (r : Int) (w : World) (b : Bool) (h : isLetter r = b) : Calls Tryd.prog 83 #[.int .i32 r] w fun e w' => e = .returned (.bool b) ∧ w = w' := by subst h; exact letter_any r w
theorem within_b (r lo hi : Int) (w : World) (b : Bool) (h : inR lo hi r = b) : Calls Tryd.prog 84 #[.int .i32 r, .int .i32 lo, .int .i32 hi] w fun e w' => e = .returned (.bool b) ∧ w = w' := by subst h; exact within_any r lo hi w
theorem refKind_1 {r : Int} (h : isLetter r = true) : (1 : Int) = refKind r := by simp [refKind, h]
theorem refKind_2 {r : Int} (h : isLetter r = false) (h2 : (zeroOf r).isSome = true) : (2 : Int) = refKind r := by simp [refKind, h, h2]
theorem refKind_3 {r : Int} (h : isLetter r = false) (h2 : (zeroOf r).isSome = false) (h3 : blankList.any (· == r) = true) : (3 : Int) = refKind r := by simp [refKind, h, h2, h3]
theorem refKind_5 {r : Int} (h : isLetter r = false) (h2 : (zeroOf r).isSome = false) (h3 : blankList.any (· == r) = false) (h4 : inR 8320 8329 r = true) : (5 : Int) = refKind r := by
  have : 8320 ≤ r ∧ r ≤ 8329 := by simpa [inR] using h4
  simp [refKind, h, h2, h3, this]
theorem refKind_4 {r : Int} (h : isLetter r = false) (h2 : (zeroOf r).isSome = false) (h3 : blankList.any (· == r) = false) (h4 : inR 8320 8329 r = false) (h5 : hasRune signs r = true) : (4 : Int) = refKind r := by
  have : ¬ (8320 ≤ r ∧ r ≤ 8329) := by intro hc; simp [inR, hc] at h4
  rw [has_signs] at h5
  simp [refKind, h, h2, h3, this, h5]
theorem refKind_0 {r : Int} (h : isLetter r = false) (h2 : (zeroOf r).isSome = false) (h3 : blankList.any (· == r) = false) (h4 : inR 8320 8329 r = false) (h5 : hasRune signs r = false) : (0 : Int) = refKind r := by
  have : ¬ (8320 ≤ r ∧ r ≤ 8329) := by intro hc; simp [inR, hc] at h4
  rw [has_signs] at h5
  simp [refKind, h, h2, h3, this, h5]
theorem blank_no {r : Int} (c1 : (r == 32) = false) (c2 : (r == 9) = false) (c3 : (r == 10) = false) (c4 : (r == 13) = false) (c5 : (r == 160) = false) (c6 : (r == 12288) = false) : blankList.any (· == r) = false := by
  simp at c1 c2 c3 c4 c5 c6
  simp [blankList]; omega
theorem blank_yes {r : Int} (h : r = 32 ∨ r = 9 ∨ r = 10 ∨ r = 13 ∨ r = 160 ∨ r = 12288) : blankList.any (· == r) = true := by
  simp [blankList]; omega

set_option maxHeartbeats 4000000 in
set_option maxRecDepth 100000 in
theorem rkind_any (r : Int) (w : World) (h0 : -2147483648 ≤ r) (hm : r ≤ 2147483647) : Calls Tryd.prog 74 #[.int .i32 r] w fun e w' => e = .returned (.int .i64 (refKind r)) ∧ Below w.heap.size w w' := by
  cases hl : isLetter r
  · have HL := Lib.hid hl
    clear hl
    cases hz : (zeroOf r).isSome
    · have HZ := Lib.hid hz
      have hd : digitOf r < 0 := by have := digit_neg hz; omega
      clear hz
      cases c0 : (r == 32)
      · skip
        cases c1 : (r == 9)
        · skip
          cases c2 : (r == 10)
          · skip
            cases c3 : (r == 13)
            · skip
              cases c4 : (r == 160)
              · skip
                cases c5 : (r == 12288)
                · skip
                  have HB := Lib.hid (blank_no c0 c1 c2 c3 c4 c5)
                  cases hi : inR 8320 8329 r
                  · have HI := Lib.hid hi
                    clear hi
                    go_enter Tryd.func74, Tryd.ntmps74
                    go_wp2_with (first | (go_at_call 82; refine (digit_any r _ h0 hm).mono ?_; rintro e w' ⟨rfl, rfl⟩) | (go_at_call 83; refine (letter_b r _ _ HL.out).mono ?_; rintro e w' ⟨rfl, rfl⟩) | (go_at_call 84; refine (within_b r _ _ _ _ HI.out).mono ?_; rintro e w' ⟨rfl, rfl⟩))
                    go_loopw [7] (fun _ wr => ∃ (pos : Nat), wr = w.iter ⟨#[40, 41, 43, 45, 42, 47, 37, 38, 124, 94, 126, 60, 62, 61, 63, 58, 59, 44, 64, 194, 172, 194, 183, 195, 151, 195, 183, 226, 136, 146, 226, 136, 167, 226, 136, 168, 226, 137, 161, 226, 137, 170, 226, 137, 171, 226, 138, 149]⟩ pos ∧ Hid ((runesAt signs pos).any (fun p => (p.2 : Int) == r) = hasRune signs r)) (fun _ w' => signs.size - w'.iterPos w.heap.size)
                    case atStart => exact ⟨0, rfl, rfl⟩
                    case round =>
                      obtain ⟨pos, rfl, hc⟩ := hrel
                      by_cases hp : pos < signs.size
                      · have hnx : ∀ ty, (Instr.next (.pointer (some ⟨w.heap.size, 0, none⟩)) true ty).run Tryd.prog (w.iter ⟨#[40, 41, 43, 45, 42, 47, 37, 38, 124, 94, 126, 60, 62, 61, 63, 58, 59, 44, 64, 194, 172, 194, 183, 195, 151, 195, 183, 226, 136, 146, 226, 136, 167, 226, 136, 168, 226, 137, 161, 226, 137, 170, 226, 137, 171, 226, 138, 149]⟩ pos) = .ok (.tuple #[.bool true, .int .i64 pos, .int .i32 (Utf8.decode signs pos).1]) (w.iter ⟨#[40, 41, 43, 45, 42, 47, 37, 38, 124, 94, 126, 60, 62, 61, 63, 58, 59, 44, 64, 194, 172, 194, 183, 195, 151, 195, 183, 226, 136, 146, 226, 136, 167, 226, 136, 168, 226, 137, 161, 226, 137, 170, 226, 137, 171, 226, 138, 149]⟩ (pos + (Utf8.decode signs pos).2)) := fun ty => run_next_any w signs pos ty hp
                        cases hr : (((Utf8.decode signs pos).1 : Int) == r)
                        · go_wp2
                          have hwd := Plain.width_pos signs pos
                          go_roundw
                          case rel =>
                            refine ⟨pos + (Utf8.decode signs pos).2, rfl, ?_⟩
                            have hc' := hc.out
                            rw [runesAt_cons signs pos hp, List.any_cons] at hc'
                            simp only [hr, Bool.false_or] at hc'
                            exact hc'
                          case measure =>
                            have e1 : (w.iter signs (pos + (Utf8.decode signs pos).2)).iterPos w.heap.size = pos + (Utf8.decode signs pos).2 := World.iterPos_iter _ _ _
                            have e2 : (w.iter signs pos).iterPos w.heap.size = pos := World.iterPos_iter _ _ _
                            show signs.size - (w.iter signs (pos + (Utf8.decode signs pos).2)).iterPos w.heap.size < signs.size - (w.iter signs pos).iterPos w.heap.size
                            rw [e1, e2]
                            omega
                        · go_wp2
                          go_ret
                          have hc' := hc.out
                          rw [runesAt_cons signs pos hp, List.any_cons] at hc'
                          simp only [hr, Bool.true_or] at hc'
                          exact ⟨ret_int (refKind_4 HL.out HZ.out HB.out HI.out hc'.symm), (Below.refl _ _).alloc (Nat.le_refl _) _⟩
                      · have hnx : ∀ ty, (Instr.next (.pointer (some ⟨w.heap.size, 0, none⟩)) true ty).run Tryd.prog (w.iter ⟨#[40, 41, 43, 45, 42, 47, 37, 38, 124, 94, 126, 60, 62, 61, 63, 58, 59, 44, 64, 194, 172, 194, 183, 195, 151, 195, 183, 226, 136, 146, 226, 136, 167, 226, 136, 168, 226, 137, 161, 226, 137, 170, 226, 137, 171, 226, 138, 149]⟩ pos) = .ok (.tuple #[.bool false]) (w.iter ⟨#[40, 41, 43, 45, 42, 47, 37, 38, 124, 94, 126, 60, 62, 61, 63, 58, 59, 44, 64, 194, 172, 194, 183, 195, 151, 195, 183, 226, 136, 146, 226, 136, 167, 226, 136, 168, 226, 137, 161, 226, 137, 170, 226, 137, 171, 226, 138, 149]⟩ pos) := fun ty => run_next_end w signs pos ty hp
                        go_wp2
                        go_ret
                        have hc' := hc.out
                        rw [runesAt_nil signs pos hp] at hc'
                        exact ⟨ret_int (refKind_0 HL.out HZ.out HB.out HI.out hc'.symm), (Below.refl _ _).alloc (Nat.le_refl _) _⟩
                  · have HI := Lib.hid hi
                    clear hi
                    go_enter Tryd.func74, Tryd.ntmps74
                    go_wp2_with (first | (go_at_call 82; refine (digit_any r _ h0 hm).mono ?_; rintro e w' ⟨rfl, rfl⟩) | (go_at_call 83; refine (letter_b r _ _ HL.out).mono ?_; rintro e w' ⟨rfl, rfl⟩) | (go_at_call 84; refine (within_b r _ _ _ _ HI.out).mono ?_; rintro e w' ⟨rfl, rfl⟩))
                    go_ret
                    exact ⟨ret_int (refKind_5 HL.out HZ.out HB.out HI.out), Below.refl _ _⟩
                · skip
                  have HB := Lib.hid (blank_yes (r := r) (by have := beq_iff_eq.1 c5; omega))
                  go_enter Tryd.func74, Tryd.ntmps74
                  go_wp2_with (first | (go_at_call 82; refine (digit_any r _ h0 hm).mono ?_; rintro e w' ⟨rfl, rfl⟩) | (go_at_call 83; refine (letter_b r _ _ HL.out).mono ?_; rintro e w' ⟨rfl, rfl⟩))
                  go_ret
                  exact ⟨ret_int (refKind_3 HL.out HZ.out HB.out), Below.refl _ _⟩
              · skip
                have HB := Lib.hid (blank_yes (r := r) (by have := beq_iff_eq.1 c4; omega))
                go_enter Tryd.func74, Tryd.ntmps74
                go_wp2_with (first | (go_at_call 82; refine (digit_any r _ h0 hm).mono ?_; rintro e w' ⟨rfl, rfl⟩) | (go_at_call 83; refine (letter_b r _ _ HL.out).mono ?_; rintro e w' ⟨rfl, rfl⟩))
                go_ret
                exact ⟨ret_int (refKind_3 HL.out HZ.out HB.out), Below.refl _ _⟩
            · skip
              have HB := Lib.hid (blank_yes (r := r) (by have := beq_iff_eq.1 c3; omega))
              go_enter Tryd.func74, Tryd.ntmps74
              go_wp2_with (first | (go_at_call 82; refine (digit_any r _ h0 hm).mono ?_; rintro e w' ⟨rfl, rfl⟩) | (go_at_call 83; refine (letter_b r _ _ HL.out).mono ?_; rintro e w' ⟨rfl, rfl⟩))
              go_ret
              exact ⟨ret_int (refKind_3 HL.out HZ.out HB.out), Below.refl _ _⟩
          · skip
            have HB := Lib.hid (blank_yes (r := r) (by have := beq_iff_eq.1 c2; omega))
            go_enter Tryd.func74, Tryd.ntmps74
            go_wp2_with (first | (go_at_call 82; refine (digit_any r _ h0 hm).mono ?_; rintro e w' ⟨rfl, rfl⟩) | (go_at_call 83; refine (letter_b r _ _ HL.out).mono ?_; rintro e w' ⟨rfl, rfl⟩))
            go_ret
            exact ⟨ret_int (refKind_3 HL.out HZ.out HB.out), Below.refl _ _⟩
        · skip
          have HB := Lib.hid (blank_yes (r := r) (by have := beq_iff_eq.1 c1; omega))
          go_enter Tryd.func74, Tryd.ntmps74
          go_wp2_with (first | (go_at_call 82; refine (digit_any r _ h0 hm).mono ?_; rintro e w' ⟨rfl, rfl⟩) | (go_at_call 83; refine (letter_b r _ _ HL.out).mono ?_; rintro e w' ⟨rfl, rfl⟩))
          go_ret
          exact ⟨ret_int (refKind_3 HL.out HZ.out HB.out), Below.refl _ _⟩
      · skip
        have HB := Lib.hid (blank_yes (r := r) (by have := beq_iff_eq.1 c0; omega))
        go_enter Tryd.func74, Tryd.ntmps74
        go_wp2_with (first | (go_at_call 82; refine (digit_any r _ h0 hm).mono ?_; rintro e w' ⟨rfl, rfl⟩) | (go_at_call 83; refine (letter_b r _ _ HL.out).mono ?_; rintro e w' ⟨rfl, rfl⟩))
        go_ret
        exact ⟨ret_int (refKind_3 HL.out HZ.out HB.out), Below.refl _ _⟩
    · have HZ := Lib.hid hz
      have hd : 0 ≤ digitOf r := digit_pos hz
      clear hz
      go_enter Tryd.func74, Tryd.ntmps74
      go_wp2_with (first | (go_at_call 82; refine (digit_any r _ h0 hm).mono ?_; rintro e w' ⟨rfl, rfl⟩) | (go_at_call 83; refine (letter_b r _ _ HL.out).mono ?_; rintro e w' ⟨rfl, rfl⟩))
      go_ret
      exact ⟨ret_int (refKind_2 HL.out HZ.out), Below.refl _ _⟩
  · have HL := Lib.hid hl
    clear hl
    go_enter Tryd.func74, Tryd.ntmps74
    go_wp2_with (first | (go_at_call 82; refine (digit_any r _ h0 hm).mono ?_; rintro e w' ⟨rfl, rfl⟩) | (go_at_call 83; refine (letter_b r _ _ HL.out).mono ?_; rintro e w' ⟨rfl, rfl⟩))
    go_ret
    exact ⟨ret_int (refKind_1 HL.out), Below.refl _ _⟩

end Go.Proofs.YticaocadeeolkaaDoor
