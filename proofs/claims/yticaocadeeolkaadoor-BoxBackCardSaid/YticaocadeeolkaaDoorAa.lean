/-
  PLAIN: the runes of a text, kinds of characters, names: both sides' tables are one. No program in it.
-/
import GoSem.Core.Utf8
import Derived.Laws.RangeAny
namespace Go.Proofs.YticaocadeeolkaaDoor.Plain
open Go

/-! ### the runes of a text -/
theorem width_pos (s : ByteArray) (i : Nat) : 1 ≤ (Utf8.decode s i).2 := by
  simp only [Utf8.decode]
  repeat' split
  all_goals simp

theorem width_le (s : ByteArray) (i : Nat) (h : i < s.size) : i + (Utf8.decode s i).2 ≤ s.size := by
  simp only [Utf8.decode]
  repeat' split
  all_goals simp_all
  all_goals omega

/-- The runes from a place on, each with its place. -/
def runesF (s : ByteArray) : Nat → Nat → List (Nat × Nat)
  | 0, _ => []
  | f + 1, i => if i < s.size then (i, (Utf8.decode s i).1) :: runesF s f (i + (Utf8.decode s i).2) else []
theorem runesF_fuel (s : ByteArray) : ∀ f g i, s.size - i ≤ f → s.size - i ≤ g → runesF s f i = runesF s g i := by
  intro f
  induction f with
  | zero =>
    intro g i hf _
    have h : ¬ i < s.size := by omega
    cases g <;> simp [runesF, h]
  | succ f ih =>
    intro g i hf hg
    by_cases h : i < s.size
    · have hw := width_pos s i
      cases g with
      | zero => omega
      | succ g =>
        simp only [runesF, h, if_true]
        rw [ih g _ (by omega) (by omega)]
    · cases g <;> simp [runesF, h]
def runesAt (s : ByteArray) (i : Nat) : List (Nat × Nat) := runesF s s.size i
theorem runesAt_cons (s : ByteArray) (i : Nat) (h : i < s.size) : runesAt s i = (i, (Utf8.decode s i).1) :: runesAt s (i + (Utf8.decode s i).2) := by
  have hw := width_pos s i
  unfold runesAt
  rw [runesF_fuel s s.size (s.size + 1) i (by omega) (by omega)]
  simp only [runesF, h, if_true]
theorem runesAt_nil (s : ByteArray) (i : Nat) (h : ¬ i < s.size) : runesAt s i = [] := by
  unfold runesAt
  cases hs : s.size with
  | zero => rfl
  | succ n => simp [runesF, h]

theorem rune_valid (s : ByteArray) (i : Nat) : Utf8.valid ((Utf8.decode s i).1 : Int) = true := by
  have hb : ∀ k, (s.get! (i + k)).toNat < 256 := fun k => (s.get! (i + k)).toNat_lt
  have h0 := hb 0; have h1 := hb 1
  have he : Utf8.valid ((Utf8.runeError : Nat) : Int) = true := by decide
  have hs : ∀ n : Nat, n < 55296 → Utf8.valid (n : Int) = true := fun n hn => by
    unfold Utf8.valid
    have : decide ((n : Int) < 55296) = true := decide_eq_true (by omega)
    simp [this]
  unfold Utf8.decode
  dsimp only
  split
  · exact hs _ (by omega)
  · split
    · split
      · exact hs _ (by dsimp only; omega)
      · exact he
    · split
      · split
        · rename_i h; simp only [Bool.and_eq_true] at h; exact h.2
        · exact he
      · split
        · split
          · rename_i h; simp only [Bool.and_eq_true] at h; exact h.2
          · exact he
        · exact he

/-! ### kinds -/
def isLetter (r : Int) : Bool :=
  (97 ≤ r && r ≤ 122) || (65 ≤ r && r ≤ 90) || (95 ≤ r && r ≤ 95) || (192 ≤ r && r ≤ 214) || (216 ≤ r && r ≤ 246) || (248 ≤ r && r ≤ 591) || (880 ≤ r && r ≤ 893) || (895 ≤ r && r ≤ 902) || (904 ≤ r && r ≤ 1023) || (1024 ≤ r && r ≤ 1153) || (1162 ≤ r && r ≤ 1327) || (19968 ≤ r && r ≤ 40959) || (66560 ≤ r && r ≤ 66639)
def zeroOf (r : Int) : Option Int :=
  if 48 ≤ r ∧ r ≤ 57 then some 48 else if 1632 ≤ r ∧ r ≤ 1641 then some 1632 else if 65296 ≤ r ∧ r ≤ 65305 then some 65296 else none
def blankList : List Int := [32, 9, 10, 13, 160, 12288]
def signList : List Int := [40, 41, 43, 45, 42, 47, 37, 38, 124, 94, 126, 60, 62, 61, 63, 58, 59, 44, 64, 172, 183, 215, 247, 8722, 8743, 8744, 8801, 8810, 8811, 8853]
def blanks : ByteArray := ⟨#[32, 9, 10, 13, 194, 160, 227, 128, 128]⟩
def signs : ByteArray := ⟨#[40, 41, 43, 45, 42, 47, 37, 38, 124, 94, 126, 60, 62, 61, 63, 58, 59, 44, 64, 194, 172, 194, 183, 195, 151, 195, 183, 226, 136, 146, 226, 136, 167, 226, 136, 168, 226, 137, 161, 226, 137, 170, 226, 137, 171, 226, 138, 149]⟩
def hasRune (s : ByteArray) (r : Int) : Bool := (runesAt s 0).any fun p => (p.2 : Int) == r
theorem has_blanks (r : Int) : hasRune blanks r = blankList.any (· == r) := by
  have h : (runesAt blanks 0).map (fun p => (p.2 : Int)) = blankList := by decide +kernel
  rw [← h, List.any_map]; rfl
theorem has_signs (r : Int) : hasRune signs r = signList.any (· == r) := by
  have h : (runesAt signs 0).map (fun p => (p.2 : Int)) = signList := by decide +kernel
  rw [← h, List.any_map]; rfl
def okRune (r : Int) : Bool := (0 ≤ r && r < 55296) || (57344 ≤ r && r ≤ 1114111)
def kindOf (r : Int) : Int :=
  if isLetter r then 1 else if (zeroOf r).isSome then 2 else if !okRune r || r == 65533 then 0
  else if blankList.any (· == r) then 3 else if signList.any (· == r) then 4 else if 8320 ≤ r ∧ r ≤ 8329 then 5 else 0
theorem zeroOf_a {r : Int} (h : 48 ≤ r) (h' : r ≤ 57) : zeroOf r = some 48 := by unfold zeroOf; rw [if_pos ⟨h, h'⟩]
theorem zeroOf_b {r : Int} (h : 1632 ≤ r) (h' : r ≤ 1641) : zeroOf r = some 1632 := by unfold zeroOf; rw [if_neg (by omega), if_pos ⟨h, h'⟩]
theorem zeroOf_c {r : Int} (h : 65296 ≤ r) (h' : r ≤ 65305) : zeroOf r = some 65296 := by unfold zeroOf; rw [if_neg (by omega), if_neg (by omega), if_pos ⟨h, h'⟩]
theorem zeroOf_no {r : Int} (h : r < 48 ∨ 57 < r) (h1 : r < 1632 ∨ 1641 < r) (h2 : r < 65296 ∨ 65305 < r) : zeroOf r = none := by unfold zeroOf; rw [if_neg (by omega), if_neg (by omega), if_neg (by omega)]
def isNameRune (r : Int) : Bool := kindOf r == 1 || kindOf r == 2 || kindOf r == 5
theorem kind_one (r : Int) : (kindOf r == 1) = isLetter r := by
  unfold kindOf
  cases h : isLetter r
  · simp only [Bool.false_eq_true, if_false]
    repeat' split
    all_goals rfl
  · simp
theorem kind_two (r : Int) : (kindOf r == 2) = (zeroOf r).isSome := by
  unfold kindOf
  cases h : isLetter r
  · simp only [Bool.false_eq_true, if_false]
    cases h2 : (zeroOf r).isSome
    · simp only [Bool.false_eq_true, if_false]
      repeat' split
      all_goals rfl
    · simp
  · simp only [if_true]
    have : zeroOf r = none := by
      unfold zeroOf
      simp [isLetter] at h
      rw [if_neg (by omega), if_neg (by omega), if_neg (by omega)]
    rw [this]; rfl
theorem kind_five (r : Int) : (kindOf r == 5) = decide (8320 ≤ r ∧ r ≤ 8329) := by
  by_cases h : 8320 ≤ r ∧ r ≤ 8329
  · have h1 : isLetter r = false := by simp [isLetter]; omega
    have h2 : zeroOf r = none := by unfold zeroOf; rw [if_neg (by omega), if_neg (by omega), if_neg (by omega)]
    have h3 : (!okRune r || r == 65533) = false := by simp [okRune]; omega
    have h4 : (blankList.any (· == r)) = false := by simp [blankList]; omega
    have h5 : (signList.any (· == r)) = false := by simp [signList]; omega
    simp [kindOf, h1, h2, h3, h4, h5, h]
  · unfold kindOf
    rw [decide_eq_false h]
    repeat' split
    all_goals rfl

/-! ### the reference's kinds -/
def refLetter (r : Int) : Bool :=
  if (97 ≤ r ∧ r ≤ 122) ∨ (65 ≤ r ∧ r ≤ 90) ∨ r = 95 then true
  else if 192 ≤ r ∧ r ≤ 591 then decide (r ≠ 215 ∧ r ≠ 247)
  else if 880 ≤ r ∧ r ≤ 1023 then decide (r ≠ 894 ∧ r ≠ 903)
  else if 1024 ≤ r ∧ r ≤ 1327 then decide ¬ (1154 ≤ r ∧ r ≤ 1161)
  else decide ((19968 ≤ r ∧ r ≤ 40959) ∨ (66560 ≤ r ∧ r ≤ 66639))
theorem refLetter_eq (r : Int) : refLetter r = isLetter r := by
  rw [Bool.eq_iff_iff]
  unfold refLetter isLetter
  simp only [Bool.or_eq_true, Bool.and_eq_true, decide_eq_true_eq]
  repeat' split
  all_goals simp
  all_goals omega
def refKind (r : Int) : Int :=
  if isLetter r then 1 else if (zeroOf r).isSome then 2 else if blankList.any (· == r) then 3 else if 8320 ≤ r ∧ r ≤ 8329 then 5 else if signList.any (· == r) then 4 else 0
theorem refKind_eq (r : Int) (_h : r ≠ 65533) (_h1 : okRune r = true) : refKind r = kindOf r := by
  by_cases h5 : 8320 ≤ r ∧ r ≤ 8329
  · have e := kind_five r
    rw [decide_eq_true h5] at e
    have e5 : kindOf r = 5 := by simpa using e
    have h1 : isLetter r = false := by simp [isLetter]; omega
    have h2 : zeroOf r = none := by unfold zeroOf; rw [if_neg (by omega), if_neg (by omega), if_neg (by omega)]
    have h4 : (blankList.any (· == r)) = false := by simp [blankList]; omega
    rw [e5]; simp [refKind, h1, h2, h4, h5]
  · have h3 : (!okRune r || r == 65533) = false := by simp [_h, _h1]
    simp only [refKind, kindOf, h3, h5, if_false, Bool.false_eq_true]

/-! ### names -/
def nameGo : List (Nat × Nat) → Nat → Bool
  | [], n => decide (1 ≤ n) && decide (n ≤ 16)
  | (_, r) :: l, n => if (n == 0 && !isLetter (r : Int)) || !isNameRune (r : Int) then false else nameGo l (n + 1)
def isName (s : ByteArray) : Bool := nameGo (runesAt s 0) 0
theorem name_fffd : isNameRune 65533 = false := by decide +kernel
theorem name_minus : isNameRune (-1) = false := by decide +kernel
theorem letter_minus : isLetter (-1) = false := by decide +kernel
end Go.Proofs.YticaocadeeolkaaDoor.Plain
