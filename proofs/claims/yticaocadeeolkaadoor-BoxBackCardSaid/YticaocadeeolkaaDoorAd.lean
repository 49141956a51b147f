/-
  THE WALKS of the reference's package of runes: within, Digit, letter, Kind, behind, each for every argument. (Laid by gen_ad.py.)
-/
import Derived.Test.YticaocadeeolkaaDoorAc
namespace Go.Proofs.YticaocadeeolkaaDoor
open Go.RowKit Plain

def inR (lo hi r : Int) : Bool := decide (lo ≤ r) && decide (r ≤ hi)
theorem within_any (r lo hi : Int) (w : World) : Calls Tryd.prog 84 #[.int .i32 r, .int .i32 lo, .int .i32 hi] w fun e w' => e = .returned (.bool (inR lo hi r)) ∧ w = w' := by
  by_cases h : lo ≤ r
  · go_enter Tryd.func84, Tryd.ntmps84
    go_wp2
    go_ret
    exact ⟨ret_bool (by simp [inR, h]), rfl⟩
  · have hd : decide (lo ≤ r) = false := decide_eq_false h
    have hd' : decide (r ≥ lo) = false := decide_eq_false h
    go_enter Tryd.func84, Tryd.ntmps84
    go_wp2
    go_ret
    exact ⟨ret_bool (by simp [inR]; omega), rfl⟩
def refLetterB (r : Int) : Bool :=
  if inR 97 122 r then true else if inR 65 90 r then true else if r == 95 then true
  else if inR 192 591 r then (r != 215 && r != 247)
  else if inR 880 1023 r then (r != 894 && r != 903)
  else if inR 1024 1327 r then !inR 1154 1161 r
  else if inR 19968 40959 r then true else inR 66560 66639 r
theorem refLetterB_eq (r : Int) : refLetterB r = isLetter r := by
  rw [Bool.eq_iff_iff]
  unfold refLetterB isLetter inR
  repeat' split
  all_goals simp only [Bool.and_eq_true, Bool.or_eq_true, decide_eq_true_eq, bne_iff_ne, beq_iff_eq, Bool.not_eq_true', Bool.and_eq_false_iff, decide_eq_false_iff_not, true_iff, ne_eq] at *
  all_goals omega

set_option maxHeartbeats 2000000 in
theorem letter_any (r : Int) (w : World) : Calls Tryd.prog 83 #[.int .i32 r] w fun e w' => e = .returned (.bool (isLetter r)) ∧ w = w' := by
  rw [← refLetterB_eq]
  cases h1 : inR 97 122 r
  · skip
    cases h2 : inR 65 90 r
    · skip
      cases h3 : (r == 95)
      · skip
        cases h4 : inR 192 591 r
        · skip
          cases h5 : inR 880 1023 r
          · skip
            cases h6 : inR 1024 1327 r
            · skip
              cases h7 : inR 19968 40959 r
              · skip
                go_enter Tryd.func83, Tryd.ntmps83
                go_wp2_with (go_at_call 84; refine (within_any _ _ _ _).mono ?_; rintro e w' ⟨rfl, rfl⟩)
                go_ret
                exact ⟨ret_bool (by simp [refLetterB, h1, h2, h3, h4, h5, h6, h7]), rfl⟩
              · skip
                go_enter Tryd.func83, Tryd.ntmps83
                go_wp2_with (go_at_call 84; refine (within_any _ _ _ _).mono ?_; rintro e w' ⟨rfl, rfl⟩)
                go_ret
                exact ⟨ret_bool (by simp [refLetterB, h1, h2, h3, h4, h5, h6, h7]), rfl⟩
            · skip
              go_enter Tryd.func83, Tryd.ntmps83
              go_wp2_with (go_at_call 84; refine (within_any _ _ _ _).mono ?_; rintro e w' ⟨rfl, rfl⟩)
              go_ret
              exact ⟨ret_bool (by simp [refLetterB, h1, h2, h3, h4, h5, h6]), rfl⟩
          · skip
            cases g1 : (r != 894)
            · skip
              go_enter Tryd.func83, Tryd.ntmps83
              go_wp2_with (go_at_call 84; refine (within_any _ _ _ _).mono ?_; rintro e w' ⟨rfl, rfl⟩)
              go_ret
              exact ⟨ret_bool (by simp [refLetterB, h1, h2, h3, h4, h5, g1]), rfl⟩
            · skip
              go_enter Tryd.func83, Tryd.ntmps83
              go_wp2_with (go_at_call 84; refine (within_any _ _ _ _).mono ?_; rintro e w' ⟨rfl, rfl⟩)
              go_ret
              exact ⟨ret_bool (by simp [refLetterB, h1, h2, h3, h4, h5, g1]), rfl⟩
        · skip
          cases g1 : (r != 215)
          · skip
            go_enter Tryd.func83, Tryd.ntmps83
            go_wp2_with (go_at_call 84; refine (within_any _ _ _ _).mono ?_; rintro e w' ⟨rfl, rfl⟩)
            go_ret
            exact ⟨ret_bool (by simp [refLetterB, h1, h2, h3, h4, g1]), rfl⟩
          · skip
            go_enter Tryd.func83, Tryd.ntmps83
            go_wp2_with (go_at_call 84; refine (within_any _ _ _ _).mono ?_; rintro e w' ⟨rfl, rfl⟩)
            go_ret
            exact ⟨ret_bool (by simp [refLetterB, h1, h2, h3, h4, g1]), rfl⟩
      · skip
        go_enter Tryd.func83, Tryd.ntmps83
        go_wp2_with (go_at_call 84; refine (within_any _ _ _ _).mono ?_; rintro e w' ⟨rfl, rfl⟩)
        go_ret
        exact ⟨ret_bool (by simp [refLetterB, h1, h2, h3]), rfl⟩
    · skip
      go_enter Tryd.func83, Tryd.ntmps83
      go_wp2_with (go_at_call 84; refine (within_any _ _ _ _).mono ?_; rintro e w' ⟨rfl, rfl⟩)
      go_ret
      exact ⟨ret_bool (by simp [refLetterB, h1, h2]), rfl⟩
  · skip
    go_enter Tryd.func83, Tryd.ntmps83
    go_wp2_with (go_at_call 84; refine (within_any _ _ _ _).mono ?_; rintro e w' ⟨rfl, rfl⟩)
    go_ret
    exact ⟨ret_bool (by simp [refLetterB, h1]), rfl⟩

theorem zero_inR (r : Int) : zeroOf r = if inR 48 57 r then some 48 else if inR 1632 1641 r then some 1632 else if inR 65296 65305 r then some 65296 else none := by
  unfold zeroOf inR
  simp only [Bool.and_eq_true, decide_eq_true_eq]
def digitOf (r : Int) : Int := match zeroOf r with | some z => r - z | none => -1

set_option maxHeartbeats 2000000 in
theorem digit_any (r : Int) (w : World) (h0 : -2147483648 ≤ r) (hm : r ≤ 2147483647) : Calls Tryd.prog 82 #[.int .i32 r] w fun e w' => e = .returned (.tuple #[.int .i64 (digitOf r), .int .i32 ((zeroOf r).getD 0)]) ∧ w = w' := by
  cases h0 : inR 48 57 r
  · skip
    cases h1 : inR 1632 1641 r
    · skip
      cases h2 : inR 65296 65305 r
      · skip
        have hz : Hid (zeroOf r = none) := Lib.hid (by rw [zero_inR]; simp [h0, h1, h2])
        go_enter Tryd.func82, Tryd.ntmps82
        go_wp2_with (go_at_call 84; refine (within_any _ _ _ _).mono ?_; rintro e w' ⟨rfl, rfl⟩)
        go_ret2
        exact ⟨by rw [digitOf, hz.out]; rfl, rfl⟩
      · skip
        have hlo : 65296 ≤ r := by simp [inR] at h2; omega
        have hhi : r ≤ 65305 := by simp [inR] at h2; omega
        have hz : Hid (zeroOf r = some 65296) := Lib.hid (by rw [zero_inR]; simp [h0, h1, h2])
        go_enter Tryd.func82, Tryd.ntmps82
        go_wp2_with (go_at_call 84; refine (within_any _ _ _ _).mono ?_; rintro e w' ⟨rfl, rfl⟩)
        go_ret2
        exact ⟨by rw [digitOf, hz.out]; rfl, rfl⟩
    · skip
      have hlo : 1632 ≤ r := by simp [inR] at h1; omega
      have hhi : r ≤ 1641 := by simp [inR] at h1; omega
      have hz : Hid (zeroOf r = some 1632) := Lib.hid (by rw [zero_inR]; simp [h0, h1])
      go_enter Tryd.func82, Tryd.ntmps82
      go_wp2_with (go_at_call 84; refine (within_any _ _ _ _).mono ?_; rintro e w' ⟨rfl, rfl⟩)
      go_ret2
      exact ⟨by rw [digitOf, hz.out]; rfl, rfl⟩
  · skip
    have hlo : 48 ≤ r := by simp [inR] at h0; omega
    have hhi : r ≤ 57 := by simp [inR] at h0; omega
    have hz : Hid (zeroOf r = some 48) := Lib.hid (by rw [zero_inR]; simp [h0])
    go_enter Tryd.func82, Tryd.ntmps82
    go_wp2_with (go_at_call 84; refine (within_any _ _ _ _).mono ?_; rintro e w' ⟨rfl, rfl⟩)
    go_ret2
    exact ⟨by rw [digitOf, hz.out]; rfl, rfl⟩
end Go.Proofs.YticaocadeeolkaaDoor
