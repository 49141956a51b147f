/-
  THE WALKS of the reference's Kind, behind, Width, Rune, Name, each for every argument. (Laid by gen_ae.py.)
-/
import Derived.Test.YticaocadeeolkaaDoorAd
namespace Go.Proofs.YticaocadeeolkaaDoor
open Go.RowKit Plain

theorem digit_neg {r : Int} (h : (zeroOf r).isSome = false) : digitOf r = -1 := by
  unfold digitOf
  cases hz : zeroOf r with
  | none => rfl
  | some z => rw [hz] at h; cases h
theorem digit_pos {r : Int} (h : (zeroOf r).isSome = true) : 0 ≤ digitOf r := by
  unfold digitOf
  cases hz : zeroOf r with
  | none => rw [hz] at h; cases h
  | some z =>
    unfold zeroOf at hz
    split at hz
    · cases hz; dsimp only; omega
    · split at hz
      · cases hz; dsimp only; omega
      · split at hz
        · cases hz; dsimp only; omega
        · cases hz
theorem letter_b (r : Int) (w : World) (b : Bool) (h : isLetter r = b) : Calls Tryd.prog 83 #[.int .i32 r] w fun e w' => e = .returned (.bool b) ∧ w = w' := by subst h; exact letter_any r w
theorem within_b (r lo hi : Int) (w : World) (b : Bool) (h : inR lo hi r = b) : Calls Tryd.prog 84 #[.int .i32 r, .int .i32 lo, .int .i32 hi] w fun e w' => e = .returned (.bool b) ∧ w = w' := by subst h; exact within_any r lo hi w
theorem refKind_1 {r : Int} (h : isLetter r = true) : (1 : Int) = refKind r := by simp [refKind, h]
theorem refKind_2 {r : Int} (h : isLetter r = false) (h2 : (zeroOf r).isSome = true) : (2 : Int) = refKind r := by simp [refKind, h, h2]
theorem refKind_3 {r : Int} (h : isLetter r = false) (h2 : (zeroOf r).isSome = false) (h3 : blankList.any (· == r) = true) : (3 : Int) = refKind r := by simp [refKind, h, h2, h3]
theorem refKind_5 {r : Int} (h : isLetter r = false) (h2 : (zeroOf r).isSome = false) (h3 : blankList.any (· == r) = false) (h4 : inR 8320 8329 r = true) : (5 : Int) = refKind r := by
  have : 8320 ≤ r ∧ r ≤ 8329 := by simpa [inR] using h4
  simp [refKind, h, h2, h3, this]
theorem refKind_4 {r : Int} (h : isLetter r = false) (h2 : (zeroOf r).isSome = false) (h3 : blankList.any (· == r) = false) (h4 : inR 8320 8329 r = false) (h5 : hasRune signs r = true) : (4 : Int) = refKind r := by
  have : ¬ (8320 ≤ r ∧ r ≤ 8329) := by intro hc; simp [inR, hc] at h4
  rw [has_signs] at h5
  simp [refKind, h, h2, h3, this, h5]
theorem refKind_0 {r : Int} (h : isLetter r = false) (h2 : (zeroOf r).isSome = false) (h3 : blankList.any (· == r) = false) (h4 : inR 8320 8329 r = false) (h5 : hasRune signs r = false) : (0 : Int) = refKind r := by
  have : ¬ (8320 ≤ r ∧ r ≤ 8329) := by intro hc; simp [inR, hc] at h4
  rw [has_signs] at h5
  simp [refKind, h, h2, h3, this, h5]
theorem blank_no {r : Int} (c1 : (r == 32) = false) (c2 : (r == 9) = false) (c3 : (r == 10) = false) (c4 : (r == 13) = false) (c5 : (r == 160) = false) (c6 : (r == 12288) = false) : blankList.any (· == r) = false := by
  simp at c1 c2 c3 c4 c5 c6
  simp [blankList]; omega
theorem blank_yes {r : Int} (h : r = 32 ∨ r = 9 ∨ r = 10 ∨ r = 13 ∨ r = 160 ∨ r = 12288) : blankList.any (· == r) = true := by
  simp [blankList]; omega

set_option maxHeartbeats 4000000 in
set_option maxRecDepth 100000 in
theorem rkind_any (r : Int) (w : World) (h0 : -2147483648 ≤ r) (hm : r ≤ 2147483647) : Calls Tryd.prog 74 #[.int .i32 r] w fun e w' => e = .returned (.int .i64 (refKind r)) ∧ Below w.heap.size w w' := by
  cases hl : isLetter r
  · have HL := Lib.hid hl
    clear hl
    cases hz : (zeroOf r).isSome
    · have HZ := Lib.hid hz
      have hd : digitOf r < 0 := by have := digit_neg hz; omega
      clear hz
      cases c0 : (r == 32)
      · skip
        cases c1 : (r == 9)
        · skip
          cases c2 : (r == 10)
          · skip
            cases c3 : (r == 13)
            · skip
              cases c4 : (r == 160)
              · skip
                cases c5 : (r == 12288)
                · skip
                  have HB := Lib.hid (blank_no c0 c1 c2 c3 c4 c5)
                  cases hi : inR 8320 8329 r
                  · have HI := Lib.hid hi
                    clear hi
                    go_enter Tryd.func74, Tryd.ntmps74
                    go_wp2_with (first | (go_at_call 82; refine (digit_any r _ h0 hm).mono ?_; rintro e w' ⟨rfl, rfl⟩) | (go_at_call 83; refine (letter_b r _ _ HL.out).mono ?_; rintro e w' ⟨rfl, rfl⟩) | (go_at_call 84; refine (within_b r _ _ _ _ HI.out).mono ?_; rintro e w' ⟨rfl, rfl⟩))
                    go_loopw [7] (fun _ wr => ∃ (pos : Nat), wr = w.iter ⟨#[40, 41, 43, 45, 42, 47, 37, 38, 124, 94, 126, 60, 62, 61, 63, 58, 59, 44, 64, 194, 172, 194, 183, 195, 151, 195, 183, 226, 136, 146, 226, 136, 167, 226, 136, 168, 226, 137, 161, 226, 137, 170, 226, 137, 171, 226, 138, 149]⟩ pos ∧ Hid ((runesAt signs pos).any (fun p => (p.2 : Int) == r) = hasRune signs r)) (fun _ w' => signs.size - w'.iterPos w.heap.size)
                    case atStart => exact ⟨0, rfl, rfl⟩
                    case round =>
                      obtain ⟨pos, rfl, hc⟩ := hrel
                      by_cases hp : pos < signs.size
                      · have hnx : ∀ ty, (Instr.next (.pointer (some ⟨w.heap.size, 0, none⟩)) true ty).run Tryd.prog (w.iter ⟨#[40, 41, 43, 45, 42, 47, 37, 38, 124, 94, 126, 60, 62, 61, 63, 58, 59, 44, 64, 194, 172, 194, 183, 195, 151, 195, 183, 226, 136, 146, 226, 136, 167, 226, 136, 168, 226, 137, 161, 226, 137, 170, 226, 137, 171, 226, 138, 149]⟩ pos) = .ok (.tuple #[.bool true, .int .i64 pos, .int .i32 (Utf8.decode signs pos).1]) (w.iter ⟨#[40, 41, 43, 45, 42, 47, 37, 38, 124, 94, 126, 60, 62, 61, 63, 58, 59, 44, 64, 194, 172, 194, 183, 195, 151, 195, 183, 226, 136, 146, 226, 136, 167, 226, 136, 168, 226, 137, 161, 226, 137, 170, 226, 137, 171, 226, 138, 149]⟩ (pos + (Utf8.decode signs pos).2)) := fun ty => run_next_any w signs pos ty hp
                        cases hr : (((Utf8.decode signs pos).1 : Int) == r)
                        · go_wp2
                          have hwd := Plain.width_pos signs pos
                          go_roundw
                          case rel =>
                            refine ⟨pos + (Utf8.decode signs pos).2, rfl, ?_⟩
                            have hc' := hc.out
                            rw [runesAt_cons signs pos hp, List.any_cons] at hc'
                            simp only [hr, Bool.false_or] at hc'
                            exact hc'
                          case measure =>
                            have e1 : (w.iter signs (pos + (Utf8.decode signs pos).2)).iterPos w.heap.size = pos + (Utf8.decode signs pos).2 := World.iterPos_iter _ _ _
                            have e2 : (w.iter signs pos).iterPos w.heap.size = pos := World.iterPos_iter _ _ _
                            show signs.size - (w.iter signs (pos + (Utf8.decode signs pos).2)).iterPos w.heap.size < signs.size - (w.iter signs pos).iterPos w.heap.size
                            rw [e1, e2]
                            omega
                        · go_wp2
                          go_ret
                          have hc' := hc.out
                          rw [runesAt_cons signs pos hp, List.any_cons] at hc'
                          simp only [hr, Bool.true_or] at hc'
                          exact ⟨ret_int (refKind_4 HL.out HZ.out HB.out HI.out hc'.symm), (Below.refl _ _).alloc (Nat.le_refl _) _⟩
                      · have hnx : ∀ ty, (Instr.next (.pointer (some ⟨w.heap.size, 0, none⟩)) true ty).run Tryd.prog (w.iter ⟨#[40, 41, 43, 45, 42, 47, 37, 38, 124, 94, 126, 60, 62, 61, 63, 58, 59, 44, 64, 194, 172, 194, 183, 195, 151, 195, 183, 226, 136, 146, 226, 136, 167, 226, 136, 168, 226, 137, 161, 226, 137, 170, 226, 137, 171, 226, 138, 149]⟩ pos) = .ok (.tuple #[.bool false]) (w.iter ⟨#[40, 41, 43, 45, 42, 47, 37, 38, 124, 94, 126, 60, 62, 61, 63, 58, 59, 44, 64, 194, 172, 194, 183, 195, 151, 195, 183, 226, 136, 146, 226, 136, 167, 226, 136, 168, 226, 137, 161, 226, 137, 170, 226, 137, 171, 226, 138, 149]⟩ pos) := fun ty => run_next_end w signs pos ty hp
                        go_wp2
                        go_ret
                        have hc' := hc.out
                        rw [runesAt_nil signs pos hp] at hc'
                        exact ⟨ret_int (refKind_0 HL.out HZ.out HB.out HI.out hc'.symm), (Below.refl _ _).alloc (Nat.le_refl _) _⟩
                  · have HI := Lib.hid hi
                    clear hi
                    go_enter Tryd.func74, Tryd.ntmps74
                    go_wp2_with (first | (go_at_call 82; refine (digit_any r _ h0 hm).mono ?_; rintro e w' ⟨rfl, rfl⟩) | (go_at_call 83; refine (letter_b r _ _ HL.out).mono ?_; rintro e w' ⟨rfl, rfl⟩) | (go_at_call 84; refine (within_b r _ _ _ _ HI.out).mono ?_; rintro e w' ⟨rfl, rfl⟩))
                    go_ret
                    exact ⟨ret_int (refKind_5 HL.out HZ.out HB.out HI.out), Below.refl _ _⟩
                · skip
                  have HB := Lib.hid (blank_yes (r := r) (by have := beq_iff_eq.1 c5; omega))
                  go_enter Tryd.func74, Tryd.ntmps74
                  go_wp2_with (first | (go_at_call 82; refine (digit_any r _ h0 hm).mono ?_; rintro e w' ⟨rfl, rfl⟩) | (go_at_call 83; refine (letter_b r _ _ HL.out).mono ?_; rintro e w' ⟨rfl, rfl⟩))
                  go_ret
                  exact ⟨ret_int (refKind_3 HL.out HZ.out HB.out), Below.refl _ _⟩
              · skip
                have HB := Lib.hid (blank_yes (r := r) (by have := beq_iff_eq.1 c4; omega))
                go_enter Tryd.func74, Tryd.ntmps74
                go_wp2_with (first | (go_at_call 82; refine (digit_any r _ h0 hm).mono ?_; rintro e w' ⟨rfl, rfl⟩) | (go_at_call 83; refine (letter_b r _ _ HL.out).mono ?_; rintro e w' ⟨rfl, rfl⟩))
                go_ret
                exact ⟨ret_int (refKind_3 HL.out HZ.out HB.out), Below.refl _ _⟩
            · skip
              have HB := Lib.hid (blank_yes (r := r) (by have := beq_iff_eq.1 c3; omega))
              go_enter Tryd.func74, Tryd.ntmps74
              go_wp2_with (first | (go_at_call 82; refine (digit_any r _ h0 hm).mono ?_; rintro e w' ⟨rfl, rfl⟩) | (go_at_call 83; refine (letter_b r _ _ HL.out).mono ?_; rintro e w' ⟨rfl, rfl⟩))
              go_ret
              exact ⟨ret_int (refKind_3 HL.out HZ.out HB.out), Below.refl _ _⟩
          · skip
            have HB := Lib.hid (blank_yes (r := r) (by have := beq_iff_eq.1 c2; omega))
            go_enter Tryd.func74, Tryd.ntmps74
            go_wp2_with (first | (go_at_call 82; refine (digit_any r _ h0 hm).mono ?_; rintro e w' ⟨rfl, rfl⟩) | (go_at_call 83; refine (letter_b r _ _ HL.out).mono ?_; rintro e w' ⟨rfl, rfl⟩))
            go_ret
            exact ⟨ret_int (refKind_3 HL.out HZ.out HB.out), Below.refl _ _⟩
        · skip
          have HB := Lib.hid (blank_yes (r := r) (by have := beq_iff_eq.1 c1; omega))
          go_enter Tryd.func74, Tryd.ntmps74
          go_wp2_with (first | (go_at_call 82; refine (digit_any r _ h0 hm).mono ?_; rintro e w' ⟨rfl, rfl⟩) | (go_at_call 83; refine (letter_b r _ _ HL.out).mono ?_; rintro e w' ⟨rfl, rfl⟩))
          go_ret
          exact ⟨ret_int (refKind_3 HL.out HZ.out HB.out), Below.refl _ _⟩
      · skip
        have HB := Lib.hid (blank_yes (r := r) (by have := beq_iff_eq.1 c0; omega))
        go_enter Tryd.func74, Tryd.ntmps74
        go_wp2_with (first | (go_at_call 82; refine (digit_any r _ h0 hm).mono ?_; rintro e w' ⟨rfl, rfl⟩) | (go_at_call 83; refine (letter_b r _ _ HL.out).mono ?_; rintro e w' ⟨rfl, rfl⟩))
        go_ret
        exact ⟨ret_int (refKind_3 HL.out HZ.out HB.out), Below.refl _ _⟩
    · have HZ := Lib.hid hz
      have hd : 0 ≤ digitOf r := digit_pos hz
      clear hz
      go_enter Tryd.func74, Tryd.ntmps74
      go_wp2_with (first | (go_at_call 82; refine (digit_any r _ h0 hm).mono ?_; rintro e w' ⟨rfl, rfl⟩) | (go_at_call 83; refine (letter_b r _ _ HL.out).mono ?_; rintro e w' ⟨rfl, rfl⟩))
      go_ret
      exact ⟨ret_int (refKind_2 HL.out HZ.out), Below.refl _ _⟩
  · have HL := Lib.hid hl
    clear hl
    go_enter Tryd.func74, Tryd.ntmps74
    go_wp2_with (first | (go_at_call 82; refine (digit_any r _ h0 hm).mono ?_; rintro e w' ⟨rfl, rfl⟩) | (go_at_call 83; refine (letter_b r _ _ HL.out).mono ?_; rintro e w' ⟨rfl, rfl⟩))
    go_ret
    exact ⟨ret_int (refKind_1 HL.out), Below.refl _ _⟩

end Go.Proofs.YticaocadeeolkaaDoor
