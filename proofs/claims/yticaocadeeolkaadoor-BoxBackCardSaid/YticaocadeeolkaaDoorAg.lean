/-
  THE WALK of the reference's Name: it answers what package runes' Name answers.
-/
import Derived.Test.YticaocadeeolkaaDoorAf
namespace Go.Proofs.YticaocadeeolkaaDoor
open Go.RowKit Plain

theorem okRune_of {s : ByteArray} {i : Nat} : okRune ((Utf8.decode s i).1 : Int) = true := by
  have := rune_valid s i
  unfold Utf8.valid at this
  unfold okRune
  simp only [Bool.or_eq_true, Bool.and_eq_true, decide_eq_true_eq] at this ⊢
  omega
theorem ref_fffd : refKind 65533 = 0 := by decide +kernel
theorem kind_fffd : kindOf 65533 = 0 := by decide +kernel
theorem refKind_same (s : ByteArray) (i : Nat) : refKind ((Utf8.decode s i).1 : Int) = kindOf ((Utf8.decode s i).1 : Int) := by
  by_cases h : ((Utf8.decode s i).1 : Int) = 65533
  · rw [h, ref_fffd, kind_fffd]
  · exact refKind_eq _ h okRune_of
theorem refNameRune_same (s : ByteArray) (i : Nat) : refNameRune ((Utf8.decode s i).1 : Int) = isNameRune ((Utf8.decode s i).1 : Int) := by
  unfold refNameRune isNameRune
  rw [refKind_same]
theorem refMinus : refNameRune (-1) = false := by decide +kernel
theorem raw_fffd {s : ByteArray} {i : Nat} (h : isRaw s i = true) : ((Utf8.decode s i).1 : Int) = 65533 := by
  unfold isRaw at h
  simp only [Bool.and_eq_true, beq_iff_eq] at h
  omega
/-- What the reference's round asks of a place. -/
theorem refStep (s : ByteArray) (i n : Nat) (hi : i < s.size) (h : nameGo (runesAt s i) n = isName s) :
    (if ((n == 0) && (refKind (refRune s i) != 1)) || !refNameRune (refRune s i) then false else nameGo (runesAt s (i + refWidth s i)) (n + 1)) = isName s := by
  rw [runesAt_cons s i hi, nameGo_cons] at h
  unfold refRune refWidth
  cases hr : isRaw s i
  · simp only [Bool.false_eq_true, if_false]
    rw [refNameRune_same, refKind_same]
    have e : (kindOf ((Utf8.decode s i).1 : Int) != 1) = !isLetter ((Utf8.decode s i).1 : Int) := by
      show (!(kindOf ((Utf8.decode s i).1 : Int) == 1)) = _
      rw [kind_one]
    rw [e]
    exact h
  · simp only [if_true, refMinus, Bool.not_false, Bool.or_true]
    rw [raw_fffd hr, name_fffd] at h
    simpa using h
theorem refWidth_pos {s : ByteArray} {i : Nat} (h : refNameRune (refRune s i) = true) : 1 ≤ refWidth s i := by
  unfold refRune at h
  unfold refWidth
  cases hr : isRaw s i
  · exact Plain.width_pos s i
  · rw [hr] at h; simp [refMinus] at h
theorem refWidth_le (s : ByteArray) (i : Nat) (h : i < s.size) : i + refWidth s i ≤ s.size := by
  have := Plain.width_le s i h
  unfold refWidth
  split <;> omega
theorem refRune_bd (s : ByteArray) (i : Nat) : -1 ≤ refRune s i ∧ refRune s i ≤ 2147483647 := by
  have := decode_le s i
  unfold refRune
  split <;> omega

set_option maxHeartbeats 4000000 in
set_option maxRecDepth 100000 in
theorem rname_any (s : ByteArray) (w : World) (hs : s.size ≤ 9223372036854775807) :
    Calls Tryd.prog 63 #[.string s] w fun e w' => e = .returned (.bool (isName s)) ∧ Below w.heap.size w w' := by
  go_enter Tryd.func63, Tryd.ntmps63
  go_wp2
  go_loopw [3, 4] (fun v p wr => ∃ (pos n : Nat), v = .int .i64 n ∧ p = .int .i64 pos ∧ n ≤ pos ∧ pos ≤ s.size ∧ Hid (nameGo (runesAt s pos) n = isName s) ∧ Below w.heap.size w wr) (fun _ p _ => s.size - (intOf p).toNat)
  case atStart => exact ⟨0, 0, rfl, rfl, by omega, by omega, rfl, Below.refl _ _⟩
  case round =>
    obtain ⟨pos, n, rfl, rfl, hnp, hps, hc, hb⟩ := hrel
    have hsz : w.heap.size ≤ wr.heap.size := hb.size
    by_cases hp : pos < s.size
    · have Hst := Lib.hid (refStep s pos n hp hc.out)
      have hwl := refWidth_le s pos hp
      obtain ⟨hr0, hr1⟩ := refRune_bd s pos
      have hr0' : -2147483648 ≤ refRune s pos := by omega
      have HWP := hide (fun h => @refWidth_pos s pos h)
      have HA := hide (fun w => rrune_any s pos w hs hp)
      have HWA := hide (fun w => width_any s pos w hs hp)
      clear hc
      generalize refRune s pos = r at *
      generalize hwd : refWidth s pos = wd at *
      clear hwd
      have hp' : (pos : Int) < (s.size : Int) := by omega
      cases hn : ((n : Int) == 0)
      · have hn' : (n == 0) = false := by rw [beq_eq_false_iff_ne] at hn ⊢; omega
        have HN := Lib.hid hn'
        clear hn'
        cases hq : refNameRune r
        · have HQ := Lib.hid hq
          clear hq
          go_wp2_with (first | (go_at_call 73; refine (HA.out _).mono ?_; rintro e w1 ⟨rfl, hb1⟩; have HB1 := Lib.hid hb1; clear hb1) | (go_at_call 75; refine (rbehind_any _ _ hr0' hr1).mono ?_; rintro e w2 ⟨rfl, hb2⟩; rw [HQ.out]; have HB2 := Lib.hid hb2; clear hb2))
          go_ret
          refine ⟨ret_bool ?_, (hb.trans (HB1.out.mono hsz)).trans (HB2.out.mono (Nat.le_trans hsz HB1.out.size))⟩
          have := Hst.out
          rw [HN.out, HQ.out] at this
          exact this
        · have hw1 := HWP.out hq
          have HQ := Lib.hid hq
          clear hq
          go_wp2_with (first | (go_at_call 73; refine (HA.out _).mono ?_; rintro e w1 ⟨rfl, hb1⟩; have HB1 := Lib.hid hb1; clear hb1) | (go_at_call 75; refine (rbehind_any _ _ hr0' hr1).mono ?_; rintro e w2 ⟨rfl, hb2⟩; rw [HQ.out]; have HB2 := Lib.hid hb2; clear hb2) | (go_at_call 76; refine (HWA.out _).mono ?_; rintro e w3 ⟨rfl, hb3⟩; have HB3 := Lib.hid hb3; clear hb3))
          go_roundw
          case rel =>
            have hs' := Hst.out
            rw [HN.out, HQ.out] at hs'
            exact ⟨pos + wd, n + 1, by go_num, by go_num, by omega, by omega, Lib.hid (by simpa using hs'), ((hb.trans (HB1.out.mono hsz)).trans (HB2.out.mono (Nat.le_trans hsz HB1.out.size))).trans (HB3.out.mono (Nat.le_trans (Nat.le_trans hsz HB1.out.size) HB2.out.size))⟩
          case measure => simp [intOf]; omega
      · have hn' : (n == 0) = true := by rw [beq_iff_eq] at hn ⊢; omega
        have HN := Lib.hid hn'
        clear hn'
        cases hk : (refKind r != 1)
        · have HK := Lib.hid hk
          cases hq : refNameRune r
          · have HQ := Lib.hid hq
            clear hq
            go_wp2_with (first | (go_at_call 73; refine (HA.out _).mono ?_; rintro e w1 ⟨rfl, hb1⟩; have HB1 := Lib.hid hb1; clear hb1) | (go_at_call 74; refine (rkind_any _ _ hr0' hr1).mono ?_; rintro e w4 ⟨rfl, hb4⟩; have HB4 := Lib.hid hb4; clear hb4) | (go_at_call 75; refine (rbehind_any _ _ hr0' hr1).mono ?_; rintro e w2 ⟨rfl, hb2⟩; rw [HQ.out]; have HB2 := Lib.hid hb2; clear hb2))
            go_ret
            refine ⟨ret_bool ?_, ((hb.trans (HB1.out.mono hsz)).trans (HB4.out.mono (Nat.le_trans hsz HB1.out.size))).trans (HB2.out.mono (Nat.le_trans (Nat.le_trans hsz HB1.out.size) HB4.out.size))⟩
            have := Hst.out
            rw [HN.out, HQ.out, HK.out] at this
            exact this
          · have hw1 := HWP.out hq
            have HQ := Lib.hid hq
            clear hq
            go_wp2_with (first | (go_at_call 73; refine (HA.out _).mono ?_; rintro e w1 ⟨rfl, hb1⟩; have HB1 := Lib.hid hb1; clear hb1) | (go_at_call 74; refine (rkind_any _ _ hr0' hr1).mono ?_; rintro e w4 ⟨rfl, hb4⟩; have HB4 := Lib.hid hb4; clear hb4) | (go_at_call 75; refine (rbehind_any _ _ hr0' hr1).mono ?_; rintro e w2 ⟨rfl, hb2⟩; rw [HQ.out]; have HB2 := Lib.hid hb2; clear hb2) | (go_at_call 76; refine (HWA.out _).mono ?_; rintro e w3 ⟨rfl, hb3⟩; have HB3 := Lib.hid hb3; clear hb3))
            go_roundw
            case rel =>
              have hs' := Hst.out
              rw [HN.out, HQ.out, HK.out] at hs'
              have hA := (hb.trans (HB1.out.mono hsz)).trans (HB4.out.mono (Nat.le_trans hsz HB1.out.size))
              exact ⟨pos + wd, n + 1, by go_num, by go_num, by omega, by omega, Lib.hid (by simpa using hs'), (hA.trans (HB2.out.mono hA.size)).trans (HB3.out.mono (Nat.le_trans hA.size HB2.out.size))⟩
            case measure => simp [intOf]; omega
        · have HK := Lib.hid hk
          go_wp2_with (first | (go_at_call 73; refine (HA.out _).mono ?_; rintro e w1 ⟨rfl, hb1⟩; have HB1 := Lib.hid hb1; clear hb1) | (go_at_call 74; refine (rkind_any _ _ hr0' hr1).mono ?_; rintro e w4 ⟨rfl, hb4⟩; have HB4 := Lib.hid hb4; clear hb4))
          go_ret
          refine ⟨ret_bool ?_, (hb.trans (HB1.out.mono hsz)).trans (HB4.out.mono (Nat.le_trans hsz HB1.out.size))⟩
          have := Hst.out
          rw [HN.out, HK.out] at this
          exact this
    · have hp' : ¬ ((pos : Int) < (s.size : Int)) := by omega
      have hc' := hc.out
      rw [runesAt_nil s pos hp] at hc'
      have Hc := Lib.hid hc'
      clear hc' hc
      by_cases h1 : 1 ≤ n
      · go_wp2
        go_ret
        exact ⟨ret_bool (by rw [← Hc.out]; simp [nameGo, h1]; omega), hb⟩
      · have h1d : decide ((1 : Int) ≤ (n : Int)) = false := decide_eq_false (by omega)
        have h1e : decide ((n : Int) ≥ 1) = false := decide_eq_false (by omega)
        go_wp2
        go_ret
        exact ⟨ret_bool (by rw [← Hc.out]; simp [nameGo, h1]), hb⟩
end Go.Proofs.YticaocadeeolkaaDoor
