/-
  THE WALKS of the reference's behind, Width, Rune, Name: a name is the same on both sides.
  THE WALK of the reference's Name: it answers what package runes' Name answers.
-/
import Derived.Test.YticaocadeeolkaaDoorMA

namespace Go.Proofs.YticaocadeeolkaaDoor
open Go.RowKit Plain

/-! ### plain: the rune at a place, of what is left -/
theorem get_extract (s : ByteArray) (i k : Nat) : (s.extract i s.size).get! k = s.get! (i + k) := by
  show (s.extract i s.size).data[k]! = s.data[i + k]!
  rw [ByteArray.data_extract]
  by_cases h : i + k < s.size
  · have h' : i + k < s.data.size := h
    have h2 : k < (s.data.extract i s.size).size := by simp; omega
    rw [getElem!_pos _ k h2, getElem!_pos _ (i + k) h', Array.getElem_extract]
  · have h' : ¬ i + k < s.data.size := h
    have h2 : ¬ k < (s.data.extract i s.size).size := by simp; omega
    rw [getElem!_neg _ k h2, getElem!_neg _ (i + k) h']
theorem size_extract (s : ByteArray) (i : Nat) : (s.extract i s.size).size = s.size - i := by simp
theorem decode_extract (s : ByteArray) (i : Nat) : Utf8.decode (s.extract i s.size) 0 = Utf8.decode s i := by
  unfold Utf8.decode
  simp only [get_extract, size_extract, Nat.zero_add, Nat.add_zero]
  have e : ∀ k, decide (k < s.size - i) = decide (i + k < s.size) := fun k => by rw [decide_eq_decide]; omega
  simp only [e]

/-- A bad byte at a place. -/
def isRaw (s : ByteArray) (i : Nat) : Bool := ((Utf8.decode s i).1 == 65533) && (decide (s.size - i < 3) || !((s.extract i (i + 3)).toList == [239, 191, 189]))
def refWidth (s : ByteArray) (i : Nat) : Nat := if isRaw s i then 0 else (Utf8.decode s i).2
def refRune (s : ByteArray) (i : Nat) : Int := if isRaw s i then -1 else (Utf8.decode s i).1
def refNameRune (r : Int) : Bool := refKind r == 1 || refKind r == 2 || refKind r == 5

theorem rbehind_any (r : Int) (w : World) (h0 : -2147483648 ≤ r) (h1 : r ≤ 2147483647) :
    Calls Tryd.prog 75 #[.int .i32 r] w fun e w' => e = .returned (.bool (refNameRune r)) ∧ Below w.heap.size w w' := by
  cases hk1 : (refKind r == 1)
  · cases hk2 : (refKind r == 2)
    · go_enter Tryd.func75, Tryd.ntmps75
      go_wp2_with (go_at_call 74; refine (rkind_any r _ h0 h1).mono ?_; rintro e w' ⟨rfl, hb⟩)
      go_ret
      exact ⟨ret_bool (by simp [refNameRune, hk1, hk2]), by assumption⟩
    · go_enter Tryd.func75, Tryd.ntmps75
      go_wp2_with (go_at_call 74; refine (rkind_any r _ h0 h1).mono ?_; rintro e w' ⟨rfl, hb⟩)
      go_ret
      exact ⟨ret_bool (by simp [refNameRune, hk1, hk2]), by assumption⟩
  · go_enter Tryd.func75, Tryd.ntmps75
    go_wp2_with (go_at_call 74; refine (rkind_any r _ h0 h1).mono ?_; rintro e w' ⟨rfl, hb⟩)
    go_ret
    exact ⟨ret_bool (by simp [refNameRune, hk1]), by assumption⟩

set_option maxHeartbeats 2000000 in
set_option maxRecDepth 100000 in
/-- No U+FFFD: the rune's own width. -/
theorem width_plain (s : ByteArray) (i : Nat) (w : World) (hs : s.size ≤ 9223372036854775807) (hi : i < s.size) (hr : (((Utf8.decode s i).1 : Int) == 65533) = false) :
    Calls Tryd.prog 76 #[.string s, .int .i64 i] w fun e w' => e = .returned (.int .i64 (Utf8.decode s i).2) ∧ Below w.heap.size w w' := by
  have hi1 : (i : Int) < (s.size : Int) := by omega
  have hd0 : decide ((i : Int) < 0) = false := decide_eq_false (by omega)
  have hp0 : 0 < (s.extract i s.size).size := by rw [size_extract]; omega
  have hw1 := Plain.width_pos s i
  have hw2 := Plain.width_le s i hi
  have hnx0 : ∀ ty, (Instr.next (.pointer (some ⟨w.heap.size, 0, none⟩)) true ty).run Tryd.prog (w.iter (s.extract i s.size) 0) = .ok (.tuple #[.bool true, .int .i64 0, .int .i32 (Utf8.decode s i).1]) (w.iter (s.extract i s.size) (Utf8.decode s i).2) := fun ty => by
    have := run_next_any (P := Tryd.prog) w (s.extract i s.size) 0 ty hp0
    rw [decode_extract, Nat.zero_add] at this
    exact this
  by_cases hmore : (Utf8.decode s i).2 < s.size - i
  · have hnx1 : ∀ ty, (Instr.next (.pointer (some ⟨w.heap.size, 0, none⟩)) true ty).run Tryd.prog (w.iter (s.extract i s.size) (Utf8.decode s i).2) = .ok (.tuple #[.bool true, .int .i64 (Utf8.decode s i).2, .int .i32 (Utf8.decode (s.extract i s.size) (Utf8.decode s i).2).1]) (w.iter (s.extract i s.size) ((Utf8.decode s i).2 + (Utf8.decode (s.extract i s.size) (Utf8.decode s i).2).2)) := fun ty => run_next_any w _ _ ty (by rw [size_extract]; exact hmore)
    have hgt : (0 : Int) < ((Utf8.decode s i).2 : Int) := by omega
    generalize (Utf8.decode s i).2 = wd at *
    generalize (Utf8.decode s i).1 = rn at *
    go_enter Tryd.func76, Tryd.ntmps76
    go_wp2
    refine wp_loop_rounds 2 ?_
    rw [rounds_succ]
    go_wp2
    rw [rounds_succ]
    go_wp2
    go_ret
    exact ⟨rfl, by exact (Below.refl _ _).alloc (Nat.le_refl _) _⟩
  · have hnx1 : ∀ ty, (Instr.next (.pointer (some ⟨w.heap.size, 0, none⟩)) true ty).run Tryd.prog (w.iter (s.extract i s.size) (Utf8.decode s i).2) = .ok (.tuple #[.bool false]) (w.iter (s.extract i s.size) (Utf8.decode s i).2) := fun ty => run_next_end w _ _ ty (by rw [size_extract]; exact hmore)
    have hwe : ((s.size : Int) - (i : Int)) = ((Utf8.decode s i).2 : Int) := by omega
    have HWE := Lib.hid hwe
    clear hwe
    generalize (Utf8.decode s i).2 = wd at *
    generalize (Utf8.decode s i).1 = rn at *
    go_enter Tryd.func76, Tryd.ntmps76
    go_wp2
    refine wp_loop_rounds 2 ?_
    rw [rounds_succ]
    go_wp2
    rw [rounds_succ]
    go_wp2
    go_ret
    exact ⟨ret_int HWE.out, by exact (Below.refl _ _).alloc (Nat.le_refl _) _⟩

set_option maxHeartbeats 2000000 in
set_option maxRecDepth 100000 in
/-- U+FFFD, and fewer than three bytes are left. -/
theorem width_short (s : ByteArray) (i : Nat) (w : World) (_hs : s.size ≤ 9223372036854775807) (hi : i < s.size) (hr : (((Utf8.decode s i).1 : Int) == 65533) = true) (h3 : s.size - i < 3) :
    Calls Tryd.prog 76 #[.string s, .int .i64 i] w fun e w' => e = .returned (.int .i64 0) ∧ Below w.heap.size w w' := by
  have hi1 : (i : Int) < (s.size : Int) := by omega
  have hd0 : decide ((i : Int) < 0) = false := decide_eq_false (by omega)
  have hp0 : 0 < (s.extract i s.size).size := by rw [size_extract]; omega
  have hw1 := Plain.width_pos s i
  have hw2 := Plain.width_le s i hi
  have hnx0 : ∀ ty, (Instr.next (.pointer (some ⟨w.heap.size, 0, none⟩)) true ty).run Tryd.prog (w.iter (s.extract i s.size) 0) = .ok (.tuple #[.bool true, .int .i64 0, .int .i32 (Utf8.decode s i).1]) (w.iter (s.extract i s.size) (Utf8.decode s i).2) := fun ty => by
    have := run_next_any (P := Tryd.prog) w (s.extract i s.size) 0 ty hp0
    rw [decode_extract, Nat.zero_add] at this
    exact this
  have h3' : (s.size : Int) - (i : Int) < 3 := by omega
  generalize (Utf8.decode s i).2 = wd at *
  generalize (Utf8.decode s i).1 = rn at *
  go_enter Tryd.func76, Tryd.ntmps76
  go_wp2
  refine wp_loop_rounds 2 ?_
  rw [rounds_succ]
  go_wp2
  go_ret
  exact ⟨rfl, by exact (Below.refl _ _).alloc (Nat.le_refl _) _⟩
set_option maxHeartbeats 2000000 in
set_option maxRecDepth 100000 in
/-- U+FFFD, three bytes are left, and they are others. -/
theorem width_raw (s : ByteArray) (i : Nat) (w : World) (hs : s.size ≤ 9223372036854775807) (hi : i < s.size) (hr : (((Utf8.decode s i).1 : Int) == 65533) = true) (h3 : 3 ≤ s.size - i) (hq : (!(s.extract i (i + 3)).toList == [239, 191, 189]) = true) :
    Calls Tryd.prog 76 #[.string s, .int .i64 i] w fun e w' => e = .returned (.int .i64 0) ∧ Below w.heap.size w w' := by
  have hi1 : (i : Int) < (s.size : Int) := by omega
  have hd0 : decide ((i : Int) < 0) = false := decide_eq_false (by omega)
  have hp0 : 0 < (s.extract i s.size).size := by rw [size_extract]; omega
  have hw1 := Plain.width_pos s i
  have hw2 := Plain.width_le s i hi
  have hnx0 : ∀ ty, (Instr.next (.pointer (some ⟨w.heap.size, 0, none⟩)) true ty).run Tryd.prog (w.iter (s.extract i s.size) 0) = .ok (.tuple #[.bool true, .int .i64 0, .int .i32 (Utf8.decode s i).1]) (w.iter (s.extract i s.size) (Utf8.decode s i).2) := fun ty => by
    have := run_next_any (P := Tryd.prog) w (s.extract i s.size) 0 ty hp0
    rw [decode_extract, Nat.zero_add] at this
    exact this
  have h3' : decide ((s.size : Int) - (i : Int) < 3) = false := decide_eq_false (by omega)
  have h3a : (i : Int) + 3 ≤ (s.size : Int) := by omega
  have h3b : ((i : Int) + 3).toNat = i + 3 := by omega
  generalize (Utf8.decode s i).2 = wd at *
  generalize (Utf8.decode s i).1 = rn at *
  go_enter Tryd.func76, Tryd.ntmps76
  go_wp2
  refine wp_loop_rounds 2 ?_
  rw [rounds_succ]
  go_wp2
  go_ret
  exact ⟨rfl, by exact (Below.refl _ _).alloc (Nat.le_refl _) _⟩
set_option maxHeartbeats 2000000 in
set_option maxRecDepth 100000 in
/-- U+FFFD, written out. -/
theorem width_proper (s : ByteArray) (i : Nat) (w : World) (hs : s.size ≤ 9223372036854775807) (hi : i < s.size) (hr : (((Utf8.decode s i).1 : Int) == 65533) = true) (h3 : 3 ≤ s.size - i) (hq : (!(s.extract i (i + 3)).toList == [239, 191, 189]) = false) :
    Calls Tryd.prog 76 #[.string s, .int .i64 i] w fun e w' => e = .returned (.int .i64 (Utf8.decode s i).2) ∧ Below w.heap.size w w' := by
  have hi1 : (i : Int) < (s.size : Int) := by omega
  have hd0 : decide ((i : Int) < 0) = false := decide_eq_false (by omega)
  have hp0 : 0 < (s.extract i s.size).size := by rw [size_extract]; omega
  have hw1 := Plain.width_pos s i
  have hw2 := Plain.width_le s i hi
  have hnx0 : ∀ ty, (Instr.next (.pointer (some ⟨w.heap.size, 0, none⟩)) true ty).run Tryd.prog (w.iter (s.extract i s.size) 0) = .ok (.tuple #[.bool true, .int .i64 0, .int .i32 (Utf8.decode s i).1]) (w.iter (s.extract i s.size) (Utf8.decode s i).2) := fun ty => by
    have := run_next_any (P := Tryd.prog) w (s.extract i s.size) 0 ty hp0
    rw [decode_extract, Nat.zero_add] at this
    exact this
  have h3' : decide ((s.size : Int) - (i : Int) < 3) = false := decide_eq_false (by omega)
  have h3a : (i : Int) + 3 ≤ (s.size : Int) := by omega
  have h3b : ((i : Int) + 3).toNat = i + 3 := by omega
  by_cases hmore : (Utf8.decode s i).2 < s.size - i
  · have hnx1 : ∀ ty, (Instr.next (.pointer (some ⟨w.heap.size, 0, none⟩)) true ty).run Tryd.prog (w.iter (s.extract i s.size) (Utf8.decode s i).2) = .ok (.tuple #[.bool true, .int .i64 (Utf8.decode s i).2, .int .i32 (Utf8.decode (s.extract i s.size) (Utf8.decode s i).2).1]) (w.iter (s.extract i s.size) ((Utf8.decode s i).2 + (Utf8.decode (s.extract i s.size) (Utf8.decode s i).2).2)) := fun ty => run_next_any w _ _ ty (by rw [size_extract]; exact hmore)
    have hgt : (0 : Int) < ((Utf8.decode s i).2 : Int) := by omega
    generalize (Utf8.decode s i).2 = wd at *
    generalize (Utf8.decode s i).1 = rn at *
    go_enter Tryd.func76, Tryd.ntmps76
    go_wp2
    refine wp_loop_rounds 2 ?_
    rw [rounds_succ]
    go_wp2
    rw [rounds_succ]
    go_wp2
    go_ret
    exact ⟨rfl, by exact (Below.refl _ _).alloc (Nat.le_refl _) _⟩
  · have hnx1 : ∀ ty, (Instr.next (.pointer (some ⟨w.heap.size, 0, none⟩)) true ty).run Tryd.prog (w.iter (s.extract i s.size) (Utf8.decode s i).2) = .ok (.tuple #[.bool false]) (w.iter (s.extract i s.size) (Utf8.decode s i).2) := fun ty => run_next_end w _ _ ty (by rw [size_extract]; exact hmore)
    have hwe : ((s.size : Int) - (i : Int)) = ((Utf8.decode s i).2 : Int) := by omega
    have HWE := Lib.hid hwe
    clear hwe
    generalize (Utf8.decode s i).2 = wd at *
    generalize (Utf8.decode s i).1 = rn at *
    go_enter Tryd.func76, Tryd.ntmps76
    go_wp2
    refine wp_loop_rounds 2 ?_
    rw [rounds_succ]
    go_wp2
    rw [rounds_succ]
    go_wp2
    go_ret
    exact ⟨ret_int HWE.out, by exact (Below.refl _ _).alloc (Nat.le_refl _) _⟩


theorem width_any (s : ByteArray) (i : Nat) (w : World) (hs : s.size ≤ 9223372036854775807) (hi : i < s.size) :
    Calls Tryd.prog 76 #[.string s, .int .i64 i] w fun e w' => e = .returned (.int .i64 (refWidth s i)) ∧ Below w.heap.size w w' := by
  have ecast : (((Utf8.decode s i).1 : Int) == 65533) = ((Utf8.decode s i).1 == 65533) := by
    rw [Bool.eq_iff_iff, beq_iff_eq, beq_iff_eq]; omega
  cases hr : (((Utf8.decode s i).1 : Int) == 65533)
  · have e : isRaw s i = false := by rw [isRaw, ← ecast, hr]; rfl
    simpa only [refWidth, e, Bool.false_eq_true, if_false] using width_plain s i w hs hi hr
  · by_cases h3 : s.size - i < 3
    · have e : isRaw s i = true := by rw [isRaw, ← ecast, hr, decide_eq_true h3]; rfl
      simpa only [refWidth, e, if_true, Int.ofNat_zero, Int.natCast_zero] using width_short s i w hs hi hr h3
    · cases hq : (!(s.extract i (i + 3)).toList == [239, 191, 189])
      · have e : isRaw s i = false := by rw [isRaw, ← ecast, hr, decide_eq_false h3, hq]; rfl
        simpa only [refWidth, e, Bool.false_eq_true, if_false] using width_proper s i w hs hi hr (by omega) hq
      · have e : isRaw s i = true := by rw [isRaw, ← ecast, hr, decide_eq_false h3, hq]; rfl
        simpa only [refWidth, e, if_true, Int.ofNat_zero, Int.natCast_zero] using width_raw s i w hs hi hr (by omega) hq

/-! ### Rune -/
set_option maxHeartbeats 2000000 in
set_option maxRecDepth 100000 in
theorem rrune_any (s : ByteArray) (i : Nat) (w : World) (hs : s.size ≤ 9223372036854775807) (hi : i < s.size) :
    Calls Tryd.prog 73 #[.string s, .int .i64 i] w fun e w' => e = .returned (.int .i32 (refRune s i)) ∧ Below w.heap.size w w' := by
  have hi1 : (i : Int) ≤ (s.size : Int) := by omega
  have hw1 := Plain.width_pos s i
  cases hr : isRaw s i
  · have HR := Lib.hid hr
    clear hr
    have hwz : (((refWidth s i : Nat) : Int) == 0) = false := by
      rw [beq_eq_false_iff_ne, refWidth, HR.out]; simp; omega
    have hwa := Lib.hid (width_any s i w hs hi)
    generalize refWidth s i = wd at *
    go_enter Tryd.func73, Tryd.ntmps73
    go_wp2_with (go_at_call 76; refine (hwa.out).mono ?_; rintro e w1 ⟨rfl, hb⟩)
    have hsz : w.heap.size ≤ w1.heap.size := by have := (by assumption : Below w.heap.size w w1).size; exact this
    have hp0 : 0 < (s.extract i s.size).size := by rw [size_extract]; omega
    have hnx0 : ∀ ty, (Instr.next (.pointer (some ⟨w1.heap.size, 0, none⟩)) true ty).run Tryd.prog (w1.iter (s.extract i s.size) 0) = .ok (.tuple #[.bool true, .int .i64 0, .int .i32 (Utf8.decode s i).1]) (w1.iter (s.extract i s.size) (Utf8.decode s i).2) := fun ty => by
      have := run_next_any (P := Tryd.prog) w1 (s.extract i s.size) 0 ty hp0
      rw [decode_extract, Nat.zero_add] at this
      exact this
    refine wp_loop_rounds 1 ?_
    rw [rounds_succ]
    go_wp2
    go_ret
    exact ⟨ret_int (by rw [refRune, HR.out]; rfl), by exact (by assumption : Below w.heap.size w w1).alloc hsz _⟩
  · have HR := Lib.hid hr
    clear hr
    have hwz : (((refWidth s i : Nat) : Int) == 0) = true := by
      rw [beq_iff_eq, refWidth, HR.out]; rfl
    have hwa := Lib.hid (width_any s i w hs hi)
    generalize refWidth s i = wd at *
    go_enter Tryd.func73, Tryd.ntmps73
    go_wp2_with (go_at_call 76; refine (hwa.out).mono ?_; rintro e w1 ⟨rfl, hb⟩)
    go_ret
    exact ⟨ret_int (by rw [refRune, HR.out]; rfl), by assumption⟩
end Go.Proofs.YticaocadeeolkaaDoor

namespace Go.Proofs.YticaocadeeolkaaDoor
open Go.RowKit Plain

theorem okRune_of {s : ByteArray} {i : Nat} : okRune ((Utf8.decode s i).1 : Int) = true := by
  have := rune_valid s i
  unfold Utf8.valid at this
  unfold okRune
  simp only [Bool.or_eq_true, Bool.and_eq_true, decide_eq_true_eq] at this ⊢
  omega
theorem ref_fffd : refKind 65533 = 0 := by decide +kernel
theorem kind_fffd : kindOf 65533 = 0 := by decide +kernel
theorem refKind_same (s : ByteArray) (i : Nat) : refKind ((Utf8.decode s i).1 : Int) = kindOf ((Utf8.decode s i).1 : Int) := by
  by_cases h : ((Utf8.decode s i).1 : Int) = 65533
  · rw [h, ref_fffd, kind_fffd]
  · exact refKind_eq _ h okRune_of
theorem refNameRune_same (s : ByteArray) (i : Nat) : refNameRune ((Utf8.decode s i).1 : Int) = isNameRune ((Utf8.decode s i).1 : Int) := by
  unfold refNameRune isNameRune
  rw [refKind_same]
theorem refMinus : refNameRune (-1) = false := by decide +kernel
theorem raw_fffd {s : ByteArray} {i : Nat} (h : isRaw s i = true) : ((Utf8.decode s i).1 : Int) = 65533 := by
  unfold isRaw at h
  simp only [Bool.and_eq_true, beq_iff_eq] at h
  omega
/-- What the reference's round asks of a place. -/
theorem refStep (s : ByteArray) (i n : Nat) (hi : i < s.size) (h : nameGo (runesAt s i) n = isName s) :
    (if ((n == 0) && (refKind (refRune s i) != 1)) || !refNameRune (refRune s i) then false else nameGo (runesAt s (i + refWidth s i)) (n + 1)) = isName s := by
  rw [runesAt_cons s i hi, nameGo_cons] at h
  unfold refRune refWidth
  cases hr : isRaw s i
  · simp only [Bool.false_eq_true, if_false]
    rw [refNameRune_same, refKind_same]
    have e : (kindOf ((Utf8.decode s i).1 : Int) != 1) = !isLetter ((Utf8.decode s i).1 : Int) := by
      show (!(kindOf ((Utf8.decode s i).1 : Int) == 1)) = _
      rw [kind_one]
    rw [e]
    exact h
  · simp only [if_true, refMinus, Bool.not_false, Bool.or_true]
    rw [raw_fffd hr, name_fffd] at h
    simpa using h
theorem refWidth_pos {s : ByteArray} {i : Nat} (h : refNameRune (refRune s i) = true) : 1 ≤ refWidth s i := by
  unfold refRune at h
  unfold refWidth
  cases hr : isRaw s i
  · exact Plain.width_pos s i
  · rw [hr] at h; simp [refMinus] at h
theorem refWidth_le (s : ByteArray) (i : Nat) (h : i < s.size) : i + refWidth s i ≤ s.size := by
  have := Plain.width_le s i h
  unfold refWidth
  split <;> omega
theorem refRune_bd (s : ByteArray) (i : Nat) : -1 ≤ refRune s i ∧ refRune s i ≤ 2147483647 := by
  have := decode_le s i
  unfold refRune
  split <;> omega

set_option maxHeartbeats 4000000 in
set_option maxRecDepth 100000 in
theorem rname_any (s : ByteArray) (w : World) (hs : s.size ≤ 9223372036854775807) :
    Calls Tryd.prog 63 #[.string s] w fun e w' => e = .returned (.bool (isName s)) ∧ Below w.heap.size w w' := by
  go_enter Tryd.func63, Tryd.ntmps63
  go_wp2
  go_loopw [3, 4] (fun v p wr => ∃ (pos n : Nat), v = .int .i64 n ∧ p = .int .i64 pos ∧ n ≤ pos ∧ pos ≤ s.size ∧ Hid (nameGo (runesAt s pos) n = isName s) ∧ Below w.heap.size w wr) (fun _ p _ => s.size - (intOf p).toNat)
  case atStart => exact ⟨0, 0, rfl, rfl, by omega, by omega, rfl, Below.refl _ _⟩
  case round =>
    obtain ⟨pos, n, rfl, rfl, hnp, hps, hc, hb⟩ := hrel
    have hsz : w.heap.size ≤ wr.heap.size := hb.size
    by_cases hp : pos < s.size
    · have Hst := Lib.hid (refStep s pos n hp hc.out)
      have hwl := refWidth_le s pos hp
      obtain ⟨hr0, hr1⟩ := refRune_bd s pos
      have hr0' : -2147483648 ≤ refRune s pos := by omega
      have HWP := hide (fun h => @refWidth_pos s pos h)
      have HA := hide (fun w => rrune_any s pos w hs hp)
      have HWA := hide (fun w => width_any s pos w hs hp)
      clear hc
      generalize refRune s pos = r at *
      generalize hwd : refWidth s pos = wd at *
      clear hwd
      have hp' : (pos : Int) < (s.size : Int) := by omega
      cases hn : ((n : Int) == 0)
      · have hn' : (n == 0) = false := by rw [beq_eq_false_iff_ne] at hn ⊢; omega
        have HN := Lib.hid hn'
        clear hn'
        cases hq : refNameRune r
        · have HQ := Lib.hid hq
          clear hq
          go_wp2_with (first | (go_at_call 73; refine (HA.out _).mono ?_; rintro e w1 ⟨rfl, hb1⟩; have HB1 := Lib.hid hb1; clear hb1) | (go_at_call 75; refine (rbehind_any _ _ hr0' hr1).mono ?_; rintro e w2 ⟨rfl, hb2⟩; rw [HQ.out]; have HB2 := Lib.hid hb2; clear hb2))
          go_ret
          refine ⟨ret_bool ?_, (hb.trans (HB1.out.mono hsz)).trans (HB2.out.mono (Nat.le_trans hsz HB1.out.size))⟩
          have := Hst.out
          rw [HN.out, HQ.out] at this
          exact this
        · have hw1 := HWP.out hq
          have HQ := Lib.hid hq
          clear hq
          go_wp2_with (first | (go_at_call 73; refine (HA.out _).mono ?_; rintro e w1 ⟨rfl, hb1⟩; have HB1 := Lib.hid hb1; clear hb1) | (go_at_call 75; refine (rbehind_any _ _ hr0' hr1).mono ?_; rintro e w2 ⟨rfl, hb2⟩; rw [HQ.out]; have HB2 := Lib.hid hb2; clear hb2) | (go_at_call 76; refine (HWA.out _).mono ?_; rintro e w3 ⟨rfl, hb3⟩; have HB3 := Lib.hid hb3; clear hb3))
          go_roundw
          case rel =>
            have hs' := Hst.out
            rw [HN.out, HQ.out] at hs'
            exact ⟨pos + wd, n + 1, by go_num, by go_num, by omega, by omega, Lib.hid (by simpa using hs'), ((hb.trans (HB1.out.mono hsz)).trans (HB2.out.mono (Nat.le_trans hsz HB1.out.size))).trans (HB3.out.mono (Nat.le_trans (Nat.le_trans hsz HB1.out.size) HB2.out.size))⟩
          case measure => simp [intOf]; omega
      · have hn' : (n == 0) = true := by rw [beq_iff_eq] at hn ⊢; omega
        have HN := Lib.hid hn'
        clear hn'
        cases hk : (refKind r != 1)
        · have HK := Lib.hid hk
          cases hq : refNameRune r
          · have HQ := Lib.hid hq
            clear hq
            go_wp2_with (first | (go_at_call 73; refine (HA.out _).mono ?_; rintro e w1 ⟨rfl, hb1⟩; have HB1 := Lib.hid hb1; clear hb1) | (go_at_call 74; refine (rkind_any _ _ hr0' hr1).mono ?_; rintro e w4 ⟨rfl, hb4⟩; have HB4 := Lib.hid hb4; clear hb4) | (go_at_call 75; refine (rbehind_any _ _ hr0' hr1).mono ?_; rintro e w2 ⟨rfl, hb2⟩; rw [HQ.out]; have HB2 := Lib.hid hb2; clear hb2))
            go_ret
            refine ⟨ret_bool ?_, ((hb.trans (HB1.out.mono hsz)).trans (HB4.out.mono (Nat.le_trans hsz HB1.out.size))).trans (HB2.out.mono (Nat.le_trans (Nat.le_trans hsz HB1.out.size) HB4.out.size))⟩
            have := Hst.out
            rw [HN.out, HQ.out, HK.out] at this
            exact this
          · have hw1 := HWP.out hq
            have HQ := Lib.hid hq
            clear hq
            go_wp2_with (first | (go_at_call 73; refine (HA.out _).mono ?_; rintro e w1 ⟨rfl, hb1⟩; have HB1 := Lib.hid hb1; clear hb1) | (go_at_call 74; refine (rkind_any _ _ hr0' hr1).mono ?_; rintro e w4 ⟨rfl, hb4⟩; have HB4 := Lib.hid hb4; clear hb4) | (go_at_call 75; refine (rbehind_any _ _ hr0' hr1).mono ?_; rintro e w2 ⟨rfl, hb2⟩; rw [HQ.out]; have HB2 := Lib.hid hb2; clear hb2) | (go_at_call 76; refine (HWA.out _).mono ?_; rintro e w3 ⟨rfl, hb3⟩; have HB3 := Lib.hid hb3; clear hb3))
            go_roundw
            case rel =>
              have hs' := Hst.out
              rw [HN.out, HQ.out, HK.out] at hs'
              have hA := (hb.trans (HB1.out.mono hsz)).trans (HB4.out.mono (Nat.le_trans hsz HB1.out.size))
              exact ⟨pos + wd, n + 1, by go_num, by go_num, by omega, by omega, Lib.hid (by simpa using hs'), (hA.trans (HB2.out.mono hA.size)).trans (HB3.out.mono (Nat.le_trans hA.size HB2.out.size))⟩
            case measure => simp [intOf]; omega
        · have HK := Lib.hid hk
          go_wp2_with (first | (go_at_call 73; refine (HA.out _).mono ?_; rintro e w1 ⟨rfl, hb1⟩; have HB1 := Lib.hid hb1; clear hb1) | (go_at_call 74; refine (rkind_any _ _ hr0' hr1).mono ?_; rintro e w4 ⟨rfl, hb4⟩; have HB4 := Lib.hid hb4; clear hb4))
          go_ret
          refine ⟨ret_bool ?_, (hb.trans (HB1.out.mono hsz)).trans (HB4.out.mono (Nat.le_trans hsz HB1.out.size))⟩
          have := Hst.out
          rw [HN.out, HK.out] at this
          exact this
    · have hp' : ¬ ((pos : Int) < (s.size : Int)) := by omega
      have hc' := hc.out
      rw [runesAt_nil s pos hp] at hc'
      have Hc := Lib.hid hc'
      clear hc' hc
      by_cases h1 : 1 ≤ n
      · go_wp2
        go_ret
        exact ⟨ret_bool (by rw [← Hc.out]; simp [nameGo, h1]; omega), hb⟩
      · have h1d : decide ((1 : Int) ≤ (n : Int)) = false := decide_eq_false (by omega)
        have h1e : decide ((n : Int) ≥ 1) = false := decide_eq_false (by omega)
        go_wp2
        go_ret
        exact ⟨ret_bool (by rw [← Hc.out]; simp [nameGo, h1]), hb⟩
end Go.Proofs.YticaocadeeolkaaDoor
