/-
  THE WALKS of the reference's behind, Width, Rune, Name: a name is the same on both sides.
-/
import Derived.Test.YticaocadeeolkaaDoorAe
namespace Go.Proofs.YticaocadeeolkaaDoor
open Go.RowKit Plain

/-! ### plain: the rune at a place, of what is left -/
theorem get_extract (s : ByteArray) (i k : Nat) : (s.extract i s.size).get! k = s.get! (i + k) := by
  show (s.extract i s.size).data[k]! = s.data[i + k]!
  rw [ByteArray.data_extract]
  by_cases h : i + k < s.size
  · have h' : i + k < s.data.size := h
    have h2 : k < (s.data.extract i s.size).size := by simp; omega
    rw [getElem!_pos _ k h2, getElem!_pos _ (i + k) h', Array.getElem_extract]
  · have h' : ¬ i + k < s.data.size := h
    have h2 : ¬ k < (s.data.extract i s.size).size := by simp; omega
    rw [getElem!_neg _ k h2, getElem!_neg _ (i + k) h']
theorem size_extract (s : ByteArray) (i : Nat) : (s.extract i s.size).size = s.size - i := by simp
theorem decode_extract (s : ByteArray) (i : Nat) : Utf8.decode (s.extract i s.size) 0 = Utf8.decode s i := by
  unfold Utf8.decode
  simp only [get_extract, size_extract, Nat.zero_add, Nat.add_zero]
  have e : ∀ k, decide (k < s.size - i) = decide (i + k < s.size) := fun k => by rw [decide_eq_decide]; omega
  simp only [e]

/-- A bad byte at a place. -/
def isRaw (s : ByteArray) (i : Nat) : Bool := ((Utf8.decode s i).1 == 65533) && (decide (s.size - i < 3) || !((s.extract i (i + 3)).toList == [239, 191, 189]))
def refWidth (s : ByteArray) (i : Nat) : Nat := if isRaw s i then 0 else (Utf8.decode s i).2
def refRune (s : ByteArray) (i : Nat) : Int := if isRaw s i then -1 else (Utf8.decode s i).1
def refNameRune (r : Int) : Bool := refKind r == 1 || refKind r == 2 || refKind r == 5

theorem rbehind_any (r : Int) (w : World) (h0 : -2147483648 ≤ r) (h1 : r ≤ 2147483647) :
    Calls Tryd.prog 75 #[.int .i32 r] w fun e w' => e = .returned (.bool (refNameRune r)) ∧ Below w.heap.size w w' := by
  cases hk1 : (refKind r == 1)
  · cases hk2 : (refKind r == 2)
    · go_enter Tryd.func75, Tryd.ntmps75
      go_wp2_with (go_at_call 74; refine (rkind_any r _ h0 h1).mono ?_; rintro e w' ⟨rfl, hb⟩)
      go_ret
      exact ⟨ret_bool (by simp [refNameRune, hk1, hk2]), by assumption⟩
    · go_enter Tryd.func75, Tryd.ntmps75
      go_wp2_with (go_at_call 74; refine (rkind_any r _ h0 h1).mono ?_; rintro e w' ⟨rfl, hb⟩)
      go_ret
      exact ⟨ret_bool (by simp [refNameRune, hk1, hk2]), by assumption⟩
  · go_enter Tryd.func75, Tryd.ntmps75
    go_wp2_with (go_at_call 74; refine (rkind_any r _ h0 h1).mono ?_; rintro e w' ⟨rfl, hb⟩)
    go_ret
    exact ⟨ret_bool (by simp [refNameRune, hk1]), by assumption⟩

set_option maxHeartbeats 2000000 in
set_option maxRecDepth 100000 in
/-- No U+FFFD: the rune's own width. -/
theorem width_plain (s : ByteArray) (i : Nat) (w : World) (hs : s.size ≤ 9223372036854775807) (hi : i < s.size) (hr : (((Utf8.decode s i).1 : Int) == 65533) = false) :
    Calls Tryd.prog 76 #[.string s, .int .i64 i] w fun e w' => e = .returned (.int .i64 (Utf8.decode s i).2) ∧ Below w.heap.size w w' := by
  have hi1 : (i : Int) < (s.size : Int) := by omega
  have hd0 : decide ((i : Int) < 0) = false := decide_eq_false (by omega)
  have hp0 : 0 < (s.extract i s.size).size := by rw [size_extract]; omega
  have hw1 := Plain.width_pos s i
  have hw2 := Plain.width_le s i hi
  have hnx0 : ∀ ty, (Instr.next (.pointer (some ⟨w.heap.size, 0, none⟩)) true ty).run Tryd.prog (w.iter (s.extract i s.size) 0) = .ok (.tuple #[.bool true, .int .i64 0, .int .i32 (Utf8.decode s i).1]) (w.iter (s.extract i s.size) (Utf8.decode s i).2) := fun ty => by
    have := run_next_any (P := Tryd.prog) w (s.extract i s.size) 0 ty hp0
    rw [decode_extract, Nat.zero_add] at this
    exact this
  by_cases hmore : (Utf8.decode s i).2 < s.size - i
  · have hnx1 : ∀ ty, (Instr.next (.pointer (some ⟨w.heap.size, 0, none⟩)) true ty).run Tryd.prog (w.iter (s.extract i s.size) (Utf8.decode s i).2) = .ok (.tuple #[.bool true, .int .i64 (Utf8.decode s i).2, .int .i32 (Utf8.decode (s.extract i s.size) (Utf8.decode s i).2).1]) (w.iter (s.extract i s.size) ((Utf8.decode s i).2 + (Utf8.decode (s.extract i s.size) (Utf8.decode s i).2).2)) := fun ty => run_next_any w _ _ ty (by rw [size_extract]; exact hmore)
    have hgt : (0 : Int) < ((Utf8.decode s i).2 : Int) := by omega
    generalize (Utf8.decode s i).2 = wd at *
    generalize (Utf8.decode s i).1 = rn at *
    go_enter Tryd.func76, Tryd.ntmps76
    go_wp2
    refine wp_loop_rounds 2 ?_
    rw [rounds_succ]
    go_wp2
    rw [rounds_succ]
    go_wp2
    go_ret
    exact ⟨rfl, by exact (Below.refl _ _).alloc (Nat.le_refl _) _⟩
  · have hnx1 : ∀ ty, (Instr.next (.pointer (some ⟨w.heap.size, 0, none⟩)) true ty).run Tryd.prog (w.iter (s.extract i s.size) (Utf8.decode s i).2) = .ok (.tuple #[.bool false]) (w.iter (s.extract i s.size) (Utf8.decode s i).2) := fun ty => run_next_end w _ _ ty (by rw [size_extract]; exact hmore)
    have hwe : ((s.size : Int) - (i : Int)) = ((Utf8.decode s i).2 : Int) := by omega
    have HWE := Lib.hid hwe
    clear hwe
    generalize (Utf8.decode s i).2 = wd at *
    generalize (Utf8.decode s i).1 = rn at *
    go_enter Tryd.func76, Tryd.ntmps76
    go_wp2
    refine wp_loop_rounds 2 ?_
    rw [rounds_succ]
    go_wp2
    rw [rounds_succ]
    go_wp2
    go_ret
    exact ⟨ret_int HWE.out, by exact (Below.refl _ _).alloc (Nat.le_refl _) _⟩

set_option maxHeartbeats 2000000 in
set_option maxRecDepth 100000 in
/-- U+FFFD, and fewer than three bytes are left. -/
theorem width_short (s : ByteArray) (i : Nat) (w : World) (_hs : s.size ≤ 9223372036854775807) (hi : i < s.size) (hr : (((Utf8.decode s i).1 : Int) == 65533) = true) (h3 : s.size - i < 3) :
    Calls Tryd.prog 76 #[.string s, .int .i64 i] w fun e w' => e = .returned (.int .i64 0) ∧ Below w.heap.size w w' := by
  have hi1 : (i : Int) < (s.size : Int) := by omega
  have hd0 : decide ((i : Int) < 0) = false := decide_eq_false (by omega)
  have hp0 : 0 < (s.extract i s.size).size := by rw [size_extract]; omega
  have hw1 := Plain.width_pos s i
  have hw2 := Plain.width_le s i hi
  have hnx0 : ∀ ty, (Instr.next (.pointer (some ⟨w.heap.size, 0, none⟩)) true ty).run Tryd.prog (w.iter (s.extract i s.size) 0) = .ok (.tuple #[.bool true, .int .i64 0, .int .i32 (Utf8.decode s i).1]) (w.iter (s.extract i s.size) (Utf8.decode s i).2) := fun ty => by
    have := run_next_any (P := Tryd.prog) w (s.extract i s.size) 0 ty hp0
    rw [decode_extract, Nat.zero_add] at this
    exact this
  have h3' : (s.size : Int) - (i : Int) < 3 := by omega
  generalize (Utf8.decode s i).2 = wd at *
  generalize (Utf8.decode s i).1 = rn at *
  go_enter Tryd.func76, Tryd.ntmps76
  go_wp2
  refine wp_loop_rounds 2 ?_
  rw [rounds_succ]
  go_wp2
  go_ret
  exact ⟨rfl, by exact (Below.refl _ _).alloc (Nat.le_refl _) _⟩
set_option maxHeartbeats 2000000 in
set_option maxRecDepth 100000 in
/-- U+FFFD, three bytes are left, and they are others. -/
theorem width_raw (s : ByteArray) (i : Nat) (w : World) (hs : s.size ≤ 9223372036854775807) (hi : i < s.size) (hr : (((Utf8.decode s i).1 : Int) == 65533) = true) (h3 : 3 ≤ s.size - i) (hq : (!(s.extract i (i + 3)).toList == [239, 191, 189]) = true) :
    Calls Tryd.prog 76 #[.string s, .int .i64 i] w fun e w' => e = .returned (.int .i64 0) ∧ Below w.heap.size w w' := by
  have hi1 : (i : Int) < (s.size : Int) := by omega
  have hd0 : decide ((i : Int) < 0) = false := decide_eq_false (by omega)
  have hp0 : 0 < (s.extract i s.size).size := by rw [size_extract]; omega
  have hw1 := Plain.width_pos s i
  have hw2 := Plain.width_le s i hi
  have hnx0 : ∀ ty, (Instr.next (.pointer (some ⟨w.heap.size, 0, none⟩)) true ty).run Tryd.prog (w.iter (s.extract i s.size) 0) = .ok (.tuple #[.bool true, .int .i64 0, .int .i32 (Utf8.decode s i).1]) (w.iter (s.extract i s.size) (Utf8.decode s i).2) := fun ty => by
    have := run_next_any (P := Tryd.prog) w (s.extract i s.size) 0 ty hp0
    rw [decode_extract, Nat.zero_add] at this
    exact this
  have h3' : decide ((s.size : Int) - (i : Int) < 3) = false := decide_eq_false (by omega)
  have h3a : (i : Int) + 3 ≤ (s.size : Int) := by omega
  have h3b : ((i : Int) + 3).toNat = i + 3 := by omega
  generalize (Utf8.decode s i).2 = wd at *
  generalize (Utf8.decode s i).1 = rn at *
  go_enter Tryd.func76, Tryd.ntmps76
  go_wp2
  refine wp_loop_rounds 2 ?_
  rw [rounds_succ]
  go_wp2
  go_ret
  exact ⟨rfl, by exact (Below.refl _ _).alloc (Nat.le_refl _) _⟩
set_option maxHeartbeats 2000000 in
set_option maxRecDepth 100000 in
/-- U+FFFD, written out. -/
theorem width_proper (s : ByteArray) (i : Nat) (w : World) (hs : s.size ≤ 9223372036854775807) (hi : i < s.size) (hr : (((Utf8.decode s i).1 : Int) == 65533) = true) (h3 : 3 ≤ s.size - i) (hq : (!(s.extract i (i + 3)).toList == [239, 191, 189]) = false) :
    Calls Tryd.prog 76 #[.string s, .int .i64 i] w fun e w' => e = .returned (.int .i64 (Utf8.decode s i).2) ∧ Below w.heap.size w w' := by
  have hi1 : (i : Int) < (s.size : Int) := by omega
  have hd0 : decide ((i : Int) < 0) = false := decide_eq_false (by omega)
  have hp0 : 0 < (s.extract i s.size).size := by rw [size_extract]; omega
  have hw1 := Plain.width_pos s i
  have hw2 := Plain.width_le s i hi
  have hnx0 : ∀ ty, (Instr.next (.pointer (some ⟨w.heap.size, 0, none⟩)) true ty).run Tryd.prog (w.iter (s.extract i s.size) 0) = .ok (.tuple #[.bool true, .int .i64 0, .int .i32 (Utf8.decode s i).1]) (w.iter (s.extract i s.size) (Utf8.decode s i).2) := fun ty => by
    have := run_next_any (P := Tryd.prog) w (s.extract i s.size) 0 ty hp0
    rw [decode_extract, Nat.zero_add] at this
    exact this
  have h3' : decide ((s.size : Int) - (i : Int) < 3) = false := decide_eq_false (by omega)
  have h3a : (i : Int) + 3 ≤ (s.size : Int) := by omega
  have h3b : ((i : Int) + 3).toNat = i + 3 := by omega
  by_cases hmore : (Utf8.decode s i).2 < s.size - i
  · have hnx1 : ∀ ty, (Instr.next (.pointer (some ⟨w.heap.size, 0, none⟩)) true ty).run Tryd.prog (w.iter (s.extract i s.size) (Utf8.decode s i).2) = .ok (.tuple #[.bool true, .int .i64 (Utf8.decode s i).2, .int .i32 (Utf8.decode (s.extract i s.size) (Utf8.decode s i).2).1]) (w.iter (s.extract i s.size) ((Utf8.decode s i).2 + (Utf8.decode (s.extract i s.size) (Utf8.decode s i).2).2)) := fun ty => run_next_any w _ _ ty (by rw [size_extract]; exact hmore)
    have hgt : (0 : Int) < ((Utf8.decode s i).2 : Int) := by omega
    generalize (Utf8.decode s i).2 = wd at *
    generalize (Utf8.decode s i).1 = rn at *
    go_enter Tryd.func76, Tryd.ntmps76
    go_wp2
    refine wp_loop_rounds 2 ?_
    rw [rounds_succ]
    go_wp2
    rw [rounds_succ]
    go_wp2
    go_ret
    exact ⟨rfl, by exact (Below.refl _ _).alloc (Nat.le_refl _) _⟩
  · have hnx1 : ∀ ty, (Instr.next (.pointer (some ⟨w.heap.size, 0, none⟩)) true ty).run Tryd.prog (w.iter (s.extract i s.size) (Utf8.decode s i).2) = .ok (.tuple #[.bool false]) (w.iter (s.extract i s.size) (Utf8.decode s i).2) := fun ty => run_next_end w _ _ ty (by rw [size_extract]; exact hmore)
    have hwe : ((s.size : Int) - (i : Int)) = ((Utf8.decode s i).2 : Int) := by omega
    have HWE := Lib.hid hwe
    clear hwe
    generalize (Utf8.decode s i).2 = wd at *
    generalize (Utf8.decode s i).1 = rn at *
    go_enter Tryd.func76, Tryd.ntmps76
    go_wp2
    refine wp_loop_rounds 2 ?_
    rw [rounds_succ]
    go_wp2
    rw [rounds_succ]
    go_wp2
    go_ret
    exact ⟨ret_int HWE.out, by exact (Below.refl _ _).alloc (Nat.le_refl _) _⟩


theorem width_any (s : ByteArray) (i : Nat) (w : World) (hs : s.size ≤ 9223372036854775807) (hi : i < s.size) :
    Calls Tryd.prog 76 #[.string s, .int .i64 i] w fun e w' => e = .returned (.int .i64 (refWidth s i)) ∧ Below w.heap.size w w' := by
  have ecast : (((Utf8.decode s i).1 : Int) == 65533) = ((Utf8.decode s i).1 == 65533) := by
    rw [Bool.eq_iff_iff, beq_iff_eq, beq_iff_eq]; omega
  cases hr : (((Utf8.decode s i).1 : Int) == 65533)
  · have e : isRaw s i = false := by rw [isRaw, ← ecast, hr]; rfl
    simpa only [refWidth, e, Bool.false_eq_true, if_false] using width_plain s i w hs hi hr
  · by_cases h3 : s.size - i < 3
    · have e : isRaw s i = true := by rw [isRaw, ← ecast, hr, decide_eq_true h3]; rfl
      simpa only [refWidth, e, if_true, Int.ofNat_zero, Int.natCast_zero] using width_short s i w hs hi hr h3
    · cases hq : (!(s.extract i (i + 3)).toList == [239, 191, 189])
      · have e : isRaw s i = false := by rw [isRaw, ← ecast, hr, decide_eq_false h3, hq]; rfl
        simpa only [refWidth, e, Bool.false_eq_true, if_false] using width_proper s i w hs hi hr (by omega) hq
      · have e : isRaw s i = true := by rw [isRaw, ← ecast, hr, decide_eq_false h3, hq]; rfl
        simpa only [refWidth, e, if_true, Int.ofNat_zero, Int.natCast_zero] using width_raw s i w hs hi hr (by omega) hq

/-! ### Rune -/
set_option maxHeartbeats 2000000 in
set_option maxRecDepth 100000 in
theorem rrune_any (s : ByteArray) (i : Nat) (w : World) (hs : s.size ≤ 9223372036854775807) (hi : i < s.size) :
    Calls Tryd.prog 73 #[.string s, .int .i64 i] w fun e w' => e = .returned (.int .i32 (refRune s i)) ∧ Below w.heap.size w w' := by
  have hi1 : (i : Int) ≤ (s.size : Int) := by omega
  have hw1 := Plain.width_pos s i
  cases hr : isRaw s i
  · have HR := Lib.hid hr
    clear hr
    have hwz : (((refWidth s i : Nat) : Int) == 0) = false := by
      rw [beq_eq_false_iff_ne, refWidth, HR.out]; simp; omega
    have hwa := Lib.hid (width_any s i w hs hi)
    generalize refWidth s i = wd at *
    go_enter Tryd.func73, Tryd.ntmps73
    go_wp2_with (go_at_call 76; refine (hwa.out).mono ?_; rintro e w1 ⟨rfl, hb⟩)
    have hsz : w.heap.size ≤ w1.heap.size := by have := (by assumption : Below w.heap.size w w1).size; exact this
    have hp0 : 0 < (s.extract i s.size).size := by rw [size_extract]; omega
    have hnx0 : ∀ ty, (Instr.next (.pointer (some ⟨w1.heap.size, 0, none⟩)) true ty).run Tryd.prog (w1.iter (s.extract i s.size) 0) = .ok (.tuple #[.bool true, .int .i64 0, .int .i32 (Utf8.decode s i).1]) (w1.iter (s.extract i s.size) (Utf8.decode s i).2) := fun ty => by
      have := run_next_any (P := Tryd.prog) w1 (s.extract i s.size) 0 ty hp0
      rw [decode_extract, Nat.zero_add] at this
      exact this
    refine wp_loop_rounds 1 ?_
    rw [rounds_succ]
    go_wp2
    go_ret
    exact ⟨ret_int (by rw [refRune, HR.out]; rfl), by exact (by assumption : Below w.heap.size w w1).alloc hsz _⟩
  · have HR := Lib.hid hr
    clear hr
    have hwz : (((refWidth s i : Nat) : Int) == 0) = true := by
      rw [beq_iff_eq, refWidth, HR.out]; rfl
    have hwa := Lib.hid (width_any s i w hs hi)
    generalize refWidth s i = wd at *
    go_enter Tryd.func73, Tryd.ntmps73
    go_wp2_with (go_at_call 76; refine (hwa.out).mono ?_; rintro e w1 ⟨rfl, hb⟩)
    go_ret
    exact ⟨ret_int (by rw [refRune, HR.out]; rfl), by assumption⟩
end Go.Proofs.YticaocadeeolkaaDoor
