/-
  THE WALKS of package runes: inName, bad, Name, each for every argument.
-/
import Derived.Test.YticaocadeeolkaaDoorAb
namespace Go.Proofs.YticaocadeeolkaaDoor
open Go.RowKit Plain

theorem inName_any (r : Int) (w : World) (ht : Tabs w) (h0 : -2147483648 ≤ r) (h1 : r ≤ 2147483647) :
    Calls Tryd.prog 70 #[.int .i32 r] w fun e w' => e = .returned (.bool (isNameRune r)) ∧ Below w.heap.size w w' := by
  cases hk1 : (kindOf r == 1)
  · cases hk2 : (kindOf r == 2)
    · go_enter Tryd.func70, Tryd.ntmps70
      go_wp2_with (go_at_call 69; refine (kind_any r _ ht h0 h1).mono ?_; rintro e w' ⟨rfl, hb⟩)
      go_ret
      exact ⟨ret_bool (by simp [isNameRune, hk1, hk2]), by assumption⟩
    · go_enter Tryd.func70, Tryd.ntmps70
      go_wp2_with (go_at_call 69; refine (kind_any r _ ht h0 h1).mono ?_; rintro e w' ⟨rfl, hb⟩)
      go_ret
      exact ⟨ret_bool (by simp [isNameRune, hk1, hk2]), by assumption⟩
  · go_enter Tryd.func70, Tryd.ntmps70
    go_wp2_with (go_at_call 69; refine (kind_any r _ ht h0 h1).mono ?_; rintro e w' ⟨rfl, hb⟩)
    go_ret
    exact ⟨ret_bool (by simp [isNameRune, hk1]), by assumption⟩

/-! ### HasPrefix -/
def hasPre (s p : ByteArray) : Bool := decide (p.size ≤ s.size) && ((s.extract 0 p.size).toList == p.toList)
theorem hasPre0_any (s p : ByteArray) (w : World) :
    Calls Tryd.prog 86 #[.string s, .string p] w fun e w' => e = .returned (.bool (hasPre s p)) ∧ w = w' := by
  by_cases hl : p.size ≤ s.size
  · have hl' : (p.size : Int) ≤ (s.size : Int) := by omega
    go_enter Tryd.func86, Tryd.ntmps86
    go_wp2
    go_ret
    exact ⟨ret_bool (by simp [hasPre, hl]), rfl⟩
  · have hl' : decide ((s.size : Int) ≥ (p.size : Int)) = false := decide_eq_false (by omega)
    go_enter Tryd.func86, Tryd.ntmps86
    go_wp2
    go_ret
    exact ⟨ret_bool (by simp [hasPre, hl]), rfl⟩
theorem hasPre_any (s p : ByteArray) (w : World) :
    Calls Tryd.prog 78 #[.string s, .string p] w fun e w' => e = .returned (.bool (hasPre s p)) ∧ w = w' := by
  go_enter Tryd.func78, Tryd.ntmps78
  go_wp2_with (go_at_call 86; refine (hasPre0_any s p _).mono ?_; rintro e w' ⟨rfl, rfl⟩)
  go_ret
  exact ⟨rfl, rfl⟩

/-! ### bad -/
def isBad (s : ByteArray) (i : Nat) (r : Int) : Bool := (r == 65533) && !hasPre (s.extract i s.size) ⟨#[239, 191, 189]⟩
theorem bad_any (s : ByteArray) (i : Nat) (r : Int) (w : World) (hi : i ≤ s.size) :
    Calls Tryd.prog 68 #[.string s, .int .i64 i, .int .i32 r] w fun e w' => e = .returned (.bool (isBad s i r)) ∧ w = w' := by
  cases hr : (r == 65533)
  · go_enter Tryd.func68, Tryd.ntmps68
    go_wp2
    go_ret
    exact ⟨ret_bool (by simp [isBad, hr]), rfl⟩
  · have hi' : (i : Int) ≤ (s.size : Int) := by omega
    go_enter Tryd.func68, Tryd.ntmps68
    go_wp2_with (go_at_call 78; refine (hasPre_any _ _ _).mono ?_; rintro e w' ⟨rfl, rfl⟩)
    go_ret
    exact ⟨ret_bool (by simp [isBad, hr]), rfl⟩
theorem bad_not (s : ByteArray) (i : Nat) (r : Int) (w : World) (hi : i ≤ s.size) (h : (r == 65533) = false) :
    Calls Tryd.prog 68 #[.string s, .int .i64 i, .int .i32 r] w fun e w' => e = .returned (.bool false) ∧ w = w' :=
  (bad_any s i r w hi).mono fun _ _ ⟨he, hw⟩ => ⟨by rw [he]; exact ret_bool (by simp [isBad, h]), hw⟩

/-! ### Name -/
theorem nameGo_cons (p r : Nat) (l : List (Nat × Nat)) (n : Nat) : nameGo ((p, r) :: l) n = if (n == 0 && !isLetter (r : Int)) || !isNameRune (r : Int) then false else nameGo l (n + 1) := rfl
theorem letter_isName {r : Int} (h : isLetter r = true) : isNameRune r = true := by
  have := kind_one r
  rw [h] at this
  simp [isNameRune, this]
set_option maxHeartbeats 2000000 in
set_option maxRecDepth 100000 in
theorem name_any (s : ByteArray) (w : World) (ht : Tabs w) (hs : s.size ≤ maxLen) :
    Calls Tryd.prog 56 #[.string s] w fun e w' => e = .returned (.bool (isName s)) ∧ Below w.heap.size w w' := by
  unfold maxLen at hs
  have HT := Lib.hid ht
  clear ht
  go_enter Tryd.func56, Tryd.ntmps56
  go_wp2
  go_loopw [3] (fun v wr => ∃ (pos n : Nat), v = .int .i64 n ∧ n ≤ pos ∧ pos ≤ s.size ∧ (0 < pos → 0 < n) ∧ Hid (wr.heap[w.heap.size]? = some (.stringIter s pos)) ∧ Hid (nameGo (runesAt s pos) n = isName s) ∧ Below w.heap.size w wr) (fun _ w' => s.size - w'.iterPos w.heap.size)
  case atStart => exact ⟨0, 0, rfl, by omega, by omega, by omega, World.iter_heap w s 0, rfl, (Below.refl _ _).alloc (Nat.le_refl _) _⟩
  case round =>
    obtain ⟨pos, n, rfl, hnp, hps, hpn, hit, hc, hb⟩ := hrel
    by_cases hp : pos < s.size
    · have hwd := Plain.width_pos s pos
      have hwl := Plain.width_le s pos hp
      have hrl := decode_le s pos
      have HTW := Lib.hid (HT.out.below hb)
      have hwsz : w.heap.size < wr.heap.size := (Array.getElem?_eq_some_iff.1 hit.out).1
      have hnx : ∀ ty, (Instr.next (.pointer (some ⟨w.heap.size, 0, none⟩)) true ty).run Tryd.prog wr = _ := fun ty => Lib.run_next_any_at wr w.heap.size s pos ty hit.out hp
      have hit2 : Hid ((wr.iterAt w.heap.size s (pos + (Utf8.decode s pos).2)).heap[w.heap.size]? = some (.stringIter s (pos + (Utf8.decode s pos).2))) := Lib.iterAt_heap wr _ s _ _ hit.out
      have hb2 : Below w.heap.size w (wr.iterAt w.heap.size s (pos + (Utf8.decode s pos).2)) := Lib.below_iterAt hb (Nat.le_refl _) _ _
      have htw2 : Hid (Tabs (wr.iterAt w.heap.size s (pos + (Utf8.decode s pos).2))) := HT.out.below hb2
      have hstep := hc.out
      rw [runesAt_cons s pos hp, nameGo_cons] at hstep
      clear hc
      generalize hw2 : wr.iterAt w.heap.size s (pos + (Utf8.decode s pos).2) = w2 at *
      generalize hr : (Utf8.decode s pos).1 = rn at *
      have hr0 : -2147483648 ≤ (rn : Int) := by omega
      have hr1 : (rn : Int) ≤ 2147483647 := by omega
      have Hstep := Lib.hid hstep
      have HIP := Lib.hid (iterPos_of hit.out)
      clear hstep hw2 hr hit hb
      have hsz2 : w.heap.size ≤ w2.heap.size := hb2.size
      cases hbad : isBad s pos rn
      · have HBAD := Lib.hid hbad
        clear hbad
        by_cases hz : pos = 0
        · have hz1 : ((pos : Int) == 0) = true := by rw [beq_iff_eq]; omega
          have hn0 : (n == 0) = true := by rw [beq_iff_eq]; omega
          have Hn0 := Lib.hid hn0
          clear hn0
          have hz' : pos ≤ 0 := by omega
          clear hz
          cases hl : isLetter (rn : Int)
          · have HL := Lib.hid hl
            have hk : (kindOf (rn : Int) != 1) = true := by show (!(kindOf (rn : Int) == 1)) = true; rw [kind_one, HL.out]; rfl
            clear hl
            go_wp2_with (first | (go_at_call 68; refine (bad_any s pos _ _ hps).mono ?_; rintro e w' ⟨rfl, rfl⟩; rw [HBAD.out]) | (go_at_call 69; refine (kind_any _ _ htw2.out hr0 hr1).mono ?_; rintro e w3 ⟨rfl, hb3⟩; have HB3 := Lib.hid hb3; clear hb3))
            go_ret
            exact ⟨ret_bool (by rw [← Hstep.out, Hn0.out, HL.out]; rfl), hb2.trans (HB3.out.mono hsz2)⟩
          · have HL := Lib.hid hl
            have HI := Lib.hid (letter_isName hl)
            have hk : (kindOf (rn : Int) != 1) = false := by show (!(kindOf (rn : Int) == 1)) = false; rw [kind_one, HL.out]; rfl
            clear hl
            go_wp2_with (first | (go_at_call 68; refine (bad_any s pos _ _ hps).mono ?_; rintro e w' ⟨rfl, rfl⟩; rw [HBAD.out]) | (go_at_call 69; refine (kind_any _ _ htw2.out hr0 hr1).mono ?_; rintro e w3 ⟨rfl, hb3⟩; have HB3 := Lib.hid hb3; clear hb3) | (go_at_call 70; refine (inName_any _ _ (htw2.out.below HB3.out) hr0 hr1).mono ?_; rintro e w4 ⟨rfl, hb4⟩; have HB4 := Lib.hid hb4; clear hb4; rw [HI.out]))
            go_roundw
            case rel =>
              have hb5 := hb2.trans ((HB3.out.trans (HB4.out.mono HB3.out.size)).mono hsz2)
              have hit4 := ((HB3.out.trans (HB4.out.mono HB3.out.size)).block w.heap.size (by have := (Array.getElem?_eq_some_iff.1 hit2.out).1; omega)).trans hit2.out
              have hs' := Hstep.out
              rw [HL.out, HI.out] at hs'
              exact ⟨pos + (Utf8.decode s pos).2, n + 1, by go_num, by omega, by omega, by omega, hit4, Lib.hid (by simpa using hs'), hb5⟩
            case measure =>
              have hit4 := ((HB3.out.trans (HB4.out.mono HB3.out.size)).block w.heap.size (by have := (Array.getElem?_eq_some_iff.1 hit2.out).1; omega)).trans hit2.out
              rw [iterPos_of hit4, HIP.out]
              omega
        · have hz1 : ((pos : Int) == 0) = false := by rw [beq_eq_false_iff_ne]; omega
          have hn0 : (n == 0) = false := by rw [beq_eq_false_iff_ne]; omega
          have Hn0 := Lib.hid hn0
          clear hn0
          cases hi : isNameRune (rn : Int)
          · have HI := Lib.hid hi
            clear hi
            go_wp2_with (first | (go_at_call 68; refine (bad_any s pos _ _ hps).mono ?_; rintro e w' ⟨rfl, rfl⟩; rw [HBAD.out]) | (go_at_call 70; refine (inName_any _ _ htw2.out hr0 hr1).mono ?_; rintro e w4 ⟨rfl, hb4⟩; have HB4 := Lib.hid hb4; clear hb4; rw [HI.out]))
            go_ret
            exact ⟨ret_bool (by rw [← Hstep.out, Hn0.out, HI.out]; rfl), hb2.trans (HB4.out.mono hsz2)⟩
          · have HI := Lib.hid hi
            clear hi
            go_wp2_with (first | (go_at_call 68; refine (bad_any s pos _ _ hps).mono ?_; rintro e w' ⟨rfl, rfl⟩; rw [HBAD.out]) | (go_at_call 70; refine (inName_any _ _ htw2.out hr0 hr1).mono ?_; rintro e w4 ⟨rfl, hb4⟩; have HB4 := Lib.hid hb4; clear hb4; rw [HI.out]))
            go_roundw
            case rel =>
              have hb5 := hb2.trans (HB4.out.mono hsz2)
              have hit4 := (HB4.out.block w.heap.size (by have := (Array.getElem?_eq_some_iff.1 hit2.out).1; omega)).trans hit2.out
              have hs' := Hstep.out
              rw [Hn0.out, HI.out] at hs'
              exact ⟨pos + (Utf8.decode s pos).2, n + 1, by go_num, by omega, by omega, by omega, hit4, Lib.hid (by simpa using hs'), hb5⟩
            case measure =>
              have hit4 := (HB4.out.block w.heap.size (by have := (Array.getElem?_eq_some_iff.1 hit2.out).1; omega)).trans hit2.out
              rw [iterPos_of hit4, HIP.out]
              omega
      · have HBAD := Lib.hid hbad
        clear hbad
        go_wp2_with (first | (go_at_call 68; refine (bad_any s pos _ _ hps).mono ?_; rintro e w' ⟨rfl, rfl⟩; rw [HBAD.out]))
        go_ret
        have h65 : (rn : Int) = 65533 := by have := HBAD.out; simp only [isBad, Bool.and_eq_true, beq_iff_eq] at this; exact this.1
        exact ⟨ret_bool (by rw [← Hstep.out, h65, name_fffd]; simp), hb2⟩
    · have hnx : ∀ ty, (Instr.next (.pointer (some ⟨w.heap.size, 0, none⟩)) true ty).run Tryd.prog wr = _ := fun ty => Lib.run_next_end_at wr w.heap.size s pos ty hit.out hp
      have hc' := hc.out
      rw [runesAt_nil s pos hp] at hc'
      have Hc := Lib.hid hc'
      clear hc' hc
      by_cases h1 : 1 ≤ n
      · go_wp2
        go_ret
        exact ⟨ret_bool (by rw [← Hc.out]; simp [nameGo, h1]; omega), hb⟩
      · have h1d : decide ((1 : Int) ≤ (n : Int)) = false := decide_eq_false (by omega)
        go_wp2
        go_ret
        exact ⟨ret_bool (by rw [← Hc.out]; simp [nameGo, h1]), hb⟩
end Go.Proofs.YticaocadeeolkaaDoor
