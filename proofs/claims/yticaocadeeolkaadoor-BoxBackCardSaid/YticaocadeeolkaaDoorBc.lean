/-
  THE WALKS of Arity (both sides), expr.sound and the reference's Form. (Laid by gen_bc.py.)
-/
import Derived.Test.YticaocadeeolkaaDoorBb
import Derived.Deep.QuietTactic
import Derived.BigQuiet
namespace Go.Proofs.YticaocadeeolkaaDoor
open Go.RowKit Plain Go.Proofs.YticaocadeeolkaaDoorW.PrintWords

def arityI (op : Int) : Int := match arity op with | some k => k | none => 0
def arityE (op : Int) : Int := if (arity op).isSome then 0 else 2
def arityR (op : Int) : Int := match arity op with | some k => k | none => -1
theorem ret_arity {op a b : Int} (h : arityI op = a) (h' : arityE op = b) : Ending.returned (.tuple #[.int .i64 a, .int .i64 b]) = .returned (.tuple #[.int .i64 (arityI op), .int .i64 (arityE op)]) := by rw [h, h']
theorem arity_two {op : Int} (h : 5 ≤ op) (h' : op ≤ 16) : arity op = some 2 := by
  unfold arity; rw [if_neg (by omega), if_neg (by omega), if_neg (by omega), if_pos ⟨h, h'⟩]
theorem arity_none {op : Int} (h1 : (op == 1) = false) (h2 : (op == 2) = false) (h3 : (op == 3) = false) (h4 : (op == 4) = false) (h17 : (op == 17) = false) (h : op < 5 ∨ 16 < op) : arity op = none := by
  simp at h1 h2 h3 h4 h17
  unfold arity; rw [if_neg (by omega), if_neg (by omega), if_neg (by omega), if_neg (by omega)]

set_option maxHeartbeats 2000000 in
theorem arity_any (op : Int) (w : World) : Calls Tryd.prog 55 #[.int .i64 op] w fun e w' => e = .returned (.tuple #[.int .i64 (arityI op), .int .i64 (arityE op)]) ∧ w = w' := by
  cases h1 : (op == 1)
  · skip
    cases h2 : (op == 2)
    · skip
      cases h3 : (op == 3)
      · skip
        cases h4 : (op == 4)
        · skip
          cases h17 : (op == 17)
          · skip
            by_cases ha : 5 ≤ op
            · by_cases hb : op ≤ 16
              · have HA := Lib.hid (arity_two ha hb)
                go_enter Tryd.func55, Tryd.ntmps55
                go_wp2
                go_ret2
                exact ⟨ret_arity (by rw [arityI, HA.out]; rfl) (by rw [arityE, HA.out]; rfl), rfl⟩
              · have HA := Lib.hid (arity_none h1 h2 h3 h4 h17 (by omega))
                have hd : decide (op ≤ 16) = false := decide_eq_false hb
                go_enter Tryd.func55, Tryd.ntmps55
                go_wp2
                go_ret2
                exact ⟨ret_arity (by rw [arityI, HA.out]) (by rw [arityE, HA.out]; rfl), rfl⟩
            · have HA := Lib.hid (arity_none h1 h2 h3 h4 h17 (by omega))
              have hd : decide (5 ≤ op) = false := decide_eq_false ha
              have hd' : decide (op ≥ 5) = false := decide_eq_false ha
              go_enter Tryd.func55, Tryd.ntmps55
              go_wp2
              go_ret2
              exact ⟨ret_arity (by rw [arityI, HA.out]) (by rw [arityE, HA.out]; rfl), rfl⟩
          · have HA := Lib.hid (show arity op = some 3 by rw [beq_iff_eq] at h17; rw [h17]; rfl)
            go_enter Tryd.func55, Tryd.ntmps55
            go_wp2
            go_ret2
            exact ⟨ret_arity (by rw [arityI, HA.out]; rfl) (by rw [arityE, HA.out]; rfl), rfl⟩
        · have HA := Lib.hid (show arity op = some 1 by rw [beq_iff_eq] at h4; rw [h4]; rfl)
          go_enter Tryd.func55, Tryd.ntmps55
          go_wp2
          go_ret2
          exact ⟨ret_arity (by rw [arityI, HA.out]; rfl) (by rw [arityE, HA.out]; rfl), rfl⟩
      · have HA := Lib.hid (show arity op = some 1 by rw [beq_iff_eq] at h3; rw [h3]; rfl)
        go_enter Tryd.func55, Tryd.ntmps55
        go_wp2
        go_ret2
        exact ⟨ret_arity (by rw [arityI, HA.out]; rfl) (by rw [arityE, HA.out]; rfl), rfl⟩
    · have HA := Lib.hid (show arity op = some 0 by rw [beq_iff_eq] at h2; rw [h2]; rfl)
      go_enter Tryd.func55, Tryd.ntmps55
      go_wp2
      go_ret2
      exact ⟨ret_arity (by rw [arityI, HA.out]; rfl) (by rw [arityE, HA.out]; rfl), rfl⟩
  · have HA := Lib.hid (show arity op = some 0 by rw [beq_iff_eq] at h1; rw [h1]; rfl)
    go_enter Tryd.func55, Tryd.ntmps55
    go_wp2
    go_ret2
    exact ⟨ret_arity (by rw [arityI, HA.out]; rfl) (by rw [arityE, HA.out]; rfl), rfl⟩
set_option maxHeartbeats 2000000 in
theorem rarity_any (op : Int) (w : World) : Calls Tryd.prog 53 #[.int .i64 op] w fun e w' => e = .returned (.int .i64 (arityR op)) ∧ w = w' := by
  cases h1 : (op == 1)
  · skip
    cases h2 : (op == 2)
    · skip
      cases h3 : (op == 3)
      · skip
        cases h4 : (op == 4)
        · skip
          cases h17 : (op == 17)
          · skip
            by_cases ha : 5 ≤ op
            · by_cases hb : op ≤ 16
              · have HA := Lib.hid (arity_two ha hb)
                go_enter Tryd.func53, Tryd.ntmps53
                go_wp2
                go_ret
                exact ⟨ret_int (by rw [arityR, HA.out]; rfl), rfl⟩
              · have HA := Lib.hid (arity_none h1 h2 h3 h4 h17 (by omega))
                have hd : decide (op ≤ 16) = false := decide_eq_false hb
                go_enter Tryd.func53, Tryd.ntmps53
                go_wp2
                go_ret
                exact ⟨ret_int (by rw [arityR, HA.out]), rfl⟩
            · have HA := Lib.hid (arity_none h1 h2 h3 h4 h17 (by omega))
              have hd : decide (5 ≤ op) = false := decide_eq_false ha
              have hd' : decide (op ≥ 5) = false := decide_eq_false ha
              go_enter Tryd.func53, Tryd.ntmps53
              go_wp2
              go_ret
              exact ⟨ret_int (by rw [arityR, HA.out]), rfl⟩
          · have HA := Lib.hid (show arity op = some 3 by rw [beq_iff_eq] at h17; rw [h17]; rfl)
            go_enter Tryd.func53, Tryd.ntmps53
            go_wp2
            go_ret
            exact ⟨ret_int (by rw [arityR, HA.out]; rfl), rfl⟩
        · have HA := Lib.hid (show arity op = some 1 by rw [beq_iff_eq] at h4; rw [h4]; rfl)
          go_enter Tryd.func53, Tryd.ntmps53
          go_wp2
          go_ret
          exact ⟨ret_int (by rw [arityR, HA.out]; rfl), rfl⟩
      · have HA := Lib.hid (show arity op = some 1 by rw [beq_iff_eq] at h3; rw [h3]; rfl)
        go_enter Tryd.func53, Tryd.ntmps53
        go_wp2
        go_ret
        exact ⟨ret_int (by rw [arityR, HA.out]; rfl), rfl⟩
    · have HA := Lib.hid (show arity op = some 0 by rw [beq_iff_eq] at h2; rw [h2]; rfl)
      go_enter Tryd.func53, Tryd.ntmps53
      go_wp2
      go_ret
      exact ⟨ret_int (by rw [arityR, HA.out]; rfl), rfl⟩
  · have HA := Lib.hid (show arity op = some 0 by rw [beq_iff_eq] at h1; rw [h1]; rfl)
    go_enter Tryd.func53, Tryd.ntmps53
    go_wp2
    go_ret
    exact ⟨ret_int (by rw [arityR, HA.out]; rfl), rfl⟩

/-! ### sound, Form -/
theorem form_none {op n : Int} {name : ByteArray} {k : Nat} (h : arity op = none) : false = formB op n name k := by simp [formB, h]
theorem form_len {op n : Int} {name : ByteArray} {k j : Nat} (h : arity op = some j) (hk : (k == j) = false) : false = formB op n name k := by simp [formB, h, hk]
theorem form_num {op n : Int} {name : ByteArray} {k : Nat} (h : (op == 1) = false) (hn : (n == 0) = false) : false = formB op n name k := by
  unfold formB; split <;> simp [h, hn]
theorem form_name {op n : Int} {name : ByteArray} {k : Nat} {j : Nat} (h : arity op = some j) (hk : (k == j) = true) (hn : (op == 1 || n == 0) = true) : formB op n name k = if op = 2 then isName name else name.toList.isEmpty := by
  simp [formB, h, hk, hn]
set_option maxHeartbeats 2000000 in
theorem sound_any (op n : Int) (name : ByteArray) (A : Option Addr) (nk c : Nat) (w : World) (ht : Tabs w) (hs : name.size ≤ maxLen) :
    Calls Tryd.prog 59 #[.agg #[.int .i64 op, .int .i64 n, .string name, .slice A nk c]] w fun e w' => e = .returned (.bool (formB op n name nk)) ∧ Below w.heap.size w w' := by
  have HT : Hid (Tabs (w.alloc (.cells #[.int .i64 op, .int .i64 n, .string name, .slice A nk c] 96))) := ht.below ((Below.refl _ _).alloc (Nat.le_refl _) _)
  cases ha : arity op with
  | none =>
    have HA := Lib.hid ha
    have he : (arityE op != 0) = true := by rw [arityE, ha]; rfl
    clear ha
    go_enter Tryd.func59, Tryd.ntmps59
    go_wp2_with (first | (go_at_call 55; refine (arity_any op _).mono ?_; rintro e w' ⟨rfl, rfl⟩))
    go_ret
    exact ⟨ret_bool (form_none HA.out), (Below.refl _ _).alloc (Nat.le_refl _) _⟩
  | some j =>
    have HA := Lib.hid ha
    have he : (arityE op != 0) = false := by rw [arityE, ha]; rfl
    have hj : arityI op = (j : Int) := by rw [arityI, ha]
    clear ha
    by_cases hk : nk = j
    · have HK := Lib.hid (show (nk == j) = true by rw [beq_iff_eq]; exact hk)
      have hk' : ((nk : Int) != (j : Int)) = false := by rw [bne_eq_false_iff_eq]; omega
      clear hk
      cases h1 : (op == 1)
      · have h1' : (op != 1) = true := by rw [bne, h1]; rfl
        have H1 := Lib.hid h1
        clear h1
        cases hn : (n == 0)
        · have hn' : (n != 0) = true := by rw [bne, hn]; rfl
          have HN := Lib.hid hn
          clear hn
          go_enter Tryd.func59, Tryd.ntmps59
          go_wp2_with (first | (go_at_call 55; refine (arity_any op _).mono ?_; rintro e w' ⟨rfl, rfl⟩))
          go_ret
          exact ⟨ret_bool (form_num H1.out HN.out), (Below.refl _ _).alloc (Nat.le_refl _) _⟩
        · have hn' : (n != 0) = false := by rw [bne, hn]; rfl
          have HN := Lib.hid (show (op == 1 || n == 0) = true by rw [hn]; simp)
          clear hn
          cases h2 : (op == 2)
          · have H2 := Lib.hid (show ¬ op = 2 by rw [beq_eq_false_iff_ne] at h2; exact h2)
            go_enter Tryd.func59, Tryd.ntmps59
            go_wp2_with (first | (go_at_call 55; refine (arity_any op _).mono ?_; rintro e w' ⟨rfl, rfl⟩))
            go_ret
            exact ⟨ret_bool (by rw [form_name HA.out HK.out HN.out, if_neg H2.out]), (Below.refl _ _).alloc (Nat.le_refl _) _⟩
          · have H2 := Lib.hid (show op = 2 by rw [beq_iff_eq] at h2; exact h2)
            go_enter Tryd.func59, Tryd.ntmps59
            go_wp2_with (first | (go_at_call 55; refine (arity_any op _).mono ?_; rintro e w' ⟨rfl, rfl⟩) | (go_at_call 56; refine (name_any name _ HT.out hs).mono ?_; rintro e w1 ⟨rfl, hb1⟩; have HB1 := Lib.hid hb1; clear hb1))
            go_ret
            exact ⟨ret_bool (by rw [form_name HA.out HK.out HN.out, if_pos H2.out]), ((Below.refl _ _).alloc (Nat.le_refl _) _).trans (HB1.out.mono (by simp))⟩
      · have h1' : (op != 1) = false := by rw [bne, h1]; rfl
        have h2 : (op == 2) = false := by rw [beq_iff_eq] at h1; rw [h1]; rfl
        have HN := Lib.hid (show (op == 1 || n == 0) = true by rw [h1]; rfl)
        have H2 := Lib.hid (show ¬ op = 2 by rw [beq_eq_false_iff_ne] at h2; exact h2)
        clear h1
        go_enter Tryd.func59, Tryd.ntmps59
        go_wp2_with (first | (go_at_call 55; refine (arity_any op _).mono ?_; rintro e w' ⟨rfl, rfl⟩))
        go_ret
        exact ⟨ret_bool (by rw [form_name HA.out HK.out HN.out, if_neg H2.out]), (Below.refl _ _).alloc (Nat.le_refl _) _⟩
    · have HK := Lib.hid (show (nk == j) = false by rw [beq_eq_false_iff_ne]; exact hk)
      have hk' : ((nk : Int) != (j : Int)) = true := by rw [bne_iff_ne]; omega
      clear hk
      go_enter Tryd.func59, Tryd.ntmps59
      go_wp2_with (first | (go_at_call 55; refine (arity_any op _).mono ?_; rintro e w' ⟨rfl, rfl⟩))
      go_ret
      exact ⟨ret_bool (form_len HA.out HK.out), (Below.refl _ _).alloc (Nat.le_refl _) _⟩

theorem quiet_add_left {P : Program} {f : FuncId} {args : Array Value} {w : World} {a n : Nat} {v : Value}
    (h : Calls P f args (w.drewN (a + n)) fun e w' => e = .returned v ∧ w.drewN (a + n) = w') : Calls P f args (w.drewN (a + n)) fun e w'' => e = .returned v ∧ ∃ m, w'' = w.drewN (a + m) :=
  h.mono fun _ _ ⟨he, hm⟩ => ⟨he, n, hm.symm⟩
theorem quiet_left {P : Program} {f : FuncId} {args : Array Value} {w : World} {n : Nat} {v : Value}
    (h : Calls P f args (w.drewN n) fun e w' => e = .returned v ∧ w.drewN n = w') : Calls P f args (w.drewN n) fun e w'' => e = .returned v ∧ ∃ m, w'' = w.drewN m :=
  h.mono fun _ _ ⟨he, hm⟩ => ⟨he, n, hm.symm⟩
set_option maxHeartbeats 2000000 in
theorem rform_any (op n : Int) (name : ByteArray) (A : Option Addr) (nk c : Nat) (w : World) (hs : name.size ≤ 9223372036854775807) :
    Calls Tryd.prog 42 #[.agg #[.int .i64 op, .int .i64 n, .string name, .slice A nk c]] w fun e w' => e = .returned (.bool (formB op n name nk)) ∧ Below w.heap.size w w' := by
  cases ha : arity op with
  | none =>
    have HA := Lib.hid ha
    have he : decide (arityR op < 0) = true := by rw [arityR, ha]; rfl
    clear ha
    go_enter Tryd.func42, Tryd.ntmps42
    go_wp2
    go_quiet ((first | (go_at_call 53; exact quiet_add_left (rarity_any op _)) | (go_at_call 53; exact quiet_left (rarity_any op _)) | (go_at_call 53; exact Calls.quiet_of_same ((rarity_any op _).mono fun _ _ h => ⟨h.1, h.2.symm⟩))))
    go_wp2
    go_ret
    exact ⟨ret_bool (form_none HA.out), pw_below_drewN ((Below.refl _ _).alloc (Nat.le_refl _) _) _⟩
  | some j =>
    have HA := Lib.hid ha
    have he : decide (arityR op < 0) = false := by rw [arityR, ha]; exact decide_eq_false (by dsimp only; omega)
    have hj : arityR op = (j : Int) := by rw [arityR, ha]
    by_cases hk : nk = j
    · have HK := Lib.hid (show (nk == j) = true by rw [beq_iff_eq]; exact hk)
      have hk' : (arityR op != (nk : Int)) = false := by rw [bne_eq_false_iff_eq]; omega
      clear hk hj ha
      cases h1 : (op == 1)
      · have h1' : (op != 1) = true := by rw [bne, h1]; rfl
        have H1 := Lib.hid h1
        clear h1
        cases hn : (n == 0)
        · have hn' : (n != 0) = true := by rw [bne, hn]; rfl
          have HN := Lib.hid hn
          clear hn
          go_enter Tryd.func42, Tryd.ntmps42
          go_wp2
          go_quiet ((first | (go_at_call 53; exact quiet_add_left (rarity_any op _)) | (go_at_call 53; exact quiet_left (rarity_any op _)) | (go_at_call 53; exact Calls.quiet_of_same ((rarity_any op _).mono fun _ _ h => ⟨h.1, h.2.symm⟩))))
          go_wp2
          go_ret
          exact ⟨ret_bool (form_num H1.out HN.out), pw_below_drewN ((Below.refl _ _).alloc (Nat.le_refl _) _) _⟩
        · have hn' : (n != 0) = false := by rw [bne, hn]; rfl
          have HN := Lib.hid (show (op == 1 || n == 0) = true by rw [hn]; simp)
          clear hn
          cases h2 : (op == 2)
          · have H2 := Lib.hid (show ¬ op = 2 by rw [beq_eq_false_iff_ne] at h2; exact h2)
            go_enter Tryd.func42, Tryd.ntmps42
            go_wp2
            go_quiet ((first | (go_at_call 53; exact quiet_add_left (rarity_any op _)) | (go_at_call 53; exact quiet_left (rarity_any op _)) | (go_at_call 53; exact Calls.quiet_of_same ((rarity_any op _).mono fun _ _ h => ⟨h.1, h.2.symm⟩))))
            go_wp2
            go_ret
            exact ⟨ret_bool (by rw [form_name HA.out HK.out HN.out, if_neg H2.out]), pw_below_drewN ((Below.refl _ _).alloc (Nat.le_refl _) _) _⟩
          · have H2 := Lib.hid (show op = 2 by rw [beq_iff_eq] at h2; exact h2)
            go_enter Tryd.func42, Tryd.ntmps42
            go_wp2
            go_quiet ((first | (go_at_call 53; exact quiet_add_left (rarity_any op _)) | (go_at_call 53; exact quiet_left (rarity_any op _)) | (go_at_call 53; exact Calls.quiet_of_same ((rarity_any op _).mono fun _ _ h => ⟨h.1, h.2.symm⟩))))
            go_wp2_with ((go_at_call 63; refine (rname_any name _ hs).mono ?_; rintro e w1 ⟨rfl, hb1⟩; have HB1 := Lib.hid hb1; clear hb1))
            go_ret
            exact ⟨ret_bool (by rw [form_name HA.out HK.out HN.out, if_pos H2.out]), (pw_below_drewN ((Below.refl _ _).alloc (Nat.le_refl _) _) _).trans (HB1.out.mono (by simp))⟩
      · have h1' : (op != 1) = false := by rw [bne, h1]; rfl
        have h2 : (op == 2) = false := by rw [beq_iff_eq] at h1; rw [h1]; rfl
        have HN := Lib.hid (show (op == 1 || n == 0) = true by rw [h1]; rfl)
        have H2 := Lib.hid (show ¬ op = 2 by rw [beq_eq_false_iff_ne] at h2; exact h2)
        clear h1
        go_enter Tryd.func42, Tryd.ntmps42
        go_wp2
        go_quiet ((first | (go_at_call 53; exact quiet_add_left (rarity_any op _)) | (go_at_call 53; exact quiet_left (rarity_any op _)) | (go_at_call 53; exact Calls.quiet_of_same ((rarity_any op _).mono fun _ _ h => ⟨h.1, h.2.symm⟩))))
        go_wp2
        go_ret
        exact ⟨ret_bool (by rw [form_name HA.out HK.out HN.out, if_neg H2.out]), pw_below_drewN ((Below.refl _ _).alloc (Nat.le_refl _) _) _⟩
    · have HK := Lib.hid (show (nk == j) = false by rw [beq_eq_false_iff_ne]; exact hk)
      have hk' : (arityR op != (nk : Int)) = true := by rw [bne_iff_ne]; omega
      clear hk hj ha
      go_enter Tryd.func42, Tryd.ntmps42
      go_wp2
      go_quiet ((first | (go_at_call 53; exact quiet_add_left (rarity_any op _)) | (go_at_call 53; exact quiet_left (rarity_any op _)) | (go_at_call 53; exact Calls.quiet_of_same ((rarity_any op _).mono fun _ _ h => ⟨h.1, h.2.symm⟩))))
      go_wp2
      go_ret
      exact ⟨ret_bool (form_len HA.out HK.out), pw_below_drewN ((Below.refl _ _).alloc (Nat.le_refl _) _) _⟩

end Go.Proofs.YticaocadeeolkaaDoor
