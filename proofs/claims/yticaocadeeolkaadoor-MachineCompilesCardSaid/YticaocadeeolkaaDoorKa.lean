/-
  THE WALKS of the reference's bare and Check of the machine: the answer is the plain check's. (Laid by gen_ka.py.)
-/
import Derived.Test.YticaocadeeolkaaDoorJA
import Derived.Test.YticaocadeeolkaaDoorMH
import Derived.Deep.QuietTactic
import Derived.BigQuiet
namespace Go.Proofs.YticaocadeeolkaaDoor
open Go.RowKit Plain Go.Proofs.YticaocadeeolkaaDoorW.PrintWords Go.Proofs.YticaocadeeolkaaDoorW.PrintLast Go.Proofs.YticaocadeeolkaaDoorW.PrintMore

set_option maxHeartbeats 2000000 in
theorem bare_any (c : Cm) (w : World) : Calls Tryd.prog 54 #[.agg #[.int .i64 c.kind, .int .i64 c.r, .int .i64 c.tgt, .int .i64 c.op, .int .i64 c.n, .string c.name]] w fun en w' => en = .returned (.bool c.bare) ∧ Below w.heap.size w w' := by
  cases e1 : (c.op == 0)
  · have HB : Hid (c.bare = false) := Lib.hid (by simp [Cm.bare, e1])
    go_enter Tryd.func54, Tryd.ntmps54
    go_wp2
    go_ret
    exact ⟨ret_bool HB.out.symm, (Below.refl _ _).alloc (Nat.le_refl _) _⟩
  · cases e2 : (c.n == 0)
    · have HB : Hid (c.bare = false) := Lib.hid (by simp [Cm.bare, e1, e2])
      go_enter Tryd.func54, Tryd.ntmps54
      go_wp2
      go_ret
      exact ⟨ret_bool HB.out.symm, (Below.refl _ _).alloc (Nat.le_refl _) _⟩
    · have HB : Hid (c.bare = c.name.toList.isEmpty) := Lib.hid (by simp [Cm.bare, e1, e2])
      go_enter Tryd.func54, Tryd.ntmps54
      go_wp2
      go_ret
      exact ⟨ret_bool HB.out.symm, (Below.refl _ _).alloc (Nat.le_refl _) _⟩
set_option maxHeartbeats 16000000 in
set_option maxRecDepth 100000 in
theorem rc_any (p : List Cm) (holes : Int) (A : Option Addr) (c : Nat) (w : World) (hr : Kd.C kCm w A p.length p) (hnm : ∀ x ∈ p, x.name.size ≤ 9223372036854775807) :
    Calls Tryd.prog 30 #[.slice A p.length c, .int .i64 holes] w fun e w' => e = .returned (.int .i64 (errOf (mcheck p holes))) ∧ Below w.heap.size w w' := by
  have HR := Lib.hid hr
  have HNM := Lib.hid hnm
  clear hr hnm
  by_cases h0 : holes < 0
  · have hb : mcheck p holes = false := by unfold mcheck; rw [decide_eq_false (show ¬ 0 ≤ holes by omega)]; rfl
    have d1 : decide (holes < 0) = true := decide_eq_true h0
    have HBAD := Lib.hid hb
    clear hb
    go_enter Tryd.func30, Tryd.ntmps30
    go_wp2
    go_ret
    exact ⟨ret_chk HBAD.out rfl, Below.refl _ _⟩
  by_cases h6 : 6 < holes
  · have hb : mcheck p holes = false := by unfold mcheck; rw [decide_eq_false (show ¬ holes ≤ 6 by omega)]; simp
    have d1 : decide (holes < 0) = false := decide_eq_false h0
    have d2 : decide (6 < holes) = true := decide_eq_true h6
    have d3 : decide (holes > 6) = true := decide_eq_true h6
    have HBAD := Lib.hid hb
    clear hb
    go_enter Tryd.func30, Tryd.ntmps30
    go_wp2
    go_ret
    exact ⟨ret_chk HBAD.out rfl, Below.refl _ _⟩
  obtain ⟨h, rfl⟩ := Int.eq_ofNat_of_zero_le (show 0 ≤ holes by omega)
  have hh6 : h ≤ 6 := by omega
  by_cases h64 : 64 < p.length
  · have hb : mcheck p (h : Int) = false := by unfold mcheck; rw [decide_eq_false (show ¬ p.length ≤ 64 by omega)]; simp
    have HBAD := Lib.hid hb
    clear hb
    go_enter Tryd.func30, Tryd.ntmps30
    go_wp2
    go_ret
    exact ⟨ret_chk HBAD.out rfl, Below.refl _ _⟩
  have hmk := fun w => make_bools h hh6 w
  have hu2 := Tryd.underlying75
  have hl64 : p.length ≤ 64 := by omega
  clear h0 h6 h64
  go_enter Tryd.func30, Tryd.ntmps30
  go_wp2
  go_loopw [5, 7] (fun rv iv wr => ∃ (i : Nat) (s : St) (rg : Nat), iv = .int .i64 i ∧ rv = .int .i64 (rg : Int) ∧ s.1 = (rg : Int) ∧ 1 ≤ rg ∧ rg ≤ 1 + 3 * i ∧ i ≤ p.length ∧ Hid (MInv p h w.heap.size w i s wr)) (fun _ iv _ => p.length - (intOf iv).toNat)
  case atStart => exact ⟨0, runStart h, 1, rfl, rfl, rfl, by omega, by omega, by omega, Lib.hid ⟨rfl, by simp [runStart], made_bools w h, (Below.refl _ _).alloc (Nat.le_refl _) _⟩⟩
  case round =>
    obtain ⟨i, s, rg, rfl, rfl, hrg, hrg1, hrg2, hi, hI⟩ := hrel
    have hwr := hI.out.B.size
    have hgw : w.heap.size < wr.heap.size := (Array.getElem?_eq_some_iff.1 hI.out.tk).1
    obtain ⟨wo, rfl⟩ : ∃ wo : World, wo = wr := ⟨_, rfl⟩
    by_cases hlt : i < p.length
    · obtain ⟨x, hx⟩ : ∃ x, p[i]? = some x := ⟨_, List.getElem?_eq_getElem hlt⟩
      obtain ⟨ad, hA, c0, c1, c2, c3, c4, c5⟩ := cm_at HR.out hx
      subst hA
      have hc0 := nd_below hI.out.B c0
      have hc1 := nd_below hI.out.B c1
      have hc2 := nd_below hI.out.B c2
      have hc3 := nd_below hI.out.B c3
      have hc4 := nd_below hI.out.B c4
      have hc5 := nd_below hI.out.B c5
      have HX := Lib.hid hx
      have HNX := Lib.hid (HNM.out x (List.mem_of_getElem? hx))
      have HBX := Lib.hid (hI.out.B.alloc hwr (.cells #[.int .i64 x.kind, .int .i64 x.r, .int .i64 x.tgt, .int .i64 x.op, .int .i64 x.n, .string x.name] 75))
      clear c0 c1 c2 c3 c4 c5 hx
      by_cases hr0 : x.r < 0
      · have HBAD : Hid (mcheck p (h : Int) = false) := Lib.hid (mcheck_bad hI.out.run HX.out (by unfold stepM; rw [if_pos (by omega)]))
        have d1 : decide (x.r < 0) = true := decide_eq_true hr0
        clear hrg
        go_wp2
        go_ret
        exact ⟨ret_chk HBAD.out rfl, hI.out.B.alloc hwr _⟩
      by_cases hr1 : (rg : Int) ≤ x.r
      · have HBAD : Hid (mcheck p (h : Int) = false) := Lib.hid (mcheck_bad hI.out.run HX.out (by unfold stepM; rw [if_pos (by omega)]))
        have d1 : decide (x.r < 0) = false := decide_eq_false hr0
        have d2 : decide ((rg : Int) ≤ x.r) = true := decide_eq_true hr1
        have d3 : decide (x.r ≥ (rg : Int)) = true := decide_eq_true hr1
        clear hrg
        go_wp2
        go_ret
        exact ⟨ret_chk HBAD.out rfl, hI.out.B.alloc hwr _⟩
      have HRG := Lib.hid hrg
      have HRR := Lib.hid (show ¬ (x.r < 0 ∨ s.1 ≤ x.r) by omega)
      have d1 : decide (x.r < 0) = false := decide_eq_false hr0
      have d2 : decide ((rg : Int) ≤ x.r) = false := decide_eq_false hr1
      have d3 : decide (x.r ≥ (rg : Int)) = false := decide_eq_false hr1
      clear hrg hr0 hr1
      by_cases hk1 : x.kind = 1
      · have k1 : (x.kind == 1) = true := beq_iff_eq.2 hk1
        cases ar : arity x.op with
        | none =>
          have hj : arityR x.op = -1 := by rw [arityR, ar]
          have HBAD : Hid (mcheck p (h : Int) = false) := Lib.hid (mcheck_bad hI.out.run HX.out (step_arity_none HRR.out hk1 ar))
          clear ar hk1
          go_wp2_with (go_at_call 53; refine (rarity_any x.op _).mono ?_; rintro en w' ⟨rfl, rfl⟩)
          have hN := heap_alloc_new wo (.cells #[.int .i64 x.kind, .int .i64 x.r, .int .i64 x.tgt, .int .i64 x.op, .int .i64 x.n, .string x.name] 75)
          have hTK : boolsAt (wo.alloc (.cells #[.int .i64 x.kind, .int .i64 x.r, .int .i64 x.tgt, .int .i64 x.op, .int .i64 x.n, .string x.name] 75)) w.heap.size s.2 := boolsAt_below ((Below.refl _ _).alloc (Nat.le_refl _) _) hI.out.tk
          have HTK := Lib.hid hTK
          have hgw1 : wo.heap.size < (wo.alloc (.cells #[.int .i64 x.kind, .int .i64 x.r, .int .i64 x.tgt, .int .i64 x.op, .int .i64 x.n, .string x.name] 75)).heap.size := by simp
          clear hTK hc0 hc1 hc2 hc3 hc4 hc5
          generalize wo.alloc (.cells #[.int .i64 x.kind, .int .i64 x.r, .int .i64 x.tgt, .int .i64 x.op, .int .i64 x.n, .string x.name] 75) = W1 at hN HTK HBX hgw1 ⊢
          refine start_ (n := 21) (S := fun w' => w'.cell? ⟨wo.heap.size, 2, none⟩ = some (.int .i64 x.tgt)) (ds := []) #[false, false, false, false, false, false, false, false, false, false, false, false, false, false, false, false, false, false, false, false, false] (by kernel_rfl) rfl rfl (blk_cell hN 2) (fun hHeld => ?_)
          have HB2 : Hid (Below w.heap.size w W1.drew) := Lib.hid (below_drew HBX.out)
          clear HBX HTK hN hgw1
          generalize W1.drew = W2 at hHeld HB2 ⊢
          refine pure_ (i := 0) (N := some 50) (v := ?_) (a' := ?_) #[true, false, false, false, false, false, false, false, false, false, false, false, false, false, false, false, false, false, false, false, false] rfl rfl (by kernel_rfl) (fun _ _ _ h => h) (Or.inl ⟨by rfl, ?_⟩) ?_ ?_
          rotate_left
          · intro w'
            go_simp
            with_reducible rfl
          rotate_left
          · simp only [Act.put, List.setIfInBounds_toArray, List.set_cons_zero, List.set_cons_succ]
            rfl
          refine pure_ (i := 1) (N := some 51) (v := ?_) (a' := ?_) #[true, true, false, false, false, false, false, false, false, false, false, false, false, false, false, false, false, false, false, false, false] rfl rfl (by kernel_rfl) (fun _ _ _ h => h) (Or.inl ⟨by rfl, ?_⟩) ?_ ?_
          rotate_left
          · intro w'
            go_simp
            with_reducible rfl
          rotate_left
          · simp only [Act.put, List.setIfInBounds_toArray, List.set_cons_zero, List.set_cons_succ]
            rfl
          refine pure_ (i := 2) (N := some 52) (v := ?_) (a' := ?_) #[true, true, true, false, false, false, false, false, false, false, false, false, false, false, false, false, false, false, false, false, false] rfl rfl (by kernel_rfl) (fun _ _ _ h => h) (Or.inl ⟨by rfl, ?_⟩) ?_ ?_
          rotate_left
          · intro w'
            go_simp
            with_reducible rfl
          rotate_left
          · simp only [Act.put, List.setIfInBounds_toArray, List.set_cons_zero, List.set_cons_succ]
            rfl
          refine pure_ (i := 3) (N := some 53) (v := undef) (a' := ?_) #[true, true, true, true, false, false, false, false, false, false, false, false, false, false, false, false, false, false, false, false, false] rfl rfl (by kernel_rfl) (fun _ _ _ h => h) (Or.inr ⟨by rfl, rfl⟩) ?_ ?_
          rotate_left
          · simp only [Act.put, List.setIfInBounds_toArray, List.set_cons_zero, List.set_cons_succ]
            rfl
          refine pure_ (i := 4) (N := some 54) (v := undef) (a' := ?_) #[true, true, true, true, true, false, false, false, false, false, false, false, false, false, false, false, false, false, false, false, false] rfl rfl (by kernel_rfl) (fun _ _ _ h => h) (Or.inr ⟨by rfl, rfl⟩) ?_ ?_
          rotate_left
          · simp only [Act.put, List.setIfInBounds_toArray, List.set_cons_zero, List.set_cons_succ]
            rfl
          refine pure_ (i := 5) (N := some 55) (v := undef) (a' := ?_) #[true, true, true, true, true, true, false, false, false, false, false, false, false, false, false, false, false, false, false, false, false] rfl rfl (by kernel_rfl) (fun _ _ _ h => h) (Or.inr ⟨by rfl, rfl⟩) ?_ ?_
          rotate_left
          · simp only [Act.put, List.setIfInBounds_toArray, List.set_cons_zero, List.set_cons_succ]
            rfl
          refine pure_ (i := 6) (N := some 56) (v := undef) (a' := ?_) #[true, true, true, true, true, true, true, false, false, false, false, false, false, false, false, false, false, false, false, false, false] rfl rfl (by kernel_rfl) (fun _ _ _ h => h) (Or.inr ⟨by rfl, rfl⟩) ?_ ?_
          rotate_left
          · simp only [Act.put, List.setIfInBounds_toArray, List.set_cons_zero, List.set_cons_succ]
            rfl
          refine pure_ (i := 7) (N := some 57) (v := ?_) (a' := ?_) #[true, true, true, true, true, true, true, true, false, false, false, false, false, false, false, false, false, false, false, false, false] rfl rfl (by kernel_rfl) (fun _ _ _ h => h) (Or.inl ⟨by rfl, ?_⟩) ?_ ?_
          rotate_left
          · intro w'
            go_simp
            with_reducible rfl
          rotate_left
          · simp only [Act.put, List.setIfInBounds_toArray, List.set_cons_zero, List.set_cons_succ]
            rfl
          refine pure_ (i := 8) (N := some 58) (v := ?_) (a' := ?_) #[true, true, true, true, true, true, true, true, true, false, false, false, false, false, false, false, false, false, false, false, false] rfl rfl (by kernel_rfl) (fun _ _ _ h => h) (Or.inl ⟨by rfl, ?_⟩) ?_ ?_
          rotate_left
          · intro w'
            go_simp
            with_reducible rfl
          rotate_left
          · simp only [Act.put, List.setIfInBounds_toArray, List.set_cons_zero, List.set_cons_succ]
            rfl
          refine pure_ (i := 9) (N := some 59) (v := undef) (a' := ?_) #[true, true, true, true, true, true, true, true, true, true, false, false, false, false, false, false, false, false, false, false, false] rfl rfl (by kernel_rfl) (fun _ _ _ h => h) (Or.inr ⟨by rfl, rfl⟩) ?_ ?_
          rotate_left
          · simp only [Act.put, List.setIfInBounds_toArray, List.set_cons_zero, List.set_cons_succ]
            rfl
          refine pure_ (i := 10) (N := some 60) (v := undef) (a' := ?_) #[true, true, true, true, true, true, true, true, true, true, true, false, false, false, false, false, false, false, false, false, false] rfl rfl (by kernel_rfl) (fun _ _ _ h => h) (Or.inr ⟨by rfl, rfl⟩) ?_ ?_
          rotate_left
          · simp only [Act.put, List.setIfInBounds_toArray, List.set_cons_zero, List.set_cons_succ]
            rfl
          refine pure_ (i := 11) (N := some 61) (v := undef) (a' := ?_) #[true, true, true, true, true, true, true, true, true, true, true, true, false, false, false, false, false, false, false, false, false] rfl rfl (by kernel_rfl) (fun _ _ _ h => h) (Or.inr ⟨by rfl, rfl⟩) ?_ ?_
          rotate_left
          · simp only [Act.put, List.setIfInBounds_toArray, List.set_cons_zero, List.set_cons_succ]
            rfl
          refine pure_ (i := 12) (N := some 62) (v := undef) (a' := ?_) #[true, true, true, true, true, true, true, true, true, true, true, true, true, false, false, false, false, false, false, false, false] rfl rfl (by kernel_rfl) (fun _ _ _ h => h) (Or.inr ⟨by rfl, rfl⟩) ?_ ?_
          rotate_left
          · simp only [Act.put, List.setIfInBounds_toArray, List.set_cons_zero, List.set_cons_succ]
            rfl
          refine pure_ (i := 13) (N := some 63) (v := undef) (a' := ?_) #[true, true, true, true, true, true, true, true, true, true, true, true, true, true, false, false, false, false, false, false, false] rfl rfl (by kernel_rfl) (fun _ _ _ h => h) (Or.inr ⟨by rfl, rfl⟩) ?_ ?_
          rotate_left
          · simp only [Act.put, List.setIfInBounds_toArray, List.set_cons_zero, List.set_cons_succ]
            rfl
          refine pure_ (i := 14) (N := some 64) (v := undef) (a' := ?_) #[true, true, true, true, true, true, true, true, true, true, true, true, true, true, true, false, false, false, false, false, false] rfl rfl (by kernel_rfl) (fun _ _ _ h => h) (Or.inr ⟨by rfl, rfl⟩) ?_ ?_
          rotate_left
          · simp only [Act.put, List.setIfInBounds_toArray, List.set_cons_zero, List.set_cons_succ]
            rfl
          refine pure_ (i := 15) (N := some 65) (v := undef) (a' := ?_) #[true, true, true, true, true, true, true, true, true, true, true, true, true, true, true, true, false, false, false, false, false] rfl rfl (by kernel_rfl) (fun _ _ _ h => h) (Or.inr ⟨by rfl, rfl⟩) ?_ ?_
          rotate_left
          · simp only [Act.put, List.setIfInBounds_toArray, List.set_cons_zero, List.set_cons_succ]
            rfl
          refine pure_ (i := 16) (N := some 66) (v := undef) (a' := ?_) #[true, true, true, true, true, true, true, true, true, true, true, true, true, true, true, true, true, false, false, false, false] rfl rfl (by kernel_rfl) (fun _ _ _ h => h) (Or.inr ⟨by rfl, rfl⟩) ?_ ?_
          rotate_left
          · simp only [Act.put, List.setIfInBounds_toArray, List.set_cons_zero, List.set_cons_succ]
            rfl
          refine pure_ (i := 17) (N := some 67) (v := undef) (a' := ?_) #[true, true, true, true, true, true, true, true, true, true, true, true, true, true, true, true, true, true, false, false, false] rfl rfl (by kernel_rfl) (fun _ _ _ h => h) (Or.inr ⟨by rfl, rfl⟩) ?_ ?_
          rotate_left
          · simp only [Act.put, List.setIfInBounds_toArray, List.set_cons_zero, List.set_cons_succ]
            rfl
          refine pure_ (i := 18) (N := some 68) (v := undef) (a' := ?_) #[true, true, true, true, true, true, true, true, true, true, true, true, true, true, true, true, true, true, true, false, false] rfl rfl (by kernel_rfl) (fun _ _ _ h => h) (Or.inr ⟨by rfl, rfl⟩) ?_ ?_
          rotate_left
          · simp only [Act.put, List.setIfInBounds_toArray, List.set_cons_zero, List.set_cons_succ]
            rfl
          refine pure_ (i := 19) (N := some 69) (v := undef) (a' := ?_) #[true, true, true, true, true, true, true, true, true, true, true, true, true, true, true, true, true, true, true, true, false] rfl rfl (by kernel_rfl) (fun _ _ _ h => h) (Or.inr ⟨by rfl, rfl⟩) ?_ ?_
          rotate_left
          · simp only [Act.put, List.setIfInBounds_toArray, List.set_cons_zero, List.set_cons_succ]
            rfl
          refine pure_ (i := 20) (N := some 70) (v := ?_) (a' := ?_) #[true, true, true, true, true, true, true, true, true, true, true, true, true, true, true, true, true, true, true, true, true] rfl rfl (by kernel_rfl) (fun _ _ _ h => h) (Or.inl ⟨by rfl, ?_⟩) ?_ ?_
          rotate_left
          · intro w'
            go_simp
            with_reducible rfl
          rotate_left
          · simp only [Act.put, List.setIfInBounds_toArray, List.set_cons_zero, List.set_cons_succ]
            rfl
          refine done_ (by kernel_rfl) ?_
          clear hHeld
          go_wp2
          go_ret
          exact ⟨ret_chk HBAD.out rfl, HB2.out⟩
        | some k =>
          have hj : arityR x.op = (k : Int) := by rw [arityR, ar]
          have hk3 := arity_le ar
          have HAR := Lib.hid ar
          have HK1 := Lib.hid hk1
          clear ar hk1
          by_cases hto : x.tgt = (rg : Int)
          · have t1 : (x.tgt != (rg : Int)) = false := by rw [bne_eq_false_iff_eq]; exact hto
            have HTO : Hid (x.tgt = s.1) := Lib.hid (by rw [hto, HRG.out])
            have hmk2 := fun w => make_ints k (by omega) w
            clear hto
            cases hF : formB x.op x.n x.name k
            · have HBAD : Hid (mcheck p (h : Int) = false) := Lib.hid (mcheck_bad hI.out.run HX.out (step_class_form HK1.out HAR.out hF))
              go_wp2_with (go_at_call 53; refine (rarity_any x.op _).mono ?_; rintro en w' ⟨rfl, rfl⟩)
              have hN := heap_alloc_new wo (.cells #[.int .i64 x.kind, .int .i64 x.r, .int .i64 x.tgt, .int .i64 x.op, .int .i64 x.n, .string x.name] 75)
              have hTK : boolsAt (wo.alloc (.cells #[.int .i64 x.kind, .int .i64 x.r, .int .i64 x.tgt, .int .i64 x.op, .int .i64 x.n, .string x.name] 75)) w.heap.size s.2 := boolsAt_below ((Below.refl _ _).alloc (Nat.le_refl _) _) hI.out.tk
              have HTK := Lib.hid hTK
              have hgw1 : wo.heap.size < (wo.alloc (.cells #[.int .i64 x.kind, .int .i64 x.r, .int .i64 x.tgt, .int .i64 x.op, .int .i64 x.n, .string x.name] 75)).heap.size := by simp
              clear hTK hc0 hc1 hc2 hc3 hc4 hc5
              generalize wo.alloc (.cells #[.int .i64 x.kind, .int .i64 x.r, .int .i64 x.tgt, .int .i64 x.op, .int .i64 x.n, .string x.name] 75) = W1 at hN HTK HBX hgw1 ⊢
              refine start_ (n := 21) (S := fun w' => w'.cell? ⟨wo.heap.size, 2, none⟩ = some (.int .i64 x.tgt) ∧ w'.cell? ⟨wo.heap.size, 3, none⟩ = some (.int .i64 x.op) ∧ w'.cell? ⟨wo.heap.size, 4, none⟩ = some (.int .i64 x.n) ∧ w'.cell? ⟨wo.heap.size, 5, none⟩ = some (.string x.name)) (ds := []) #[false, false, false, false, false, false, false, false, false, false, false, false, false, false, false, false, false, false, false, false, false] (by kernel_rfl) rfl rfl ⟨blk_cell hN 2, blk_cell hN 3, blk_cell hN 4, blk_cell hN 5⟩ (fun hHeld => ?_)
              have HB2 : Hid (Below w.heap.size w W1.drew) := Lib.hid (below_drew HBX.out)
              have HTK2 : Hid (boolsAt W1.drew w.heap.size s.2) := Lib.hid HTK.out
              clear HBX HTK hN hgw1
              generalize W1.drew = W2 at hHeld HB2 HTK2 ⊢
              refine pure_ (i := 0) (N := some 50) (v := ?_) (a' := ?_) #[true, false, false, false, false, false, false, false, false, false, false, false, false, false, false, false, false, false, false, false, false] rfl rfl (by kernel_rfl) (fun _ _ _ h => h) (Or.inl ⟨by rfl, ?_⟩) ?_ ?_
              rotate_left
              · intro w'
                go_simp
                with_reducible rfl
              rotate_left
              · simp only [Act.put, List.setIfInBounds_toArray, List.set_cons_zero, List.set_cons_succ]
                rfl
              refine pure_ (i := 1) (N := some 51) (v := ?_) (a' := ?_) #[true, true, false, false, false, false, false, false, false, false, false, false, false, false, false, false, false, false, false, false, false] rfl rfl (by kernel_rfl) (fun _ _ _ h => h) (Or.inl ⟨by rfl, ?_⟩) ?_ ?_
              rotate_left
              · intro w'
                go_simp
                with_reducible rfl
              rotate_left
              · simp only [Act.put, List.setIfInBounds_toArray, List.set_cons_zero, List.set_cons_succ]
                rfl
              refine pure_ (i := 2) (N := some 52) (v := ?_) (a' := ?_) #[true, true, true, false, false, false, false, false, false, false, false, false, false, false, false, false, false, false, false, false, false] rfl rfl (by kernel_rfl) (fun _ _ _ h => h) (Or.inl ⟨by rfl, ?_⟩) ?_ ?_
              rotate_left
              · intro w'
                go_simp
                with_reducible rfl
              rotate_left
              · simp only [Act.put, List.setIfInBounds_toArray, List.set_cons_zero, List.set_cons_succ]
                rfl
              refine pure_ (i := 3) (N := some 53) (v := ?_) (a' := ?_) #[true, true, true, true, false, false, false, false, false, false, false, false, false, false, false, false, false, false, false, false, false] rfl rfl (by kernel_rfl) (fun _ _ _ h => h) (Or.inl ⟨by rfl, ?_⟩) ?_ ?_
              rotate_left
              · intro w'
                go_simp
                with_reducible rfl
              rotate_left
              · simp only [Act.put, List.setIfInBounds_toArray, List.set_cons_zero, List.set_cons_succ]
                rfl
              refine take_ (i := 4) (N := some 54) (v := ?_) (a' := ?_) #[true, true, true, true, true, false, false, false, false, false, false, false, false, false, false, false, false, false, false, false, false] rfl rfl (by kernel_rfl) (fun _ _ _ h => h) (Or.inl ⟨by rfl, ?_⟩) hHeld ?_ ?_
              rotate_left
              · rintro w' ⟨s0, s1, s2, s3⟩
                go_simp
                with_reducible rfl
              rotate_left
              · simp only [Act.put, List.setIfInBounds_toArray, List.set_cons_zero, List.set_cons_succ]
                rfl
              refine pure_ (i := 5) (N := some 55) (v := ?_) (a' := ?_) #[true, true, true, true, true, true, false, false, false, false, false, false, false, false, false, false, false, false, false, false, false] rfl rfl (by kernel_rfl) (fun _ _ _ h => h) (Or.inl ⟨by rfl, ?_⟩) ?_ ?_
              rotate_left
              · intro w'
                go_simp
                with_reducible rfl
              rotate_left
              · simp only [Act.put, List.setIfInBounds_toArray, List.set_cons_zero, List.set_cons_succ]
                rfl
              refine pure_ (i := 6) (N := some 56) (v := ?_) (a' := ?_) #[true, true, true, true, true, true, true, false, false, false, false, false, false, false, false, false, false, false, false, false, false] rfl rfl (by kernel_rfl) (fun _ _ _ h => h) (Or.inl ⟨by rfl, ?_⟩) ?_ ?_
              rotate_left
              · intro w'
                go_simp
                with_reducible rfl
              rotate_left
              · simp only [Act.put, List.setIfInBounds_toArray, List.set_cons_zero, List.set_cons_succ]
                rfl
              refine pure_ (i := 7) (N := some 57) (v := ?_) (a' := ?_) #[true, true, true, true, true, true, true, true, false, false, false, false, false, false, false, false, false, false, false, false, false] rfl rfl (by kernel_rfl) (fun _ _ _ h => h) (Or.inl ⟨by rfl, ?_⟩) ?_ ?_
              rotate_left
              · intro w'
                go_simp
                with_reducible rfl
              rotate_left
              · simp only [Act.put, List.setIfInBounds_toArray, List.set_cons_zero, List.set_cons_succ]
                rfl
              refine pure_ (i := 8) (N := some 58) (v := ?_) (a' := ?_) #[true, true, true, true, true, true, true, true, true, false, false, false, false, false, false, false, false, false, false, false, false] rfl rfl (by kernel_rfl) (fun _ _ _ h => h) (Or.inl ⟨by rfl, ?_⟩) ?_ ?_
              rotate_left
              · intro w'
                go_simp
                with_reducible rfl
              rotate_left
              · simp only [Act.put, List.setIfInBounds_toArray, List.set_cons_zero, List.set_cons_succ]
                rfl
              refine pure_ (i := 9) (N := some 59) (v := ?_) (a' := ?_) #[true, true, true, true, true, true, true, true, true, true, false, false, false, false, false, false, false, false, false, false, false] rfl rfl (by kernel_rfl) (fun _ _ _ h => h) (Or.inl ⟨by rfl, ?_⟩) ?_ ?_
              rotate_left
              · intro w'
                go_simp
                with_reducible rfl
              rotate_left
              · simp only [Act.put, List.setIfInBounds_toArray, List.set_cons_zero, List.set_cons_succ]
                rfl
              refine take_ (i := 10) (N := some 60) (v := ?_) (a' := ?_) #[true, true, true, true, true, true, true, true, true, true, true, false, false, false, false, false, false, false, false, false, false] rfl rfl (by kernel_rfl) (fun _ _ _ h => h) (Or.inl ⟨by rfl, ?_⟩) hHeld ?_ ?_
              rotate_left
              · rintro w' ⟨s0, s1, s2, s3⟩
                go_simp
                with_reducible rfl
              rotate_left
              · simp only [Act.put, List.setIfInBounds_toArray, List.set_cons_zero, List.set_cons_succ]
                rfl
              refine pure_ (i := 11) (N := some 61) (v := ?_) (a' := ?_) #[true, true, true, true, true, true, true, true, true, true, true, true, false, false, false, false, false, false, false, false, false] rfl rfl (by kernel_rfl) (fun _ _ _ h => h) (Or.inl ⟨by rfl, ?_⟩) ?_ ?_
              rotate_left
              · intro w'
                go_simp
                with_reducible rfl
              rotate_left
              · simp only [Act.put, List.setIfInBounds_toArray, List.set_cons_zero, List.set_cons_succ]
                rfl
              refine take_ (i := 12) (N := some 62) (v := ?_) (a' := ?_) #[true, true, true, true, true, true, true, true, true, true, true, true, true, false, false, false, false, false, false, false, false] rfl rfl (by kernel_rfl) (fun _ _ _ h => h) (Or.inl ⟨by rfl, ?_⟩) hHeld ?_ ?_
              rotate_left
              · rintro w' ⟨s0, s1, s2, s3⟩
                go_simp
                with_reducible rfl
              rotate_left
              · simp only [Act.put, List.setIfInBounds_toArray, List.set_cons_zero, List.set_cons_succ]
                rfl
              refine pure_ (i := 13) (N := some 63) (v := ?_) (a' := ?_) #[true, true, true, true, true, true, true, true, true, true, true, true, true, true, false, false, false, false, false, false, false] rfl rfl (by kernel_rfl) (fun _ _ _ h => h) (Or.inl ⟨by rfl, ?_⟩) ?_ ?_
              rotate_left
              · intro w'
                go_simp
                with_reducible rfl
              rotate_left
              · simp only [Act.put, List.setIfInBounds_toArray, List.set_cons_zero, List.set_cons_succ]
                rfl
              refine take_ (i := 14) (N := some 64) (v := ?_) (a' := ?_) #[true, true, true, true, true, true, true, true, true, true, true, true, true, true, true, false, false, false, false, false, false] rfl rfl (by kernel_rfl) (fun _ _ _ h => h) (Or.inl ⟨by rfl, ?_⟩) hHeld ?_ ?_
              rotate_left
              · rintro w' ⟨s0, s1, s2, s3⟩
                go_simp
                with_reducible rfl
              rotate_left
              · simp only [Act.put, List.setIfInBounds_toArray, List.set_cons_zero, List.set_cons_succ]
                rfl
              refine pure_ (i := 15) (N := some 65) (v := ?_) (a' := ?_) #[true, true, true, true, true, true, true, true, true, true, true, true, true, true, true, true, false, false, false, false, false] rfl rfl (by kernel_rfl) (fun _ _ _ h => h) (Or.inl ⟨by rfl, ?_⟩) ?_ ?_
              rotate_left
              · intro w'
                go_simp
                with_reducible rfl
              rotate_left
              · simp only [Act.put, List.setIfInBounds_toArray, List.set_cons_zero, List.set_cons_succ]
                rfl
              refine one_ (i := 16) (N := some 66) #[true, true, true, true, true, true, true, true, true, true, true, true, true, true, true, true, true, false, false, false, false] rfl rfl (by kernel_rfl) (by decide) (fun K hK => ?_)
              refine value_ (v := .slice (some ⟨W2.heap.size, 0, none⟩) k k) (w1 := W2.alloc (.cells (madeCells #[.int .i64 0] k) 3)) rfl rfl ?hrun ?_
              case hrun =>
                go_simp
              refine hK.out _ _ ⟨nd_below ((Below.refl _ _).alloc (Nat.le_refl _) _) hHeld.1, nd_below ((Below.refl _ _).alloc (Nat.le_refl _) _) hHeld.2.1, nd_below ((Below.refl _ _).alloc (Nat.le_refl _) _) hHeld.2.2.1, nd_below ((Below.refl _ _).alloc (Nat.le_refl _) _) hHeld.2.2.2⟩ (fun hHeld => ?_)
              clear hK K
              refine norm_ (a' := ?_) ?_ ?_
              rotate_left
              · show Act.put _ (some 66) _ = _
                simp only [Act.put, List.setIfInBounds_toArray, List.set_cons_zero, List.set_cons_succ]
                rfl
              have HB3 := Lib.hid (HB2.out.alloc HB2.out.size (.cells (madeCells #[.int .i64 0] k) 3))
              have HTK3 : Hid (boolsAt (W2.alloc (.cells (madeCells #[.int .i64 0] k) 3)) w.heap.size s.2) := Lib.hid (boolsAt_below ((Below.refl _ _).alloc (Nat.le_refl _) _) HTK2.out)
              generalize W2.alloc (.cells (madeCells #[.int .i64 0] k) 3) = W3 at hHeld HB3 HTK3 ⊢
              refine pure_ (i := 17) (N := some 67) (v := ?_) (a' := ?_) #[true, true, true, true, true, true, true, true, true, true, true, true, true, true, true, true, true, true, false, false, false] rfl rfl (by kernel_rfl) (fun _ _ _ h => h) (Or.inl ⟨by rfl, ?_⟩) ?_ ?_
              rotate_left
              · intro w'
                go_simp
                with_reducible rfl
              rotate_left
              · simp only [Act.put, List.setIfInBounds_toArray, List.set_cons_zero, List.set_cons_succ]
                rfl
              refine one_ (i := 18) (N := some 68) #[true, true, true, true, true, true, true, true, true, true, true, true, true, true, true, true, true, true, true, false, false] rfl rfl (by kernel_rfl) (by decide) (fun K hK => ?_)
              refine goes_ Tryd.func42 (by kernel_rfl) rfl #[.agg #[.int .i64 x.op, .int .i64 x.n, .string x.name, .slice (some ⟨W2.heap.size, 0, none⟩) k k]] (by rfl) rfl rfl (by (try simp only [List.map_toArray, List.map_cons, List.map_nil]); first | done | rfl) ?_
              refine (rform_any x.op x.n x.name _ k k W3 HNX.out).mono ?_
              rintro en w5 ⟨rfl, hb5⟩
              have HB5 := Lib.hid (HB3.out.trans (hb5.mono HB3.out.size))
              have HTK5 := Lib.hid (boolsAt_below hb5 HTK3.out)
              rw [hF]
              refine ⟨_, rfl, ?_⟩
              refine hK.out _ _ ⟨nd_below hb5 hHeld.1, nd_below hb5 hHeld.2.1, nd_below hb5 hHeld.2.2.1, nd_below hb5 hHeld.2.2.2⟩ (fun hHeld => ?_)
              clear hK K
              refine norm_ (a' := ?_) ?_ ?_
              rotate_left
              · show Act.put _ (some 68) _ = _
                simp only [Act.put, List.setIfInBounds_toArray, List.set_cons_zero, List.set_cons_succ]
                rfl
              clear hb5 HB3 HTK3 HB2 HTK2
              refine pure_ (i := 19) (N := some 69) (v := ?_) (a' := ?_) #[true, true, true, true, true, true, true, true, true, true, true, true, true, true, true, true, true, true, true, true, false] rfl rfl (by kernel_rfl) (fun _ _ _ h => h) (Or.inl ⟨by rfl, ?_⟩) ?_ ?_
              rotate_left
              · intro w'
                go_simp
                with_reducible rfl
              rotate_left
              · simp only [Act.put, List.setIfInBounds_toArray, List.set_cons_zero, List.set_cons_succ]
                rfl
              refine pure_ (i := 20) (N := some 70) (v := ?_) (a' := ?_) #[true, true, true, true, true, true, true, true, true, true, true, true, true, true, true, true, true, true, true, true, true] rfl rfl (by kernel_rfl) (fun _ _ _ h => h) (Or.inl ⟨by rfl, ?_⟩) ?_ ?_
              rotate_left
              · intro w'
                go_simp
                with_reducible rfl
              rotate_left
              · simp only [Act.put, List.setIfInBounds_toArray, List.set_cons_zero, List.set_cons_succ]
                rfl
              refine done_ (by kernel_rfl) ?_
              clear hHeld
              go_wp2
              go_ret
              exact ⟨ret_chk HBAD.out rfl, HB5.out⟩
            · have HST : Hid (runM h (p.take (i + 1)) (runStart h) = some (s.1 + k, s.2)) := Lib.hid (run_next hI.out.run HX.out (step_class HRR.out HK1.out HAR.out HTO.out hF))
              go_wp2_with (go_at_call 53; refine (rarity_any x.op _).mono ?_; rintro en w' ⟨rfl, rfl⟩)
              have hN := heap_alloc_new wo (.cells #[.int .i64 x.kind, .int .i64 x.r, .int .i64 x.tgt, .int .i64 x.op, .int .i64 x.n, .string x.name] 75)
              have hTK : boolsAt (wo.alloc (.cells #[.int .i64 x.kind, .int .i64 x.r, .int .i64 x.tgt, .int .i64 x.op, .int .i64 x.n, .string x.name] 75)) w.heap.size s.2 := boolsAt_below ((Below.refl _ _).alloc (Nat.le_refl _) _) hI.out.tk
              have HTK := Lib.hid hTK
              have hgw1 : wo.heap.size < (wo.alloc (.cells #[.int .i64 x.kind, .int .i64 x.r, .int .i64 x.tgt, .int .i64 x.op, .int .i64 x.n, .string x.name] 75)).heap.size := by simp
              clear hTK hc0 hc1 hc2 hc3 hc4 hc5
              generalize wo.alloc (.cells #[.int .i64 x.kind, .int .i64 x.r, .int .i64 x.tgt, .int .i64 x.op, .int .i64 x.n, .string x.name] 75) = W1 at hN HTK HBX hgw1 ⊢
              refine start_ (n := 21) (S := fun w' => w'.cell? ⟨wo.heap.size, 2, none⟩ = some (.int .i64 x.tgt) ∧ w'.cell? ⟨wo.heap.size, 3, none⟩ = some (.int .i64 x.op) ∧ w'.cell? ⟨wo.heap.size, 4, none⟩ = some (.int .i64 x.n) ∧ w'.cell? ⟨wo.heap.size, 5, none⟩ = some (.string x.name)) (ds := []) #[false, false, false, false, false, false, false, false, false, false, false, false, false, false, false, false, false, false, false, false, false] (by kernel_rfl) rfl rfl ⟨blk_cell hN 2, blk_cell hN 3, blk_cell hN 4, blk_cell hN 5⟩ (fun hHeld => ?_)
              have HB2 : Hid (Below w.heap.size w W1.drew) := Lib.hid (below_drew HBX.out)
              have HTK2 : Hid (boolsAt W1.drew w.heap.size s.2) := Lib.hid HTK.out
              clear HBX HTK hN hgw1
              generalize W1.drew = W2 at hHeld HB2 HTK2 ⊢
              refine pure_ (i := 0) (N := some 50) (v := ?_) (a' := ?_) #[true, false, false, false, false, false, false, false, false, false, false, false, false, false, false, false, false, false, false, false, false] rfl rfl (by kernel_rfl) (fun _ _ _ h => h) (Or.inl ⟨by rfl, ?_⟩) ?_ ?_
              rotate_left
              · intro w'
                go_simp
                with_reducible rfl
              rotate_left
              · simp only [Act.put, List.setIfInBounds_toArray, List.set_cons_zero, List.set_cons_succ]
                rfl
              refine pure_ (i := 1) (N := some 51) (v := ?_) (a' := ?_) #[true, true, false, false, false, false, false, false, false, false, false, false, false, false, false, false, false, false, false, false, false] rfl rfl (by kernel_rfl) (fun _ _ _ h => h) (Or.inl ⟨by rfl, ?_⟩) ?_ ?_
              rotate_left
              · intro w'
                go_simp
                with_reducible rfl
              rotate_left
              · simp only [Act.put, List.setIfInBounds_toArray, List.set_cons_zero, List.set_cons_succ]
                rfl
              refine pure_ (i := 2) (N := some 52) (v := ?_) (a' := ?_) #[true, true, true, false, false, false, false, false, false, false, false, false, false, false, false, false, false, false, false, false, false] rfl rfl (by kernel_rfl) (fun _ _ _ h => h) (Or.inl ⟨by rfl, ?_⟩) ?_ ?_
              rotate_left
              · intro w'
                go_simp
                with_reducible rfl
              rotate_left
              · simp only [Act.put, List.setIfInBounds_toArray, List.set_cons_zero, List.set_cons_succ]
                rfl
              refine pure_ (i := 3) (N := some 53) (v := ?_) (a' := ?_) #[true, true, true, true, false, false, false, false, false, false, false, false, false, false, false, false, false, false, false, false, false] rfl rfl (by kernel_rfl) (fun _ _ _ h => h) (Or.inl ⟨by rfl, ?_⟩) ?_ ?_
              rotate_left
              · intro w'
                go_simp
                with_reducible rfl
              rotate_left
              · simp only [Act.put, List.setIfInBounds_toArray, List.set_cons_zero, List.set_cons_succ]
                rfl
              refine take_ (i := 4) (N := some 54) (v := ?_) (a' := ?_) #[true, true, true, true, true, false, false, false, false, false, false, false, false, false, false, false, false, false, false, false, false] rfl rfl (by kernel_rfl) (fun _ _ _ h => h) (Or.inl ⟨by rfl, ?_⟩) hHeld ?_ ?_
              rotate_left
              · rintro w' ⟨s0, s1, s2, s3⟩
                go_simp
                with_reducible rfl
              rotate_left
              · simp only [Act.put, List.setIfInBounds_toArray, List.set_cons_zero, List.set_cons_succ]
                rfl
              refine pure_ (i := 5) (N := some 55) (v := ?_) (a' := ?_) #[true, true, true, true, true, true, false, false, false, false, false, false, false, false, false, false, false, false, false, false, false] rfl rfl (by kernel_rfl) (fun _ _ _ h => h) (Or.inl ⟨by rfl, ?_⟩) ?_ ?_
              rotate_left
              · intro w'
                go_simp
                with_reducible rfl
              rotate_left
              · simp only [Act.put, List.setIfInBounds_toArray, List.set_cons_zero, List.set_cons_succ]
                rfl
              refine pure_ (i := 6) (N := some 56) (v := ?_) (a' := ?_) #[true, true, true, true, true, true, true, false, false, false, false, false, false, false, false, false, false, false, false, false, false] rfl rfl (by kernel_rfl) (fun _ _ _ h => h) (Or.inl ⟨by rfl, ?_⟩) ?_ ?_
              rotate_left
              · intro w'
                go_simp
                with_reducible rfl
              rotate_left
              · simp only [Act.put, List.setIfInBounds_toArray, List.set_cons_zero, List.set_cons_succ]
                rfl
              refine pure_ (i := 7) (N := some 57) (v := ?_) (a' := ?_) #[true, true, true, true, true, true, true, true, false, false, false, false, false, false, false, false, false, false, false, false, false] rfl rfl (by kernel_rfl) (fun _ _ _ h => h) (Or.inl ⟨by rfl, ?_⟩) ?_ ?_
              rotate_left
              · intro w'
                go_simp
                with_reducible rfl
              rotate_left
              · simp only [Act.put, List.setIfInBounds_toArray, List.set_cons_zero, List.set_cons_succ]
                rfl
              refine pure_ (i := 8) (N := some 58) (v := ?_) (a' := ?_) #[true, true, true, true, true, true, true, true, true, false, false, false, false, false, false, false, false, false, false, false, false] rfl rfl (by kernel_rfl) (fun _ _ _ h => h) (Or.inl ⟨by rfl, ?_⟩) ?_ ?_
              rotate_left
              · intro w'
                go_simp
                with_reducible rfl
              rotate_left
              · simp only [Act.put, List.setIfInBounds_toArray, List.set_cons_zero, List.set_cons_succ]
                rfl
              refine pure_ (i := 9) (N := some 59) (v := ?_) (a' := ?_) #[true, true, true, true, true, true, true, true, true, true, false, false, false, false, false, false, false, false, false, false, false] rfl rfl (by kernel_rfl) (fun _ _ _ h => h) (Or.inl ⟨by rfl, ?_⟩) ?_ ?_
              rotate_left
              · intro w'
                go_simp
                with_reducible rfl
              rotate_left
              · simp only [Act.put, List.setIfInBounds_toArray, List.set_cons_zero, List.set_cons_succ]
                rfl
              refine take_ (i := 10) (N := some 60) (v := ?_) (a' := ?_) #[true, true, true, true, true, true, true, true, true, true, true, false, false, false, false, false, false, false, false, false, false] rfl rfl (by kernel_rfl) (fun _ _ _ h => h) (Or.inl ⟨by rfl, ?_⟩) hHeld ?_ ?_
              rotate_left
              · rintro w' ⟨s0, s1, s2, s3⟩
                go_simp
                with_reducible rfl
              rotate_left
              · simp only [Act.put, List.setIfInBounds_toArray, List.set_cons_zero, List.set_cons_succ]
                rfl
              refine pure_ (i := 11) (N := some 61) (v := ?_) (a' := ?_) #[true, true, true, true, true, true, true, true, true, true, true, true, false, false, false, false, false, false, false, false, false] rfl rfl (by kernel_rfl) (fun _ _ _ h => h) (Or.inl ⟨by rfl, ?_⟩) ?_ ?_
              rotate_left
              · intro w'
                go_simp
                with_reducible rfl
              rotate_left
              · simp only [Act.put, List.setIfInBounds_toArray, List.set_cons_zero, List.set_cons_succ]
                rfl
              refine take_ (i := 12) (N := some 62) (v := ?_) (a' := ?_) #[true, true, true, true, true, true, true, true, true, true, true, true, true, false, false, false, false, false, false, false, false] rfl rfl (by kernel_rfl) (fun _ _ _ h => h) (Or.inl ⟨by rfl, ?_⟩) hHeld ?_ ?_
              rotate_left
              · rintro w' ⟨s0, s1, s2, s3⟩
                go_simp
                with_reducible rfl
              rotate_left
              · simp only [Act.put, List.setIfInBounds_toArray, List.set_cons_zero, List.set_cons_succ]
                rfl
              refine pure_ (i := 13) (N := some 63) (v := ?_) (a' := ?_) #[true, true, true, true, true, true, true, true, true, true, true, true, true, true, false, false, false, false, false, false, false] rfl rfl (by kernel_rfl) (fun _ _ _ h => h) (Or.inl ⟨by rfl, ?_⟩) ?_ ?_
              rotate_left
              · intro w'
                go_simp
                with_reducible rfl
              rotate_left
              · simp only [Act.put, List.setIfInBounds_toArray, List.set_cons_zero, List.set_cons_succ]
                rfl
              refine take_ (i := 14) (N := some 64) (v := ?_) (a' := ?_) #[true, true, true, true, true, true, true, true, true, true, true, true, true, true, true, false, false, false, false, false, false] rfl rfl (by kernel_rfl) (fun _ _ _ h => h) (Or.inl ⟨by rfl, ?_⟩) hHeld ?_ ?_
              rotate_left
              · rintro w' ⟨s0, s1, s2, s3⟩
                go_simp
                with_reducible rfl
              rotate_left
              · simp only [Act.put, List.setIfInBounds_toArray, List.set_cons_zero, List.set_cons_succ]
                rfl
              refine pure_ (i := 15) (N := some 65) (v := ?_) (a' := ?_) #[true, true, true, true, true, true, true, true, true, true, true, true, true, true, true, true, false, false, false, false, false] rfl rfl (by kernel_rfl) (fun _ _ _ h => h) (Or.inl ⟨by rfl, ?_⟩) ?_ ?_
              rotate_left
              · intro w'
                go_simp
                with_reducible rfl
              rotate_left
              · simp only [Act.put, List.setIfInBounds_toArray, List.set_cons_zero, List.set_cons_succ]
                rfl
              refine one_ (i := 16) (N := some 66) #[true, true, true, true, true, true, true, true, true, true, true, true, true, true, true, true, true, false, false, false, false] rfl rfl (by kernel_rfl) (by decide) (fun K hK => ?_)
              refine value_ (v := .slice (some ⟨W2.heap.size, 0, none⟩) k k) (w1 := W2.alloc (.cells (madeCells #[.int .i64 0] k) 3)) rfl rfl ?hrun ?_
              case hrun =>
                go_simp
              refine hK.out _ _ ⟨nd_below ((Below.refl _ _).alloc (Nat.le_refl _) _) hHeld.1, nd_below ((Below.refl _ _).alloc (Nat.le_refl _) _) hHeld.2.1, nd_below ((Below.refl _ _).alloc (Nat.le_refl _) _) hHeld.2.2.1, nd_below ((Below.refl _ _).alloc (Nat.le_refl _) _) hHeld.2.2.2⟩ (fun hHeld => ?_)
              clear hK K
              refine norm_ (a' := ?_) ?_ ?_
              rotate_left
              · show Act.put _ (some 66) _ = _
                simp only [Act.put, List.setIfInBounds_toArray, List.set_cons_zero, List.set_cons_succ]
                rfl
              have HB3 := Lib.hid (HB2.out.alloc HB2.out.size (.cells (madeCells #[.int .i64 0] k) 3))
              have HTK3 : Hid (boolsAt (W2.alloc (.cells (madeCells #[.int .i64 0] k) 3)) w.heap.size s.2) := Lib.hid (boolsAt_below ((Below.refl _ _).alloc (Nat.le_refl _) _) HTK2.out)
              generalize W2.alloc (.cells (madeCells #[.int .i64 0] k) 3) = W3 at hHeld HB3 HTK3 ⊢
              refine pure_ (i := 17) (N := some 67) (v := ?_) (a' := ?_) #[true, true, true, true, true, true, true, true, true, true, true, true, true, true, true, true, true, true, false, false, false] rfl rfl (by kernel_rfl) (fun _ _ _ h => h) (Or.inl ⟨by rfl, ?_⟩) ?_ ?_
              rotate_left
              · intro w'
                go_simp
                with_reducible rfl
              rotate_left
              · simp only [Act.put, List.setIfInBounds_toArray, List.set_cons_zero, List.set_cons_succ]
                rfl
              refine one_ (i := 18) (N := some 68) #[true, true, true, true, true, true, true, true, true, true, true, true, true, true, true, true, true, true, true, false, false] rfl rfl (by kernel_rfl) (by decide) (fun K hK => ?_)
              refine goes_ Tryd.func42 (by kernel_rfl) rfl #[.agg #[.int .i64 x.op, .int .i64 x.n, .string x.name, .slice (some ⟨W2.heap.size, 0, none⟩) k k]] (by rfl) rfl rfl (by (try simp only [List.map_toArray, List.map_cons, List.map_nil]); first | done | rfl) ?_
              refine (rform_any x.op x.n x.name _ k k W3 HNX.out).mono ?_
              rintro en w5 ⟨rfl, hb5⟩
              have HB5 := Lib.hid (HB3.out.trans (hb5.mono HB3.out.size))
              have HTK5 := Lib.hid (boolsAt_below hb5 HTK3.out)
              rw [hF]
              refine ⟨_, rfl, ?_⟩
              refine hK.out _ _ ⟨nd_below hb5 hHeld.1, nd_below hb5 hHeld.2.1, nd_below hb5 hHeld.2.2.1, nd_below hb5 hHeld.2.2.2⟩ (fun hHeld => ?_)
              clear hK K
              refine norm_ (a' := ?_) ?_ ?_
              rotate_left
              · show Act.put _ (some 68) _ = _
                simp only [Act.put, List.setIfInBounds_toArray, List.set_cons_zero, List.set_cons_succ]
                rfl
              clear hb5 HB3 HTK3 HB2 HTK2
              refine pure_ (i := 19) (N := some 69) (v := ?_) (a' := ?_) #[true, true, true, true, true, true, true, true, true, true, true, true, true, true, true, true, true, true, true, true, false] rfl rfl (by kernel_rfl) (fun _ _ _ h => h) (Or.inl ⟨by rfl, ?_⟩) ?_ ?_
              rotate_left
              · intro w'
                go_simp
                with_reducible rfl
              rotate_left
              · simp only [Act.put, List.setIfInBounds_toArray, List.set_cons_zero, List.set_cons_succ]
                rfl
              refine pure_ (i := 20) (N := some 70) (v := ?_) (a' := ?_) #[true, true, true, true, true, true, true, true, true, true, true, true, true, true, true, true, true, true, true, true, true] rfl rfl (by kernel_rfl) (fun _ _ _ h => h) (Or.inl ⟨by rfl, ?_⟩) ?_ ?_
              rotate_left
              · intro w'
                go_simp
                with_reducible rfl
              rotate_left
              · simp only [Act.put, List.setIfInBounds_toArray, List.set_cons_zero, List.set_cons_succ]
                rfl
              refine done_ (by kernel_rfl) ?_
              clear hHeld
              go_wp2
              go_roundw
              case rel => exact ⟨i + 1, (s.1 + k, s.2), rg + k, by go_num, by go_num, by rw [HRG.out]; go_num, by omega, by omega, by omega, Lib.hid ⟨HST.out, hI.out.len, HTK5.out, HB5.out⟩⟩
              case measure => simp [intOf]; omega
          · have t1 : (x.tgt != (rg : Int)) = true := by rw [bne_iff_ne]; exact hto
            have HBAD : Hid (mcheck p (h : Int) = false) := Lib.hid (mcheck_bad hI.out.run HX.out (step_class_to HK1.out (by rw [HRG.out]; exact hto)))
            clear hto
            go_wp2_with (go_at_call 53; refine (rarity_any x.op _).mono ?_; rintro en w' ⟨rfl, rfl⟩)
            have hN := heap_alloc_new wo (.cells #[.int .i64 x.kind, .int .i64 x.r, .int .i64 x.tgt, .int .i64 x.op, .int .i64 x.n, .string x.name] 75)
            have hTK : boolsAt (wo.alloc (.cells #[.int .i64 x.kind, .int .i64 x.r, .int .i64 x.tgt, .int .i64 x.op, .int .i64 x.n, .string x.name] 75)) w.heap.size s.2 := boolsAt_below ((Below.refl _ _).alloc (Nat.le_refl _) _) hI.out.tk
            have HTK := Lib.hid hTK
            have hgw1 : wo.heap.size < (wo.alloc (.cells #[.int .i64 x.kind, .int .i64 x.r, .int .i64 x.tgt, .int .i64 x.op, .int .i64 x.n, .string x.name] 75)).heap.size := by simp
            clear hTK hc0 hc1 hc2 hc3 hc4 hc5
            generalize wo.alloc (.cells #[.int .i64 x.kind, .int .i64 x.r, .int .i64 x.tgt, .int .i64 x.op, .int .i64 x.n, .string x.name] 75) = W1 at hN HTK HBX hgw1 ⊢
            refine start_ (n := 21) (S := fun w' => w'.cell? ⟨wo.heap.size, 2, none⟩ = some (.int .i64 x.tgt)) (ds := []) #[false, false, false, false, false, false, false, false, false, false, false, false, false, false, false, false, false, false, false, false, false] (by kernel_rfl) rfl rfl (blk_cell hN 2) (fun hHeld => ?_)
            have HB2 : Hid (Below w.heap.size w W1.drew) := Lib.hid (below_drew HBX.out)
            clear HBX HTK hN hgw1
            generalize W1.drew = W2 at hHeld HB2 ⊢
            refine pure_ (i := 0) (N := some 50) (v := ?_) (a' := ?_) #[true, false, false, false, false, false, false, false, false, false, false, false, false, false, false, false, false, false, false, false, false] rfl rfl (by kernel_rfl) (fun _ _ _ h => h) (Or.inl ⟨by rfl, ?_⟩) ?_ ?_
            rotate_left
            · intro w'
              go_simp
              with_reducible rfl
            rotate_left
            · simp only [Act.put, List.setIfInBounds_toArray, List.set_cons_zero, List.set_cons_succ]
              rfl
            refine pure_ (i := 1) (N := some 51) (v := ?_) (a' := ?_) #[true, true, false, false, false, false, false, false, false, false, false, false, false, false, false, false, false, false, false, false, false] rfl rfl (by kernel_rfl) (fun _ _ _ h => h) (Or.inl ⟨by rfl, ?_⟩) ?_ ?_
            rotate_left
            · intro w'
              go_simp
              with_reducible rfl
            rotate_left
            · simp only [Act.put, List.setIfInBounds_toArray, List.set_cons_zero, List.set_cons_succ]
              rfl
            refine pure_ (i := 2) (N := some 52) (v := ?_) (a' := ?_) #[true, true, true, false, false, false, false, false, false, false, false, false, false, false, false, false, false, false, false, false, false] rfl rfl (by kernel_rfl) (fun _ _ _ h => h) (Or.inl ⟨by rfl, ?_⟩) ?_ ?_
            rotate_left
            · intro w'
              go_simp
              with_reducible rfl
            rotate_left
            · simp only [Act.put, List.setIfInBounds_toArray, List.set_cons_zero, List.set_cons_succ]
              rfl
            refine pure_ (i := 3) (N := some 53) (v := ?_) (a' := ?_) #[true, true, true, true, false, false, false, false, false, false, false, false, false, false, false, false, false, false, false, false, false] rfl rfl (by kernel_rfl) (fun _ _ _ h => h) (Or.inl ⟨by rfl, ?_⟩) ?_ ?_
            rotate_left
            · intro w'
              go_simp
              with_reducible rfl
            rotate_left
            · simp only [Act.put, List.setIfInBounds_toArray, List.set_cons_zero, List.set_cons_succ]
              rfl
            refine take_ (i := 4) (N := some 54) (v := ?_) (a' := ?_) #[true, true, true, true, true, false, false, false, false, false, false, false, false, false, false, false, false, false, false, false, false] rfl rfl (by kernel_rfl) (fun _ _ _ h => h) (Or.inl ⟨by rfl, ?_⟩) hHeld ?_ ?_
            rotate_left
            · intro w' s0
              go_simp
              with_reducible rfl
            rotate_left
            · simp only [Act.put, List.setIfInBounds_toArray, List.set_cons_zero, List.set_cons_succ]
              rfl
            refine pure_ (i := 5) (N := some 55) (v := ?_) (a' := ?_) #[true, true, true, true, true, true, false, false, false, false, false, false, false, false, false, false, false, false, false, false, false] rfl rfl (by kernel_rfl) (fun _ _ _ h => h) (Or.inl ⟨by rfl, ?_⟩) ?_ ?_
            rotate_left
            · intro w'
              go_simp
              with_reducible rfl
            rotate_left
            · simp only [Act.put, List.setIfInBounds_toArray, List.set_cons_zero, List.set_cons_succ]
              rfl
            refine pure_ (i := 6) (N := some 56) (v := ?_) (a' := ?_) #[true, true, true, true, true, true, true, false, false, false, false, false, false, false, false, false, false, false, false, false, false] rfl rfl (by kernel_rfl) (fun _ _ _ h => h) (Or.inl ⟨by rfl, ?_⟩) ?_ ?_
            rotate_left
            · intro w'
              go_simp
              with_reducible rfl
            rotate_left
            · simp only [Act.put, List.setIfInBounds_toArray, List.set_cons_zero, List.set_cons_succ]
              rfl
            refine pure_ (i := 7) (N := some 57) (v := ?_) (a' := ?_) #[true, true, true, true, true, true, true, true, false, false, false, false, false, false, false, false, false, false, false, false, false] rfl rfl (by kernel_rfl) (fun _ _ _ h => h) (Or.inl ⟨by rfl, ?_⟩) ?_ ?_
            rotate_left
            · intro w'
              go_simp
              with_reducible rfl
            rotate_left
            · simp only [Act.put, List.setIfInBounds_toArray, List.set_cons_zero, List.set_cons_succ]
              rfl
            refine pure_ (i := 8) (N := some 58) (v := ?_) (a' := ?_) #[true, true, true, true, true, true, true, true, true, false, false, false, false, false, false, false, false, false, false, false, false] rfl rfl (by kernel_rfl) (fun _ _ _ h => h) (Or.inl ⟨by rfl, ?_⟩) ?_ ?_
            rotate_left
            · intro w'
              go_simp
              with_reducible rfl
            rotate_left
            · simp only [Act.put, List.setIfInBounds_toArray, List.set_cons_zero, List.set_cons_succ]
              rfl
            refine pure_ (i := 9) (N := some 59) (v := undef) (a' := ?_) #[true, true, true, true, true, true, true, true, true, true, false, false, false, false, false, false, false, false, false, false, false] rfl rfl (by kernel_rfl) (fun _ _ _ h => h) (Or.inr ⟨by rfl, rfl⟩) ?_ ?_
            rotate_left
            · simp only [Act.put, List.setIfInBounds_toArray, List.set_cons_zero, List.set_cons_succ]
              rfl
            refine pure_ (i := 10) (N := some 60) (v := undef) (a' := ?_) #[true, true, true, true, true, true, true, true, true, true, true, false, false, false, false, false, false, false, false, false, false] rfl rfl (by kernel_rfl) (fun _ _ _ h => h) (Or.inr ⟨by rfl, rfl⟩) ?_ ?_
            rotate_left
            · simp only [Act.put, List.setIfInBounds_toArray, List.set_cons_zero, List.set_cons_succ]
              rfl
            refine pure_ (i := 11) (N := some 61) (v := undef) (a' := ?_) #[true, true, true, true, true, true, true, true, true, true, true, true, false, false, false, false, false, false, false, false, false] rfl rfl (by kernel_rfl) (fun _ _ _ h => h) (Or.inr ⟨by rfl, rfl⟩) ?_ ?_
            rotate_left
            · simp only [Act.put, List.setIfInBounds_toArray, List.set_cons_zero, List.set_cons_succ]
              rfl
            refine pure_ (i := 12) (N := some 62) (v := undef) (a' := ?_) #[true, true, true, true, true, true, true, true, true, true, true, true, true, false, false, false, false, false, false, false, false] rfl rfl (by kernel_rfl) (fun _ _ _ h => h) (Or.inr ⟨by rfl, rfl⟩) ?_ ?_
            rotate_left
            · simp only [Act.put, List.setIfInBounds_toArray, List.set_cons_zero, List.set_cons_succ]
              rfl
            refine pure_ (i := 13) (N := some 63) (v := undef) (a' := ?_) #[true, true, true, true, true, true, true, true, true, true, true, true, true, true, false, false, false, false, false, false, false] rfl rfl (by kernel_rfl) (fun _ _ _ h => h) (Or.inr ⟨by rfl, rfl⟩) ?_ ?_
            rotate_left
            · simp only [Act.put, List.setIfInBounds_toArray, List.set_cons_zero, List.set_cons_succ]
              rfl
            refine pure_ (i := 14) (N := some 64) (v := undef) (a' := ?_) #[true, true, true, true, true, true, true, true, true, true, true, true, true, true, true, false, false, false, false, false, false] rfl rfl (by kernel_rfl) (fun _ _ _ h => h) (Or.inr ⟨by rfl, rfl⟩) ?_ ?_
            rotate_left
            · simp only [Act.put, List.setIfInBounds_toArray, List.set_cons_zero, List.set_cons_succ]
              rfl
            refine pure_ (i := 15) (N := some 65) (v := undef) (a' := ?_) #[true, true, true, true, true, true, true, true, true, true, true, true, true, true, true, true, false, false, false, false, false] rfl rfl (by kernel_rfl) (fun _ _ _ h => h) (Or.inr ⟨by rfl, rfl⟩) ?_ ?_
            rotate_left
            · simp only [Act.put, List.setIfInBounds_toArray, List.set_cons_zero, List.set_cons_succ]
              rfl
            refine pure_ (i := 16) (N := some 66) (v := undef) (a' := ?_) #[true, true, true, true, true, true, true, true, true, true, true, true, true, true, true, true, true, false, false, false, false] rfl rfl (by kernel_rfl) (fun _ _ _ h => h) (Or.inr ⟨by rfl, rfl⟩) ?_ ?_
            rotate_left
            · simp only [Act.put, List.setIfInBounds_toArray, List.set_cons_zero, List.set_cons_succ]
              rfl
            refine pure_ (i := 17) (N := some 67) (v := undef) (a' := ?_) #[true, true, true, true, true, true, true, true, true, true, true, true, true, true, true, true, true, true, false, false, false] rfl rfl (by kernel_rfl) (fun _ _ _ h => h) (Or.inr ⟨by rfl, rfl⟩) ?_ ?_
            rotate_left
            · simp only [Act.put, List.setIfInBounds_toArray, List.set_cons_zero, List.set_cons_succ]
              rfl
            refine pure_ (i := 18) (N := some 68) (v := undef) (a' := ?_) #[true, true, true, true, true, true, true, true, true, true, true, true, true, true, true, true, true, true, true, false, false] rfl rfl (by kernel_rfl) (fun _ _ _ h => h) (Or.inr ⟨by rfl, rfl⟩) ?_ ?_
            rotate_left
            · simp only [Act.put, List.setIfInBounds_toArray, List.set_cons_zero, List.set_cons_succ]
              rfl
            refine pure_ (i := 19) (N := some 69) (v := undef) (a' := ?_) #[true, true, true, true, true, true, true, true, true, true, true, true, true, true, true, true, true, true, true, true, false] rfl rfl (by kernel_rfl) (fun _ _ _ h => h) (Or.inr ⟨by rfl, rfl⟩) ?_ ?_
            rotate_left
            · simp only [Act.put, List.setIfInBounds_toArray, List.set_cons_zero, List.set_cons_succ]
              rfl
            refine pure_ (i := 20) (N := some 70) (v := ?_) (a' := ?_) #[true, true, true, true, true, true, true, true, true, true, true, true, true, true, true, true, true, true, true, true, true] rfl rfl (by kernel_rfl) (fun _ _ _ h => h) (Or.inl ⟨by rfl, ?_⟩) ?_ ?_
            rotate_left
            · intro w'
              go_simp
              with_reducible rfl
            rotate_left
            · simp only [Act.put, List.setIfInBounds_toArray, List.set_cons_zero, List.set_cons_succ]
              rfl
            refine done_ (by kernel_rfl) ?_
            clear hHeld
            go_wp2
            go_ret
            exact ⟨ret_chk HBAD.out rfl, HB2.out⟩
      have k1 : (x.kind == 1) = false := beq_eq_false_iff_ne.2 hk1
      have HTKA : Hid (boolsAt (wo.alloc (.cells #[.int .i64 x.kind, .int .i64 x.r, .int .i64 x.tgt, .int .i64 x.op, .int .i64 x.n, .string x.name] 75)) w.heap.size s.2) := Lib.hid (boolsAt_below ((Below.refl _ _).alloc (Nat.le_refl _) _) hI.out.tk)
      by_cases hk2 : x.kind = 2
      · have k2 : (x.kind == 2) = true := beq_iff_eq.2 hk2
        have HK2 := Lib.hid hk2
        clear hk1 hk2
        cases hb : x.bare
        · have HF : Hid (¬ (x.bare = true ∧ 0 ≤ x.tgt ∧ x.tgt < s.1)) := Lib.hid (fun h => by rw [hb] at h; cases h.1)
          have HBAD : Hid (mcheck p (h : Int) = false) := Lib.hid (mcheck_bad hI.out.run HX.out (step_same_bad HK2.out HF.out))
          go_wp2_with (go_at_call 54; refine (bare_any x _).mono ?_; rintro en w1 ⟨rfl, hb1⟩; have q2 := nd_below hb1 (blk_cell (heap_alloc_new wo (.cells #[.int .i64 x.kind, .int .i64 x.r, .int .i64 x.tgt, .int .i64 x.op, .int .i64 x.n, .string x.name] 75)) 2); have HB1 := Lib.hid (HBX.out.trans (hb1.mono HBX.out.size)); have HTK1 := Lib.hid (boolsAt_below hb1 HTKA.out); clear hb1)
          go_ret
          exact ⟨ret_chk HBAD.out rfl, HB1.out⟩
        · by_cases h0 : x.tgt < 0
          · have d0 : decide (x.tgt < 0) = true := decide_eq_true h0
            have HF : Hid (¬ (x.bare = true ∧ 0 ≤ x.tgt ∧ x.tgt < s.1)) := Lib.hid (fun h => by have := h.2.1; omega)
            clear h0
            have HBAD : Hid (mcheck p (h : Int) = false) := Lib.hid (mcheck_bad hI.out.run HX.out (step_same_bad HK2.out HF.out))
            go_wp2_with (go_at_call 54; refine (bare_any x _).mono ?_; rintro en w1 ⟨rfl, hb1⟩; have q2 := nd_below hb1 (blk_cell (heap_alloc_new wo (.cells #[.int .i64 x.kind, .int .i64 x.r, .int .i64 x.tgt, .int .i64 x.op, .int .i64 x.n, .string x.name] 75)) 2); have HB1 := Lib.hid (HBX.out.trans (hb1.mono HBX.out.size)); have HTK1 := Lib.hid (boolsAt_below hb1 HTKA.out); clear hb1)
            go_ret
            exact ⟨ret_chk HBAD.out rfl, HB1.out⟩
          · have d0 : decide (x.tgt < 0) = false := decide_eq_false h0
            by_cases h1 : (rg : Int) ≤ x.tgt
            · have e1 : decide ((rg : Int) ≤ x.tgt) = true := decide_eq_true h1
              have e1' : decide (x.tgt ≥ (rg : Int)) = true := decide_eq_true h1
              have HF : Hid (¬ (x.bare = true ∧ 0 ≤ x.tgt ∧ x.tgt < s.1)) := Lib.hid (fun h => by have := h.2.2; rw [HRG.out] at this; omega)
              clear h0 h1
              have HBAD : Hid (mcheck p (h : Int) = false) := Lib.hid (mcheck_bad hI.out.run HX.out (step_same_bad HK2.out HF.out))
              go_wp2_with (go_at_call 54; refine (bare_any x _).mono ?_; rintro en w1 ⟨rfl, hb1⟩; have q2 := nd_below hb1 (blk_cell (heap_alloc_new wo (.cells #[.int .i64 x.kind, .int .i64 x.r, .int .i64 x.tgt, .int .i64 x.op, .int .i64 x.n, .string x.name] 75)) 2); have HB1 := Lib.hid (HBX.out.trans (hb1.mono HBX.out.size)); have HTK1 := Lib.hid (boolsAt_below hb1 HTKA.out); clear hb1)
              go_ret
              exact ⟨ret_chk HBAD.out rfl, HB1.out⟩
            · have e1 : decide ((rg : Int) ≤ x.tgt) = false := decide_eq_false h1
              have e1' : decide (x.tgt ≥ (rg : Int)) = false := decide_eq_false h1
              have HLT : Hid (x.tgt < s.1) := Lib.hid (by rw [HRG.out]; omega)
              have HBB := Lib.hid hb
              have HH0 : Hid (0 ≤ x.tgt) := Lib.hid (by omega)
              clear h0 h1
              have HST : Hid (runM h (p.take (i + 1)) (runStart h) = some s) := Lib.hid (run_next hI.out.run HX.out (step_same HRR.out HK2.out HBB.out HH0.out HLT.out))
              go_wp2_with (go_at_call 54; refine (bare_any x _).mono ?_; rintro en w1 ⟨rfl, hb1⟩; have q2 := nd_below hb1 (blk_cell (heap_alloc_new wo (.cells #[.int .i64 x.kind, .int .i64 x.r, .int .i64 x.tgt, .int .i64 x.op, .int .i64 x.n, .string x.name] 75)) 2); have HB1 := Lib.hid (HBX.out.trans (hb1.mono HBX.out.size)); have HTK1 := Lib.hid (boolsAt_below hb1 HTKA.out); clear hb1)
              go_roundw
              case rel => exact ⟨i + 1, s, rg, by go_num, by go_num, HRG.out, by omega, by omega, by omega, Lib.hid ⟨HST.out, hI.out.len, HTK1.out, HB1.out⟩⟩
              case measure => simp [intOf]; omega
      have k2 : (x.kind == 2) = false := beq_eq_false_iff_ne.2 hk2
      by_cases hk3 : x.kind = 3
      · have k3 : (x.kind == 3) = true := beq_iff_eq.2 hk3
        have HK3 := Lib.hid hk3
        clear hk1 hk2 hk3
        cases hb : x.bare
        · have HF : Hid (¬ (x.bare = true ∧ 0 ≤ x.tgt ∧ x.tgt < (h : Int) ∧ s.2.getD x.tgt.toNat true = false)) := Lib.hid (fun h => by rw [hb] at h; cases h.1)
          have HBAD : Hid (mcheck p (h : Int) = false) := Lib.hid (mcheck_bad hI.out.run HX.out (step_take_bad HK3.out HF.out))
          go_wp2_with (go_at_call 54; refine (bare_any x _).mono ?_; rintro en w1 ⟨rfl, hb1⟩; have q2 := nd_below hb1 (blk_cell (heap_alloc_new wo (.cells #[.int .i64 x.kind, .int .i64 x.r, .int .i64 x.tgt, .int .i64 x.op, .int .i64 x.n, .string x.name] 75)) 2); have HB1 := Lib.hid (HBX.out.trans (hb1.mono HBX.out.size)); have HTK1 := Lib.hid (boolsAt_below hb1 HTKA.out); clear hb1)
          go_ret
          exact ⟨ret_chk HBAD.out rfl, HB1.out⟩
        · by_cases h0 : x.tgt < 0
          · have d0 : decide (x.tgt < 0) = true := decide_eq_true h0
            have HF : Hid (¬ (x.bare = true ∧ 0 ≤ x.tgt ∧ x.tgt < (h : Int) ∧ s.2.getD x.tgt.toNat true = false)) := Lib.hid (fun h => by have := h.2.1; omega)
            clear h0
            have HBAD : Hid (mcheck p (h : Int) = false) := Lib.hid (mcheck_bad hI.out.run HX.out (step_take_bad HK3.out HF.out))
            go_wp2_with (go_at_call 54; refine (bare_any x _).mono ?_; rintro en w1 ⟨rfl, hb1⟩; have q2 := nd_below hb1 (blk_cell (heap_alloc_new wo (.cells #[.int .i64 x.kind, .int .i64 x.r, .int .i64 x.tgt, .int .i64 x.op, .int .i64 x.n, .string x.name] 75)) 2); have HB1 := Lib.hid (HBX.out.trans (hb1.mono HBX.out.size)); have HTK1 := Lib.hid (boolsAt_below hb1 HTKA.out); clear hb1)
            go_ret
            exact ⟨ret_chk HBAD.out rfl, HB1.out⟩
          · have d0 : decide (x.tgt < 0) = false := decide_eq_false h0
            by_cases h1 : (h : Int) ≤ x.tgt
            · have e1 : decide ((h : Int) ≤ x.tgt) = true := decide_eq_true h1
              have e1' : decide (x.tgt ≥ (h : Int)) = true := decide_eq_true h1
              have HF : Hid (¬ (x.bare = true ∧ 0 ≤ x.tgt ∧ x.tgt < (h : Int) ∧ s.2.getD x.tgt.toNat true = false)) := Lib.hid (fun h => by have := h.2.2.1; omega)
              clear h0 h1
              have HBAD : Hid (mcheck p (h : Int) = false) := Lib.hid (mcheck_bad hI.out.run HX.out (step_take_bad HK3.out HF.out))
              go_wp2_with (go_at_call 54; refine (bare_any x _).mono ?_; rintro en w1 ⟨rfl, hb1⟩; have q2 := nd_below hb1 (blk_cell (heap_alloc_new wo (.cells #[.int .i64 x.kind, .int .i64 x.r, .int .i64 x.tgt, .int .i64 x.op, .int .i64 x.n, .string x.name] 75)) 2); have HB1 := Lib.hid (HBX.out.trans (hb1.mono HBX.out.size)); have HTK1 := Lib.hid (boolsAt_below hb1 HTKA.out); clear hb1)
              go_ret
              exact ⟨ret_chk HBAD.out rfl, HB1.out⟩
            · obtain ⟨tn, htn⟩ := Int.eq_ofNat_of_zero_le (show 0 ≤ x.tgt by omega)
              have htl : tn < h := by omega
              obtain ⟨b, hbt⟩ : ∃ b, s.2[tn]? = some b := ⟨_, List.getElem?_eq_getElem (by rw [hI.out.len]; exact htl)⟩
              have HGD : Hid (s.2.getD x.tgt.toNat true = b) := Lib.hid (by rw [htn, Int.toNat_natCast, List.getD_eq_getElem?_getD, hbt]; rfl)
              have HBB := Lib.hid hb
              have HH0 : Hid (0 ≤ x.tgt) := Lib.hid (by omega)
              have HH1 : Hid (x.tgt < (h : Int)) := Lib.hid (by omega)
              have HTN := Lib.hid htn
              have HBT := Lib.hid hbt
              have z0 : decide ((tn : Int) < 0) = false := decide_eq_false (by omega)
              have z1 : decide ((h : Int) ≤ (tn : Int)) = false := decide_eq_false (by omega)
              have z1' : decide ((tn : Int) ≥ (h : Int)) = false := decide_eq_false (by omega)
              clear h0 h1 hbt htn d0
              cases b
              · skip
                have HST : Hid (runM h (p.take (i + 1)) (runStart h) = some (s.1, s.2.set x.tgt.toNat true)) := Lib.hid (run_next hI.out.run HX.out (step_take HRR.out HK3.out HBB.out HH0.out HH1.out HGD.out))
                go_wp2_with (go_at_call 54; refine (bare_any x _).mono ?_; rintro en w1 ⟨rfl, hb1⟩; have q2 := nd_below hb1 (blk_cell (heap_alloc_new wo (.cells #[.int .i64 x.kind, .int .i64 x.r, .int .i64 x.tgt, .int .i64 x.op, .int .i64 x.n, .string x.name] 75)) 2); have qb := boolsAt_cell (boolsAt_below hb1 HTKA.out) HBT.out; have qf := boolsAt_frozen (boolsAt_below hb1 HTKA.out) tn; have HB1 := Lib.hid (HBX.out.trans (hb1.mono HBX.out.size)); have HTK1 := Lib.hid (boolsAt_below hb1 HTKA.out); have hgw1 : w.heap.size < w1.heap.size := (Array.getElem?_eq_some_iff.1 HTK1.out).1; rw [HTN.out] at q2; clear hb1)
                go_roundw
                case rel => exact ⟨i + 1, (s.1, s.2.set x.tgt.toNat true), rg, by go_num, by go_num, HRG.out, by omega, by omega, by omega, Lib.hid ⟨HST.out, (by rw [List.length_set]; exact hI.out.len), (by rw [HTN.out, Int.toNat_natCast]; exact boolsAt_set HTK1.out tn true), (HB1.out.setCell (p := ⟨w.heap.size, tn, none⟩) (Nat.le_refl _) _)⟩⟩
                case measure => simp [intOf]; omega
              · have HF : Hid (¬ (x.bare = true ∧ 0 ≤ x.tgt ∧ x.tgt < (h : Int) ∧ s.2.getD x.tgt.toNat true = false)) := Lib.hid (fun h => by have := h.2.2.2; rw [HGD.out] at this; cases this)
                have HBAD : Hid (mcheck p (h : Int) = false) := Lib.hid (mcheck_bad hI.out.run HX.out (step_take_bad HK3.out HF.out))
                go_wp2_with (go_at_call 54; refine (bare_any x _).mono ?_; rintro en w1 ⟨rfl, hb1⟩; have q2 := nd_below hb1 (blk_cell (heap_alloc_new wo (.cells #[.int .i64 x.kind, .int .i64 x.r, .int .i64 x.tgt, .int .i64 x.op, .int .i64 x.n, .string x.name] 75)) 2); have qb := boolsAt_cell (boolsAt_below hb1 HTKA.out) HBT.out; have qf := boolsAt_frozen (boolsAt_below hb1 HTKA.out) tn; have HB1 := Lib.hid (HBX.out.trans (hb1.mono HBX.out.size)); have HTK1 := Lib.hid (boolsAt_below hb1 HTKA.out); have hgw1 : w.heap.size < w1.heap.size := (Array.getElem?_eq_some_iff.1 HTK1.out).1; rw [HTN.out] at q2; clear hb1)
                go_ret
                exact ⟨ret_chk HBAD.out rfl, HB1.out⟩
      have k3 : (x.kind == 3) = false := beq_eq_false_iff_ne.2 hk3
      have HF : Hid (stepM h s x = none) := Lib.hid (step_none hk1 hk2 hk3)
      clear hk1 hk2 hk3
      have HBAD : Hid (mcheck p (h : Int) = false) := Lib.hid (mcheck_bad hI.out.run HX.out (HF.out))
      go_wp2_with fail
      go_ret
      exact ⟨ret_chk HBAD.out rfl, HBX.out⟩
    · have hie : i = p.length := by omega
      have HST : Hid (runM h p (runStart h) = some s) := Lib.hid (by have := hI.out.run; rwa [hie, List.take_length] at this)
      have HMC : Hid (mcheck p (h : Int) = s.2.all id) := Lib.hid (by
        unfold mcheck
        rw [Int.toNat_natCast, HST.out, decide_eq_true (show (0 : Int) ≤ h by omega), decide_eq_true (show (h : Int) ≤ 6 by omega), decide_eq_true hl64]; rfl)
      clear hie
      go_wp2
      go_loop [10] (fun jv => ∃ j : Nat, jv = .int .i64 j ∧ j ≤ h ∧ Hid ((s.2.take j).all id = true)) (fun jv => h - (intOf jv).toNat)
      case atStart => exact ⟨0, rfl, by omega, Lib.hid rfl⟩
      case round =>
        obtain ⟨j, rfl, hj, hall⟩ := hrel
        by_cases hjl : j < h
        · obtain ⟨b, hb⟩ : ∃ b, s.2[j]? = some b := ⟨_, List.getElem?_eq_getElem (by rw [hI.out.len]; exact hjl)⟩
          have hc := boolsAt_cell hI.out.tk hb
          have HB := Lib.hid hb
          clear hb
          cases b
          · have HE : Hid (s.2.all id = false) := Lib.hid (by
              rw [Bool.eq_false_iff]; intro h
              have := List.all_eq_true.1 h false (List.mem_of_getElem? HB.out)
              cases this)
            go_wp2
            go_ret
            exact ⟨ret_chk (HMC.out.trans HE.out) rfl, hI.out.B⟩
          · have HN : Hid ((s.2.take (j + 1)).all id = true) := Lib.hid (by
              rw [List.take_succ_eq_append_getElem (by rw [hI.out.len]; exact hjl), List.all_append, hall.out, (List.getElem?_eq_some_iff.1 HB.out).2]; rfl)
            go_wp2
            go_round
            case rel => exact ⟨j + 1, by go_num, by omega, HN⟩
            case measure => simp [intOf]; omega
        · have hje : j = s.2.length := by have := hI.out.len; omega
          have HE : Hid (s.2.all id = true) := Lib.hid (by have := hall.out; rwa [hje, List.take_length] at this)
          clear hje
          go_wp2
          go_ret
          exact ⟨ret_chk (HMC.out.trans HE.out) rfl, hI.out.B⟩
end Go.Proofs.YticaocadeeolkaaDoor
