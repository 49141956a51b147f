-- PRINTED BY print.sh 35421559b90ae4d0a3588c463048766b98c2df88dd9212a6774a882060cdf62d: not written by this session
import Derived.Test.YticaocadeeolkaaDoorPBoxKeepsx0
import Derived.Test.YticaocadeeolkaaDoorPBoxKeepsx2
namespace Go.Proofs.YticaocadeeolkaaDoor.PBoxKeeps
open Go.RowKit Go.Proofs.YticaocadeeolkaaDoorW.PrintWords Go.Proofs.YticaocadeeolkaaDoorW.PrintLast Go.Proofs.YticaocadeeolkaaDoorW.PrintMore
attribute [local go_sem] max2_int min2_int max_two min_two max_three min_three max_four min_four   -- for this text's walks alone
set_option linter.unusedVariables false
set_option linter.unusedSimpArgs false

/-! ### sorrelref01_letter: function 83 -/
def sorrelref01_letter.j0 : Nat → Int → Bool → Option (Bool)
  | 0, _, _ => none
  | k + 1, x0, x12 => if x12 = true then (some true) else ((sorrelref01_within.f x0 192 591).bind fun t123 => (if t123 = true then (if x0 = 215 then (some false) else (some (x0 != 247))) else ((sorrelref01_within.f x0 880 1023).bind fun t124 => (if t124 = true then (if x0 = 894 then (some false) else (some (x0 != 903))) else ((sorrelref01_within.f x0 1024 1327).bind fun t125 => (if t125 = true then ((sorrelref01_within.f x0 1154 1161).bind fun t126 => (some (!t126))) else ((sorrelref01_within.f x0 19968 40959).bind fun t127 => (if t127 = true then (some true) else ((sorrelref01_within.f x0 66560 66639).bind fun t128 => (some t128))))))))))
def sorrelref01_letter.f (k : Nat) (a0 : Int) : Option (Bool) := (sorrelref01_within.f a0 97 122).bind fun t121 => (if t121 = true then (sorrelref01_letter.j0 k a0 true) else ((sorrelref01_within.f a0 65 90).bind fun t122 => (if t122 = true then (sorrelref01_letter.j0 k a0 true) else (sorrelref01_letter.j0 k a0 (a0 == 95)))))
theorem sorrelref01_letter.mono_l : ∀ k, (∀ y0 y1, LeO (sorrelref01_letter.j0 k y0 y1) (sorrelref01_letter.j0 (k + 1) y0 y1))
  | 0 => fun _ _ r h => by simp [sorrelref01_letter.j0] at h
  | k + 1 => by
    have ih0 := sorrelref01_letter.mono_l k
    · intro y0 y1
      unfold sorrelref01_letter.j0
      repeat' first
      | (with_reducible exact ih0 _ _)
      | (with_reducible exact LeO.refl _)
      | (with_reducible exact LeO.none _)
      | (with_reducible refine LeO.ite ?_ ?_)
      | (with_reducible refine LeO.bind ?_ (fun _ => ?_))
      | exact ih0 _ _
      | exact LeO.none _
      | refine LeO.ite ?_ ?_
      | refine LeO.bind ?_ (fun _ => ?_)
theorem sorrelref01_letter.mono : ∀ a0 k, LeO (sorrelref01_letter.f k a0) (sorrelref01_letter.f (k + 1) a0) := by
  intro a0 k
  have ih0 := sorrelref01_letter.mono_l k
  unfold sorrelref01_letter.f
  repeat' first
      | (with_reducible exact ih0 _ _)
      | (with_reducible exact LeO.refl _)
      | (with_reducible exact LeO.none _)
      | (with_reducible refine LeO.ite ?_ ?_)
      | (with_reducible refine LeO.bind ?_ (fun _ => ?_))
      | exact ih0 _ _
      | exact LeO.none _
      | refine LeO.ite ?_ ?_
      | refine LeO.bind ?_ (fun _ => ?_)
set_option maxHeartbeats 8000000 in
set_option maxRecDepth 100000 in
theorem sorrelref01_letter.calls (k : Nat) (a0 : Int) (r : Bool) (w : World) (h : sorrelref01_letter.f k a0 = some r) :
    Calls Tryd.prog 83 #[.int .i32 a0] w fun e w' => e = .returned (.bool r) ∧ Drawn0 w w' := by
  have H : ((sorrelref01_within.f a0 97 122).bind fun t121 => (if t121 = true then (sorrelref01_letter.j0 k a0 true) else ((sorrelref01_within.f a0 65 90).bind fun t122 => (if t122 = true then (sorrelref01_letter.j0 k a0 true) else (sorrelref01_letter.j0 k a0 (a0 == 95)))))) = some r := h
  clear h
  have HC2 := Aside0.mk H
  clear H
  go_enter Tryd.func83, Tryd.ntmps83
  go_upto_region 1 with (fail)
  go_cut [12] (fun v12 wc => ∃ (kq : Nat) (x12_1 : Bool), v12 = .bool x12_1 ∧ Aside0 (sorrelref01_letter.j0 kq a0 x12_1 = some r) ∧ Aside0 (kq ≤ k) ∧ Drawn0 w wc)
  case first =>
    have H := HC2.out
    clear HC2
    replace H := Option.bind_eq_some_iff.mp H
    obtain ⟨t121, A30, H⟩ := H
    replace H : (if t121 = true then (sorrelref01_letter.j0 k a0 true) else ((sorrelref01_within.f a0 65 90).bind fun t122 => (if t122 = true then (sorrelref01_letter.j0 k a0 true) else (sorrelref01_letter.j0 k a0 (a0 == 95))))) = some r := H
    have A3 := Aside0.mk A30
    clear A30
    by_cases c4 : t121 = true
    · subst c4
      have H1 : (sorrelref01_letter.j0 k a0 true) = some r := by rw [if_pos rfl] at H; exact H
      clear H
      have H := H1
      clear H1
      have H' := Aside0.mk H
      clear H
      go_wp2_with (first | ((with_reducible refine gate_callee (f := 84) rfl ?_); refine goesL_ (some 4) rfl rfl Tryd.func84 (by kernel_rfl) rfl #[.int .i32 a0, .int .i32 97, .int .i32 122] rfl (by (try simp only [List.map_toArray, List.map_cons, List.map_nil]); first | done | rfl | (simp only [List.length_drop, List.length_take]; rfl)) ?_; (with_reducible refine (sorrelref01_within.calls a0 97 122 true _ A3.out).mono ?_); rintro e w' ⟨rfl, ⟨nd, rfl⟩⟩; refine ⟨_, rfl, ?_⟩))
      go_meet
      case rel => exact ⟨_, (true), (by first | rfl | (simp; done) | (simp [*]; done)), H', ⟨by first | omega | exact Nat.le_refl _⟩, by repeat (first | exact Drawn0.refl _ | apply Drawn0.step)⟩
    · replace c4 := Bool.eq_false_iff.mpr c4
      subst c4
      have H1 : ((sorrelref01_within.f a0 65 90).bind fun t122 => (if t122 = true then (sorrelref01_letter.j0 k a0 true) else (sorrelref01_letter.j0 k a0 (a0 == 95)))) = some r := by rw [if_neg (show ¬ (false = true) by decide)] at H; exact H
      clear H
      have H := H1
      clear H1
      replace H := Option.bind_eq_some_iff.mp H
      obtain ⟨t122, A50, H⟩ := H
      replace H : (if t122 = true then (sorrelref01_letter.j0 k a0 true) else (sorrelref01_letter.j0 k a0 (a0 == 95))) = some r := H
      have A5 := Aside0.mk A50
      clear A50
      by_cases c6 : t122 = true
      · subst c6
        have H1 : (sorrelref01_letter.j0 k a0 true) = some r := by rw [if_pos rfl] at H; exact H
        clear H
        have H := H1
        clear H1
        have H' := Aside0.mk H
        clear H
        go_wp2_with (first | ((with_reducible refine gate_callee (f := 84) rfl ?_); refine goesL_ (some 4) rfl rfl Tryd.func84 (by kernel_rfl) rfl #[.int .i32 a0, .int .i32 97, .int .i32 122] rfl (by (try simp only [List.map_toArray, List.map_cons, List.map_nil]); first | done | rfl | (simp only [List.length_drop, List.length_take]; rfl)) ?_; (with_reducible refine (sorrelref01_within.calls a0 97 122 false _ A3.out).mono ?_); rintro e w' ⟨rfl, ⟨nd, rfl⟩⟩; refine ⟨_, rfl, ?_⟩) | (go_at_call 84; (with_reducible refine (sorrelref01_within.calls a0 65 90 true _ A5.out).mono ?_); rintro e w' ⟨rfl, ⟨nd, rfl⟩⟩))
        go_meet
        case rel => exact ⟨_, (true), (by first | rfl | (simp; done) | (simp [*]; done)), H', ⟨by first | omega | exact Nat.le_refl _⟩, by repeat (first | exact Drawn0.refl _ | apply Drawn0.step)⟩
      · replace c6 := Bool.eq_false_iff.mpr c6
        subst c6
        have H1 : (sorrelref01_letter.j0 k a0 (a0 == 95)) = some r := by rw [if_neg (show ¬ (false = true) by decide)] at H; exact H
        clear H
        have H := H1
        clear H1
        have H' := Aside0.mk H
        clear H
        go_wp2_with (first | ((with_reducible refine gate_callee (f := 84) rfl ?_); refine goesL_ (some 4) rfl rfl Tryd.func84 (by kernel_rfl) rfl #[.int .i32 a0, .int .i32 97, .int .i32 122] rfl (by (try simp only [List.map_toArray, List.map_cons, List.map_nil]); first | done | rfl | (simp only [List.length_drop, List.length_take]; rfl)) ?_; (with_reducible refine (sorrelref01_within.calls a0 97 122 false _ A3.out).mono ?_); rintro e w' ⟨rfl, ⟨nd, rfl⟩⟩; refine ⟨_, rfl, ?_⟩) | (go_at_call 84; (with_reducible refine (sorrelref01_within.calls a0 65 90 false _ A5.out).mono ?_); rintro e w' ⟨rfl, ⟨nd, rfl⟩⟩))
        go_meet
        case rel => exact ⟨_, ((a0 == 95)), (by first | rfl | (simp; done) | (simp [*]; done)), H', ⟨by first | omega | exact Nat.le_refl _⟩, by repeat (first | exact Drawn0.refl _ | apply Drawn0.step)⟩
  case rest =>
    clear HC2
    try clear p2
    try clear c4
    try clear c6
    obtain ⟨kq, x12_1, rfl, HA, HJ1, ⟨mc1, rfl⟩⟩ := hcut
    cases kq with
    | zero => exact absurd HA.out (by simp [sorrelref01_letter.j0])
    | succ kj1 =>
      have H := HA.out
      clear HA
      simp only [sorrelref01_letter.j0] at H
      by_cases c7 : x12_1 = true
      · subst c7
        have H1 : (some true) = some r := by rw [if_pos rfl] at H; exact H
        clear H
        have H := H1
        clear H1
        obtain rfl := Option.some.inj H
        go_wp2
        go_ret
        exact ⟨by first | rfl | (simp; done) | (simp [*]; done), by repeat (first | exact Drawn0.refl _ | apply Drawn0.step)⟩
      · replace c7 := Bool.eq_false_iff.mpr c7
        subst c7
        have H1 : ((sorrelref01_within.f a0 192 591).bind fun t123 => (if t123 = true then (if a0 = 215 then (some false) else (some (a0 != 247))) else ((sorrelref01_within.f a0 880 1023).bind fun t124 => (if t124 = true then (if a0 = 894 then (some false) else (some (a0 != 903))) else ((sorrelref01_within.f a0 1024 1327).bind fun t125 => (if t125 = true then ((sorrelref01_within.f a0 1154 1161).bind fun t126 => (some (!t126))) else ((sorrelref01_within.f a0 19968 40959).bind fun t127 => (if t127 = true then (some true) else ((sorrelref01_within.f a0 66560 66639).bind fun t128 => (some t128)))))))))) = some r := by rw [if_neg (show ¬ (false = true) by decide)] at H; exact H
        clear H
        have H := H1
        clear H1
        replace H := Option.bind_eq_some_iff.mp H
        obtain ⟨t123, A80, H⟩ := H
        replace H : (if t123 = true then (if a0 = 215 then (some false) else (some (a0 != 247))) else ((sorrelref01_within.f a0 880 1023).bind fun t124 => (if t124 = true then (if a0 = 894 then (some false) else (some (a0 != 903))) else ((sorrelref01_within.f a0 1024 1327).bind fun t125 => (if t125 = true then ((sorrelref01_within.f a0 1154 1161).bind fun t126 => (some (!t126))) else ((sorrelref01_within.f a0 19968 40959).bind fun t127 => (if t127 = true then (some true) else ((sorrelref01_within.f a0 66560 66639).bind fun t128 => (some t128))))))))) = some r := H
        have A8 := Aside0.mk A80
        clear A80
        by_cases c9 : t123 = true
        · subst c9
          have H1 : (if a0 = 215 then (some false) else (some (a0 != 247))) = some r := by rw [if_pos rfl] at H; exact H
          clear H
          have H := H1
          clear H1
          by_cases c10 : a0 = 215
          · rw [if_pos c10] at H
            have c10b0 : (a0 == 215) = true := beq_iff_eq.mpr c10
            have c10b1 : (a0 != 215) = false := bne_eq_false_iff_eq.mpr c10
            clear c10
            obtain rfl := Option.some.inj H
            go_wp2_with (first | ((with_reducible refine gate_callee (f := 84) rfl ?_); refine goesL_ (some 14) rfl rfl Tryd.func84 (by kernel_rfl) rfl #[.int .i32 a0, .int .i32 192, .int .i32 591] rfl (by (try simp only [List.map_toArray, List.map_cons, List.map_nil]); first | done | rfl | (simp only [List.length_drop, List.length_take]; rfl)) ?_; (with_reducible refine (sorrelref01_within.calls a0 192 591 true _ A8.out).mono ?_); rintro e w' ⟨rfl, ⟨nd, rfl⟩⟩; refine ⟨_, rfl, ?_⟩))
            go_ret
            exact ⟨by first | rfl | (simp; done) | (simp [*]; done), by repeat (first | exact Drawn0.refl _ | apply Drawn0.step)⟩
          · rw [if_neg c10] at H
            have c10b0 : (a0 == 215) = false := beq_eq_false_iff_ne.mpr c10
            have c10b1 : (a0 != 215) = true := bne_iff_ne.mpr c10
            obtain rfl := Option.some.inj H
            go_wp2_with (first | ((with_reducible refine gate_callee (f := 84) rfl ?_); refine goesL_ (some 14) rfl rfl Tryd.func84 (by kernel_rfl) rfl #[.int .i32 a0, .int .i32 192, .int .i32 591] rfl (by (try simp only [List.map_toArray, List.map_cons, List.map_nil]); first | done | rfl | (simp only [List.length_drop, List.length_take]; rfl)) ?_; (with_reducible refine (sorrelref01_within.calls a0 192 591 true _ A8.out).mono ?_); rintro e w' ⟨rfl, ⟨nd, rfl⟩⟩; refine ⟨_, rfl, ?_⟩))
            go_ret
            exact ⟨by first | rfl | (simp; done) | (simp [*]; done), by repeat (first | exact Drawn0.refl _ | apply Drawn0.step)⟩
        · replace c9 := Bool.eq_false_iff.mpr c9
          subst c9
          have H1 : ((sorrelref01_within.f a0 880 1023).bind fun t124 => (if t124 = true then (if a0 = 894 then (some false) else (some (a0 != 903))) else ((sorrelref01_within.f a0 1024 1327).bind fun t125 => (if t125 = true then ((sorrelref01_within.f a0 1154 1161).bind fun t126 => (some (!t126))) else ((sorrelref01_within.f a0 19968 40959).bind fun t127 => (if t127 = true then (some true) else ((sorrelref01_within.f a0 66560 66639).bind fun t128 => (some t128)))))))) = some r := by rw [if_neg (show ¬ (false = true) by decide)] at H; exact H
          clear H
          have H := H1
          clear H1
          replace H := Option.bind_eq_some_iff.mp H
          obtain ⟨t124, A110, H⟩ := H
          replace H : (if t124 = true then (if a0 = 894 then (some false) else (some (a0 != 903))) else ((sorrelref01_within.f a0 1024 1327).bind fun t125 => (if t125 = true then ((sorrelref01_within.f a0 1154 1161).bind fun t126 => (some (!t126))) else ((sorrelref01_within.f a0 19968 40959).bind fun t127 => (if t127 = true then (some true) else ((sorrelref01_within.f a0 66560 66639).bind fun t128 => (some t128))))))) = some r := H
          have A11 := Aside0.mk A110
          clear A110
          by_cases c12 : t124 = true
          · subst c12
            have H1 : (if a0 = 894 then (some false) else (some (a0 != 903))) = some r := by rw [if_pos rfl] at H; exact H
            clear H
            have H := H1
            clear H1
            by_cases c13 : a0 = 894
            · rw [if_pos c13] at H
              have c13b0 : (a0 == 894) = true := beq_iff_eq.mpr c13
              have c13b1 : (a0 != 894) = false := bne_eq_false_iff_eq.mpr c13
              clear c13
              obtain rfl := Option.some.inj H
              go_wp2_with (first | ((with_reducible refine gate_callee (f := 84) rfl ?_); refine goesL_ (some 14) rfl rfl Tryd.func84 (by kernel_rfl) rfl #[.int .i32 a0, .int .i32 192, .int .i32 591] rfl (by (try simp only [List.map_toArray, List.map_cons, List.map_nil]); first | done | rfl | (simp only [List.length_drop, List.length_take]; rfl)) ?_; (with_reducible refine (sorrelref01_within.calls a0 192 591 false _ A8.out).mono ?_); rintro e w' ⟨rfl, ⟨nd, rfl⟩⟩; refine ⟨_, rfl, ?_⟩) | ((with_reducible refine gate_callee (f := 84) rfl ?_); refine goesL_ (some 22) rfl rfl Tryd.func84 (by kernel_rfl) rfl #[.int .i32 a0, .int .i32 880, .int .i32 1023] rfl (by (try simp only [List.map_toArray, List.map_cons, List.map_nil]); first | done | rfl | (simp only [List.length_drop, List.length_take]; rfl)) ?_; (with_reducible refine (sorrelref01_within.calls a0 880 1023 true _ A11.out).mono ?_); rintro e w' ⟨rfl, ⟨nd, rfl⟩⟩; refine ⟨_, rfl, ?_⟩))
              go_ret
              exact ⟨by first | rfl | (simp; done) | (simp [*]; done), by repeat (first | exact Drawn0.refl _ | apply Drawn0.step)⟩
            · rw [if_neg c13] at H
              have c13b0 : (a0 == 894) = false := beq_eq_false_iff_ne.mpr c13
              have c13b1 : (a0 != 894) = true := bne_iff_ne.mpr c13
              obtain rfl := Option.some.inj H
              go_wp2_with (first | ((with_reducible refine gate_callee (f := 84) rfl ?_); refine goesL_ (some 14) rfl rfl Tryd.func84 (by kernel_rfl) rfl #[.int .i32 a0, .int .i32 192, .int .i32 591] rfl (by (try simp only [List.map_toArray, List.map_cons, List.map_nil]); first | done | rfl | (simp only [List.length_drop, List.length_take]; rfl)) ?_; (with_reducible refine (sorrelref01_within.calls a0 192 591 false _ A8.out).mono ?_); rintro e w' ⟨rfl, ⟨nd, rfl⟩⟩; refine ⟨_, rfl, ?_⟩) | ((with_reducible refine gate_callee (f := 84) rfl ?_); refine goesL_ (some 22) rfl rfl Tryd.func84 (by kernel_rfl) rfl #[.int .i32 a0, .int .i32 880, .int .i32 1023] rfl (by (try simp only [List.map_toArray, List.map_cons, List.map_nil]); first | done | rfl | (simp only [List.length_drop, List.length_take]; rfl)) ?_; (with_reducible refine (sorrelref01_within.calls a0 880 1023 true _ A11.out).mono ?_); rintro e w' ⟨rfl, ⟨nd, rfl⟩⟩; refine ⟨_, rfl, ?_⟩))
              go_ret
              exact ⟨by first | rfl | (simp; done) | (simp [*]; done), by repeat (first | exact Drawn0.refl _ | apply Drawn0.step)⟩
          · replace c12 := Bool.eq_false_iff.mpr c12
            subst c12
            have H1 : ((sorrelref01_within.f a0 1024 1327).bind fun t125 => (if t125 = true then ((sorrelref01_within.f a0 1154 1161).bind fun t126 => (some (!t126))) else ((sorrelref01_within.f a0 19968 40959).bind fun t127 => (if t127 = true then (some true) else ((sorrelref01_within.f a0 66560 66639).bind fun t128 => (some t128)))))) = some r := by rw [if_neg (show ¬ (false = true) by decide)] at H; exact H
            clear H
            have H := H1
            clear H1
            replace H := Option.bind_eq_some_iff.mp H
            obtain ⟨t125, A140, H⟩ := H
            replace H : (if t125 = true then ((sorrelref01_within.f a0 1154 1161).bind fun t126 => (some (!t126))) else ((sorrelref01_within.f a0 19968 40959).bind fun t127 => (if t127 = true then (some true) else ((sorrelref01_within.f a0 66560 66639).bind fun t128 => (some t128))))) = some r := H
            have A14 := Aside0.mk A140
            clear A140
            by_cases c15 : t125 = true
            · subst c15
              have H1 : ((sorrelref01_within.f a0 1154 1161).bind fun t126 => (some (!t126))) = some r := by rw [if_pos rfl] at H; exact H
              clear H
              have H := H1
              clear H1
              replace H := Option.bind_eq_some_iff.mp H
              obtain ⟨t126, A160, H⟩ := H
              replace H : (some (!t126)) = some r := H
              have A16 := Aside0.mk A160
              clear A160
              obtain rfl := Option.some.inj H
              go_wp2_with (first | ((with_reducible refine gate_callee (f := 84) rfl ?_); refine goesL_ (some 14) rfl rfl Tryd.func84 (by kernel_rfl) rfl #[.int .i32 a0, .int .i32 192, .int .i32 591] rfl (by (try simp only [List.map_toArray, List.map_cons, List.map_nil]); first | done | rfl | (simp only [List.length_drop, List.length_take]; rfl)) ?_; (with_reducible refine (sorrelref01_within.calls a0 192 591 false _ A8.out).mono ?_); rintro e w' ⟨rfl, ⟨nd, rfl⟩⟩; refine ⟨_, rfl, ?_⟩) | ((with_reducible refine gate_callee (f := 84) rfl ?_); refine goesL_ (some 22) rfl rfl Tryd.func84 (by kernel_rfl) rfl #[.int .i32 a0, .int .i32 880, .int .i32 1023] rfl (by (try simp only [List.map_toArray, List.map_cons, List.map_nil]); first | done | rfl | (simp only [List.length_drop, List.length_take]; rfl)) ?_; (with_reducible refine (sorrelref01_within.calls a0 880 1023 false _ A11.out).mono ?_); rintro e w' ⟨rfl, ⟨nd, rfl⟩⟩; refine ⟨_, rfl, ?_⟩) | ((with_reducible refine gate_callee (f := 84) rfl ?_); refine goesL_ (some 30) rfl rfl Tryd.func84 (by kernel_rfl) rfl #[.int .i32 a0, .int .i32 1024, .int .i32 1327] rfl (by (try simp only [List.map_toArray, List.map_cons, List.map_nil]); first | done | rfl | (simp only [List.length_drop, List.length_take]; rfl)) ?_; (with_reducible refine (sorrelref01_within.calls a0 1024 1327 true _ A14.out).mono ?_); rintro e w' ⟨rfl, ⟨nd, rfl⟩⟩; refine ⟨_, rfl, ?_⟩) | ((with_reducible refine gate_callee (f := 84) rfl ?_); refine goesL_ (some 32) rfl rfl Tryd.func84 (by kernel_rfl) rfl #[.int .i32 a0, .int .i32 1154, .int .i32 1161] rfl (by (try simp only [List.map_toArray, List.map_cons, List.map_nil]); first | done | rfl | (simp only [List.length_drop, List.length_take]; rfl)) ?_; (with_reducible refine (sorrelref01_within.calls a0 1154 1161 t126 _ A16.out).mono ?_); rintro e w' ⟨rfl, ⟨nd, rfl⟩⟩; refine ⟨_, rfl, ?_⟩))
              go_ret
              exact ⟨by first | rfl | (simp; done) | (simp [*]; done), by repeat (first | exact Drawn0.refl _ | apply Drawn0.step)⟩
            · replace c15 := Bool.eq_false_iff.mpr c15
              subst c15
              have H1 : ((sorrelref01_within.f a0 19968 40959).bind fun t127 => (if t127 = true then (some true) else ((sorrelref01_within.f a0 66560 66639).bind fun t128 => (some t128)))) = some r := by rw [if_neg (show ¬ (false = true) by decide)] at H; exact H
              clear H
              have H := H1
              clear H1
              replace H := Option.bind_eq_some_iff.mp H
              obtain ⟨t127, A170, H⟩ := H
              replace H : (if t127 = true then (some true) else ((sorrelref01_within.f a0 66560 66639).bind fun t128 => (some t128))) = some r := H
              have A17 := Aside0.mk A170
              clear A170
              by_cases c18 : t127 = true
              · subst c18
                have H1 : (some true) = some r := by rw [if_pos rfl] at H; exact H
                clear H
                have H := H1
                clear H1
                obtain rfl := Option.some.inj H
                go_wp2_with (first | ((with_reducible refine gate_callee (f := 84) rfl ?_); refine goesL_ (some 14) rfl rfl Tryd.func84 (by kernel_rfl) rfl #[.int .i32 a0, .int .i32 192, .int .i32 591] rfl (by (try simp only [List.map_toArray, List.map_cons, List.map_nil]); first | done | rfl | (simp only [List.length_drop, List.length_take]; rfl)) ?_; (with_reducible refine (sorrelref01_within.calls a0 192 591 false _ A8.out).mono ?_); rintro e w' ⟨rfl, ⟨nd, rfl⟩⟩; refine ⟨_, rfl, ?_⟩) | ((with_reducible refine gate_callee (f := 84) rfl ?_); refine goesL_ (some 22) rfl rfl Tryd.func84 (by kernel_rfl) rfl #[.int .i32 a0, .int .i32 880, .int .i32 1023] rfl (by (try simp only [List.map_toArray, List.map_cons, List.map_nil]); first | done | rfl | (simp only [List.length_drop, List.length_take]; rfl)) ?_; (with_reducible refine (sorrelref01_within.calls a0 880 1023 false _ A11.out).mono ?_); rintro e w' ⟨rfl, ⟨nd, rfl⟩⟩; refine ⟨_, rfl, ?_⟩) | ((with_reducible refine gate_callee (f := 84) rfl ?_); refine goesL_ (some 30) rfl rfl Tryd.func84 (by kernel_rfl) rfl #[.int .i32 a0, .int .i32 1024, .int .i32 1327] rfl (by (try simp only [List.map_toArray, List.map_cons, List.map_nil]); first | done | rfl | (simp only [List.length_drop, List.length_take]; rfl)) ?_; (with_reducible refine (sorrelref01_within.calls a0 1024 1327 false _ A14.out).mono ?_); rintro e w' ⟨rfl, ⟨nd, rfl⟩⟩; refine ⟨_, rfl, ?_⟩) | ((with_reducible refine gate_callee (f := 84) rfl ?_); refine goesL_ (some 35) rfl rfl Tryd.func84 (by kernel_rfl) rfl #[.int .i32 a0, .int .i32 19968, .int .i32 40959] rfl (by (try simp only [List.map_toArray, List.map_cons, List.map_nil]); first | done | rfl | (simp only [List.length_drop, List.length_take]; rfl)) ?_; (with_reducible refine (sorrelref01_within.calls a0 19968 40959 true _ A17.out).mono ?_); rintro e w' ⟨rfl, ⟨nd, rfl⟩⟩; refine ⟨_, rfl, ?_⟩))
                go_ret
                exact ⟨by first | rfl | (simp; done) | (simp [*]; done), by repeat (first | exact Drawn0.refl _ | apply Drawn0.step)⟩
              · replace c18 := Bool.eq_false_iff.mpr c18
                subst c18
                have H1 : ((sorrelref01_within.f a0 66560 66639).bind fun t128 => (some t128)) = some r := by rw [if_neg (show ¬ (false = true) by decide)] at H; exact H
                clear H
                have H := H1
                clear H1
                replace H := Option.bind_eq_some_iff.mp H
                obtain ⟨t128, A190, H⟩ := H
                replace H : (some t128) = some r := H
                have A19 := Aside0.mk A190
                clear A190
                obtain rfl := Option.some.inj H
                go_wp2_with (first | ((with_reducible refine gate_callee (f := 84) rfl ?_); refine goesL_ (some 14) rfl rfl Tryd.func84 (by kernel_rfl) rfl #[.int .i32 a0, .int .i32 192, .int .i32 591] rfl (by (try simp only [List.map_toArray, List.map_cons, List.map_nil]); first | done | rfl | (simp only [List.length_drop, List.length_take]; rfl)) ?_; (with_reducible refine (sorrelref01_within.calls a0 192 591 false _ A8.out).mono ?_); rintro e w' ⟨rfl, ⟨nd, rfl⟩⟩; refine ⟨_, rfl, ?_⟩) | ((with_reducible refine gate_callee (f := 84) rfl ?_); refine goesL_ (some 22) rfl rfl Tryd.func84 (by kernel_rfl) rfl #[.int .i32 a0, .int .i32 880, .int .i32 1023] rfl (by (try simp only [List.map_toArray, List.map_cons, List.map_nil]); first | done | rfl | (simp only [List.length_drop, List.length_take]; rfl)) ?_; (with_reducible refine (sorrelref01_within.calls a0 880 1023 false _ A11.out).mono ?_); rintro e w' ⟨rfl, ⟨nd, rfl⟩⟩; refine ⟨_, rfl, ?_⟩) | ((with_reducible refine gate_callee (f := 84) rfl ?_); refine goesL_ (some 30) rfl rfl Tryd.func84 (by kernel_rfl) rfl #[.int .i32 a0, .int .i32 1024, .int .i32 1327] rfl (by (try simp only [List.map_toArray, List.map_cons, List.map_nil]); first | done | rfl | (simp only [List.length_drop, List.length_take]; rfl)) ?_; (with_reducible refine (sorrelref01_within.calls a0 1024 1327 false _ A14.out).mono ?_); rintro e w' ⟨rfl, ⟨nd, rfl⟩⟩; refine ⟨_, rfl, ?_⟩) | ((with_reducible refine gate_callee (f := 84) rfl ?_); refine goesL_ (some 35) rfl rfl Tryd.func84 (by kernel_rfl) rfl #[.int .i32 a0, .int .i32 19968, .int .i32 40959] rfl (by (try simp only [List.map_toArray, List.map_cons, List.map_nil]); first | done | rfl | (simp only [List.length_drop, List.length_take]; rfl)) ?_; (with_reducible refine (sorrelref01_within.calls a0 19968 40959 false _ A17.out).mono ?_); rintro e w' ⟨rfl, ⟨nd, rfl⟩⟩; refine ⟨_, rfl, ?_⟩) | (go_at_call 84; (with_reducible refine (sorrelref01_within.calls a0 66560 66639 t128 _ A19.out).mono ?_); rintro e w' ⟨rfl, ⟨nd, rfl⟩⟩))
                go_ret
                exact ⟨by first | rfl | (simp; done) | (simp [*]; done), by repeat (first | exact Drawn0.refl _ | apply Drawn0.step)⟩

-- NOT PRINTED: function 74 (sorrelref01_Kind)

-- NOT PRINTED: function 75 (sorrelref01_behind)

-- NOT PRINTED: function 63 (sorrelref01_Name)

-- NOT PRINTED: function 42 (sorrelref02_Form)

/-! ### sorrelref02_walk: function 43 -/
mutual
def sorrelref02_walk.l0 : Nat → List (S96) → Int → List Int → Int → Option (Int)
  | 0, _, _, _, _ => none
  | k + 1, x0, x5, x6, x7 => if x7 ≥ 0 then (if 0 ≤ x7 then (if x7 < (x6.length : Int) then (if (rd x6 x7) = x5 then ((sorrelref02_walk.f k x0 x5).bind fun t138 => (if t138 = (-2) then (some (-2)) else (sorrelref02_walk.l0 k x0 t138 x6 (wrap64 (x7 - 1))))) else (some (-2))) else (none)) else (none)) else (some x5)
def sorrelref02_walk.f : Nat → List (S96) → Int → Option (Int)
  | 0, _, _ => none
  | k + 1, l0, a1 => if a1 < 0 then (some (-2)) else (if 0 ≤ a1 then (if a1 < (l0.length : Int) then (sorrelref02_walk.l0 k l0 (wrap64 (a1 - 1)) ((rd_T96 l0 a1).f3) (wrap64 ((((rd_T96 l0 a1).f3).length : Int) - 1))) else (none)) else (none))
end
theorem sorrelref02_walk.mono_l : ∀ k, (∀ y0 y1, LeO (sorrelref02_walk.f k y0 y1) (sorrelref02_walk.f (k + 1) y0 y1)) ∧ (∀ y0 y1 y2 y3, LeO (sorrelref02_walk.l0 k y0 y1 y2 y3) (sorrelref02_walk.l0 (k + 1) y0 y1 y2 y3))
  | 0 => ⟨fun _ _ r h => by simp [sorrelref02_walk.f] at h, fun _ _ _ _ r h => by simp [sorrelref02_walk.l0] at h⟩
  | k + 1 => by
    obtain ⟨ih0, ih1⟩ := sorrelref02_walk.mono_l k
    refine ⟨?_, ?_⟩
    · intro y0 y1
      unfold sorrelref02_walk.f
      repeat' first
      | (with_reducible exact ih0 _ _)
      | (with_reducible exact ih1 _ _ _ _)
      | (with_reducible exact LeO.refl _)
      | (with_reducible exact LeO.none _)
      | (with_reducible refine LeO.ite ?_ ?_)
      | (with_reducible refine LeO.bind ?_ (fun _ => ?_))
      | exact ih0 _ _
      | exact ih1 _ _ _ _
      | exact LeO.none _
      | refine LeO.ite ?_ ?_
      | refine LeO.bind ?_ (fun _ => ?_)
    · intro y0 y1 y2 y3
      unfold sorrelref02_walk.l0
      repeat' first
      | (with_reducible exact ih0 _ _)
      | (with_reducible exact ih1 _ _ _ _)
      | (with_reducible exact LeO.refl _)
      | (with_reducible exact LeO.none _)
      | (with_reducible refine LeO.ite ?_ ?_)
      | (with_reducible refine LeO.bind ?_ (fun _ => ?_))
      | exact ih0 _ _
      | exact ih1 _ _ _ _
      | exact LeO.none _
      | refine LeO.ite ?_ ?_
      | refine LeO.bind ?_ (fun _ => ?_)
theorem sorrelref02_walk.mono : ∀ a0 a1 k, LeO (sorrelref02_walk.f k a0 a1) (sorrelref02_walk.f (k + 1) a0 a1) := by
  intro a0 a1 k
  obtain ⟨ih0, ih1⟩ := sorrelref02_walk.mono_l k
  exact ih0 a0 a1
set_option maxHeartbeats 8000000 in
set_option maxRecDepth 100000 in
theorem sorrelref02_walk.calls (k : Nat) : ∀ (A0 : Option Addr) (c0 : Nat) (l0 : List (S96)) (a1 : Int) (r : Int) (w : World) (hr0 : Kd.C k96 w A0 l0.length l0) (hc0 : l0.length ≤ c0) (h : sorrelref02_walk.f k l0 a1 = some r),
    Calls Tryd.prog 43 #[.slice A0 l0.length c0, .int .i64 a1] w fun e w' => e = .returned (.int .i64 r) ∧ Drawn0 w w' := by
  induction k using Nat.strongRecOn with
  | _ k ih =>
  intro A0 c0 l0 a1 r w hr0 hc0 h
  cases k with
  | zero => exact absurd h (by simp [sorrelref02_walk.f])
  | succ k =>
  simp only [sorrelref02_walk.f] at h
  have HR0 := Aside0.mk hr0
  have HC0 := Aside0.mk hc0
  clear hr0 hc0
  have H : (if a1 < 0 then (some (-2)) else (if 0 ≤ a1 then (if a1 < (l0.length : Int) then (sorrelref02_walk.l0 k l0 (wrap64 (a1 - 1)) ((rd_T96 l0 a1).f3) (wrap64 ((((rd_T96 l0 a1).f3).length : Int) - 1))) else (none)) else (none))) = some r := h
  clear h
  by_cases c3 : a1 < 0
  · rw [if_pos c3] at H
    have c3b0 : decide (a1 < 0) = true := decide_eq_true c3
    clear c3
    obtain rfl := Option.some.inj H
    go_enter Tryd.func43, Tryd.ntmps43
    go_wp2
    go_ret
    exact ⟨by first | rfl | (simp; done) | (simp [*]; done), by repeat (first | exact Drawn0.refl _ | apply Drawn0.step)⟩
  · rw [if_neg c3] at H
    have c3b0 : decide (a1 < 0) = false := decide_eq_false c3
    clear c3
    by_cases c4 : 0 ≤ a1
    · rw [if_pos c4] at H
      have c4b0 : decide (0 ≤ a1) = true := decide_eq_true c4
      clear c4
      by_cases c5 : a1 < (l0.length : Int)
      · rw [if_pos c5] at H
        have c5b0 : decide (a1 < (l0.length : Int)) = true := decide_eq_true c5
        clear c5
        have H' := Aside0.mk H
        clear H
        have p136 : 0 ≤ (a1 : Int) := of_decide_eq_true (by first | (with_reducible assumption) | assumption)
        have q136 : a1 < (l0.length : Int) := of_decide_eq_true (by first | (with_reducible assumption) | assumption)
        obtain ⟨ad136, A136_3, c136_3, e136, hx136_0, hx136_1, hx136_2, hx136_3, hl136_3, hi136_3⟩ := at_T96 HR0.out a1 p136 q136
        cases e136
        have HR136_3 := Aside0.mk hi136_3
        have HC136_3 := Aside0.mk hl136_3
        clear hi136_3 hl136_3
        replace p136 := eq_true p136
        replace q136 := eq_true q136
        go_enter Tryd.func43, Tryd.ntmps43
        go_wp2
        go_loopg [5, 7] k (fun kq v5 v7 w' => ∃ (x5_1 : Int) (x7_1 : Int), v5 = .int .i64 x5_1 ∧ v7 = .int .i64 x7_1 ∧ Aside0 (sorrelref02_walk.l0 kq l0 x5_1 ((rd_T96 l0 a1).f3) x7_1 = some r) ∧ Aside0 (kq ≤ k) ∧ Drawn0 w w')
        case atStart => exact ⟨(wrap64 (a1 - 1)), (wrap64 ((((rd_T96 l0 a1).f3).length : Int) - 1)), (by first | rfl | (simp; done) | (simp [*]; done)), (by first | rfl | (simp; done) | (simp [*]; done)), H', ⟨Nat.le_refl _⟩, by repeat (first | exact Drawn0.refl _ | apply Drawn0.step)⟩
        case round =>
          clear H'
          try clear c1
          try clear p1
          try clear q1
          try clear hx1
          try clear p2
          try clear c3
          try clear c3b0
          try clear c4
          try clear c4b0
          try clear c5
          try clear c5b0
          try clear hx136_0
          try clear hx136_1
          try clear hx136_2
          try clear hx136_3
          try clear p136
          try clear q136
          obtain ⟨x5_1, x7_1, rfl, rfl, HA, HK1, ⟨m1, rfl⟩⟩ := hrel
          cases gk with
          | zero => exact absurd HA.out (by simp [sorrelref02_walk.l0])
          | succ k1 =>
            have H := HA.out
            clear HA
            simp only [sorrelref02_walk.l0] at H
            by_cases c6 : x7_1 ≥ 0
            · rw [if_pos c6] at H
              have c6b0 : decide (0 ≤ x7_1) = true := decide_eq_true c6
              clear c6
              by_cases c7 : 0 ≤ x7_1
              · rw [if_pos c7] at H
                have c7b0 : decide (0 ≤ x7_1) = true := decide_eq_true c7
                clear c7
                by_cases c8 : x7_1 < (((rd_T96 l0 a1).f3).length : Int)
                · rw [if_pos c8] at H
                  have c8b0 : decide (x7_1 < (((rd_T96 l0 a1).f3).length : Int)) = true := decide_eq_true c8
                  clear c8
                  by_cases c9 : (rd ((rd_T96 l0 a1).f3) x7_1) = x5_1
                  · rw [if_pos c9] at H
                    have c9b0 : ((rd ((rd_T96 l0 a1).f3) x7_1) == x5_1) = true := beq_iff_eq.mpr c9
                    have c9b1 : ((rd ((rd_T96 l0 a1).f3) x7_1) != x5_1) = false := bne_eq_false_iff_eq.mpr c9
                    clear c9
                    replace H := Option.bind_eq_some_iff.mp H
                    obtain ⟨t138, A100, H⟩ := H
                    replace H : (if t138 = (-2) then (some (-2)) else (sorrelref02_walk.l0 k1 l0 t138 ((rd_T96 l0 a1).f3) (wrap64 (x7_1 - 1)))) = some r := H
                    have A10 := Aside0.mk A100
                    clear A100
                    by_cases c11 : t138 = (-2)
                    · rw [if_pos c11] at H
                      have c11b0 : (t138 == (-2)) = true := beq_iff_eq.mpr c11
                      have c11b1 : (t138 != (-2)) = false := bne_eq_false_iff_eq.mpr c11
                      clear c11
                      obtain rfl := Option.some.inj H
                      have p137 : 0 ≤ (x7_1 : Int) := of_decide_eq_true (by first | (with_reducible assumption) | assumption)
                      have q137 : x7_1 < (((rd_T96 l0 a1).f3).length : Int) := of_decide_eq_true (by first | (with_reducible assumption) | assumption)
                      obtain ⟨ad137, e137, hx137_0⟩ := Kd.at_int HR136_3.out x7_1 p137 q137
                      cases e137
                      replace p137 := eq_true p137
                      replace q137 := eq_true q137
                      go_wp2_with (first | ((with_reducible refine gate_callee (f := 43) rfl ?_); refine goesL_ (some 32) rfl rfl Tryd.func43 (by kernel_rfl) rfl #[.slice (some ad136) l0.length c0, .int .i64 x5_1] rfl (by (try simp only [List.map_toArray, List.map_cons, List.map_nil]); first | done | rfl | (simp only [List.length_drop, List.length_take]; rfl)) ?_; (with_reducible refine (ih k1 (by have := HK1.out; omega) _ _ l0 x5_1 t138 _ ?side1 ?side2 A10.out).mono ?_); (case side1 => repeat (first | exact HR0.out | (with_reducible refine Kd.C_alloc ?_ _) | (with_reducible refine Kd.C_drewN ?_ _) | (with_reducible refine Kd.C_drew ?_))); (case side2 => exact HC0.out); rintro e w' ⟨rfl, ⟨nd, rfl⟩⟩; refine ⟨_, rfl, ?_⟩))
                      go_ret
                      exact ⟨by first | rfl | (simp; done) | (simp [*]; done), by repeat (first | exact Drawn0.refl _ | apply Drawn0.step)⟩
                    · rw [if_neg c11] at H
                      have c11b0 : (t138 == (-2)) = false := beq_eq_false_iff_ne.mpr c11
                      have c11b1 : (t138 != (-2)) = true := bne_iff_ne.mpr c11
                      have H' := Aside0.mk H
                      clear H
                      have p137 : 0 ≤ (x7_1 : Int) := of_decide_eq_true (by first | (with_reducible assumption) | assumption)
                      have q137 : x7_1 < (((rd_T96 l0 a1).f3).length : Int) := of_decide_eq_true (by first | (with_reducible assumption) | assumption)
                      obtain ⟨ad137, e137, hx137_0⟩ := Kd.at_int HR136_3.out x7_1 p137 q137
                      cases e137
                      replace p137 := eq_true p137
                      replace q137 := eq_true q137
                      go_wp2_with (first | ((with_reducible refine gate_callee (f := 43) rfl ?_); refine goesL_ (some 32) rfl rfl Tryd.func43 (by kernel_rfl) rfl #[.slice (some ad136) l0.length c0, .int .i64 x5_1] rfl (by (try simp only [List.map_toArray, List.map_cons, List.map_nil]); first | done | rfl | (simp only [List.length_drop, List.length_take]; rfl)) ?_; (with_reducible refine (ih k1 (by have := HK1.out; omega) _ _ l0 x5_1 t138 _ ?side1 ?side2 A10.out).mono ?_); (case side1 => repeat (first | exact HR0.out | (with_reducible refine Kd.C_alloc ?_ _) | (with_reducible refine Kd.C_drewN ?_ _) | (with_reducible refine Kd.C_drew ?_))); (case side2 => exact HC0.out); rintro e w' ⟨rfl, ⟨nd, rfl⟩⟩; refine ⟨_, rfl, ?_⟩))
                      go_roundg k1
                      case measure => have := HK1.out; omega
                      case rel => exact ⟨(t138), (wrap64 (x7_1 - 1)), (by first | rfl | (simp; done) | (simp [*]; done)), (by first | rfl | (simp; done) | (simp [*]; done)), H', ⟨by have := HK1.out; omega⟩, by repeat (first | exact Drawn0.refl _ | apply Drawn0.step)⟩
                  · rw [if_neg c9] at H
                    have c9b0 : ((rd ((rd_T96 l0 a1).f3) x7_1) == x5_1) = false := beq_eq_false_iff_ne.mpr c9
                    have c9b1 : ((rd ((rd_T96 l0 a1).f3) x7_1) != x5_1) = true := bne_iff_ne.mpr c9
                    obtain rfl := Option.some.inj H
                    have p137 : 0 ≤ (x7_1 : Int) := of_decide_eq_true (by first | (with_reducible assumption) | assumption)
                    have q137 : x7_1 < (((rd_T96 l0 a1).f3).length : Int) := of_decide_eq_true (by first | (with_reducible assumption) | assumption)
                    obtain ⟨ad137, e137, hx137_0⟩ := Kd.at_int HR136_3.out x7_1 p137 q137
                    cases e137
                    replace p137 := eq_true p137
                    replace q137 := eq_true q137
                    go_wp2
                    go_ret
                    exact ⟨by first | rfl | (simp; done) | (simp [*]; done), by repeat (first | exact Drawn0.refl _ | apply Drawn0.step)⟩
                · rw [if_neg c8] at H
                  exact absurd H (by simp)
              · rw [if_neg c7] at H
                exact absurd H (by simp)
            · rw [if_neg c6] at H
              have c6b0 : decide (0 ≤ x7_1) = false := decide_eq_false c6
              clear c6
              obtain rfl := Option.some.inj H
              go_wp2
              go_ret
              exact ⟨by first | rfl | (simp; done) | (simp [*]; done), by repeat (first | exact Drawn0.refl _ | apply Drawn0.step)⟩
      · rw [if_neg c5] at H
        exact absurd H (by simp)
    · rw [if_neg c4] at H
      exact absurd H (by simp)

-- NOT PRINTED: function 16 (sorrelref02_Check)

/-! ### sorrelref02_Copy: function 15 -/
def sorrelref02_Copy.l0 : Nat → List (S96) → List (S96) → Int → Option ((List (S96)))
  | 0, _, _, _ => none
  | k + 1, x0, x3, x4 => if x4 < (x0.length : Int) then (if 0 ≤ x4 then ((some (([] : List Int) : List Int)).bind fun y142 => (if y142.length + ((rd_T96 x0 x4).f3).length < 17592186044416 then (if x3.length < 2513169434916 then (sorrelref02_Copy.l0 k x0 (x3 ++ [(⟨(rd_T96 x0 x4).f0, (rd_T96 x0 x4).f1, (rd_T96 x0 x4).f2, (y142 ++ ((rd_T96 x0 x4).f3))⟩ : S96)]) (wrap64 (x4 + 1))) else (none)) else (none))) else (none)) else (some x3)
def sorrelref02_Copy.f (k : Nat) (l0 : List (S96)) : Option ((List (S96))) := sorrelref02_Copy.l0 k l0 ([] : List (S96)) 0
theorem sorrelref02_Copy.mono_l : ∀ k, (∀ y0 y1 y2, LeO (sorrelref02_Copy.l0 k y0 y1 y2) (sorrelref02_Copy.l0 (k + 1) y0 y1 y2))
  | 0 => fun _ _ _ r h => by simp [sorrelref02_Copy.l0] at h
  | k + 1 => by
    have ih0 := sorrelref02_Copy.mono_l k
    · intro y0 y1 y2
      unfold sorrelref02_Copy.l0
      repeat' first
      | (with_reducible exact ih0 _ _ _)
      | (with_reducible exact LeO.refl _)
      | (with_reducible exact LeO.none _)
      | (with_reducible refine LeO.ite ?_ ?_)
      | (with_reducible refine LeO.bind ?_ (fun _ => ?_))
      | exact ih0 _ _ _
      | exact LeO.none _
      | refine LeO.ite ?_ ?_
      | refine LeO.bind ?_ (fun _ => ?_)
theorem sorrelref02_Copy.mono : ∀ a0 k, LeO (sorrelref02_Copy.f k a0) (sorrelref02_Copy.f (k + 1) a0) := by
  intro a0 k
  have ih0 := sorrelref02_Copy.mono_l k
  unfold sorrelref02_Copy.f
  repeat' first
      | (with_reducible exact ih0 _ _ _)
      | (with_reducible exact LeO.refl _)
      | (with_reducible exact LeO.none _)
      | (with_reducible refine LeO.ite ?_ ?_)
      | (with_reducible refine LeO.bind ?_ (fun _ => ?_))
      | exact ih0 _ _ _
      | exact LeO.none _
      | refine LeO.ite ?_ ?_
      | refine LeO.bind ?_ (fun _ => ?_)
set_option maxHeartbeats 8000000 in
set_option maxRecDepth 100000 in
theorem sorrelref02_Copy.calls (k : Nat) (A0 : Option Addr) (c0 : Nat) (l0 : List (S96)) (r : List (S96)) (w : World) (hr0 : Kd.C k96 w A0 l0.length l0) (hc0 : l0.length ≤ c0) (h : sorrelref02_Copy.f k l0 = some r) :
    Calls Tryd.prog 15 #[.slice A0 l0.length c0] w fun e w' => ∃ v0_ : Value, e = .returned (v0_) ∧ Kd.S k96 96 w' w.heap.size (fun _ => True) v0_ r ∧ Below w.heap.size w w' := by
  have hu96 := Tryd.underlying96
  have HR0 := Aside0.mk hr0
  have HC0 := Aside0.mk hc0
  clear hr0 hc0
  have HB := Aside0.mk (Below.refl w.heap.size w)
  have H : (sorrelref02_Copy.l0 k l0 ([] : List (S96)) 0) = some r := h
  clear h
  have H' := Aside0.mk H
  clear H
  go_enter Tryd.func15, Tryd.ntmps15
  go_wp2
  go_loopg [3, 4] k (fun kq v3 v4 w' => ∃ (x3_1 : List (S96)) (x4_1 : Int), v4 = .int .i64 x4_1 ∧ Aside0 (sorrelref02_Copy.l0 kq l0 x3_1 x4_1 = some r) ∧ Aside0 (kq ≤ k) ∧ Aside0 (Kd.S k96 96 w' w.heap.size (fun _ => True) v3 x3_1) ∧ Aside0 (Below w.heap.size w w'))
  case atStart => exact ⟨(([] : List (S96))), (0), (by first | rfl | (simp; done) | (simp [*]; done)), H', ⟨Nat.le_refl _⟩, ⟨by first | exact Kd.S_nil _ _ _ _ _ | exact Kd.N_nil _ _ _ _ _ | exact Kd.V_nil _ _ _ _ _ | exact Kd.Q_nil _ _ _ _ _ | exact Kd.R_nil _ _ _ _ _⟩, ⟨by repeat (first | (with_reducible first | exact HB.out | apply below_alloc | apply pw_below_drewN | apply below_drew1) | exact HB.out)⟩⟩
  case round =>
    clear H'
    try clear c1
    obtain ⟨x3_1, x4_1, rfl, HA, HK1, HO_3, HB⟩ := hrel
    cases gk with
    | zero => exact absurd HA.out (by simp [sorrelref02_Copy.l0])
    | succ k1 =>
      have H := HA.out
      clear HA
      simp only [sorrelref02_Copy.l0] at H
      by_cases c2 : x4_1 < (l0.length : Int)
      · rw [if_pos c2] at H
        have c2b0 : decide (x4_1 < (l0.length : Int)) = true := decide_eq_true c2
        clear c2
        by_cases c3 : 0 ≤ x4_1
        · rw [if_pos c3] at H
          have c3b0 : decide (0 ≤ x4_1) = true := decide_eq_true c3
          clear c3
          obtain ⟨y142, hy142⟩ : ∃ y_ : List Int, y_ = (([] : List Int)) := ⟨_, rfl⟩
          replace H : (if y142.length + ((rd_T96 l0 x4_1).f3).length < 17592186044416 then (if x3_1.length < 2513169434916 then (sorrelref02_Copy.l0 k1 l0 (x3_1 ++ [(⟨(rd_T96 l0 x4_1).f0, (rd_T96 l0 x4_1).f1, (rd_T96 l0 x4_1).f2, (y142 ++ ((rd_T96 l0 x4_1).f3))⟩ : S96)]) (wrap64 (x4_1 + 1))) else (none)) else (none)) = some r := by first | (rw [hy142]; with_reducible exact H) | (have H2_ := (Option.bind_some _ _).symm.trans H; rw [hy142]; with_reducible exact H2_) | (have H2_ := (Option.bind_some _ _).symm.trans H; with_reducible exact H2_) | with_reducible exact H | (rw [hy142]; exact H) | exact H
          have Ny142 := Aside0.mk hy142
          clear hy142
          by_cases c4 : y142.length + ((rd_T96 l0 x4_1).f3).length < 17592186044416
          · rw [if_pos c4] at H
            have LMc4 := Aside0.mk c4
            clear c4
            obtain ⟨y145, hy145⟩ : ∃ y_ : List Int, y_ = (y142 ++ ((rd_T96 l0 x4_1).f3)) := ⟨_, rfl⟩
            replace H : (if x3_1.length < 2513169434916 then (sorrelref02_Copy.l0 k1 l0 (x3_1 ++ [(⟨(rd_T96 l0 x4_1).f0, (rd_T96 l0 x4_1).f1, (rd_T96 l0 x4_1).f2, y145⟩ : S96)]) (wrap64 (x4_1 + 1))) else (none)) = some r := by first | (rw [hy145]; with_reducible exact H) | (have H2_ := (Option.bind_some _ _).symm.trans H; rw [hy145]; with_reducible exact H2_) | (have H2_ := (Option.bind_some _ _).symm.trans H; with_reducible exact H2_) | with_reducible exact H | (rw [hy145]; exact H) | exact H
            have Ny145 := Aside0.mk hy145
            clear hy145
            by_cases c5 : x3_1.length < 2513169434916
            · rw [if_pos c5] at H
              have LMc5 := Aside0.mk c5
              clear c5
              obtain ⟨y148, hy148⟩ : ∃ y_ : List (S96), y_ = (x3_1 ++ [(⟨(rd_T96 l0 x4_1).f0, (rd_T96 l0 x4_1).f1, (rd_T96 l0 x4_1).f2, y145⟩ : S96)]) := ⟨_, rfl⟩
              replace H : (sorrelref02_Copy.l0 k1 l0 y148 (wrap64 (x4_1 + 1))) = some r := by first | (rw [hy148]; with_reducible exact H) | (have H2_ := (Option.bind_some _ _).symm.trans H; rw [hy148]; with_reducible exact H2_) | (have H2_ := (Option.bind_some _ _).symm.trans H; with_reducible exact H2_) | with_reducible exact H | (rw [hy148]; exact H) | exact H
              have Ny148 := Aside0.mk hy148
              clear hy148
              have H' := Aside0.mk H
              clear H
              have p140 : 0 ≤ (x4_1 : Int) := of_decide_eq_true (by first | (with_reducible assumption) | assumption)
              have q140 : x4_1 < (l0.length : Int) := of_decide_eq_true (by first | (with_reducible assumption) | assumption)
              obtain ⟨ad140, A140_3, c140_3, e140, hx140_0, hx140_1, hx140_2, hx140_3, hl140_3, hi140_3⟩ := at_T96 HR0.out x4_1 p140 q140
              cases e140
              replace hx140_0 := (HB.out.cell (World.block_lt_of_cell? w _ hx140_0)).trans hx140_0
              replace hx140_1 := (HB.out.cell (World.block_lt_of_cell? w _ hx140_1)).trans hx140_1
              replace hx140_2 := (HB.out.cell (World.block_lt_of_cell? w _ hx140_2)).trans hx140_2
              replace hx140_3 := (HB.out.cell (World.block_lt_of_cell? w _ hx140_3)).trans hx140_3
              have HR140_3 := Aside0.mk hi140_3
              have HC140_3 := Aside0.mk hl140_3
              clear hi140_3 hl140_3
              replace p140 := eq_true p140
              replace q140 := eq_true q140
              go_wp2_with (first | ((with_reducible refine gate_dst (N := 5) rfl ?_); refine box_event ?hg (N := 5) ?hd (cs := #[.int .i64 0, .int .i64 0, .string (⟨#[]⟩ : ByteArray), .slice none 0 0]) (t := 96) ?hr ?_; (case hd => rfl); (case hg => rfl); (case hr => first | (go_simp; done) | (go_simp; rfl)); intro gb141 hg w6 hbox hb; have n0_ := Aside0.mk (Kd.S_below (Kd.S_elderB (by (with_reducible repeat (first | apply Kd.S_alloc | apply Kd.S_drewN | apply Kd.S_drew)); exact HO_3.out) gb141 (Nat.le_of_eq hg.symm)) hb); have n1_ := Aside0.mk (below_step (by repeat (first | (with_reducible first | exact HB.out | apply below_alloc | apply pw_below_drewN | apply below_drew1) | exact HB.out)) hb); have n2_ := Aside0.mk (hbox); have n3_ := Aside0.mk ((by rw [hg]; exact (below_size (by repeat (first | (with_reducible first | exact HB.out | apply below_alloc | apply pw_below_drewN | apply below_drew1) | exact HB.out))) : w.heap.size ≤ gb141)); have n4_ := Aside0.mk ((by rw [hg]; exact (below_size (by repeat (first | (with_reducible first | exact HB.out | apply below_alloc | apply pw_below_drewN | apply below_drew1) | exact HB.out))) : w.heap.size ≤ gb141)); clear HO_3; clear HB; have HO_3 := n0_; have HB := n1_; have BK141 := n2_; have GW141 := n3_; have GE141 := n4_; clear n0_ n1_ n2_ n3_ n4_; clear hb hbox hg; have hcz7_0 : w6.cell? ⟨gb141, 0, none⟩ = some (.int .i64 0) := (blk_cell BK141.out 0).trans rfl; have hcz7_1 : w6.cell? ⟨gb141, 1, none⟩ = some (.int .i64 0) := (blk_cell BK141.out 1).trans rfl; have hcz7_2 : w6.cell? ⟨gb141, 2, none⟩ = some (.string (⟨#[]⟩ : ByteArray)) := (blk_cell BK141.out 2).trans rfl; have hcz7_3 : w6.cell? ⟨gb141, 3, none⟩ = some (.slice none 0 0) := (blk_cell BK141.out 3).trans rfl; have hfz7_0 := blk_frozen BK141.out 0; have hfz7_1 := blk_frozen BK141.out 1; have hfz7_2 := blk_frozen BK141.out 2; have hfz7_3 := blk_frozen BK141.out 3) | ((with_reducible refine gate_dst (N := 16) rfl ?_); refine Kd.R_lit (Kd.int .i64) _ 3 ?hg (N := 16) ?hd (xs := ([] : List Int)) (inner := []) (ok := fun _ => True) (okp := fun _ => True) ?hr ?hp (fun _ hk => hk) trivial (Below.refl _ _) (Nat.le_refl _) (by simp) ?_; (case hd => rfl); (case hg => rfl); (case hr => first | (go_simp; done) | (go_simp; rfl)); (case hp => exact (Reps.none _ _)); intro v143 w8 ho9 hb hg_ hnew_; clear hg_ hnew_; (first | rw [← Ny142.out] at ho9 | (simp only [Int.reduceToNat] at ho9; rw [← Ny142.out] at ho9)); have n0_ := Aside0.mk (Kd.S_elder' (by (with_reducible repeat (first | apply Kd.S_alloc | apply Kd.S_drewN | apply Kd.S_drew)); exact (Kd.S_mono (Kd.S_far (p := ⟨gb141, 3, none⟩) (Kd.S_far (p := ⟨gb141, 2, none⟩) (Kd.S_far (p := ⟨gb141, 1, none⟩) (Kd.S_far (p := ⟨gb141, 0, none⟩) (Kd.S_mono HO_3.out (fun k_ hk => (⟨hk, hk.2⟩ : _ ∧ k_ ≠ gb141))) (fun _ hk => hk.2) (.int .i64 ((rd_T96 l0 x4_1).f0))) (fun _ hk => hk.2) (.int .i64 ((rd_T96 l0 x4_1).f1))) (fun _ hk => hk.2) (.string ((rd_T96 l0 x4_1).f2))) (fun _ hk => hk.2) (.slice A140_3 ((rd_T96 l0 x4_1).f3).length c140_3)) (fun _ h_ => h_.1))) (Kd.R_base ho9) hb); have n1_ := Aside0.mk (Kd.R_lower ho9 (below_size (by repeat (first | (with_reducible first | exact HB.out | apply below_alloc | apply pw_below_drewN | apply below_drew1 | refine below_set ?_ GE141.out) | exact HB.out)))); have n2_ := Aside0.mk (blk_below (g := gb141) (o := .cells #[.int .i64 ((rd_T96 l0 x4_1).f0), .int .i64 ((rd_T96 l0 x4_1).f1), .string ((rd_T96 l0 x4_1).f2), .slice A140_3 ((rd_T96 l0 x4_1).f3).length c140_3] 96 (0, 0)) (by (with_reducible repeat (first | refine blk_drewN ?_ _ | refine blk_drew ?_ | refine blk_alloc ?_ _)); refine blk_put (cs := #[.int .i64 ((rd_T96 l0 x4_1).f0), .int .i64 ((rd_T96 l0 x4_1).f1), .string ((rd_T96 l0 x4_1).f2), .slice none 0 0]) ?_ 3 _ rfl; (with_reducible repeat (first | refine blk_drewN ?_ _ | refine blk_drew ?_ | refine blk_alloc ?_ _)); refine blk_put (cs := #[.int .i64 ((rd_T96 l0 x4_1).f0), .int .i64 ((rd_T96 l0 x4_1).f1), .string (⟨#[]⟩ : ByteArray), .slice none 0 0]) ?_ 2 _ rfl; (with_reducible repeat (first | refine blk_drewN ?_ _ | refine blk_drew ?_ | refine blk_alloc ?_ _)); refine blk_put (cs := #[.int .i64 ((rd_T96 l0 x4_1).f0), .int .i64 0, .string (⟨#[]⟩ : ByteArray), .slice none 0 0]) ?_ 1 _ rfl; (with_reducible repeat (first | refine blk_drewN ?_ _ | refine blk_drew ?_ | refine blk_alloc ?_ _)); refine blk_put (cs := #[.int .i64 0, .int .i64 0, .string (⟨#[]⟩ : ByteArray), .slice none 0 0]) ?_ 0 _ rfl; (with_reducible repeat (first | refine blk_drewN ?_ _ | refine blk_drew ?_ | refine blk_alloc ?_ _)); exact BK141.out) hb); have n3_ := Aside0.mk (below_step (by repeat (first | (with_reducible first | exact HB.out | apply below_alloc | apply pw_below_drewN | apply below_drew1 | refine below_set ?_ GE141.out) | exact HB.out)) hb); clear HO_3; clear BK141; clear HB; have HO_3 := n0_; have HO144 := n1_; have BK141 := n2_; have HB := n3_; clear n0_ n1_ n2_ n3_; clear hb ho9; have hcz10_0 : w8.cell? ⟨gb141, 0, none⟩ = some (.int .i64 ((rd_T96 l0 x4_1).f0)) := (blk_cell BK141.out 0).trans rfl; have hcz10_1 : w8.cell? ⟨gb141, 1, none⟩ = some (.int .i64 ((rd_T96 l0 x4_1).f1)) := (blk_cell BK141.out 1).trans rfl; have hcz10_2 : w8.cell? ⟨gb141, 2, none⟩ = some (.string ((rd_T96 l0 x4_1).f2)) := (blk_cell BK141.out 2).trans rfl; have hcz10_3 : w8.cell? ⟨gb141, 3, none⟩ = some (.slice A140_3 ((rd_T96 l0 x4_1).f3).length c140_3) := (blk_cell BK141.out 3).trans rfl; have hfz10_0 := blk_frozen BK141.out 0; have hfz10_1 := blk_frozen BK141.out 1; have hfz10_2 := blk_frozen BK141.out 2; have hfz10_3 := blk_frozen BK141.out 3) | ((with_reducible refine gate_builtin (b := .append) (xs := #[.tmp 16, .tmp 18]) rfl ?_); at_builtin; refine Kd.R_append_rows (Kd.int .i64) (w0 := w) w.heap.size rfl (.tmp 16) (.tmp 18) 68 3 (.int .i64 0) 8 rfl Tryd.underlying68 info3 rfl (by decide) (by omega) v143 y142 ((rd_T96 l0 x4_1).f3) _ _ _ (fun _ => True) (fun _ => False) rfl rfl ?aO ?aR (fun _ _ h => h) (fun _ h => h.elim) ?aF ?aB ?aS ?aL ?_; (case aR => repeat (first | exact (Kd.C_below HR140_3.out HB.out) | (with_reducible refine Kd.C_alloc ?_ _) | (with_reducible refine Kd.C_drewN ?_ _) | (with_reducible refine Kd.C_drew ?_))); (case aB => exact (by repeat (first | (with_reducible first | exact HB.out | apply below_alloc | apply pw_below_drewN | apply below_drew1 | refine below_set ?_ GE141.out) | exact HB.out))); (case aF => exact (fun _ _ => trivial)); (case aO => exact (by (with_reducible repeat (first | apply Kd.R_alloc | apply Kd.R_drewN | apply Kd.R_drew)); exact HO144.out)); (case aS => exact (below_size (by repeat (first | (with_reducible first | exact HB.out | apply below_alloc | apply pw_below_drewN | apply below_drew1 | refine below_set ?_ GE141.out) | exact HB.out)))); (case aL => have := LMc4.out; omega); intro v146 w11 ho hb hg hat; rw [← Ny145.out] at ho; have n0_ := Aside0.mk (Kd.S_after (ok := (fun k_ => k_ ≠ gb141)) (by (with_reducible repeat (first | apply Kd.S_alloc | apply Kd.S_drewN | apply Kd.S_drew)); exact Kd.S_mono HO_3.out (fun _ hk => ⟨hk.1.2, hk.2⟩)) hg hat); have n1_ := Aside0.mk (blk_grown (g := gb141) (o := .cells #[.int .i64 ((rd_T96 l0 x4_1).f0), .int .i64 ((rd_T96 l0 x4_1).f1), .string ((rd_T96 l0 x4_1).f2), .slice A140_3 ((rd_T96 l0 x4_1).f3).length c140_3] 96 (0, 0)) (by (with_reducible repeat (first | refine blk_drewN ?_ _ | refine blk_drew ?_ | refine blk_alloc ?_ _)); exact BK141.out) hg (Kd.R_ne HO144.out BK141.out (by decide))); have n2_ := Aside0.mk (hb); have n3_ := Aside0.mk (ho); clear HO_3; clear BK141; clear HB; clear HO144; have HO_3 := n0_; have BK141 := n1_; have HB := n2_; have HO147 := n3_; clear n0_ n1_ n2_ n3_; clear ho hb hg hat; obtain ⟨Ao12, co12, eo12⟩ := Kd.R_slice HO147.out; subst eo12; have hcz13_0 : w11.cell? ⟨gb141, 0, none⟩ = some (.int .i64 ((rd_T96 l0 x4_1).f0)) := (blk_cell BK141.out 0).trans rfl; have hcz13_1 : w11.cell? ⟨gb141, 1, none⟩ = some (.int .i64 ((rd_T96 l0 x4_1).f1)) := (blk_cell BK141.out 1).trans rfl; have hcz13_2 : w11.cell? ⟨gb141, 2, none⟩ = some (.string ((rd_T96 l0 x4_1).f2)) := (blk_cell BK141.out 2).trans rfl; have hcz13_3 : w11.cell? ⟨gb141, 3, none⟩ = some (.slice A140_3 ((rd_T96 l0 x4_1).f3).length c140_3) := (blk_cell BK141.out 3).trans rfl; have hfz13_0 := blk_frozen BK141.out 0; have hfz13_1 := blk_frozen BK141.out 1; have hfz13_2 := blk_frozen BK141.out 2; have hfz13_3 := blk_frozen BK141.out 3) | ((with_reducible refine gate_store (t := 68) (p := 20) rfl ?_); refine store_event (t := 68) (p := 20) (v := ?vo_w14) (w1 := (w11.setCell ⟨gb141, 3, none⟩ (.slice Ao12 y145.length co12))) ?hg ?ho ?hn ?hr ?_; (case ho => rfl); (case hg => rfl); (case hn => rfl); (case hr => first | (go_simp; done) | (go_simp; rfl)); intro w14 hw; have n0_ : Aside0 (Kd.S k96 96 w14 w.heap.size (fun k_ => some k_ ≠ (.slice Ao12 y145.length co12 : Value).ownBlock ∧ k_ ≠ gb141) u3 x3_1) := ⟨(by rw [hw]; exact (by (with_reducible repeat (first | apply Kd.S_alloc | apply Kd.S_drewN | apply Kd.S_drew)); exact Kd.S_mono (Kd.S_far (p := ⟨gb141, 3, none⟩) (Kd.S_mono HO_3.out (fun k_ hk => (⟨hk, hk.1⟩ : _ ∧ k_ ≠ gb141))) (fun _ hk => hk.2) (.slice Ao12 y145.length co12)) (fun _ hk => ⟨hk.1.2, hk.1.1⟩)))⟩; have n1_ : Aside0 (Kd.R (Kd.int .i64) 3 w14 w.heap.size (fun _ => True) (.slice Ao12 y145.length co12) y145) := ⟨(by rw [hw]; exact (by (with_reducible repeat (first | apply Kd.R_alloc | apply Kd.R_drewN | apply Kd.R_drew)); exact Kd.R_mono (Kd.R_far (p := ⟨gb141, 3, none⟩) (Kd.R_types HO147.out BK141.out (by decide)) (fun _ hk => hk.2) (.slice Ao12 y145.length co12)) (fun _ hk => trivial)))⟩; have n2_ : Aside0 (w14.heap[gb141]? = some (.cells #[.int .i64 ((rd_T96 l0 x4_1).f0), .int .i64 ((rd_T96 l0 x4_1).f1), .string ((rd_T96 l0 x4_1).f2), .slice Ao12 y145.length co12] 96 (0, 0))) := ⟨(by rw [hw]; exact (by (with_reducible repeat (first | refine blk_drewN ?_ _ | refine blk_drew ?_ | refine blk_alloc ?_ _)); refine blk_put (cs := #[.int .i64 ((rd_T96 l0 x4_1).f0), .int .i64 ((rd_T96 l0 x4_1).f1), .string ((rd_T96 l0 x4_1).f2), .slice A140_3 ((rd_T96 l0 x4_1).f3).length c140_3]) ?_ 3 _ rfl; (with_reducible repeat (first | refine blk_drewN ?_ _ | refine blk_drew ?_ | refine blk_alloc ?_ _)); exact BK141.out))⟩; have n3_ : Aside0 (Below w.heap.size w w14) := ⟨(by rw [hw]; exact (by repeat (first | (with_reducible first | exact HB.out | apply below_alloc | apply pw_below_drewN | apply below_drew1 | refine below_set ?_ GE141.out) | exact HB.out)))⟩; clear hw; clear HO_3; clear HO147; clear BK141; clear HB; have HO_3 := n0_; have HO147 := n1_; have BK141 := n2_; have HB := n3_; clear n0_ n1_ n2_ n3_; have hcz15_0 : w14.cell? ⟨gb141, 0, none⟩ = some (.int .i64 ((rd_T96 l0 x4_1).f0)) := (blk_cell BK141.out 0).trans rfl; have hcz15_1 : w14.cell? ⟨gb141, 1, none⟩ = some (.int .i64 ((rd_T96 l0 x4_1).f1)) := (blk_cell BK141.out 1).trans rfl; have hcz15_2 : w14.cell? ⟨gb141, 2, none⟩ = some (.string ((rd_T96 l0 x4_1).f2)) := (blk_cell BK141.out 2).trans rfl; have hcz15_3 : w14.cell? ⟨gb141, 3, none⟩ = some (.slice Ao12 y145.length co12) := (blk_cell BK141.out 3).trans rfl; have hfz15_0 := blk_frozen BK141.out 0; have hfz15_1 := blk_frozen BK141.out 1; have hfz15_2 := blk_frozen BK141.out 2; have hfz15_3 := blk_frozen BK141.out 3) | ((with_reducible refine gate_builtin (b := .append) (xs := #[.tmp 21, .tmp 23]) rfl ?_); at_builtin; refine Kd.S_append k96 (w0 := w) w.heap.size rfl (.tmp 21) (.tmp 23) 28 96 (.agg #[(.int .i64 0), (.int .i64 0), (.string ⟨#[]⟩), (.slice none 0 0)]) 56 rfl Tryd.underlying28 info96 rfl (by decide) (by omega) u3 x3_1 (⟨(rd_T96 l0 x4_1).f0, (rd_T96 l0 x4_1).f1, (rd_T96 l0 x4_1).f2, y145⟩ : S96) [.int .i64 ((rd_T96 l0 x4_1).f0), .int .i64 ((rd_T96 l0 x4_1).f1), .string ((rd_T96 l0 x4_1).f2), .slice Ao12 y145.length co12] (fun k_ => k_ ≠ gb141) (fun k_ => some k_ = (.slice Ao12 y145.length co12 : Value).ownBlock) rfl rfl ?aP (fun k_ hk_ => ((Kd.R_mono (ok' := fun k_ => ((fun k_ => k_ ≠ gb141)) k_ ∧ some k_ ≠ (u3 : Value).ownBlock) (Kd.R_types (Kd.R_apart' (HO147.out) (Kd.S_typed HO_3.out) (by decide)) BK141.out (by decide)) (fun k_ hk => ⟨hk.2, hk.1.2⟩))).1 k_ hk_.symm) ?aF ?aO ?aB ?aS ?aL ?_; (case aP => exact k96_mkM _ _ _ (⟨(rd_T96 l0 x4_1).f0, (rd_T96 l0 x4_1).f1, (rd_T96 l0 x4_1).f2, y145⟩ : S96) (Kd.R_mono (Kd.R_tight rfl (Kd.R_mono (ok' := fun k_ => ((fun k_ => k_ ≠ gb141)) k_ ∧ some k_ ≠ (u3 : Value).ownBlock) (Kd.R_types (Kd.R_apart' (HO147.out) (Kd.S_typed HO_3.out) (by decide)) BK141.out (by decide)) (fun k_ hk => ⟨hk.2, hk.1.2⟩))) (fun _ h_ => h_))); (case aB => exact (by repeat (first | (with_reducible first | exact HB.out | apply below_alloc | apply pw_below_drewN | apply below_drew1 | refine below_set ?_ GE141.out) | exact HB.out))); (case aF => exact (fun k_ hk => Kd.freshB (g := gb141) (o := .cells #[.int .i64 ((rd_T96 l0 x4_1).f0), .int .i64 ((rd_T96 l0 x4_1).f1), .string ((rd_T96 l0 x4_1).f2), .slice Ao12 y145.length co12] 96 (0, 0)) (by (with_reducible repeat (first | refine blk_drewN ?_ _ | refine blk_drew ?_ | refine blk_alloc ?_ _)); exact BK141.out) k_ hk)); (case aO => exact (by (with_reducible repeat (first | apply Kd.S_alloc | apply Kd.S_drewN | apply Kd.S_drew)); exact Kd.S_mono HO_3.out (fun k_ hk => ⟨hk.2, fun e_ => hk.1 e_⟩))); (case aS => exact (below_size (by repeat (first | (with_reducible first | exact HB.out | apply below_alloc | apply pw_below_drewN | apply below_drew1 | refine below_set ?_ GE141.out) | exact HB.out)))); (case aL => have := LMc5.out; omega); intro v149 w16 ho hb hg hat; rw [← Ny148.out] at ho; have n0_ := Aside0.mk (blk_grown (g := gb141) (o := .cells #[.int .i64 ((rd_T96 l0 x4_1).f0), .int .i64 ((rd_T96 l0 x4_1).f1), .string ((rd_T96 l0 x4_1).f2), .slice Ao12 y145.length co12] 96 (0, 0)) (by (with_reducible repeat (first | refine blk_drewN ?_ _ | refine blk_drew ?_ | refine blk_alloc ?_ _)); exact BK141.out) hg (Kd.S_away HO_3.out (fun _ hk => hk.2))); have n1_ := Aside0.mk (hb); have n2_ := Aside0.mk (ho); clear BK141; clear HB; clear HO_3; clear HO147; have BK141 := n0_; have HB := n1_; have HO150 := n2_; clear n0_ n1_ n2_; clear ho hb hg hat))
              go_roundg k1
              case measure => have := HK1.out; omega
              case rel => exact ⟨(y148), (wrap64 (x4_1 + 1)), (by first | rfl | (simp; done) | (simp [*]; done)), H', ⟨by have := HK1.out; omega⟩, ⟨by (with_reducible repeat (first | apply Kd.S_alloc | apply Kd.S_drewN | apply Kd.S_drew)); exact Kd.S_mono HO150.out (fun _ hk => trivial)⟩, ⟨by repeat (first | (with_reducible first | exact HB.out | apply below_alloc | apply pw_below_drewN | apply below_drew1 | refine below_set ?_ GE141.out) | exact HB.out)⟩⟩
            · rw [if_neg c5] at H
              exact absurd H (by simp)
          · rw [if_neg c4] at H
            exact absurd H (by simp)
        · rw [if_neg c3] at H
          exact absurd H (by simp)
      · rw [if_neg c2] at H
        have c2b0 : decide (x4_1 < (l0.length : Int)) = false := decide_eq_false c2
        clear c2
        obtain rfl := Option.some.inj H
        go_wp2
        go_ret
        exact ⟨_, by first | rfl | (simp [errW_none, errW_some] <;> rfl) | (simp [*, errW_none, errW_some] <;> rfl), by (with_reducible repeat (first | apply Kd.S_alloc | apply Kd.S_drewN | apply Kd.S_drew)); exact HO_3.out, by repeat (first | (with_reducible first | exact HB.out | apply below_alloc | apply pw_below_drewN | apply below_drew1) | exact HB.out)⟩

-- NOT PRINTED: function 19 (sorrelref02_Roomy)

-- NOT PRINTED: function 20 (sorrelref02_Room_Expr)

-- NOT PRINTED: function 21 (sorrelref02_Room_Kept)

-- NOT PRINTED: function 23 (sorrelref02_Book_Expr)

-- NOT PRINTED: function 44 (sorrelref02_apartInts)

-- NOT PRINTED: function 45 (sorrelref02_apartNodes)

/-! ### sorrelref02_text: function 64 -/
def sorrelref02_text.f (a0 : Int) : Option (ByteArray) := some (strOfNums (([35, (a0) % 256, (a0 / 256) % 256, (a0 / 65536) % 256] : List Int)))
set_option maxHeartbeats 8000000 in
set_option maxRecDepth 100000 in
theorem sorrelref02_text.calls (a0 : Int) (r : ByteArray) (w : World) (h : sorrelref02_text.f a0 = some r) :
    Calls Tryd.prog 64 #[.int .i64 a0] w fun e w' => e = .returned (.string r) ∧ Below w.heap.size w w' := by
  have HB := Aside0.mk (Below.refl w.heap.size w)
  have H : (some (strOfNums (([35, (a0) % 256, (a0 / 256) % 256, (a0 / 65536) % 256] : List Int)))) = some r := h
  clear h
  obtain ⟨y185, hy185⟩ : ∃ y_ : List Int, y_ = (([35, (a0) % 256, (a0 / 256) % 256, (a0 / 65536) % 256] : List Int)) := ⟨_, rfl⟩
  replace H : (some (strOfNums y185)) = some r := by first | (rw [hy185]; with_reducible exact H) | (have H2_ := (Option.bind_some _ _).symm.trans H; rw [hy185]; with_reducible exact H2_) | (have H2_ := (Option.bind_some _ _).symm.trans H; with_reducible exact H2_) | with_reducible exact H | (rw [hy185]; exact H) | exact H
  have Ny185 := Aside0.mk hy185
  clear hy185
  obtain rfl := Option.some.inj H
  go_enter Tryd.func64, Tryd.ntmps64
  go_wp2_with (first | ((with_reducible refine gate_dst (N := 11) rfl ?_); refine Kd.R_lit (Kd.int .u8) _ 5 ?hg (N := 11) ?hd (xs := ([35, (a0) % 256, (a0 / 256) % 256, (a0 / 65536) % 256] : List Int)) (inner := [.int .u8 35, .int .u8 ((a0) % 256), .int .u8 ((a0 / 256) % 256), .int .u8 ((a0 / 65536) % 256)]) (ok := fun _ => True) (okp := fun _ => True) ?hr ?hp (fun _ hk => hk) trivial (Below.refl _ _) (Nat.le_refl _) (by simp) ?_; (case hd => rfl); (case hg => rfl); (case hr => first | (go_simp; done) | (go_simp; rfl)); (case hp => exact (Reps.one (show Kd.M (Kd.int .u8) _ _ _ 35 [.int .u8 35] from rfl) (Reps.one (show Kd.M (Kd.int .u8) _ _ _ ((a0) % 256) [.int .u8 ((a0) % 256)] from rfl) (Reps.one (show Kd.M (Kd.int .u8) _ _ _ ((a0 / 256) % 256) [.int .u8 ((a0 / 256) % 256)] from rfl) (Reps.one (show Kd.M (Kd.int .u8) _ _ _ ((a0 / 65536) % 256) [.int .u8 ((a0 / 65536) % 256)] from rfl) (Reps.none _ _)))))); intro v186 w2 ho3 hb hg_ hnew_; clear hg_ hnew_; (first | rw [← Ny185.out] at ho3 | (simp only [Int.reduceToNat] at ho3; rw [← Ny185.out] at ho3)); have n0_ := Aside0.mk (Kd.R_lower ho3 (below_size (by repeat (first | (with_reducible first | exact HB.out | apply below_alloc | apply pw_below_drewN | apply below_drew1) | exact HB.out)))); have n1_ := Aside0.mk (below_step (by repeat (first | (with_reducible first | exact HB.out | apply below_alloc | apply pw_below_drewN | apply below_drew1) | exact HB.out)) hb); clear HB; have HO187 := n0_; have HB := n1_; clear n0_ n1_; clear hb ho3; have hcv4 := own_string (P := Tryd.prog) Tryd.underlying156 Tryd.underlying5 Tryd.underlying9 (Kd.own_of_R HO187.out)))
  go_ret
  exact ⟨by first | rfl | (simp [errW_none, errW_some] <;> rfl) | (simp [*, errW_none, errW_some] <;> rfl), by repeat (first | (with_reducible first | exact HB.out | apply below_alloc | apply pw_below_drewN | apply below_drew1) | exact HB.out)⟩

-- NOT PRINTED: function 46 (sorrelref02_apartTexts)

-- NOT PRINTED: function 47 (sorrelref02_apartBinds)

-- NOT PRINTED: function 48 (sorrelref02_apartClasses)

-- NOT PRINTED: function 49 (sorrelref02_apartNums)

-- NOT PRINTED: function 24 (sorrelref02_Book_Apart)

-- NOT PRINTED: function 5 (sorrellaw03_BoxKeeps)

end Go.Proofs.YticaocadeeolkaaDoor.PBoxKeeps
