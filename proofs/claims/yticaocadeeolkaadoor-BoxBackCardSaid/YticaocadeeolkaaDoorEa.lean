/-
  THE LAW BoxBack, walked.
-/
import Derived.Test.YticaocadeeolkaaDoorDh
namespace Go.Proofs.YticaocadeeolkaaDoor
open Go.RowKit Plain Go.Proofs.YticaocadeeolkaaDoorW.PrintWords Go.Proofs.YticaocadeeolkaaDoorW.PrintLast Go.Proofs.YticaocadeeolkaaDoorW.PrintMore

theorem open_sound {e : List Nd} (hs : Sound e) (hn : ∀ x ∈ e, x.name.size ≤ maxLen) (w : World) (ht : Tabs w) :
    Calls Tryd.prog 12 #[tval (termAt e (e.length - 1))] w fun en w' => ∃ A c, en = .returned (.tuple #[.slice A e.length c, .int .i64 0]) ∧ e.length ≤ c ∧ Kd.S kNd 96 w' w.heap.size (fun _ => True) (.slice A e.length c) e ∧ Below w.heap.size w w' := by
  have hg := termAt_good hn (e.length - 1)
  refine (open_any _ (tpure_fine _ hg.1) hg.2 w ht).mono ?_
  rintro en w' ⟨hb, h⟩
  rw [(open_term hs).2] at h
  rcases h with ⟨_, v, rfl, hS⟩ | ⟨h1, _⟩
  · obtain ⟨A, c, rfl, hc, _⟩ := Kd.S_reads hS
    exact ⟨A, c, rfl, hc, hS, hb⟩
  · have := hs.lo; rw [h1] at this; simp at this

set_option maxHeartbeats 8000000 in
set_option maxRecDepth 100000 in
theorem back_any (e : List Nd) (A : Option Addr) (c : Nat) (w : World) (ht : Tabs w) (hr : Kd.C kNd w A e.length e) (hc : e.length ≤ c) (hn : ∀ x ∈ e, x.name.size ≤ maxLen) (hsh : Short e) :
    Calls Tryd.prog 4 #[.slice A e.length c] w fun en w' => en = .returned (.bool true) ∧ Below w.heap.size w w' := by
  have HT := Lib.hid ht
  have HR := Lib.hid hr
  have HN := Lib.hid hn
  have HN2 := Lib.hid (fun x hx => (show x.name.size ≤ 9223372036854775807 from hn x hx))
  have HC := Lib.hid hc
  have HSH := Lib.hid hsh
  clear ht hr hn hc hsh
  cases hck : check e
  · have hE : errOf (check e) = 1 := by rw [hck]; rfl
    have HCK := Lib.hid hck
    clear hck
    go_enter Tryd.func4, Tryd.ntmps4
    go_wp2_with (first
      | (go_at_call 9; refine (awake_any _).mono ?_; rintro en w1 ⟨rfl, hb1⟩; have HB1 := Lib.hid hb1; clear hb1)
      | (go_at_call 15; refine (copy_any e HSH.out A c _ (Kd.C_below HR.out HB1.out) HC.out).mono ?_; rintro en w2 ⟨v2, rfl, hS2, hb2⟩; obtain ⟨A2, c2, e2, _, hC2⟩ := Kd.S_reads hS2; subst e2; have HC2 := Lib.hid hC2; have HB2 := Lib.hid (HB1.out.trans (hb2.mono HB1.out.size)); clear hb2 hC2 hS2)
      | (go_at_call 14; refine (box_any e _ _ _ (HT.out.below HB2.out) HC2.out HN.out).mono ?_; rintro en w3 ⟨hb3, h3⟩; have HB3 := Lib.hid (HB2.out.trans (hb3.mono HB2.out.size)); have h3' := h3.resolve_left (fun h => by have := HCK.out; rw [h.1] at this; cases this); obtain ⟨_, e3⟩ := h3'; subst e3; clear hb3 h3)
      | (go_at_call 16; refine (rcheck_any e A c _ (Kd.C_below HR.out HB3.out) HC.out HN2.out).mono ?_; rintro en w4 ⟨rfl, hb4⟩; have HB4 := Lib.hid (HB3.out.trans (hb4.mono HB3.out.size)); clear hb4))
    go_ret
    exact ⟨rfl, HB4.out⟩
  · have hE : errOf (check e) = 0 := by rw [hck]; rfl
    have HCK := Lib.hid hck
    have HSD := Lib.hid ((check_iff e).1 hck)
    have h1 := HSD.out.lo
    have h64 := HSD.out.hi
    have hsub : IntKind.i64.wrap ((e.length : Int) - 1) = ((e.length - 1 : Nat) : Int) := by rw [i64_w]; unfold wrap64; omega
    have HOF := Lib.hid (of_any e A c HSD.out.forms e.length (e.length - 1) 0 (by omega) HSD.out.seg)
    have HOP := Lib.hid (open_sound HSD.out HN.out)
    have HAL := Lib.hid (alike_self (termAt e (e.length - 1)) (termAt_good HN.out (e.length - 1)).1)
    clear hck
    go_enter Tryd.func4, Tryd.ntmps4
    go_wp2_with (first
      | (go_at_call 9; refine (awake_any _).mono ?_; rintro en w1 ⟨rfl, hb1⟩; have HB1 := Lib.hid hb1; clear hb1)
      | (go_at_call 15; refine (copy_any e HSH.out A c _ (Kd.C_below HR.out HB1.out) HC.out).mono ?_; rintro en w2 ⟨v2, rfl, hS2, hb2⟩; obtain ⟨A2, c2, e2, _, hC2⟩ := Kd.S_reads hS2; subst e2; have HC2 := Lib.hid hC2; have HB2 := Lib.hid (HB1.out.trans (hb2.mono HB1.out.size)); clear hb2 hC2 hS2)
      | (go_at_call 14; refine (box_any e _ _ _ (HT.out.below HB2.out) HC2.out HN.out).mono ?_; rintro en w3 ⟨hb3, h3⟩; have HB3 := Lib.hid (HB2.out.trans (hb3.mono HB2.out.size)); have h3' := h3.resolve_right (fun h => by have := HCK.out; rw [h.1] at this; cases this); obtain ⟨_, e3⟩ := h3'; subst e3; clear hb3 h3)
      | (go_at_call 16; refine (rcheck_any e A c _ (Kd.C_below HR.out HB3.out) HC.out HN2.out).mono ?_; rintro en w4 ⟨rfl, hb4⟩; have HB4 := Lib.hid (HB3.out.trans (hb4.mono HB3.out.size)); clear hb4)
      | (go_at_call 12; refine (HOP.out _ (HT.out.below HB4.out)).mono ?_; rintro en w5 ⟨A5, c5, rfl, hc5, hS5, hb5⟩; have HC5 := Lib.hid (Kd.S_reads' hS5).2.2; have HCC5 := Lib.hid hc5; have HB5 := Lib.hid (HB4.out.trans (hb5.mono HB4.out.size)); clear hb5 hS5 hc5)
      | (go_at_call 18; refine (HOF.out _ (Kd.C_below HR.out HB5.out)).mono ?_; rintro en w6 ⟨rfl, hb6⟩; have HB6 := Lib.hid (HB5.out.trans (hb6.mono HB5.out.size)); have HB56 := Lib.hid hb6; clear hb6)
      | (go_at_call 17; refine (HAL.out _).mono ?_; rintro en w7 ⟨rfl, hb7⟩; have HB7 := Lib.hid (HB6.out.trans (hb7.mono HB6.out.size)); have HB57 := Lib.hid (HB56.out.trans (hb7.mono HB56.out.size)); clear hb7)
      | (go_at_call 13; refine (same_any e HSH.out _ _ _ _ _ (Kd.C_below HC5.out HB57.out) HCC5.out (Kd.C_below HR.out HB7.out) HC.out).mono ?_; rintro en w8 ⟨rfl, hb8⟩; have HB8 := Lib.hid (HB7.out.trans (hb8.mono HB7.out.size)); clear hb8))
    go_ret
    exact ⟨rfl, HB8.out⟩
end Go.Proofs.YticaocadeeolkaaDoor
