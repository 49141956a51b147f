/-
  THE LAW MachineCompiles, walked.
-/
import Derived.Test.YticaocadeeolkaaDoorJk
import Derived.Test.YticaocadeeolkaaDoorKa
import Derived.Test.YticaocadeeolkaaDoorKb
namespace Go.Proofs.YticaocadeeolkaaDoor.Plain
open Go
theorem kidsC_names {M : Nat} {F : Nat → Int → CSt → CSt} (h : ∀ i reg s, (∀ c ∈ s.list, c.name.size ≤ M) → ∀ c ∈ (F i reg s).list, c.name.size ≤ M) : ∀ (ks : List Int) (reg : Int) (s : CSt), (∀ c ∈ s.list, c.name.size ≤ M) → ∀ c ∈ (kidsC F ks reg s).list, c.name.size ≤ M
  | [], _, _, hs => hs
  | k :: r, reg, s, hs => kidsC_names h r (reg + 1) _ (h k.toNat reg s hs)
theorem snoc_names {M : Nat} {l : List Cm} {x : Cm} (hl : ∀ c ∈ l, c.name.size ≤ M) (hx : x.name.size ≤ M) : ∀ c ∈ l ++ [x], c.name.size ≤ M := fun c hc => by
  rcases List.mem_append.1 hc with h | h
  · exact hl c h
  · rw [List.mem_singleton.1 h]; exact hx
theorem comp_names {M : Nat} {e : List Nd} {hs : List ByteArray} (hn : ∀ x ∈ e, x.name.size ≤ M) : ∀ (f i : Nat) (reg : Int) (s : CSt), (∀ c ∈ s.list, c.name.size ≤ M) → ∀ c ∈ (comp e hs f i reg s).list, c.name.size ≤ M
  | 0, _, _, _, h => h
  | f + 1, i, reg, s, h => by
    rw [comp]
    cases hx : e[i]? with
    | none => exact h
    | some x =>
      simp only
      split
      · split
        · exact snoc_names h (Nat.zero_le _)
        · exact snoc_names h (Nat.zero_le _)
      · exact kidsC_names (fun i reg s => comp_names hn f i reg s) _ _ _ (snoc_names h (hn x (List.mem_of_getElem? hx)))
theorem progL_names {M : Nat} {e : List Nd} (hn : ∀ x ∈ e, x.name.size ≤ M) : ∀ c ∈ progL e, c.name.size ≤ M := comp_names hn _ _ _ _ (fun c hc => by cases hc)
end Go.Proofs.YticaocadeeolkaaDoor.Plain
namespace Go.Proofs.YticaocadeeolkaaDoor
open Go.RowKit Plain Go.Proofs.YticaocadeeolkaaDoorW.PrintWords Go.Proofs.YticaocadeeolkaaDoorW.PrintLast Go.Proofs.YticaocadeeolkaaDoorW.PrintMore

set_option maxHeartbeats 8000000 in
set_option maxRecDepth 100000 in
theorem compiles_any (e : List Nd) (A : Option Addr) (c : Nat) (w : World) (ht : Tabs w) (hr : Kd.C kNd w A e.length e) (hc : e.length ≤ c) (hn : ∀ x ∈ e, x.name.size ≤ maxLen) (hsh : Short e) :
    Calls Tryd.prog 7 #[.slice A e.length c] w fun en w' => en = .returned (.bool true) ∧ Below w.heap.size w w' := by
  have HT := Lib.hid ht
  have HR := Lib.hid hr
  have HN := Lib.hid hn
  have HN2 := Lib.hid (fun x hx => (show x.name.size ≤ 9223372036854775807 from hn x hx))
  have hl := hsh.len
  have HSH := Lib.hid hsh
  clear ht hr hn hsh
  cases hp : patCheck e
  · have hE : errOf (patCheck e) = 1 := by rw [hp]; rfl
    have HP := Lib.hid hp
    clear hp
    go_enter Tryd.func7, Tryd.ntmps7
    go_wp2_with (first
      | (go_at_call 26; refine (awake15_any _ HT.out).mono ?_; rintro en w1 ⟨rfl, hb1⟩; have HB1 := Lib.hid hb1; clear hb1)
      | (go_at_call 15; refine (copy_any e HSH.out A c w1 (Kd.C_below HR.out HB1.out) hc).mono ?_; rintro en w2 ⟨v2, rfl, hS2, hb2⟩; obtain ⟨A2, c2, e2, _, hC2⟩ := Kd.S_reads hS2; subst e2; have HC2 := Lib.hid hC2; have HB2 := Lib.hid (HB1.out.trans (hb2.mono HB1.out.size)); clear hb2 hC2 hS2)
      | (go_at_call 27; refine (compile_any e A2 c2 w2 (HT.out.below HB2.out) HC2.out hl HN.out).mono ?_; rintro en w3 ⟨hb3, h3⟩; have HB3 := Lib.hid (HB2.out.trans (hb3.mono HB2.out.size)); have h3' := h3.resolve_left (fun h => by have := HP.out; rw [h.1] at this; cases this); obtain ⟨_, e3⟩ := h3'; subst e3; clear hb3 h3)
      | (go_at_call 28; refine (rpcheck_any e HSH.out A c w3 (Kd.C_below HR.out HB3.out) hc HN2.out).mono ?_; rintro en w4 ⟨rfl, hb4⟩; have HB4 := Lib.hid (HB3.out.trans (hb4.mono HB3.out.size)); clear hb4))
    go_ret
    exact ⟨rfl, HB4.out⟩
  · have hE : errOf (patCheck e) = 0 := by rw [hp]; rfl
    have HP := Lib.hid hp
    have HLAW := Lib.hid (compile_law (patCheck_sound hp)).1
    have hE2 : errOf (mcheck (progL e) ((holesL e).length : Int)) = 0 := by unfold progL; rw [(compile_law (patCheck_sound hp)).1]; rfl
    have HPN := Lib.hid (progL_names HN.out)
    have HPN2 := Lib.hid (progL_names HN2.out)
    clear hp
    go_enter Tryd.func7, Tryd.ntmps7
    go_wp2_with (first
      | (go_at_call 26; refine (awake15_any _ HT.out).mono ?_; rintro en w1 ⟨rfl, hb1⟩; have HB1 := Lib.hid hb1; clear hb1)
      | (go_at_call 15; refine (copy_any e HSH.out A c w1 (Kd.C_below HR.out HB1.out) hc).mono ?_; rintro en w2 ⟨v2, rfl, hS2, hb2⟩; obtain ⟨A2, c2, e2, _, hC2⟩ := Kd.S_reads hS2; subst e2; have HC2 := Lib.hid hC2; have HB2 := Lib.hid (HB1.out.trans (hb2.mono HB1.out.size)); clear hb2 hC2 hS2)
      | (go_at_call 27; refine (compile_any e A2 c2 w2 (HT.out.below HB2.out) HC2.out hl HN.out).mono ?_; rintro en w3 ⟨hb3, h3⟩; have HB3 := Lib.hid (HB2.out.trans (hb3.mono HB2.out.size)); have h3' := h3.resolve_right (fun h => by have := HP.out; rw [h.1] at this; cases this); obtain ⟨_, v3, e3, hR3⟩ := h3'; subst e3; obtain ⟨A3, c3, e3, _, hC3⟩ := Kd.R_reads hR3; subst e3; have HC3 := Lib.hid hC3; clear hb3 h3 hR3 hC3)
      | (go_at_call 28; refine (rpcheck_any e HSH.out A c w3 (Kd.C_below HR.out HB3.out) hc HN2.out).mono ?_; rintro en w4 ⟨rfl, hb4⟩; have HB4 := Lib.hid (HB3.out.trans (hb4.mono HB3.out.size)); have HC4 := Lib.hid (Kd.C_below HC3.out hb4); clear hb4)
      | (go_at_call 29; refine (names_any e A c w4 (Kd.C_below HR.out HB4.out) hl).mono ?_; rintro en w5 ⟨v5, rfl, hR5, hb5⟩; obtain ⟨A5, c5, rfl, hc5, _⟩ := Kd.R_reads hR5; have HB5 := Lib.hid (HB4.out.trans (hb5.mono HB4.out.size)); have HC5 := Lib.hid (Kd.C_below HC4.out hb5); clear hR5 hb5)
      | (go_at_call 30; refine (rc_any (progL e) ((holesL e).length : Int) A3 c3 w5 HC5.out HPN2.out).mono ?_; rintro en w6 ⟨rfl, hb6⟩; have HB6 := Lib.hid (HB5.out.trans (hb6.mono HB5.out.size)); have HC6 := Lib.hid (Kd.C_below HC5.out hb6); clear hb6)
      | (go_at_call 31; refine (mc_any (progL e) ((holesL e).length : Int) A3 c3 w6 (HT.out.below HB6.out) HC6.out HPN.out).mono ?_; rintro en w7 ⟨rfl, hb7⟩; have HB7 := Lib.hid (HB6.out.trans (hb7.mono HB6.out.size)); clear hb7))
    go_ret
    exact ⟨rfl, HB7.out⟩
end Go.Proofs.YticaocadeeolkaaDoor
