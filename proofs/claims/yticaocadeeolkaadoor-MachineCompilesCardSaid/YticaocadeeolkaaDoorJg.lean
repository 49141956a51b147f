/-
  THE WALKS of pattern.Check, pattern.Holes.
-/
import Derived.Test.YticaocadeeolkaaDoorJf
namespace Go.Proofs.YticaocadeeolkaaDoor.Plain
open Go
noncomputable def patCheck (e : List Nd) : Bool := decide (e.length ≤ 16) && decide ((holesL e).length ≤ 6) && check (plainL e)
end Go.Proofs.YticaocadeeolkaaDoor.Plain
namespace Go.Proofs.YticaocadeeolkaaDoor
open Go.RowKit Plain Go.Proofs.YticaocadeeolkaaDoorW.PrintWords Go.Proofs.YticaocadeeolkaaDoorW.PrintLast Go.Proofs.YticaocadeeolkaaDoorW.PrintMore

theorem ret_pat {e : List Nd} {a : Int} {b : Bool} (h : patCheck e = b) (ha : a = errOf b) : Ending.returned (.int .i64 a) = .returned (.int .i64 (errOf (patCheck e))) := by rw [h, ha]
theorem plainL_names {M : Nat} {e : List Nd} (h : ∀ x ∈ e, x.name.size ≤ M) : ∀ x ∈ plainL e, x.name.size ≤ M := fun x hx => by
  obtain ⟨y, hy, rfl⟩ := List.mem_map.1 hx
  rw [plainN_name]; exact h y hy
set_option maxHeartbeats 4000000 in
set_option maxRecDepth 100000 in
theorem pcheck_any (e : List Nd) (A : Option Addr) (c : Nat) (w : World) (ht : Tabs w) (hr : Kd.C kNd w A e.length e) (hl : e.length ≤ 2513169434843) (hn : ∀ x ∈ e, x.name.size ≤ maxLen) :
    Calls Tryd.prog 65 #[.slice A e.length c] w fun en w' => en = .returned (.int .i64 (errOf (patCheck e))) ∧ Below w.heap.size w w' := by
  have HT := Lib.hid ht
  have HR := Lib.hid hr
  have HN := Lib.hid hn
  have HPN := Lib.hid (plainL_names hn)
  clear ht hr hn
  by_cases h16 : 16 < e.length
  · have HP : Hid (patCheck e = false) := Lib.hid (by unfold patCheck; rw [decide_eq_false (by omega)]; rfl)
    go_enter Tryd.func65, Tryd.ntmps65
    go_wp2_with (go_at_call 66; refine (holes_any e A c w HR.out hl HN.out).mono ?_; rintro en w1 ⟨v1, m1, rfl, hR1, hb1⟩; obtain ⟨A1, c1, rfl, hc1, _⟩ := Kd.R_reads hR1; have HB1 := Lib.hid hb1; clear hR1 hb1)
    go_ret
    exact ⟨ret_pat HP.out rfl, HB1.out⟩
  by_cases h6 : 6 < (holesL e).length
  · have HP : Hid (patCheck e = false) := Lib.hid (by unfold patCheck; rw [decide_eq_false (show ¬ (holesL e).length ≤ 6 by omega)]; simp)
    go_enter Tryd.func65, Tryd.ntmps65
    go_wp2_with (go_at_call 66; refine (holes_any e A c w HR.out hl HN.out).mono ?_; rintro en w1 ⟨v1, m1, rfl, hR1, hb1⟩; obtain ⟨A1, c1, rfl, hc1, _⟩ := Kd.R_reads hR1; have HB1 := Lib.hid hb1; clear hR1 hb1)
    go_ret
    exact ⟨ret_pat HP.out rfl, HB1.out⟩
  have HP : Hid (patCheck e = check (plainL e)) := Lib.hid (by unfold patCheck; rw [decide_eq_true (show e.length ≤ 16 by omega), decide_eq_true (show (holesL e).length ≤ 6 by omega)]; rfl)
  have hpl := plainL_len e
  have HPL := Lib.hid hpl
  clear hpl
  go_enter Tryd.func65, Tryd.ntmps65
  go_wp2_with (first
    | (go_at_call 66; refine (holes_any e A c w HR.out hl HN.out).mono ?_; rintro en w1 ⟨v1, m1, rfl, hR1, hb1⟩; obtain ⟨A1, c1, rfl, hc1, _⟩ := Kd.R_reads hR1; have HB1 := Lib.hid hb1; clear hR1 hb1)
    | (go_at_call 77; refine (plain_any e A c w1 (Kd.C_below HR.out HB1.out) hl).mono ?_; rintro en w2 ⟨v2, rfl, hN2, hb2⟩; obtain ⟨A2, c2, rfl, hc2, hC2⟩ := Kd.N_reads hN2; have HC2 := Lib.hid hC2; have HB2 := Lib.hid (HB1.out.trans (hb2.mono HB1.out.size)); clear hN2 hb2 hC2)
    | (go_at_call 39; refine (check_any (plainL e) A2 c2 w2 (HT.out.below HB2.out) HC2.out HPN.out).mono ?_; rintro en w3 ⟨rfl, hb3⟩; have HB3 := Lib.hid (HB2.out.trans (hb3.mono HB2.out.size)); clear hb3))
  go_ret
  exact ⟨ret_pat HP.out rfl, HB3.out⟩
def PHolesOk (e : List Nd) (w : World) (en : Ending) (w' : World) : Prop := Below w.heap.size w w' ∧
  ((patCheck e = true ∧ ∃ v, en = .returned (.tuple #[v, .int .i64 0]) ∧ Kd.R Kd.string 9 w' w.heap.size (fun _ => True) v (holesL e)) ∨ (patCheck e = false ∧ en = .returned (.tuple #[.slice none 0 0, .int .i64 1])))
set_option maxHeartbeats 4000000 in
set_option maxRecDepth 100000 in
theorem pholes_any (e : List Nd) (A : Option Addr) (c : Nat) (w : World) (ht : Tabs w) (hr : Kd.C kNd w A e.length e) (hl : e.length ≤ 2513169434843) (hn : ∀ x ∈ e, x.name.size ≤ maxLen) :
    Calls Tryd.prog 51 #[.slice A e.length c] w (PHolesOk e w) := by
  have HT := Lib.hid ht
  have HR := Lib.hid hr
  have HN := Lib.hid hn
  clear ht hr hn
  cases hp : patCheck e
  · have hE : errOf (patCheck e) = 1 := by rw [hp]; rfl
    have HP := Lib.hid hp
    clear hp
    go_enter Tryd.func51, Tryd.ntmps51
    go_wp2_with (go_at_call 65; refine (pcheck_any e A c w HT.out HR.out hl HN.out).mono ?_; rintro en w1 ⟨rfl, hb1⟩; have HB1 := Lib.hid hb1; clear hb1)
    go_ret2
    exact ⟨HB1.out, .inr ⟨HP.out, rfl⟩⟩
  · have hE : errOf (patCheck e) = 0 := by rw [hp]; rfl
    have HP := Lib.hid hp
    clear hp
    go_enter Tryd.func51, Tryd.ntmps51
    go_wp2_with (first
      | (go_at_call 65; refine (pcheck_any e A c w HT.out HR.out hl HN.out).mono ?_; rintro en w1 ⟨rfl, hb1⟩; have HB1 := Lib.hid hb1; clear hb1)
      | (go_at_call 66; refine (holes_any e A c w1 (Kd.C_below HR.out HB1.out) hl HN.out).mono ?_; rintro en w2 ⟨v2, m2, rfl, hR2, hb2⟩; obtain ⟨A2, c2, rfl, hc2, _⟩ := Kd.R_reads hR2; have HR2 := Lib.hid (Kd.R_lower hR2 HB1.out.size); have HB2 := Lib.hid (HB1.out.trans (hb2.mono HB1.out.size)); clear hR2 hb2))
    go_ret2
    exact ⟨HB2.out, .inl ⟨HP.out, _, rfl, HR2.out⟩⟩
end Go.Proofs.YticaocadeeolkaaDoor
