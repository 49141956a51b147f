/-
  THE PLAIN LAW of BoxOpens: what Open makes of each value is the expression of its cell.
  THE PLAIN LAW of BoxOpens, more: the nodes of the expressions have three parts at most.
  THE LAW BoxOpens, walked.
-/
import Derived.Test.YticaocadeeolkaaDoorMI
import Derived.Test.YticaocadeeolkaaDoorGd
import Derived.Test.YticaocadeeolkaaDoorMJ

namespace Go.Proofs.YticaocadeeolkaaDoor.Plain
open Go

theorem exprsGo_pre : ∀ (c : List Cl) (es : List (List Nd)) (k : Nat), k < es.length → (exprsGo c es)[k]? = es[k]?
  | [], _, _, _ => rfl
  | _ :: c, es, k, h => by
    rw [exprsGo, exprsGo_pre c _ k (by simp; omega), List.getElem?_append_left h]
theorem exprsL_pre (cs : List Cl) (i k : Nat) (hk : k < i) (hi : i ≤ cs.length) : (exprsL cs)[k]? = (exprsL (cs.take i))[k]? := by
  have h : exprsL cs = exprsGo (cs.drop i) (exprsL (cs.take i)) := by
    unfold exprsL
    rw [← exprsGo_append, List.take_append_drop]
  rw [h, exprsGo_pre _ _ k (by rw [exprsL_length, List.length_take]; omega)]
theorem exprsL_at (cs : List Cl) (i : Nat) (x : Cl) (hx : cs[i]? = some x) : (exprsL cs)[i]? = some (exprOf (exprsL (cs.take i)) i x) := by
  have hlt := (List.getElem?_eq_some_iff.1 hx).1
  have hl : (exprsL (cs.take i)).length = i := by rw [exprsL_length, List.length_take]; omega
  rw [exprsL_pre cs (i + 1) i (by omega) (by omega), exprsL_next cs i x hx, List.getElem?_append_right (by omega), hl, Nat.sub_self]; rfl
/-- Open of every value is its cell's expression. -/
theorem open_all {cs : List Cl} {ts : List Tm} (hv : ∀ j x, cs[j]? = some x → ValOk ts j x (ts.getD j .nil)) : ∀ (n i : Nat) (x : Cl), i < n → cs[i]? = some x → openT (ts.getD i .nil) = (exprsL cs).getD i [] := by
  intro n
  induction n with
  | zero => intro i x h; omega
  | succ n ih =>
    intro i x _ hx
    have hlt := (List.getElem?_eq_some_iff.1 hx).1
    have h1 := open_val (es := exprsL (cs.take i)) (fun j hj => by
      have hjl : j < cs.length := by omega
      rw [ih j cs[j] (by omega) (List.getElem?_eq_getElem hjl), List.getD_eq_getElem?_getD, List.getD_eq_getElem?_getD, exprsL_pre cs i j hj (by omega)]) (hv i x hx)
    rw [h1, List.getD_eq_getElem?_getD, exprsL_at cs i x hx]; rfl
end Go.Proofs.YticaocadeeolkaaDoor.Plain

namespace Go.Proofs.YticaocadeeolkaaDoor.Plain
open Go

def few (p : List Nd) : Prop := ∀ x ∈ p, x.kids.length ≤ 3
theorem shift_few {b : Int} {p : List Nd} (h : few p) : few (shift b p) := by
  intro x hx
  obtain ⟨y, hy, rfl⟩ := List.mem_map.1 hx
  simpa using h y hy
theorem joinGo_few : ∀ (ps : List (List Nd)) (l : List Nd) (ks : List Int), (∀ p ∈ ps, few p) → few l → few (joinGo ps l ks).1
  | [], _, _, _, hl => hl
  | p :: r, l, ks, hp, hl => by
    refine joinGo_few r _ _ (fun q hq => hp q (List.mem_cons_of_mem _ hq)) (fun x hx => ?_)
    rcases List.mem_append.1 hx with h | h
    · exact hl x h
    · exact shift_few (hp p List.mem_cons_self) x h
theorem joinGo_kids : ∀ (ps : List (List Nd)) (l : List Nd) (ks : List Int), (joinGo ps l ks).2.length = ks.length + ps.length
  | [], _, _ => rfl
  | p :: r, l, ks => by rw [joinGo, joinGo_kids r]; simp; omega
theorem make_few {op n : Int} {name : ByteArray} {ps : List (List Nd)} (h3 : ps.length ≤ 3) (hp : ∀ p ∈ ps, few p) : few (makeT op n name ps) := by
  unfold makeT
  split
  · split
    · split
      · intro x hx
        unfold joined at hx
        rcases List.mem_append.1 hx with h | h
        · exact joinGo_few ps [] [] hp (fun _ h => by cases h) x h
        · rw [List.mem_singleton.1 h, joinGo_kids]; simpa using h3
      · exact fun _ h => by cases h
    · exact fun _ h => by cases h
  · exact fun _ h => by cases h
theorem getE_few {es : List (List Nd)} (h : ∀ p ∈ es, few p) (i : Nat) (k : Int) : few (getE es i k) := by
  unfold getE
  split
  · rw [List.getD_eq_getElem?_getD]
    cases hh : es[k.toNat]? with
    | none => exact fun _ h => by cases h
    | some p => exact h p (List.mem_of_getElem? hh)
  · exact fun _ h => by cases h
theorem exprsGo_few : ∀ (cs : List Cl) (es : List (List Nd)), (∀ p ∈ es, few p) → ∀ p ∈ exprsGo cs es, few p
  | [], _, he => he
  | x :: r, es, he => by
    refine exprsGo_few r _ (fun p hp => ?_)
    rcases List.mem_append.1 hp with h | h
    · exact he p h
    · rw [List.mem_singleton.1 h]
      refine make_few (by rw [List.length_map]; exact headKids_le x) (fun q hq => ?_)
      obtain ⟨k, _, rfl⟩ := List.mem_map.1 hq
      exact getE_few he _ _
theorem exprsL_few (cs : List Cl) : ∀ p ∈ exprsL cs, few p := exprsGo_few cs [] (fun _ h => by cases h)
end Go.Proofs.YticaocadeeolkaaDoor.Plain

namespace Go.Proofs.YticaocadeeolkaaDoor
open Go.RowKit Plain Go.Proofs.YticaocadeeolkaaDoorW.PrintWords Go.Proofs.YticaocadeeolkaaDoorW.PrintLast Go.Proofs.YticaocadeeolkaaDoorW.PrintMore

set_option maxHeartbeats 16000000 in
set_option maxRecDepth 100000 in
theorem opens_any (cells : List Cl) (A : Option Addr) (c : Nat) (w : World) (ht : Tabs w) (hr : Kd.C kCl w A cells.length cells) (hcn : cells.length ≤ 2199023255488) (hnm : ∀ x ∈ cells, x.name.size ≤ maxLen) :
    Calls Tryd.prog 3 #[.slice A cells.length c] w fun en w' => en = .returned (.bool true) ∧ Below w.heap.size w w' := by
  have HT := Lib.hid ht
  have HR := Lib.hid hr
  have HNM := Lib.hid hnm
  have HNM2 := Lib.hid (fun x hx => (show x.name.size ≤ 9223372036854775807 from hnm x hx))
  clear ht hr hnm
  go_enter Tryd.func3, Tryd.ntmps3
  go_wp2_with (first
    | (go_at_call 9; refine (awake_any _).mono ?_; rintro en w1 ⟨rfl, hb1⟩; have HB1 := Lib.hid hb1; clear hb1)
    | (go_at_call 10; refine (values_any cells A c w1 (Kd.C_below HR.out HB1.out) hcn HNM.out).mono ?_; rintro en w2 ⟨ts, At, ct, rfl, htl, htc, hCt, hval, hfine, hb2⟩; have HTL := Lib.hid htl; have HCT := Lib.hid hCt; have HVAL := Lib.hid hval; have HFI := Lib.hid hfine; have HB2 := Lib.hid (HB1.out.trans (hb2.mono HB1.out.size)); clear htl hCt hval hfine hb2)
    | (go_at_call 11; refine (exprs_any cells A c w2 (Kd.C_below HR.out HB2.out) hcn HNM2.out).mono ?_; rintro en w3 ⟨ve, rfl, hRe, hb3⟩; obtain ⟨Ae, ce, ee, hce, hCe⟩ := Kd.R_reads hRe; subst ee; have HCE := Lib.hid hCe; have HCT3 := Lib.hid (Kd.C_below HCT.out hb3); have HB3 := Lib.hid (HB2.out.trans (hb3.mono HB2.out.size)); clear hRe hb3 hCe))
  go_loopw [5] (fun iv wr => ∃ (i : Nat), iv = .int .i64 i ∧ i ≤ cells.length ∧ Hid (Below w3.heap.size w3 wr)) (fun iv _ => cells.length - (intOf iv).toNat)
  case atStart => exact ⟨0, rfl, by omega, Lib.hid (Below.refl _ _)⟩
  case round =>
    obtain ⟨i, rfl, hi, hB⟩ := hrel
    by_cases hlt : i < cells.length
    · obtain ⟨x, hx⟩ : ∃ x, cells[i]? = some x := ⟨_, List.getElem?_eq_getElem hlt⟩
      have hti : ts[i]? = some (ts.getD i .nil) := by rw [List.getD_eq_getElem?_getD, List.getElem?_eq_getElem (by rw [HTL.out]; exact hlt)]; rfl
      have hpi := exprsL_at cells i x hx
      have hop := open_all HVAL.out (i + 1) i x (by omega) hx
      rw [List.getD_eq_getElem?_getD (l := exprsL cells), hpi] at hop
      have hmem := List.mem_of_getElem? hpi
      have hshort := exprsL_short (M := 9223372036854775807) HNM2.out _ hmem
      have hfew := exprsL_few cells _ hmem
      obtain ⟨fi, tni⟩ := HFI.out _ (List.mem_of_getElem? hti)
      generalize exprOf (exprsL (cells.take i)) i x = p at hpi hop hmem hshort hfew
      generalize ts.getD i .nil = t at hti hop fi tni
      simp only [Option.getD_some] at hop
      obtain ⟨adt, eat, hct⟩ := tm_at HCT3.out hti
      obtain ⟨ade, Ap, cp, eae, hce1, hcp, hCp⟩ := ex_at HCE.out hpi
      subst eat
      subst eae
      have HSH : Hid (Short p) := Lib.hid ⟨by have := hshort.1; omega, fun y hy => by have := hfew y hy; omega⟩
      have hct' := nd_below hB.out hct
      have hce' := nd_below hB.out hce1
      have HCP := Lib.hid (Kd.C_below hCp hB.out)
      have hw3 := HB3.out.size
      have hlts : i < ts.length := by rw [HTL.out]; exact hlt
      have hlte : i < (exprsL cells).length := by rw [exprsL_length]; exact hlt
      by_cases hp0 : p = []
      · subst hp0
        have HO : Hid (Calls Tryd.prog 12 #[tval t] wr fun en w' => en = .returned (.tuple #[.slice none 0 0, .int .i64 1]) ∧ Below wr.heap.size wr w') := Lib.hid ((open_any t fi tni wr (HT.out.below (HB3.out.trans (hB.out.mono hw3)))).mono (fun en w' h => by
          rcases h with ⟨hb, ⟨h1, _⟩ | ⟨_, h2⟩⟩
          · exact absurd hop h1
          · exact ⟨h2, hb⟩))
        obtain ⟨wo, rfl⟩ : ∃ wo : World, wo = wr := ⟨_, rfl⟩
        simp only [List.length_nil] at hce' hcp
        have HSM : Hid (∀ w', Below wo.heap.size wo w' → Calls Tryd.prog 13 #[.slice none 0 0, .slice Ap 0 cp] w' fun en w'' => en = .returned (.bool true) ∧ Below w'.heap.size w' w'') := Lib.hid (fun w' hb => same_any [] HSH.out none Ap 0 cp w' ⟨rfl, by simp, fun h => by simp at h⟩ (by simp) (Kd.C_below HCP.out hb) hcp)
        clear hop hmem hshort hfew HCP HSH fi tni hct hce1 hCp
        go_wp2_with (first
          | (go_at_call 12; refine HO.out.mono ?_; rintro en w4 ⟨rfl, hb4⟩; have hce4 := nd_below hb4 hce'; have HB4 := Lib.hid hb4; clear hb4)
          | (go_at_call 13; refine (HSM.out _ HB4.out).mono ?_; rintro en w5 ⟨rfl, hb5⟩; have hce5 := nd_below hb5 hce4; have HB5 := Lib.hid (hB.out.trans ((HB4.out.trans (hb5.mono HB4.out.size)).mono hB.out.size)); clear hb5))
        go_roundw
        case rel => exact ⟨i + 1, by go_num, by omega, HB5⟩
        case measure => simp [intOf]; omega
      · have hp1 : 1 ≤ p.length := by cases p with | nil => exact absurd rfl hp0 | cons _ _ => simp
        have HO : Hid (Calls Tryd.prog 12 #[tval t] wr fun en w' => ∃ A4 c4, en = .returned (.tuple #[.slice A4 p.length c4, .int .i64 0]) ∧ p.length ≤ c4 ∧ Kd.C kNd w' A4 p.length p ∧ Below wr.heap.size wr w') := Lib.hid ((open_any t fi tni wr (HT.out.below (HB3.out.trans (hB.out.mono hw3)))).mono (fun en w' h => by
          rcases h with ⟨hb, ⟨h1, v, h2, hS⟩ | ⟨h1, _⟩⟩
          · rw [hop] at hS
            obtain ⟨A4, c4, rfl, hc4, hC4⟩ := Kd.S_reads hS
            exact ⟨A4, c4, h2, hc4, hC4, hb⟩
          · exact absurd (hop.symm.trans h1) hp0))
        obtain ⟨wo, rfl⟩ : ∃ wo : World, wo = wr := ⟨_, rfl⟩
        have HSM : Hid (∀ w' A4 c4, Below wo.heap.size wo w' → p.length ≤ c4 → Kd.C kNd w' A4 p.length p → Calls Tryd.prog 13 #[.slice A4 p.length c4, .slice Ap p.length cp] w' fun en w'' => en = .returned (.bool true) ∧ Below w'.heap.size w' w'') := Lib.hid (fun w' A4 c4 hb h1 h2 => same_any p HSH.out A4 Ap c4 cp w' h2 h1 (Kd.C_below HCP.out hb) hcp)
        have hpi1 : (0 : Int) < (p.length : Int) := by omega
        clear hop hmem hshort hfew HCP HSH fi tni hct hce1 hCp hp0 hpi
        go_wp2_with (first
          | (go_at_call 12; refine HO.out.mono ?_; rintro en w4 ⟨A4, c4, rfl, hc4, hC4, hb4⟩; have hce4 := nd_below hb4 hce'; have HB4 := Lib.hid hb4; have HC4 := Lib.hid hC4; clear hb4 hC4)
          | (go_at_call 13; refine (HSM.out _ _ _ HB4.out hc4 HC4.out).mono ?_; rintro en w5 ⟨rfl, hb5⟩; have hce5 := nd_below hb5 hce4; have HB5 := Lib.hid (hB.out.trans ((HB4.out.trans (hb5.mono HB4.out.size)).mono hB.out.size)); clear hb5))
        go_roundw
        case rel => exact ⟨i + 1, by go_num, by omega, HB5⟩
        case measure => simp [intOf]; omega
    · obtain ⟨wo, rfl⟩ : ∃ wo : World, wo = wr := ⟨_, rfl⟩
      have HO : Hid (Calls Tryd.prog 12 #[.nilIface] wo fun en w' => en = .returned (.tuple #[.slice none 0 0, .int .i64 1]) ∧ Below wo.heap.size wo w') := Lib.hid ((open_any .nil trivial trivial wo (HT.out.below (HB3.out.trans (hB.out.mono HB3.out.size)))).mono (fun en w' h => by
        have hn : openT .nil = [] := by decide
        rcases h with ⟨hb, ⟨h1, _⟩ | ⟨_, h2⟩⟩
        · exact absurd hn h1
        · exact ⟨h2, hb⟩))
      go_wp2_with (go_at_call 12; refine HO.out.mono ?_; rintro en w4 ⟨rfl, hb4⟩; have HB4 := Lib.hid (HB3.out.trans ((hB.out.trans (hb4.mono hB.out.size)).mono HB3.out.size)); clear hb4)
      go_ret
      exact ⟨rfl, HB4.out⟩
end Go.Proofs.YticaocadeeolkaaDoor
