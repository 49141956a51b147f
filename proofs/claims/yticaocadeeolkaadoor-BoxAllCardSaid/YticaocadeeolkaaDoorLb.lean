/-
  THE ITERATOR of box.All: its contract; box.All.
-/
import Derived.Test.YticaocadeeolkaaDoorLa
import Derived.Test.YticaocadeeolkaaDoorMG
import Derived.RangeFuncBound
import Derived.RangeFuncLeaves
import Derived.Shelf.Abstract
import Derived.Shelf.RegionOpen
import Derived.WalkKit
import Derived.OwnWalkIn
import Derived.TacticsInMore
import Derived.LoopNIn
import Derived.LoopIn
namespace Go.Proofs.YticaocadeeolkaaDoor
open Go.RowKit Plain Go.Shelf Go.Proofs.YticaocadeeolkaaDoorW.PrintWords Go.Proofs.YticaocadeeolkaaDoorW.PrintLast Go.Proofs.YticaocadeeolkaaDoorW.PrintMore
attribute [local go_sem] Oper.semAt_some

def tArgs (ts : List Tm) (k : Nat) : Array Value := #[tval (ts.getD k .nil)]
set_option maxHeartbeats 4000000 in
set_option maxRecDepth 100000 in
theorem iter_any (e : List Nd) (h64 : e.length ≤ 64) (hah : Ahead e) (g : Nat) (A : Option Addr) (c : Nat) (w : World) (hg : w.cell? ⟨g, 0, none⟩ = some (.slice A e.length c)) (hr : Kd.C kNd w A e.length e) :
    Counted Tryd.prog 50 #[.pointer (some ⟨g, 0, none⟩)] (tArgs (termsL e)) e.length w := by
  intro l B J Jx W hW hB hJ hY h0
  have hg' := nd_below hW hg
  have HR := Lib.hid (Kd.C_below hr hW)
  have HAH := Lib.hid hah
  have HY := Lib.hid hY
  have HJ := Lib.hid hJ
  have H0 := Lib.hid h0
  clear hg hr hah hY hJ h0 hW
  refine callsIn_of_wp Tryd.func50 rfl trivial ?_ rfl
  simp only [Tryd.ntmps50, List.size_toArray, List.length_cons, List.length_nil, Nat.reduceAdd, Nat.reduceSub, Array.replicate_succ, Array.replicate_zero, List.push_toArray, List.append_toArray, List.nil_append, List.cons_append]
  gi_wp2_with (refine ⟨trivial, ?_⟩; gi_at_call 41; refine (callsIn_wide.2 (terms_any e A c _ HR.out h64 HAH.out)).mono ?_; rintro en w1 ⟨v1, rfl, hR1, hb1⟩; obtain ⟨A1, c1, rfl, hc1, _⟩ := Kd.R_reads hR1; have HR1 := Lib.hid (Kd.R_mono (Kd.R_bound hR1) (ok' := fun k => W.heap.size ≤ k) (fun k hk => hk.2.1)); have HB1 := Lib.hid hb1; clear hR1 hb1)
  have htl := termsL_length e
  rw [htl] at hc1 ⊢
  have hl0 : J 0 w1 := HJ.out 0 _ _ H0.out HB1.out
  have H1 := Lib.hid hl0
  have hsW := HB1.out.size
  have HU := Lib.hid (Upper.refl W.heap.size w1)
  have HTL := Lib.hid htl
  clear hl0 htl
  gi_loopw [8] (fun iv wr => ∃ k : Nat, iv = .int .i64 k ∧ k ≤ e.length ∧ Hid (J k wr) ∧ Hid (Kd.R kTm 33 wr W.heap.size (fun k => W.heap.size ≤ k) (.slice A1 (termsL e).length c1) (termsL e))) (fun iv _ => e.length - (intOf iv).toNat)
  case atStart => exact ⟨0, rfl, by omega, H1, HR1⟩
  case round =>
    obtain ⟨k, rfl, hk, hJk, hRk⟩ := hrel
    by_cases hlt : k < e.length
    · have hx : (termsL e)[k]? = some ((termsL e).getD k .nil) := by
        rw [List.getD_eq_getElem?_getD, List.getElem?_eq_getElem (by rw [HTL.out]; exact hlt)]; rfl
      obtain ⟨ad, hA, hcell⟩ := tm_at (Kd.R_reads' hRk.out).2.2 hx
      subst hA
      obtain ⟨fn, tmps, assign, body, hy, hRd⟩ := HY.out k wr hJk.out hlt
      have HRD := Lib.hid hRd
      unfold tArgs at hy
      generalize (termsL e).getD k .nil = T at hx hcell hy
      obtain ⟨wo, rfl⟩ : ∃ wo : World, wo = wr := ⟨_, rfl⟩
      clear hRd hx
      gi_wp2
      refine HRD.out.mono ?_
      rintro en W3 (⟨rfl, hJ3, hu3⟩ | ⟨rfl, hJx3⟩)
      · have HJ3 := Lib.hid hJ3
        have HR3 := Lib.hid (Kd.R_step hRk.out (fun b hb hlt => hu3.2 b hb hlt))
        clear hJ3 hu3
        gi_wp2
        go_roundw
        case rel => exact ⟨k + 1, by go_num, by omega, HJ3, HR3⟩
        case measure => simp [intOf]; omega
      · have HX := Lib.hid hJx3
        clear hJx3
        gi_wp2
        refine bodyPost_ret (results_none rfl _ _ _) rfl ?_
        exact ⟨⟨_, rfl⟩, .inr HX.out⟩
    · obtain rfl : k = e.length := by omega
      gi_wp2
      go_end0
      exact ⟨⟨_, rfl⟩, .inl hJk.out⟩
theorem openT_ok (t : Tm) : (openT t).length ≤ 64 ∧ Ahead (openT t) := by
  have h0 : (([] : List Nd).length ≤ 64 ∧ Ahead ([] : List Nd)) := ⟨by simp, fun k x hx => by simp at hx⟩
  unfold openT
  split
  · split
    · rename_i e _ hc
      have hs := (check_iff e).1 hc
      exact ⟨hs.hi, sound_ahead hs⟩
    · exact h0
  · exact h0
def AllOk (t : Tm) (w : World) (en : Ending) (w' : World) : Prop := ∃ g A c, en = .returned (.func (.func 50) #[] #[.pointer (some ⟨g, 0, none⟩)]) ∧ w'.cell? ⟨g, 0, none⟩ = some (.slice A (openT t).length c) ∧ Kd.C kNd w' A (openT t).length (openT t) ∧ Below w.heap.size w w'
set_option maxHeartbeats 4000000 in
set_option maxRecDepth 100000 in
theorem all_any (t : Tm) (htf : tfine t) (htn : tn maxLen t) (w : World) (ht : Tabs w) :
    Calls Tryd.prog 25 #[tval t] w (AllOk t w) := by
  have HO := Lib.hid (open_any t htf htn w ht)
  have hmf : ∀ (fn : Fn) (first cap : Array Value) (w : World), (Instr.makeFunc fn first cap).run Tryd.prog w = .ok (.func fn first cap) w := fun _ _ _ _ => rfl
  clear ht htf htn
  by_cases hp : openT t = []
  · have HOE : Hid (Calls Tryd.prog 12 #[tval t] w fun en w' => en = .returned (.tuple #[.slice none 0 0, .int .i64 1]) ∧ Below w.heap.size w w') := Lib.hid (HO.out.mono (fun en w' h => by
      rcases h with ⟨hb, ⟨h1, _⟩ | ⟨_, h2⟩⟩
      · exact absurd hp h1
      · exact ⟨h2, hb⟩))
    have HP := Lib.hid hp
    clear hp HO
    go_enter Tryd.func25, Tryd.ntmps25
    go_wp2_with (go_at_call 12; refine HOE.out.mono ?_; rintro en w1 ⟨rfl, hb1⟩; have HB1 := Lib.hid hb1; have hs1 := hb1.size; clear hb1)
    go_ret
    refine ⟨w1.heap.size, none, 0, rfl, ?_, ?_, HB1.out.alloc hs1 _⟩
    · rw [HP.out]; exact blk_cell (heap_alloc_new w1 _) 0
    · rw [HP.out]; exact Kd.C_nil _ _
  · have HOE : Hid (Calls Tryd.prog 12 #[tval t] w fun en w' => ∃ A c, en = .returned (.tuple #[.slice A (openT t).length c, .int .i64 0]) ∧ Kd.C kNd w' A (openT t).length (openT t) ∧ Below w.heap.size w w') := Lib.hid (HO.out.mono (fun en w' h => by
      rcases h with ⟨hb, ⟨_, v, h2, hS⟩ | ⟨h1, _⟩⟩
      · obtain ⟨A, c, rfl, _, hC⟩ := Kd.S_reads hS
        exact ⟨A, c, h2, hC, hb⟩
      · exact absurd h1 hp))
    clear hp HO
    go_enter Tryd.func25, Tryd.ntmps25
    go_wp2_with (go_at_call 12; refine HOE.out.mono ?_; rintro en w1 ⟨A, c, rfl, hC1, hb1⟩; have HC1 := Lib.hid hC1; have HB1 := Lib.hid hb1; have hs1 := hb1.size; clear hb1 hC1)
    go_ret
    exact ⟨w1.heap.size, A, c, rfl, blk_cell (heap_alloc_new w1 _) 0, Kd.C_below HC1.out ((Below.refl _ _).alloc (Nat.le_refl _) _), HB1.out.alloc hs1 _⟩
theorem all_iter {t : Tm} {g : Nat} {A : Option Addr} {c : Nat} {w : World} (hg : w.cell? ⟨g, 0, none⟩ = some (.slice A (openT t).length c)) (hr : Kd.C kNd w A (openT t).length (openT t)) :
    Counted Tryd.prog 50 #[.pointer (some ⟨g, 0, none⟩)] (tArgs (termsL (openT t))) (openT t).length w :=
  iter_any _ (openT_ok t).1 (openT_ok t).2 g A c w hg hr
end Go.Proofs.YticaocadeeolkaaDoor
