/-
  THE WALK of box.Box, box.Open and the law's awake.
-/
import Derived.Test.YticaocadeeolkaaDoorDg
namespace Go.Proofs.YticaocadeeolkaaDoor
open Go.RowKit Plain Go.Proofs.YticaocadeeolkaaDoorW.PrintWords Go.Proofs.YticaocadeeolkaaDoorW.PrintLast Go.Proofs.YticaocadeeolkaaDoorW.PrintMore

theorem ret_two {a b c d : Value} (h : a = c) (h' : b = d) : Ending.returned (.tuple #[a, b]) = .returned (.tuple #[c, d]) := by rw [h, h']
def BoxOk (e : List Nd) (w : World) (en : Ending) (w' : World) : Prop := Below w.heap.size w w' ∧
  ((check e = true ∧ en = .returned (.tuple #[tval (termAt e (e.length - 1)), .int .i64 0])) ∨ (check e = false ∧ en = .returned (.tuple #[.nilIface, .int .i64 1])))
set_option maxHeartbeats 4000000 in
set_option maxRecDepth 100000 in
theorem box_any (e : List Nd) (A : Option Addr) (c : Nat) (w : World) (ht : Tabs w) (hr : Kd.C kNd w A e.length e) (hn : ∀ x ∈ e, x.name.size ≤ maxLen) :
    Calls Tryd.prog 14 #[.slice A e.length c] w (BoxOk e w) := by
  have HT := Lib.hid ht
  have HR := Lib.hid hr
  have HN := Lib.hid hn
  clear ht hr hn
  cases hck : check e
  · have hE : errOf (check e) = 1 := by rw [hck]; rfl
    have HCK := Lib.hid hck
    clear hck
    go_enter Tryd.func14, Tryd.ntmps14
    go_wp2_with (first | (go_at_call 39; refine (check_any e A c _ HT.out HR.out HN.out).mono ?_; rintro en w1 ⟨rfl, hb1⟩; have HB1 := Lib.hid hb1; clear hb1))
    go_ret2
    exact ⟨HB1.out, .inr ⟨HCK.out, rfl⟩⟩
  · have hE : errOf (check e) = 0 := by rw [hck]; rfl
    have HCK := Lib.hid hck
    have hs := (check_iff e).1 hck
    have h1 := hs.lo
    have h64 := hs.hi
    have HAH := Lib.hid (sound_ahead hs)
    have hsub : IntKind.i64.wrap ((e.length : Int) - 1) = ((e.length - 1 : Nat) : Int) := by rw [i64_w]; unfold wrap64; omega
    clear hck hs
    go_enter Tryd.func14, Tryd.ntmps14
    go_wp2_with (first | (go_at_call 39; refine (check_any e A c _ HT.out HR.out HN.out).mono ?_; rintro en w1 ⟨rfl, hb1⟩; have HB1 := Lib.hid hb1; clear hb1))
    go_at_call 41
    refine (terms_any e A c w1 (Kd.C_below HR.out HB1.out) h64 HAH.out).mono ?_
    rintro en w2 ⟨v, rfl, hR2, hB2⟩
    obtain ⟨A2, c2, rfl, hc2, hC2⟩ := Kd.R_reads hR2
    have htl := termsL_length e
    rw [htl] at hc2 ⊢
    obtain ⟨ad, ead, hcell⟩ := tm_at hC2 (termAt_get e (e.length - 1) (by omega))
    subst ead
    have HB2 := Lib.hid (HB1.out.trans (hB2.mono HB1.out.size))
    clear hR2 hB2 hC2 htl
    generalize hTT : termAt e (e.length - 1) = T at *
    have HTT := Lib.hid hTT
    clear hTT
    go_wp2
    go_ret2
    refine ⟨HB2.out, .inl ⟨HCK.out, ?_⟩⟩
    rw [HTT.out]
    rfl

def OpenOk (t : Tm) (w : World) (en : Ending) (w' : World) : Prop := Below w.heap.size w w' ∧
  ((openT t ≠ [] ∧ ∃ v, en = .returned (.tuple #[v, .int .i64 0]) ∧ Kd.S kNd 96 w' w.heap.size (fun _ => True) v (openT t)) ∨ (openT t = [] ∧ en = .returned (.tuple #[.slice none 0 0, .int .i64 1])))
set_option maxHeartbeats 4000000 in
set_option maxRecDepth 100000 in
theorem open_any (t : Tm) (htf : tfine t) (htn : tn maxLen t) (w : World) (ht : Tabs w) :
    Calls Tryd.prog 12 #[tval t] w (OpenOk t w) := by
  have HT := Lib.hid ht
  have HTF := Lib.hid htf
  have HTN := Lib.hid htn
  clear ht htf htn
  go_enter Tryd.func12, Tryd.ntmps12
  have hlc := lay_any t HTF.out w.heap.size w.heap.size (fun k => w.heap.size ≤ k) (.slice none 0 0) [] (w.alloc (.cells #[.slice none 0 0] 100)) (heap_alloc_new w _) (Nat.le_refl _) (Kd.S_nil _ _ _ _ _) (fun k hk => by simp at hk; omega) (by simp)
  have hba : Below w.heap.size w (w.alloc (.cells #[.slice none 0 0] 100)) := (Below.refl _ _).alloc (Nat.le_refl _) _
  cases hly : lay t [] with
  | none =>
    have HL := Lib.hid (hlc.mono (R' := fun en w1 => en = .returned (.bool false) ∧ Below w.heap.size w w1) (fun en w1 h => by
      rcases h with ⟨v1, l1, h1, _⟩ | ⟨_, h2, h3⟩
      · rw [hly] at h1; cases h1
      · exact ⟨h2, hba.trans h3⟩))
    have HO : Hid (openT t = []) := Lib.hid (open_none hly)
    clear hlc hly hba
    go_wp2_with (first | (go_at_call 38; refine HL.out.mono ?_; rintro en w1 ⟨rfl, hb1⟩; have HB1 := Lib.hid hb1; clear hb1))
    go_ret2
    exact ⟨HB1.out, .inr ⟨HO.out, rfl⟩⟩
  | some l1 =>
    have HL := Lib.hid (hlc.mono (R' := fun en w1 => ∃ A1 c1, en = .returned (.bool true) ∧ w1.cell? ⟨w.heap.size, 0, none⟩ = some (.slice A1 l1.length c1) ∧ Kd.S kNd 96 w1 w.heap.size (fun _ => True) (.slice A1 l1.length c1) l1 ∧ Below w.heap.size w w1 ∧ w.heap.size < w1.heap.size) (fun en w1 h => by
      rcases h with ⟨v1, l2, h1, h2, hG1, hS1, _, hF1⟩ | ⟨h1, _⟩
      · rw [hly] at h1; cases h1
        obtain ⟨A1, c1, rfl, hc1, hC1⟩ := Kd.S_reads hS1
        exact ⟨A1, c1, h2, blk_cell hG1 0, Kd.S_mono hS1 (fun _ _ => trivial), hba.trans hF1.below, World.block_lt_of_cell? w1 _ (blk_cell hG1 0)⟩
      · rw [hly] at h1; cases h1))
    have HN1 := Lib.hid (lay_names t [] l1 HTN.out (fun _ h => by cases h) hly)
    have hl1 := (lay_len hly).1
    have HLY := Lib.hid hly
    clear hlc hly hba
    cases hck : check l1
    · have hE : errOf (check l1) = 1 := by rw [hck]; rfl
      have HO : Hid (openT t = []) := Lib.hid (by unfold openT; rw [HLY.out]; simp [hck])
      clear hck
      go_wp2_with (first | (go_at_call 38; refine HL.out.mono ?_; rintro en w1 ⟨A1, c1, rfl, gcell, hS1, hb1, hgw1⟩; have HB1 := Lib.hid hb1; have HS1 := Lib.hid hS1; clear hb1 hS1) | (go_at_call 39; refine (check_any l1 A1 c1 _ (HT.out.below HB1.out) (Kd.S_reads' HS1.out).2.2 HN1.out).mono ?_; rintro en w2 ⟨rfl, hb2⟩; have HB2 := Lib.hid hb2; clear hb2))
      go_ret2
      exact ⟨HB1.out.trans (HB2.out.mono HB1.out.size), .inr ⟨HO.out, rfl⟩⟩
    · have hE : errOf (check l1) = 0 := by rw [hck]; rfl
      have HO : Hid (openT t = l1) := Lib.hid (by unfold openT; rw [HLY.out]; simp [hck])
      clear hck
      go_wp2_with (first | (go_at_call 38; refine HL.out.mono ?_; rintro en w1 ⟨A1, c1, rfl, gcell, hS1, hb1, hgw1⟩; have HB1 := Lib.hid hb1; have HS1 := Lib.hid hS1; clear hb1 hS1) | (go_at_call 39; refine (check_any l1 A1 c1 _ (HT.out.below HB1.out) (Kd.S_reads' HS1.out).2.2 HN1.out).mono ?_; rintro en w2 ⟨rfl, hb2⟩; have hb := bcell hb2; obtain ⟨gc2, gf2⟩ := hb; have HB2 := Lib.hid hb2; clear hb2))
      go_ret2
      refine ⟨HB1.out.trans (HB2.out.mono HB1.out.size), .inl ⟨?_, _, rfl, ?_⟩⟩
      · rw [HO.out]; intro h; rw [h] at hl1; simp at hl1
      · rw [HO.out]; exact Kd.S_below HS1.out HB2.out

set_option maxHeartbeats 4000000 in
theorem awake_any (w : World) : Calls Tryd.prog 9 #[] w fun en w' => en = .returned (.bool true) ∧ Below w.heap.size w w' := by
  have h1 := fun w => lit_any (.lit 5) trivial w
  have h2 := fun w => op_any (.var ⟨#[97]⟩) trivial w
  unfold tval at h1 h2
  have H1 := Lib.hid h1
  have H2 := Lib.hid h2
  clear h1 h2
  go_enter Tryd.func9, Tryd.ntmps9
  go_wp2_with (first | (go_at_call 33; refine (H1.out _).mono ?_; rintro en w1 ⟨rfl, hb1⟩; unfold numOf isLit; have HB1 := Lib.hid hb1; clear hb1) | (go_at_call 34; refine (H2.out _).mono ?_; rintro en w2 ⟨rfl, hb2⟩; unfold opOf; have HB2 := Lib.hid hb2; clear hb2))
  go_ret
  exact ⟨rfl, HB1.out.trans (HB2.out.mono HB1.out.size)⟩
end Go.Proofs.YticaocadeeolkaaDoor
