/-
  THE LAW MachinePrefix, walked. (Laid by gen_jl.py.)
-/
import Derived.Test.YticaocadeeolkaaDoorJk
namespace Go.Proofs.YticaocadeeolkaaDoor
open Go.RowKit Plain Go.Proofs.YticaocadeeolkaaDoorW.PrintWords Go.Proofs.YticaocadeeolkaaDoorW.PrintLast Go.Proofs.YticaocadeeolkaaDoorW.PrintMore

theorem one_C {W : World} {g : Nat} {x : Cm} (h : W.heap[g]? = some (.cells #[.int .i64 x.kind, .int .i64 x.r, .int .i64 x.tgt, .int .i64 x.op, .int .i64 x.n, .string x.name] 75 (0, 0))) : Kd.C kCm W (some ⟨g, 0, none⟩) 1 [x] := by
  refine ⟨rfl, by decide, fun _ => ⟨_, rfl, fun j p hj => ?_⟩⟩
  have hj0 : j = 0 := by
    have := (List.getElem?_eq_some_iff.1 hj).1
    simp at this; exact this
  subst hj0
  have hp : p = x := by simpa using hj.symm
  subst hp
  refine ⟨_, rfl, kCm_mkK W p, fun i u hu => ?_⟩
  have hc := blk_cell h i
  have ha : (⟨g, 0, none⟩ : Addr).add (0 * kCm.sz + i) = ⟨g, i, none⟩ := by
    simp [Addr.add]
    exact fun h => h.symm
  rw [ha, hc]
  simpa using hu
set_option maxHeartbeats 16000000 in
set_option maxRecDepth 100000 in
theorem prefix_any (p : List Cm) (holes : Int) (A A2 A3 : Option Addr) (c n2 c2 n3 c3 : Nat) (k4 : Int) (w : World) (ht : Tabs w) (hr : Kd.C kCm w A p.length p) (hc : p.length ≤ c) (hnm : ∀ x ∈ p, x.name.size ≤ maxLen) (hl : p.length ≤ 2513169434843) :
    Calls Tryd.prog 8 #[.agg #[.slice A p.length c, .int .i64 holes, .slice A2 n2 c2, .slice A3 n3 c3, .int .i64 k4]] w fun en w' => en = .returned (.bool true) ∧ Below w.heap.size w w' := by
  have HT := Lib.hid ht
  have HR := Lib.hid hr
  have HNM := Lib.hid hnm
  clear ht hr hnm
  cases hck : mcheck p holes
  · have hE : errOf (mcheck p holes) = 1 := by rw [hck]; rfl
    have HCK := Lib.hid hck
    clear hck
    go_enter Tryd.func8, Tryd.ntmps8
    go_wp2_with fail
    have hBX : (w.alloc (.cells #[.slice A p.length c, .int .i64 holes, .slice A2 n2 c2, .slice A3 n3 c3, .int .i64 k4] 72)).heap[w.heap.size]? = some (.cells #[.slice A p.length c, .int .i64 holes, .slice A2 n2 c2, .slice A3 n3 c3, .int .i64 k4] 72 (0, 0)) := heap_alloc_new w _
    have HB1 := Lib.hid ((Below.refl w.heap.size w).alloc (Nat.le_refl _) (.cells #[.slice A p.length c, .int .i64 holes, .slice A2 n2 c2, .slice A3 n3 c3, .int .i64 k4] 72))
    have hw1 : w.heap.size < (w.alloc (.cells #[.slice A p.length c, .int .i64 holes, .slice A2 n2 c2, .slice A3 n3 c3, .int .i64 k4] 72)).heap.size := by simp
    have HBX := Lib.hid hBX
    clear hBX
    generalize w.alloc (.cells #[.slice A p.length c, .int .i64 holes, .slice A2 n2 c2, .slice A3 n3 c3, .int .i64 k4] 72) = W1 at HB1 hw1 HBX ⊢
    refine start_ (n := 11) (S := fun w' => w'.cell? ⟨w.heap.size, 0, none⟩ = some (.slice A p.length c) ∧ w'.cell? ⟨w.heap.size, 1, none⟩ = some (.int .i64 holes)) (ds := []) #[false, false, false, false, false, false, false, false, false, false, false] (by kernel_rfl) rfl rfl ⟨blk_cell HBX.out 0, blk_cell HBX.out 1⟩ (fun hHeld => ?_)
    have HB2 : Hid (Below w.heap.size w W1.drew) := Lib.hid (below_drew HB1.out)
    have hw2 : w.heap.size < W1.drew.heap.size := hw1
    clear HB1 hw1 HBX
    generalize W1.drew = W2 at hHeld HB2 hw2 ⊢
    refine one_ (i := 0) (N := some 6) #[true, false, false, false, false, false, false, false, false, false, false] rfl rfl (by kernel_rfl) (by decide) (fun K hK => ?_)
    refine goes_ Tryd.func26 (by kernel_rfl) rfl #[] (by rfl) rfl rfl (by (try simp only [List.map_toArray, List.map_nil]); first | done | rfl) ?_
    refine (awake15_any _ (HT.out.below HB2.out)).mono ?_
    rintro en w3 ⟨rfl, hb3⟩
    have HB3 := Lib.hid (HB2.out.trans (hb3.mono HB2.out.size))
    have hw3 : w.heap.size < w3.heap.size := Nat.lt_of_lt_of_le hw2 hb3.size
    refine ⟨_, rfl, ?_⟩
    refine hK.out _ _ ⟨nd_below hb3 hHeld.1, nd_below hb3 hHeld.2⟩ (fun hHeld => ?_)
    clear hK K
    refine norm_ (a' := ?_) ?_ ?_
    rotate_left
    · show Act.put _ (some 6) _ = _
      simp only [Act.put, List.setIfInBounds_toArray, List.set_cons_zero, List.set_cons_succ]
      rfl
    clear hb3 HB2 hw2
    refine pure_ (i := 1) (N := some 7) (v := ?_) (a' := ?_) #[true, true, false, false, false, false, false, false, false, false, false] rfl rfl (by kernel_rfl) (fun _ _ _ h => h) (Or.inl ⟨by rfl, ?_⟩) ?_ ?_
    rotate_left
    · intro w'
      go_simp
      with_reducible rfl
    rotate_left
    · simp only [Act.put, List.setIfInBounds_toArray, List.set_cons_zero, List.set_cons_succ]
      rfl
    refine pure_ (i := 2) (N := some 8) (v := ?_) (a' := ?_) #[true, true, true, false, false, false, false, false, false, false, false] rfl rfl (by kernel_rfl) (fun _ _ _ h => h) (Or.inl ⟨by rfl, ?_⟩) ?_ ?_
    rotate_left
    · intro w'
      go_simp
      with_reducible rfl
    rotate_left
    · simp only [Act.put, List.setIfInBounds_toArray, List.set_cons_zero, List.set_cons_succ]
      rfl
    refine pure_ (i := 3) (N := some 9) (v := ?_) (a' := ?_) #[true, true, true, true, false, false, false, false, false, false, false] rfl rfl (by kernel_rfl) (fun _ _ _ h => h) (Or.inl ⟨by rfl, ?_⟩) ?_ ?_
    rotate_left
    · intro w'
      go_simp
      with_reducible rfl
    rotate_left
    · simp only [Act.put, List.setIfInBounds_toArray, List.set_cons_zero, List.set_cons_succ]
      rfl
    refine take_ (i := 4) (N := some 10) (v := ?_) (a' := ?_) #[true, true, true, true, true, false, false, false, false, false, false] rfl rfl (by kernel_rfl) (fun _ _ _ h => h) (Or.inl ⟨by rfl, ?_⟩) hHeld ?_ ?_
    rotate_left
    · rintro w' ⟨s0, s1⟩
      go_simp
      with_reducible rfl
    rotate_left
    · simp only [Act.put, List.setIfInBounds_toArray, List.set_cons_zero, List.set_cons_succ]
      rfl
    refine pure_ (i := 6) (N := some 12) (v := ?_) (a' := ?_) #[true, true, true, true, true, false, true, false, false, false, false] rfl rfl (by kernel_rfl) (fun _ _ _ h => h) (Or.inl ⟨by rfl, ?_⟩) ?_ ?_
    rotate_left
    · intro w'
      go_simp
      with_reducible rfl
    rotate_left
    · simp only [Act.put, List.setIfInBounds_toArray, List.set_cons_zero, List.set_cons_succ]
      rfl
    refine take_ (i := 7) (N := some 13) (v := ?_) (a' := ?_) #[true, true, true, true, true, false, true, true, false, false, false] rfl rfl (by kernel_rfl) (fun _ _ _ h => h) (Or.inl ⟨by rfl, ?_⟩) hHeld ?_ ?_
    rotate_left
    · rintro w' ⟨s0, s1⟩
      go_simp
      with_reducible rfl
    rotate_left
    · simp only [Act.put, List.setIfInBounds_toArray, List.set_cons_zero, List.set_cons_succ]
      rfl
    refine one_ (i := 5) (N := some 11) #[true, true, true, true, true, true, true, true, false, false, false] rfl rfl (by kernel_rfl) (by decide) (fun K hK => ?_)
    refine goes_ Tryd.func32 (by kernel_rfl) rfl #[.slice A p.length c] (by rfl) rfl rfl (by (try simp only [List.map_toArray, List.map_cons, List.map_nil]); first | done | rfl) ?_
    refine (copied_any p A c w3 (Kd.C_below HR.out HB3.out) hl).mono ?_
    rintro en w4 ⟨v4, rfl, hR4, hb4⟩
    obtain ⟨A4, c4, rfl, hc4, hC4⟩ := Kd.R_reads hR4
    have HC4 := Lib.hid hC4
    have HB4 := Lib.hid (HB3.out.trans (hb4.mono HB3.out.size))
    have hw4 : w.heap.size < w4.heap.size := Nat.lt_of_lt_of_le hw3 hb4.size
    refine ⟨_, rfl, ?_⟩
    refine hK.out _ _ ⟨nd_below hb4 hHeld.1, nd_below hb4 hHeld.2⟩ (fun hHeld => ?_)
    clear hK K
    refine norm_ (a' := ?_) ?_ ?_
    rotate_left
    · show Act.put _ (some 11) _ = _
      simp only [Act.put, List.setIfInBounds_toArray, List.set_cons_zero, List.set_cons_succ]
      rfl
    clear hb4 hR4 hC4 HB3 hw3
    refine one_ (i := 8) (N := some 14) #[true, true, true, true, true, true, true, true, true, false, false] rfl rfl (by kernel_rfl) (by decide) (fun K hK => ?_)
    refine goes_ Tryd.func31 (by kernel_rfl) rfl #[.slice A4 p.length c4, .int .i64 holes] (by rfl) rfl rfl (by (try simp only [List.map_toArray, List.map_cons, List.map_nil]); first | done | rfl) ?_
    refine (mc_any p holes A4 c4 w4 (HT.out.below HB4.out) HC4.out HNM.out).mono ?_
    rintro en w5 ⟨rfl, hb5⟩
    have HB5 := Lib.hid (HB4.out.trans (hb5.mono HB4.out.size))
    have hw5 : w.heap.size < w5.heap.size := Nat.lt_of_lt_of_le hw4 hb5.size
    rw [hE]
    refine ⟨_, rfl, ?_⟩
    refine hK.out _ _ ⟨nd_below hb5 hHeld.1, nd_below hb5 hHeld.2⟩ (fun hHeld => ?_)
    clear hK K
    refine norm_ (a' := ?_) ?_ ?_
    rotate_left
    · show Act.put _ (some 14) _ = _
      simp only [Act.put, List.setIfInBounds_toArray, List.set_cons_zero, List.set_cons_succ]
      rfl
    clear hb5 HC4 HB4 hw4
    refine pure_ (i := 9) (N := some 15) (v := ?_) (a' := ?_) #[true, true, true, true, true, true, true, true, true, true, false] rfl rfl (by kernel_rfl) (fun _ _ _ h => h) (Or.inl ⟨by rfl, ?_⟩) ?_ ?_
    rotate_left
    · intro w'
      go_simp
      with_reducible rfl
    rotate_left
    · simp only [Act.put, List.setIfInBounds_toArray, List.set_cons_zero, List.set_cons_succ]
      rfl
    refine pure_ (i := 10) (N := some 16) (v := ?_) (a' := ?_) #[true, true, true, true, true, true, true, true, true, true, true] rfl rfl (by kernel_rfl) (fun _ _ _ h => h) (Or.inl ⟨by rfl, ?_⟩) ?_ ?_
    rotate_left
    · intro w'
      go_simp
      with_reducible rfl
    rotate_left
    · simp only [Act.put, List.setIfInBounds_toArray, List.set_cons_zero, List.set_cons_succ]
      rfl
    refine done_ (by kernel_rfl) ?_
    clear hHeld
    go_wp2_with (go_at_call 26; refine (awake15_any _ (HT.out.below HB5.out)).mono ?_; rintro en w6 ⟨rfl, hb6⟩; have HB6 := Lib.hid (HB5.out.trans (hb6.mono HB5.out.size)); clear hb6)
    go_ret
    exact ⟨rfl, HB6.out⟩
  · have hE : errOf (mcheck p holes) = 0 := by rw [hck]; rfl
    have HCK := Lib.hid hck
    clear hck
    go_enter Tryd.func8, Tryd.ntmps8
    go_wp2_with fail
    have hBX : (w.alloc (.cells #[.slice A p.length c, .int .i64 holes, .slice A2 n2 c2, .slice A3 n3 c3, .int .i64 k4] 72)).heap[w.heap.size]? = some (.cells #[.slice A p.length c, .int .i64 holes, .slice A2 n2 c2, .slice A3 n3 c3, .int .i64 k4] 72 (0, 0)) := heap_alloc_new w _
    have HB1 := Lib.hid ((Below.refl w.heap.size w).alloc (Nat.le_refl _) (.cells #[.slice A p.length c, .int .i64 holes, .slice A2 n2 c2, .slice A3 n3 c3, .int .i64 k4] 72))
    have hw1 : w.heap.size < (w.alloc (.cells #[.slice A p.length c, .int .i64 holes, .slice A2 n2 c2, .slice A3 n3 c3, .int .i64 k4] 72)).heap.size := by simp
    have HBX := Lib.hid hBX
    clear hBX
    generalize w.alloc (.cells #[.slice A p.length c, .int .i64 holes, .slice A2 n2 c2, .slice A3 n3 c3, .int .i64 k4] 72) = W1 at HB1 hw1 HBX ⊢
    refine start_ (n := 11) (S := fun w' => w'.cell? ⟨w.heap.size, 0, none⟩ = some (.slice A p.length c) ∧ w'.cell? ⟨w.heap.size, 1, none⟩ = some (.int .i64 holes)) (ds := []) #[false, false, false, false, false, false, false, false, false, false, false] (by kernel_rfl) rfl rfl ⟨blk_cell HBX.out 0, blk_cell HBX.out 1⟩ (fun hHeld => ?_)
    have HB2 : Hid (Below w.heap.size w W1.drew) := Lib.hid (below_drew HB1.out)
    have hw2 : w.heap.size < W1.drew.heap.size := hw1
    clear HB1 hw1 HBX
    generalize W1.drew = W2 at hHeld HB2 hw2 ⊢
    refine one_ (i := 0) (N := some 6) #[true, false, false, false, false, false, false, false, false, false, false] rfl rfl (by kernel_rfl) (by decide) (fun K hK => ?_)
    refine goes_ Tryd.func26 (by kernel_rfl) rfl #[] (by rfl) rfl rfl (by (try simp only [List.map_toArray, List.map_nil]); first | done | rfl) ?_
    refine (awake15_any _ (HT.out.below HB2.out)).mono ?_
    rintro en w3 ⟨rfl, hb3⟩
    have HB3 := Lib.hid (HB2.out.trans (hb3.mono HB2.out.size))
    have hw3 : w.heap.size < w3.heap.size := Nat.lt_of_lt_of_le hw2 hb3.size
    refine ⟨_, rfl, ?_⟩
    refine hK.out _ _ ⟨nd_below hb3 hHeld.1, nd_below hb3 hHeld.2⟩ (fun hHeld => ?_)
    clear hK K
    refine norm_ (a' := ?_) ?_ ?_
    rotate_left
    · show Act.put _ (some 6) _ = _
      simp only [Act.put, List.setIfInBounds_toArray, List.set_cons_zero, List.set_cons_succ]
      rfl
    clear hb3 HB2 hw2
    refine pure_ (i := 1) (N := some 7) (v := ?_) (a' := ?_) #[true, true, false, false, false, false, false, false, false, false, false] rfl rfl (by kernel_rfl) (fun _ _ _ h => h) (Or.inl ⟨by rfl, ?_⟩) ?_ ?_
    rotate_left
    · intro w'
      go_simp
      with_reducible rfl
    rotate_left
    · simp only [Act.put, List.setIfInBounds_toArray, List.set_cons_zero, List.set_cons_succ]
      rfl
    refine pure_ (i := 2) (N := some 8) (v := ?_) (a' := ?_) #[true, true, true, false, false, false, false, false, false, false, false] rfl rfl (by kernel_rfl) (fun _ _ _ h => h) (Or.inl ⟨by rfl, ?_⟩) ?_ ?_
    rotate_left
    · intro w'
      go_simp
      with_reducible rfl
    rotate_left
    · simp only [Act.put, List.setIfInBounds_toArray, List.set_cons_zero, List.set_cons_succ]
      rfl
    refine pure_ (i := 3) (N := some 9) (v := ?_) (a' := ?_) #[true, true, true, true, false, false, false, false, false, false, false] rfl rfl (by kernel_rfl) (fun _ _ _ h => h) (Or.inl ⟨by rfl, ?_⟩) ?_ ?_
    rotate_left
    · intro w'
      go_simp
      with_reducible rfl
    rotate_left
    · simp only [Act.put, List.setIfInBounds_toArray, List.set_cons_zero, List.set_cons_succ]
      rfl
    refine take_ (i := 4) (N := some 10) (v := ?_) (a' := ?_) #[true, true, true, true, true, false, false, false, false, false, false] rfl rfl (by kernel_rfl) (fun _ _ _ h => h) (Or.inl ⟨by rfl, ?_⟩) hHeld ?_ ?_
    rotate_left
    · rintro w' ⟨s0, s1⟩
      go_simp
      with_reducible rfl
    rotate_left
    · simp only [Act.put, List.setIfInBounds_toArray, List.set_cons_zero, List.set_cons_succ]
      rfl
    refine pure_ (i := 6) (N := some 12) (v := ?_) (a' := ?_) #[true, true, true, true, true, false, true, false, false, false, false] rfl rfl (by kernel_rfl) (fun _ _ _ h => h) (Or.inl ⟨by rfl, ?_⟩) ?_ ?_
    rotate_left
    · intro w'
      go_simp
      with_reducible rfl
    rotate_left
    · simp only [Act.put, List.setIfInBounds_toArray, List.set_cons_zero, List.set_cons_succ]
      rfl
    refine take_ (i := 7) (N := some 13) (v := ?_) (a' := ?_) #[true, true, true, true, true, false, true, true, false, false, false] rfl rfl (by kernel_rfl) (fun _ _ _ h => h) (Or.inl ⟨by rfl, ?_⟩) hHeld ?_ ?_
    rotate_left
    · rintro w' ⟨s0, s1⟩
      go_simp
      with_reducible rfl
    rotate_left
    · simp only [Act.put, List.setIfInBounds_toArray, List.set_cons_zero, List.set_cons_succ]
      rfl
    refine one_ (i := 5) (N := some 11) #[true, true, true, true, true, true, true, true, false, false, false] rfl rfl (by kernel_rfl) (by decide) (fun K hK => ?_)
    refine goes_ Tryd.func32 (by kernel_rfl) rfl #[.slice A p.length c] (by rfl) rfl rfl (by (try simp only [List.map_toArray, List.map_cons, List.map_nil]); first | done | rfl) ?_
    refine (copied_any p A c w3 (Kd.C_below HR.out HB3.out) hl).mono ?_
    rintro en w4 ⟨v4, rfl, hR4, hb4⟩
    obtain ⟨A4, c4, rfl, hc4, hC4⟩ := Kd.R_reads hR4
    have HC4 := Lib.hid hC4
    have HB4 := Lib.hid (HB3.out.trans (hb4.mono HB3.out.size))
    have hw4 : w.heap.size < w4.heap.size := Nat.lt_of_lt_of_le hw3 hb4.size
    refine ⟨_, rfl, ?_⟩
    refine hK.out _ _ ⟨nd_below hb4 hHeld.1, nd_below hb4 hHeld.2⟩ (fun hHeld => ?_)
    clear hK K
    refine norm_ (a' := ?_) ?_ ?_
    rotate_left
    · show Act.put _ (some 11) _ = _
      simp only [Act.put, List.setIfInBounds_toArray, List.set_cons_zero, List.set_cons_succ]
      rfl
    clear hb4 hR4 hC4 HB3 hw3
    refine one_ (i := 8) (N := some 14) #[true, true, true, true, true, true, true, true, true, false, false] rfl rfl (by kernel_rfl) (by decide) (fun K hK => ?_)
    refine goes_ Tryd.func31 (by kernel_rfl) rfl #[.slice A4 p.length c4, .int .i64 holes] (by rfl) rfl rfl (by (try simp only [List.map_toArray, List.map_cons, List.map_nil]); first | done | rfl) ?_
    refine (mc_any p holes A4 c4 w4 (HT.out.below HB4.out) HC4.out HNM.out).mono ?_
    rintro en w5 ⟨rfl, hb5⟩
    have HB5 := Lib.hid (HB4.out.trans (hb5.mono HB4.out.size))
    have hw5 : w.heap.size < w5.heap.size := Nat.lt_of_lt_of_le hw4 hb5.size
    rw [hE]
    refine ⟨_, rfl, ?_⟩
    refine hK.out _ _ ⟨nd_below hb5 hHeld.1, nd_below hb5 hHeld.2⟩ (fun hHeld => ?_)
    clear hK K
    refine norm_ (a' := ?_) ?_ ?_
    rotate_left
    · show Act.put _ (some 14) _ = _
      simp only [Act.put, List.setIfInBounds_toArray, List.set_cons_zero, List.set_cons_succ]
      rfl
    clear hb5 HC4 HB4 hw4
    refine pure_ (i := 9) (N := some 15) (v := ?_) (a' := ?_) #[true, true, true, true, true, true, true, true, true, true, false] rfl rfl (by kernel_rfl) (fun _ _ _ h => h) (Or.inl ⟨by rfl, ?_⟩) ?_ ?_
    rotate_left
    · intro w'
      go_simp
      with_reducible rfl
    rotate_left
    · simp only [Act.put, List.setIfInBounds_toArray, List.set_cons_zero, List.set_cons_succ]
      rfl
    refine pure_ (i := 10) (N := some 16) (v := ?_) (a' := ?_) #[true, true, true, true, true, true, true, true, true, true, true] rfl rfl (by kernel_rfl) (fun _ _ _ h => h) (Or.inl ⟨by rfl, ?_⟩) ?_ ?_
    rotate_left
    · intro w'
      go_simp
      with_reducible rfl
    rotate_left
    · simp only [Act.put, List.setIfInBounds_toArray, List.set_cons_zero, List.set_cons_succ]
      rfl
    refine done_ (by kernel_rfl) ?_
    have HB6 := HB5
    have hb0 := hHeld.1
    have hb1 := hHeld.2
    have HB0 := Lib.hid hb0
    have HB01 := Lib.hid hb1
    have hml := (mcheck_run HCK.out).2.2.1
    have hmh := (mcheck_run HCK.out).1
    clear hHeld hE HB5
    go_wp2_with fail
    go_loopw [3, 4] (fun tv iv wr => ∃ (i t : Nat), iv = .int .i64 i ∧ tv = .int .i64 t ∧ i ≤ p.length + 1 ∧ t ≤ i ∧ Hid (t = takes (p.take i)) ∧ Hid (wr.cell? ⟨w.heap.size, 0, none⟩ = some (.slice A p.length c) ∧ wr.cell? ⟨w.heap.size, 1, none⟩ = some (.int .i64 holes)) ∧ Hid (Below w.heap.size w wr) ∧ w.heap.size < wr.heap.size) (fun _ iv _ => p.length + 1 - (intOf iv).toNat)
    case atStart => exact ⟨0, 0, rfl, rfl, by omega, by omega, Lib.hid rfl, Lib.hid ⟨HB0.out, HB01.out⟩, HB6, hw5⟩
    case round =>
      obtain ⟨i, t, rfl, rfl, hi, hti, hT, hBX, hB, hww⟩ := hrel
      obtain ⟨wo, rfl⟩ : ∃ wo : World, wo = wr := ⟨_, rfl⟩
      have b0 := hBX.out.1
      have b1 := hBX.out.2
      by_cases hle : i ≤ p.length
      · have hlen : (p.take i).length = i := by rw [List.length_take]; omega
        have hCt := Kd.C_take (Kd.C_below HR.out hB.out) hle
        rw [hlen] at hCt
        have HCT := Lib.hid hCt
        have HPL := Lib.hid (prefix_law HCK.out hle)
        have hic : (i : Int) ≤ (c : Int) := by omega
        obtain ⟨ti, hti', _⟩ := Option.map_eq_some_iff.1 infoCm
        have hsl := cut_to (P := Tryd.prog) 61 75 .i64 Tryd.underlying61 hti' A p.length c (i : Int) (by omega) (by omega) hc
        rw [Int.toNat_natCast] at hsl
        clear hti'
        have HNT : Hid (∀ x ∈ p.take i, x.name.size ≤ maxLen) := Lib.hid (fun x hx => HNM.out x (List.mem_of_mem_take hx))
        have HCOP : Hid (∀ w', Below w.heap.size w w' → Calls Tryd.prog 32 #[.slice A i c] w' fun en w'' => ∃ v, en = .returned v ∧ Kd.R kCm 75 w'' w'.heap.size (fun _ => True) v (p.take i) ∧ Below w'.heap.size w' w'') := Lib.hid (fun w' hb => by
          have hlen : (p.take i).length = i := by rw [List.length_take]; omega
          have h1 := copied_any (p.take i) A c w' (Kd.C_take (Kd.C_below HR.out hb) hle) (by omega)
          rwa [hlen] at h1)
        go_wp2_with fail
        go_upto_region 7 with fail
        go_cut [38] (fun v38 wx => v38 = .bool false ∧ Hid (wx.cell? ⟨w.heap.size, 0, none⟩ = some (.slice A p.length c) ∧ wx.cell? ⟨w.heap.size, 1, none⟩ = some (.int .i64 holes)) ∧ Hid (Below w.heap.size w wx) ∧ w.heap.size < wx.heap.size)
        case first =>
          by_cases hth : (t : Int) = holes
          · have d1 : ((t : Int) == holes) = true := beq_iff_eq.2 hth
            have hE : errOf (mcheck (p.take i) holes) = 0 := by rw [HPL.out, ← hT.out, decide_eq_true hth]; rfl
            clear hth
            go_wp2_with fail
            refine start_ (n := 14) (S := fun w' => w'.cell? ⟨w.heap.size, 0, none⟩ = some (.slice A p.length c) ∧ w'.cell? ⟨w.heap.size, 1, none⟩ = some (.int .i64 holes)) (ds := []) #[false, false, false, false, false, false, false, false, false, false, false, false, false, false] (by kernel_rfl) rfl rfl ⟨b0, b1⟩ (fun hHeld => ?_)
            have HB2 : Hid (Below w.heap.size w wo.drew) := Lib.hid (below_drew hB.out)
            have hw2 : w.heap.size < wo.drew.heap.size := hww
            have HW2 : Hid (Below wo.heap.size wo wo.drew) := Lib.hid (below_drew (Below.refl _ _))
            clear b0 b1
            obtain ⟨W2, hW2⟩ : ∃ W2, W2 = wo.drew := ⟨_, rfl⟩
            rw [← hW2] at hHeld HB2 hw2 HW2 ⊢
            clear hW2
            refine pure_ (i := 0) (N := some 25) (v := ?_) (a' := ?_) #[true, false, false, false, false, false, false, false, false, false, false, false, false, false] rfl rfl (by kernel_rfl) (fun _ _ _ h => h) (Or.inl ⟨by rfl, ?_⟩) ?_ ?_
            rotate_left
            · intro w'
              go_simp
              with_reducible rfl
            rotate_left
            · simp only [Act.put, List.setIfInBounds_toArray, List.set_cons_zero, List.set_cons_succ]
              rfl
            refine take_ (i := 1) (N := some 26) (v := ?_) (a' := ?_) #[true, true, false, false, false, false, false, false, false, false, false, false, false, false] rfl rfl (by kernel_rfl) (fun _ _ _ h => h) (Or.inl ⟨by rfl, ?_⟩) hHeld ?_ ?_
            rotate_left
            · rintro w' ⟨s0, s1⟩
              go_simp
              with_reducible rfl
            rotate_left
            · simp only [Act.put, List.setIfInBounds_toArray, List.set_cons_zero, List.set_cons_succ]
              rfl
            refine pure_ (i := 2) (N := some 27) (v := ?_) (a' := ?_) #[true, true, true, false, false, false, false, false, false, false, false, false, false, false] rfl rfl (by kernel_rfl) (fun _ _ _ h => h) (Or.inl ⟨by rfl, ?_⟩) ?_ ?_
            rotate_left
            · intro w'
              go_simp
              with_reducible rfl
            rotate_left
            · simp only [Act.put, List.setIfInBounds_toArray, List.set_cons_zero, List.set_cons_succ]
              rfl
            refine pure_ (i := 3) (N := some 28) (v := ?_) (a' := ?_) #[true, true, true, true, false, false, false, false, false, false, false, false, false, false] rfl rfl (by kernel_rfl) (fun _ _ _ h => h) (Or.inl ⟨by rfl, ?_⟩) ?_ ?_
            rotate_left
            · intro w'
              go_simp
              with_reducible rfl
            rotate_left
            · simp only [Act.put, List.setIfInBounds_toArray, List.set_cons_zero, List.set_cons_succ]
              rfl
            refine pure_ (i := 5) (N := some 30) (v := ?_) (a' := ?_) #[true, true, true, true, false, true, false, false, false, false, false, false, false, false] rfl rfl (by kernel_rfl) (fun _ _ _ h => h) (Or.inl ⟨by rfl, ?_⟩) ?_ ?_
            rotate_left
            · intro w'
              go_simp
              with_reducible rfl
            rotate_left
            · simp only [Act.put, List.setIfInBounds_toArray, List.set_cons_zero, List.set_cons_succ]
              rfl
            refine take_ (i := 6) (N := some 31) (v := ?_) (a' := ?_) #[true, true, true, true, false, true, true, false, false, false, false, false, false, false] rfl rfl (by kernel_rfl) (fun _ _ _ h => h) (Or.inl ⟨by rfl, ?_⟩) hHeld ?_ ?_
            rotate_left
            · rintro w' ⟨s0, s1⟩
              go_simp
              with_reducible rfl
            rotate_left
            · simp only [Act.put, List.setIfInBounds_toArray, List.set_cons_zero, List.set_cons_succ]
              rfl
            refine pure_ (i := 9) (N := some 34) (v := ?_) (a' := ?_) #[true, true, true, true, false, true, true, false, false, true, false, false, false, false] rfl rfl (by kernel_rfl) (fun _ _ _ h => h) (Or.inl ⟨by rfl, ?_⟩) ?_ ?_
            rotate_left
            · intro w'
              go_simp
              with_reducible rfl
            rotate_left
            · simp only [Act.put, List.setIfInBounds_toArray, List.set_cons_zero, List.set_cons_succ]
              rfl
            refine pure_ (i := 10) (N := some 35) (v := ?_) (a' := ?_) #[true, true, true, true, false, true, true, false, false, true, true, false, false, false] rfl rfl (by kernel_rfl) (fun _ _ _ h => h) (Or.inl ⟨by rfl, ?_⟩) ?_ ?_
            rotate_left
            · intro w'
              go_simp
              with_reducible rfl
            rotate_left
            · simp only [Act.put, List.setIfInBounds_toArray, List.set_cons_zero, List.set_cons_succ]
              rfl
            refine take_ (i := 11) (N := some 36) (v := ?_) (a' := ?_) #[true, true, true, true, false, true, true, false, false, true, true, true, false, false] rfl rfl (by kernel_rfl) (fun _ _ _ h => h) (Or.inl ⟨by rfl, ?_⟩) hHeld ?_ ?_
            rotate_left
            · rintro w' ⟨s0, s1⟩
              go_simp
              with_reducible rfl
            rotate_left
            · simp only [Act.put, List.setIfInBounds_toArray, List.set_cons_zero, List.set_cons_succ]
              rfl
            refine pure_ (i := 12) (N := some 37) (v := ?_) (a' := ?_) #[true, true, true, true, false, true, true, false, false, true, true, true, true, false] rfl rfl (by kernel_rfl) (fun _ _ _ h => h) (Or.inl ⟨by rfl, ?_⟩) ?_ ?_
            rotate_left
            · intro w'
              go_simp
              with_reducible rfl
            rotate_left
            · simp only [Act.put, List.setIfInBounds_toArray, List.set_cons_zero, List.set_cons_succ]
              rfl
            refine one_ (i := 4) (N := some 29) #[true, true, true, true, true, true, true, false, false, true, true, true, true, false] rfl rfl (by kernel_rfl) (by decide) (fun K hK => ?_)
            refine goes_ Tryd.func32 (by kernel_rfl) rfl #[.slice A i c] (by rfl) rfl rfl (by (try simp only [List.map_toArray, List.map_cons, List.map_nil]); first | done | rfl) ?_
            refine (HCOP.out _ HB2.out).mono ?_
            rintro en w4 ⟨v4, rfl, hR4, hb4⟩
            obtain ⟨A4, c4, rfl, hc4, hC4⟩ := Kd.R_reads hR4
            have HC4 := Lib.hid hC4
            have HB4 := Lib.hid (HB2.out.trans (hb4.mono HB2.out.size))
            have hw4 : w.heap.size < w4.heap.size := Nat.lt_of_lt_of_le hw2 hb4.size
            refine ⟨_, rfl, ?_⟩
            refine hK.out _ _ ⟨nd_below hb4 hHeld.1, nd_below hb4 hHeld.2⟩ (fun hHeld => ?_)
            clear hK K
            refine norm_ (a' := ?_) ?_ ?_
            rotate_left
            · show Act.put _ (some 29) _ = _
              simp only [Act.put, List.setIfInBounds_toArray, List.set_cons_zero, List.set_cons_succ]
              rfl
            clear hb4 hR4 hC4 HB2 hw2 HW2
            refine one_ (i := 7) (N := some 32) #[true, true, true, true, true, true, true, true, false, true, true, true, true, false] rfl rfl (by kernel_rfl) (by decide) (fun K hK => ?_)
            refine goes_ Tryd.func31 (by kernel_rfl) rfl #[.slice A4 (p.take i).length c4, .int .i64 holes] (by rfl) rfl rfl (by (try simp only [List.map_toArray, List.map_cons, List.map_nil]); first | done | rfl) ?_
            refine (mc_any (p.take i) holes A4 c4 w4 (HT.out.below HB4.out) HC4.out HNT.out).mono ?_
            rintro en w5 ⟨rfl, hb5⟩
            have HB5 := Lib.hid (HB4.out.trans (hb5.mono HB4.out.size))
            have hw5 : w.heap.size < w5.heap.size := Nat.lt_of_lt_of_le hw4 hb5.size
            rw [hE]
            refine ⟨_, rfl, ?_⟩
            refine hK.out _ _ ⟨nd_below hb5 hHeld.1, nd_below hb5 hHeld.2⟩ (fun hHeld => ?_)
            clear hK K
            refine norm_ (a' := ?_) ?_ ?_
            rotate_left
            · show Act.put _ (some 32) _ = _
              simp only [Act.put, List.setIfInBounds_toArray, List.set_cons_zero, List.set_cons_succ]
              rfl
            clear hb5 HC4 HB4 hw4
            refine pure_ (i := 8) (N := some 33) (v := ?_) (a' := ?_) #[true, true, true, true, true, true, true, true, true, true, true, true, true, false] rfl rfl (by kernel_rfl) (fun _ _ _ h => h) (Or.inl ⟨by rfl, ?_⟩) ?_ ?_
            rotate_left
            · intro w'
              go_simp
              with_reducible rfl
            rotate_left
            · simp only [Act.put, List.setIfInBounds_toArray, List.set_cons_zero, List.set_cons_succ]
              rfl
            refine pure_ (i := 13) (N := some 38) (v := ?_) (a' := ?_) #[true, true, true, true, true, true, true, true, true, true, true, true, true, true] rfl rfl (by kernel_rfl) (fun _ _ _ h => h) (Or.inl ⟨by rfl, ?_⟩) ?_ ?_
            rotate_left
            · intro w'
              go_simp
              with_reducible rfl
            rotate_left
            · simp only [Act.put, List.setIfInBounds_toArray, List.set_cons_zero, List.set_cons_succ]
              rfl
            refine done_ (by kernel_rfl) ?_
            go_wp2_with fail
            go_meet
            exact ⟨rfl, Lib.hid hHeld, HB5, hw5⟩
          · have d1 : ((t : Int) == holes) = false := beq_eq_false_iff_ne.2 hth
            have hE : errOf (mcheck (p.take i) holes) = 1 := by rw [HPL.out, ← hT.out, decide_eq_false hth]; rfl
            clear hth
            go_wp2_with fail
            refine start_ (n := 14) (S := fun w' => w'.cell? ⟨w.heap.size, 0, none⟩ = some (.slice A p.length c) ∧ w'.cell? ⟨w.heap.size, 1, none⟩ = some (.int .i64 holes)) (ds := []) #[false, false, false, false, false, false, false, false, false, false, false, false, false, false] (by kernel_rfl) rfl rfl ⟨b0, b1⟩ (fun hHeld => ?_)
            have HB2 : Hid (Below w.heap.size w wo.drew) := Lib.hid (below_drew hB.out)
            have hw2 : w.heap.size < wo.drew.heap.size := hww
            have HW2 : Hid (Below wo.heap.size wo wo.drew) := Lib.hid (below_drew (Below.refl _ _))
            clear b0 b1
            obtain ⟨W2, hW2⟩ : ∃ W2, W2 = wo.drew := ⟨_, rfl⟩
            rw [← hW2] at hHeld HB2 hw2 HW2 ⊢
            clear hW2
            refine pure_ (i := 0) (N := some 25) (v := ?_) (a' := ?_) #[true, false, false, false, false, false, false, false, false, false, false, false, false, false] rfl rfl (by kernel_rfl) (fun _ _ _ h => h) (Or.inl ⟨by rfl, ?_⟩) ?_ ?_
            rotate_left
            · intro w'
              go_simp
              with_reducible rfl
            rotate_left
            · simp only [Act.put, List.setIfInBounds_toArray, List.set_cons_zero, List.set_cons_succ]
              rfl
            refine take_ (i := 1) (N := some 26) (v := ?_) (a' := ?_) #[true, true, false, false, false, false, false, false, false, false, false, false, false, false] rfl rfl (by kernel_rfl) (fun _ _ _ h => h) (Or.inl ⟨by rfl, ?_⟩) hHeld ?_ ?_
            rotate_left
            · rintro w' ⟨s0, s1⟩
              go_simp
              with_reducible rfl
            rotate_left
            · simp only [Act.put, List.setIfInBounds_toArray, List.set_cons_zero, List.set_cons_succ]
              rfl
            refine pure_ (i := 2) (N := some 27) (v := ?_) (a' := ?_) #[true, true, true, false, false, false, false, false, false, false, false, false, false, false] rfl rfl (by kernel_rfl) (fun _ _ _ h => h) (Or.inl ⟨by rfl, ?_⟩) ?_ ?_
            rotate_left
            · intro w'
              go_simp
              with_reducible rfl
            rotate_left
            · simp only [Act.put, List.setIfInBounds_toArray, List.set_cons_zero, List.set_cons_succ]
              rfl
            refine pure_ (i := 3) (N := some 28) (v := ?_) (a' := ?_) #[true, true, true, true, false, false, false, false, false, false, false, false, false, false] rfl rfl (by kernel_rfl) (fun _ _ _ h => h) (Or.inl ⟨by rfl, ?_⟩) ?_ ?_
            rotate_left
            · intro w'
              go_simp
              with_reducible rfl
            rotate_left
            · simp only [Act.put, List.setIfInBounds_toArray, List.set_cons_zero, List.set_cons_succ]
              rfl
            refine pure_ (i := 5) (N := some 30) (v := ?_) (a' := ?_) #[true, true, true, true, false, true, false, false, false, false, false, false, false, false] rfl rfl (by kernel_rfl) (fun _ _ _ h => h) (Or.inl ⟨by rfl, ?_⟩) ?_ ?_
            rotate_left
            · intro w'
              go_simp
              with_reducible rfl
            rotate_left
            · simp only [Act.put, List.setIfInBounds_toArray, List.set_cons_zero, List.set_cons_succ]
              rfl
            refine take_ (i := 6) (N := some 31) (v := ?_) (a' := ?_) #[true, true, true, true, false, true, true, false, false, false, false, false, false, false] rfl rfl (by kernel_rfl) (fun _ _ _ h => h) (Or.inl ⟨by rfl, ?_⟩) hHeld ?_ ?_
            rotate_left
            · rintro w' ⟨s0, s1⟩
              go_simp
              with_reducible rfl
            rotate_left
            · simp only [Act.put, List.setIfInBounds_toArray, List.set_cons_zero, List.set_cons_succ]
              rfl
            refine pure_ (i := 9) (N := some 34) (v := ?_) (a' := ?_) #[true, true, true, true, false, true, true, false, false, true, false, false, false, false] rfl rfl (by kernel_rfl) (fun _ _ _ h => h) (Or.inl ⟨by rfl, ?_⟩) ?_ ?_
            rotate_left
            · intro w'
              go_simp
              with_reducible rfl
            rotate_left
            · simp only [Act.put, List.setIfInBounds_toArray, List.set_cons_zero, List.set_cons_succ]
              rfl
            refine pure_ (i := 10) (N := some 35) (v := ?_) (a' := ?_) #[true, true, true, true, false, true, true, false, false, true, true, false, false, false] rfl rfl (by kernel_rfl) (fun _ _ _ h => h) (Or.inl ⟨by rfl, ?_⟩) ?_ ?_
            rotate_left
            · intro w'
              go_simp
              with_reducible rfl
            rotate_left
            · simp only [Act.put, List.setIfInBounds_toArray, List.set_cons_zero, List.set_cons_succ]
              rfl
            refine take_ (i := 11) (N := some 36) (v := ?_) (a' := ?_) #[true, true, true, true, false, true, true, false, false, true, true, true, false, false] rfl rfl (by kernel_rfl) (fun _ _ _ h => h) (Or.inl ⟨by rfl, ?_⟩) hHeld ?_ ?_
            rotate_left
            · rintro w' ⟨s0, s1⟩
              go_simp
              with_reducible rfl
            rotate_left
            · simp only [Act.put, List.setIfInBounds_toArray, List.set_cons_zero, List.set_cons_succ]
              rfl
            refine pure_ (i := 12) (N := some 37) (v := ?_) (a' := ?_) #[true, true, true, true, false, true, true, false, false, true, true, true, true, false] rfl rfl (by kernel_rfl) (fun _ _ _ h => h) (Or.inl ⟨by rfl, ?_⟩) ?_ ?_
            rotate_left
            · intro w'
              go_simp
              with_reducible rfl
            rotate_left
            · simp only [Act.put, List.setIfInBounds_toArray, List.set_cons_zero, List.set_cons_succ]
              rfl
            refine one_ (i := 4) (N := some 29) #[true, true, true, true, true, true, true, false, false, true, true, true, true, false] rfl rfl (by kernel_rfl) (by decide) (fun K hK => ?_)
            refine goes_ Tryd.func32 (by kernel_rfl) rfl #[.slice A i c] (by rfl) rfl rfl (by (try simp only [List.map_toArray, List.map_cons, List.map_nil]); first | done | rfl) ?_
            refine (HCOP.out _ HB2.out).mono ?_
            rintro en w4 ⟨v4, rfl, hR4, hb4⟩
            obtain ⟨A4, c4, rfl, hc4, hC4⟩ := Kd.R_reads hR4
            have HC4 := Lib.hid hC4
            have HB4 := Lib.hid (HB2.out.trans (hb4.mono HB2.out.size))
            have hw4 : w.heap.size < w4.heap.size := Nat.lt_of_lt_of_le hw2 hb4.size
            refine ⟨_, rfl, ?_⟩
            refine hK.out _ _ ⟨nd_below hb4 hHeld.1, nd_below hb4 hHeld.2⟩ (fun hHeld => ?_)
            clear hK K
            refine norm_ (a' := ?_) ?_ ?_
            rotate_left
            · show Act.put _ (some 29) _ = _
              simp only [Act.put, List.setIfInBounds_toArray, List.set_cons_zero, List.set_cons_succ]
              rfl
            clear hb4 hR4 hC4 HB2 hw2 HW2
            refine one_ (i := 7) (N := some 32) #[true, true, true, true, true, true, true, true, false, true, true, true, true, false] rfl rfl (by kernel_rfl) (by decide) (fun K hK => ?_)
            refine goes_ Tryd.func31 (by kernel_rfl) rfl #[.slice A4 (p.take i).length c4, .int .i64 holes] (by rfl) rfl rfl (by (try simp only [List.map_toArray, List.map_cons, List.map_nil]); first | done | rfl) ?_
            refine (mc_any (p.take i) holes A4 c4 w4 (HT.out.below HB4.out) HC4.out HNT.out).mono ?_
            rintro en w5 ⟨rfl, hb5⟩
            have HB5 := Lib.hid (HB4.out.trans (hb5.mono HB4.out.size))
            have hw5 : w.heap.size < w5.heap.size := Nat.lt_of_lt_of_le hw4 hb5.size
            rw [hE]
            refine ⟨_, rfl, ?_⟩
            refine hK.out _ _ ⟨nd_below hb5 hHeld.1, nd_below hb5 hHeld.2⟩ (fun hHeld => ?_)
            clear hK K
            refine norm_ (a' := ?_) ?_ ?_
            rotate_left
            · show Act.put _ (some 32) _ = _
              simp only [Act.put, List.setIfInBounds_toArray, List.set_cons_zero, List.set_cons_succ]
              rfl
            clear hb5 HC4 HB4 hw4
            refine pure_ (i := 8) (N := some 33) (v := ?_) (a' := ?_) #[true, true, true, true, true, true, true, true, true, true, true, true, true, false] rfl rfl (by kernel_rfl) (fun _ _ _ h => h) (Or.inl ⟨by rfl, ?_⟩) ?_ ?_
            rotate_left
            · intro w'
              go_simp
              with_reducible rfl
            rotate_left
            · simp only [Act.put, List.setIfInBounds_toArray, List.set_cons_zero, List.set_cons_succ]
              rfl
            refine pure_ (i := 13) (N := some 38) (v := ?_) (a' := ?_) #[true, true, true, true, true, true, true, true, true, true, true, true, true, true] rfl rfl (by kernel_rfl) (fun _ _ _ h => h) (Or.inl ⟨by rfl, ?_⟩) ?_ ?_
            rotate_left
            · intro w'
              go_simp
              with_reducible rfl
            rotate_left
            · simp only [Act.put, List.setIfInBounds_toArray, List.set_cons_zero, List.set_cons_succ]
              rfl
            refine done_ (by kernel_rfl) ?_
            go_wp2_with fail
            go_meet
            exact ⟨rfl, Lib.hid hHeld, HB5, hw5⟩
        case rest =>
          obtain ⟨rfl, hBX2, hB2, hww2⟩ := hcut
          have b0' := hBX2.out.1
          have b1' := hBX2.out.2
          clear hsl b0 b1 HNT HCOP HPL
          by_cases hlt : i < p.length
          · obtain ⟨x, hx⟩ : ∃ x, p[i]? = some x := ⟨_, List.getElem?_eq_getElem hlt⟩
            obtain ⟨ad, hA, c0, c1, cc2, cc3, c4, c5⟩ := cm_at HR.out hx
            subst hA
            have e1 : p.take (i + 1) = p.take i ++ [x] := by
              rw [List.take_succ_eq_append_getElem hlt]; congr 2; exact (List.getElem?_eq_some_iff.1 hx).2
            have hc0 := nd_below hB2.out c0
            have hadb : (ad.add (i * 6)).block < w.heap.size := World.block_lt_of_cell? w _ c0
            by_cases hk : x.kind = 3
            · have k1 : (x.kind == 3) = true := beq_iff_eq.2 hk
              have HT1 : Hid (t + 1 = takes (p.take (i + 1))) := Lib.hid (by rw [e1, takes_snoc, if_pos hk, ← hT.out])
              have HAG := Lib.hid (again_law HCK.out hx hk)
              have HX := Lib.hid hx
              have q1 := nd_below hB2.out c1
              have q2 := nd_below hB2.out cc2
              have q3 := nd_below hB2.out cc3
              have q4 := nd_below hB2.out c4
              have q5 := nd_below hB2.out c5
              have hu2 := Tryd.underlying75
              obtain ⟨ti, hti', _⟩ := Option.map_eq_some_iff.1 infoCm
              have hsl := cut_to (P := Tryd.prog) 61 75 .i64 Tryd.underlying61 hti' (some ad) p.length c ((i : Int) + 1) (by omega) (by omega) hc
              have hin : ((i : Int) + 1).toNat = i + 1 := by omega
              rw [hin] at hsl
              have HCOP : Hid (∀ w', Below w.heap.size w w' → Calls Tryd.prog 32 #[.slice (some ad) (i + 1) c] w' fun en w'' => ∃ v, en = .returned v ∧ Kd.R kCm 75 w'' w'.heap.size (fun _ => True) v (p.take (i + 1)) ∧ Below w'.heap.size w' w'') := Lib.hid (fun w' hb => by
                have hlen : (p.take (i + 1)).length = i + 1 := by rw [List.length_take]; omega
                have h1 := copied_any (p.take (i + 1)) (some ad) c w' (Kd.C_take (Kd.C_below HR.out hb) (by omega)) (by omega)
                rwa [hlen] at h1)
              have HXN := Lib.hid (HNM.out x (List.mem_of_getElem? HX.out))
              have HTL : Hid ((p.take (i + 1)).length = i + 1) := Lib.hid (by rw [List.length_take]; omega)
              obtain ⟨q, hq⟩ : ∃ q, q = p.take (i + 1) ++ [x] := ⟨_, rfl⟩
              rw [← hq] at HAG
              have HQ := Lib.hid hq
              have HQN : Hid (∀ y ∈ q, y.name.size ≤ maxLen) := Lib.hid (fun y hy => by
                rw [HQ.out] at hy
                rcases List.mem_append.1 hy with h | h
                · exact HNM.out y (List.mem_of_mem_take h)
                · rw [List.mem_singleton.1 h]; exact HXN.out)
              clear hk e1 hx c0 c1 cc2 cc3 c4 c5 hti' hin hq
              go_upto_region 11 with fail
              go_cut [5] (fun v5 wx => ∃ A5 c5, v5 = .slice A5 q.length c5 ∧ Hid (Kd.C kCm wx A5 q.length q) ∧ Hid (wx.cell? ⟨w.heap.size, 0, none⟩ = some (.slice (some ad) p.length c) ∧ wx.cell? ⟨w.heap.size, 1, none⟩ = some (.int .i64 holes)) ∧ Hid (Below w.heap.size w wx) ∧ w.heap.size < wx.heap.size)
              case first =>
                refine start_ (n := 14) (S := fun w' => w'.cell? ⟨w.heap.size, 0, none⟩ = some (.slice (some ad) p.length c) ∧ w'.cell? ⟨w.heap.size, 1, none⟩ = some (.int .i64 holes) ∧ w'.cell? (ad.add (i * 6)) = some (.int .i64 x.kind) ∧ w'.cell? ⟨(ad.add (i * 6)).block, (ad.add (i * 6)).off + 1, none⟩ = some (.int .i64 x.r) ∧ w'.cell? ⟨(ad.add (i * 6)).block, (ad.add (i * 6)).off + 2, none⟩ = some (.int .i64 x.tgt) ∧ w'.cell? ⟨(ad.add (i * 6)).block, (ad.add (i * 6)).off + 3, none⟩ = some (.int .i64 x.op) ∧ w'.cell? ⟨(ad.add (i * 6)).block, (ad.add (i * 6)).off + 4, none⟩ = some (.int .i64 x.n) ∧ w'.cell? ⟨(ad.add (i * 6)).block, (ad.add (i * 6)).off + 5, none⟩ = some (.string x.name)) (ds := []) #[false, false, false, false, false, false, false, false, false, false, false, false, false, false] (by kernel_rfl) rfl rfl ⟨b0', b1', hc0, q1, q2, q3, q4, q5⟩ (fun hHeld => ?_)
                have HB3 : Hid (Below w.heap.size w wc.drew) := Lib.hid (below_drew hB2.out)
                have hw3 : w.heap.size < wc.drew.heap.size := hww2
                clear b0' b1' hc0 q1 q2 q3 q4 q5
                have hwr : IntKind.i64.wrap ((i : Int) + 1) = (i : Int) + 1 := by rw [i64_w]; unfold wrap64; omega
                obtain ⟨W3, hW3⟩ : ∃ W3, W3 = wc.drew := ⟨_, rfl⟩
                rw [← hW3] at hHeld HB3 hw3 ⊢
                clear hW3
                refine pure_ (i := 0) (N := some 55) (v := ?_) (a' := ?_) #[true, false, false, false, false, false, false, false, false, false, false, false, false, false] rfl rfl (by kernel_rfl) (fun _ _ _ h => h) (Or.inl ⟨by rfl, ?_⟩) ?_ ?_
                rotate_left
                · intro w'
                  go_simp
                  with_reducible rfl
                rotate_left
                · simp only [Act.put, List.setIfInBounds_toArray, List.set_cons_zero, List.set_cons_succ]
                  rfl
                refine take_ (i := 1) (N := some 56) (v := ?_) (a' := ?_) #[true, true, false, false, false, false, false, false, false, false, false, false, false, false] rfl rfl (by kernel_rfl) (fun _ _ _ h => h) (Or.inl ⟨by rfl, ?_⟩) hHeld ?_ ?_
                rotate_left
                · rintro w' ⟨s0, s1, s2, s3, s4, s5, s6, s7⟩
                  go_simp
                  with_reducible rfl
                rotate_left
                · simp only [Act.put, List.setIfInBounds_toArray, List.set_cons_zero, List.set_cons_succ]
                  rfl
                refine pure_ (i := 2) (N := some 57) (v := ?_) (a' := ?_) #[true, true, true, false, false, false, false, false, false, false, false, false, false, false] rfl rfl (by kernel_rfl) (fun _ _ _ h => h) (Or.inl ⟨by rfl, ?_⟩) ?_ ?_
                rotate_left
                · intro w'
                  go_simp
                  with_reducible rfl
                rotate_left
                · simp only [Act.put, List.setIfInBounds_toArray, List.set_cons_zero, List.set_cons_succ]
                  rfl
                refine pure_ (i := 3) (N := some 58) (v := ?_) (a' := ?_) #[true, true, true, true, false, false, false, false, false, false, false, false, false, false] rfl rfl (by kernel_rfl) (fun _ _ _ h => h) (Or.inl ⟨by rfl, ?_⟩) ?_ ?_
                rotate_left
                · intro w'
                  go_simp
                  with_reducible rfl
                rotate_left
                · simp only [Act.put, List.setIfInBounds_toArray, List.set_cons_zero, List.set_cons_succ]
                  rfl
                refine pure_ (i := 4) (N := some 59) (v := ?_) (a' := ?_) #[true, true, true, true, true, false, false, false, false, false, false, false, false, false] rfl rfl (by kernel_rfl) (fun _ _ _ h => h) (Or.inl ⟨by rfl, ?_⟩) ?_ ?_
                rotate_left
                · intro w'
                  go_simp
                  with_reducible rfl
                rotate_left
                · simp only [Act.put, List.setIfInBounds_toArray, List.set_cons_zero, List.set_cons_succ]
                  rfl
                refine pure_ (i := 6) (N := some 61) (v := ?_) (a' := ?_) #[true, true, true, true, true, false, true, false, false, false, false, false, false, false] rfl rfl (by kernel_rfl) (fun _ _ _ h => h) (Or.inl ⟨by rfl, ?_⟩) ?_ ?_
                rotate_left
                · intro w'
                  go_simp
                  with_reducible rfl
                rotate_left
                · simp only [Act.put, List.setIfInBounds_toArray, List.set_cons_zero, List.set_cons_succ]
                  rfl
                refine take_ (i := 7) (N := some 62) (v := ?_) (a' := ?_) #[true, true, true, true, true, false, true, true, false, false, false, false, false, false] rfl rfl (by kernel_rfl) (fun _ _ _ h => h) (Or.inl ⟨by rfl, ?_⟩) hHeld ?_ ?_
                rotate_left
                · rintro w' ⟨s0, s1, s2, s3, s4, s5, s6, s7⟩
                  go_simp
                  with_reducible rfl
                rotate_left
                · simp only [Act.put, List.setIfInBounds_toArray, List.set_cons_zero, List.set_cons_succ]
                  rfl
                refine pure_ (i := 8) (N := some 63) (v := ?_) (a' := ?_) #[true, true, true, true, true, false, true, true, true, false, false, false, false, false] rfl rfl (by kernel_rfl) (fun _ _ _ h => h) (Or.inl ⟨by rfl, ?_⟩) ?_ ?_
                rotate_left
                · intro w'
                  go_simp
                  with_reducible rfl
                rotate_left
                · simp only [Act.put, List.setIfInBounds_toArray, List.set_cons_zero, List.set_cons_succ]
                  rfl
                refine pure_ (i := 9) (N := some 64) (v := ?_) (a' := ?_) #[true, true, true, true, true, false, true, true, true, true, false, false, false, false] rfl rfl (by kernel_rfl) (fun _ _ _ h => h) (Or.inl ⟨by rfl, ?_⟩) ?_ ?_
                rotate_left
                · intro w'
                  go_simp
                  with_reducible rfl
                rotate_left
                · simp only [Act.put, List.setIfInBounds_toArray, List.set_cons_zero, List.set_cons_succ]
                  rfl
                refine take_ (i := 10) (N := some 65) (v := ?_) (a' := ?_) #[true, true, true, true, true, false, true, true, true, true, true, false, false, false] rfl rfl (by kernel_rfl) (fun _ _ _ h => h) (Or.inl ⟨by rfl, ?_⟩) hHeld ?_ ?_
                rotate_left
                · rintro w' ⟨s0, s1, s2, s3, s4, s5, s6, s7⟩
                  go_simp
                  with_reducible rfl
                rotate_left
                · simp only [Act.put, List.setIfInBounds_toArray, List.set_cons_zero, List.set_cons_succ]
                  rfl
                refine two_ (i := 5) (j := 11) (Ni := some 60) (Nj := some 66) #[true, true, true, true, true, true, true, true, true, true, true, false, false, false] #[true, true, true, true, true, false, true, true, true, true, true, true, false, false] rfl rfl rfl rfl (by kernel_rfl) (by decide) (by decide) (fun K hK => ?_) (fun K hK => ?_)
                · refine goes_ Tryd.func32 (by kernel_rfl) rfl #[.slice (some ad) (i + 1) c] (by rfl) rfl rfl (by (try simp only [List.map_toArray, List.map_cons, List.map_nil]); first | done | rfl) ?_
                  refine (HCOP.out _ HB3.out).mono ?_
                  rintro en w4 ⟨v4, rfl, hR4, hb4⟩
                  obtain ⟨A4, c4, rfl, hc4, _⟩ := Kd.R_reads hR4
                  have HR4 := Lib.hid (Kd.R_lower hR4 HB3.out.size)
                  have HB4 := Lib.hid (HB3.out.trans (hb4.mono HB3.out.size))
                  have hw4 : w.heap.size < w4.heap.size := Nat.lt_of_lt_of_le hw3 hb4.size
                  have hb4' := hb4
                  refine ⟨_, rfl, ?_⟩
                  have HNE4 : Hid (∀ b, b < w.heap.size + 1 → some b ≠ (Value.slice A4 (p.take (i + 1)).length c4).ownBlock) := Lib.hid (fun b hb he => by have := Kd.R_base hR4 b he.symm; omega)
                  refine hK.out _ _ ⟨nd_below hb4' hHeld.1, nd_below hb4' hHeld.2.1, nd_below hb4' hHeld.2.2.1, nd_below hb4' hHeld.2.2.2.1, nd_below hb4' hHeld.2.2.2.2.1, nd_below hb4' hHeld.2.2.2.2.2.1, nd_below hb4' hHeld.2.2.2.2.2.2.1, nd_below hb4' hHeld.2.2.2.2.2.2.2⟩ (fun hHeld => ?_)
                  clear hK K
                  refine norm_ (a' := ?_) ?_ ?_
                  rotate_left
                  · show Act.put _ (some 60) _ = _
                    simp only [Act.put, List.setIfInBounds_toArray, List.set_cons_zero, List.set_cons_succ]
                    rfl
                  clear hb4 hb4' hR4
                  refine one_ (i := 11) (N := some 66) #[true, true, true, true, true, true, true, true, true, true, true, true, false, false] rfl rfl (by kernel_rfl) (by decide) (fun K hK => ?_)
                  refine value_ (v := .slice (some ⟨w4.heap.size, 0, none⟩) 1 1) (w1 := w4.alloc (.cells #[.int .i64 x.kind, .int .i64 x.r, .int .i64 x.tgt, .int .i64 x.op, .int .i64 x.n, .string x.name] 75)) rfl rfl ?hrun ?_
                  case hrun =>
                    go_simp
                  refine hK.out _ _ ⟨nd_below ((Below.refl _ _).alloc (Nat.le_refl _) _) hHeld.1, nd_below ((Below.refl _ _).alloc (Nat.le_refl _) _) hHeld.2.1, nd_below ((Below.refl _ _).alloc (Nat.le_refl _) _) hHeld.2.2.1, nd_below ((Below.refl _ _).alloc (Nat.le_refl _) _) hHeld.2.2.2.1, nd_below ((Below.refl _ _).alloc (Nat.le_refl _) _) hHeld.2.2.2.2.1, nd_below ((Below.refl _ _).alloc (Nat.le_refl _) _) hHeld.2.2.2.2.2.1, nd_below ((Below.refl _ _).alloc (Nat.le_refl _) _) hHeld.2.2.2.2.2.2.1, nd_below ((Below.refl _ _).alloc (Nat.le_refl _) _) hHeld.2.2.2.2.2.2.2⟩ (fun hHeld => ?_)
                  clear hK K
                  refine norm_ (a' := ?_) ?_ ?_
                  rotate_left
                  · show Act.put _ (some 66) _ = _
                    simp only [Act.put, List.setIfInBounds_toArray, List.set_cons_zero, List.set_cons_succ]
                    rfl
                  have HR5 := Lib.hid (Kd.R_alloc HR4.out (.cells #[.int .i64 x.kind, .int .i64 x.r, .int .i64 x.tgt, .int .i64 x.op, .int .i64 x.n, .string x.name] 75))
                  have HB5 := Lib.hid (HB4.out.alloc HB4.out.size (.cells #[.int .i64 x.kind, .int .i64 x.r, .int .i64 x.tgt, .int .i64 x.op, .int .i64 x.n, .string x.name] 75))
                  have HC5 := Lib.hid (one_C (x := x) (heap_alloc_new w4 (.cells #[.int .i64 x.kind, .int .i64 x.r, .int .i64 x.tgt, .int .i64 x.op, .int .i64 x.n, .string x.name] 75)))
                  have hw5 : w.heap.size < (w4.alloc (.cells #[.int .i64 x.kind, .int .i64 x.r, .int .i64 x.tgt, .int .i64 x.op, .int .i64 x.n, .string x.name] 75)).heap.size := by simp; omega
                  have HNE5 : Hid (∀ b, b < w.heap.size + 1 → some b ≠ (Value.slice A4 (p.take (i + 1)).length c4).ownBlock) := HNE4
                  refine one_ (i := 12) (N := some 67) #[true, true, true, true, true, true, true, true, true, true, true, true, true, false] rfl rfl (by kernel_rfl) (by decide) (fun K hK => ?_)
                  refine Kd.R_append_rows_step kCm (w0 := w) w.heap.size rfl (.tmp 60) (.tmp 66) 61 75 (.agg #[.int .i64 0, .int .i64 0, .int .i64 0, .int .i64 0, .int .i64 0, .string ⟨#[]⟩]) 56 rfl Tryd.underlying61 infoCm rfl (by decide) (by omega) (.slice A4 (p.take (i + 1)).length c4) (p.take (i + 1)) [x] (some ⟨w4.heap.size, 0, none⟩) 1 1 (fun _ => True) (fun _ => False) rfl rfl HR5.out HC5.out (fun _ _ hk => kCm_KM hk) (fun _ hk => hk.elim) (fun _ _ => trivial) HB5.out HB5.out.size (by rw [HTL.out]; omega) ?_
                  intro v6 w6 hR6 hb6 hg6 _
                  rw [← HQ.out] at hR6
                  obtain ⟨A6, c6, rfl, hc6, hC6⟩ := Kd.R_reads hR6
                  have HC6 := Lib.hid hC6
                  have HB6 := Lib.hid hb6
                  have hw6 : w.heap.size < w6.heap.size := by have := hg6.size; omega
                  have hcell6 : ∀ (ad' : Addr) (v' : Value), ad'.block < w.heap.size + 1 → (w4.alloc (.cells #[.int .i64 x.kind, .int .i64 x.r, .int .i64 x.tgt, .int .i64 x.op, .int .i64 x.n, .string x.name] 75)).cell? ad' = some v' → w6.cell? ad' = some v' := fun ad' v' hlt hv => (World.cell?_of_block (hg6.block ad'.block (by omega) (fun he => HNE5.out ad'.block hlt he))).trans hv
                  refine hK.out _ _ ⟨hcell6 _ _ (by simp) hHeld.1, hcell6 _ _ (by simp) hHeld.2.1, hcell6 _ _ (by exact Nat.lt_succ_of_lt hadb) hHeld.2.2.1, hcell6 _ _ (by exact Nat.lt_succ_of_lt hadb) hHeld.2.2.2.1, hcell6 _ _ (by exact Nat.lt_succ_of_lt hadb) hHeld.2.2.2.2.1, hcell6 _ _ (by exact Nat.lt_succ_of_lt hadb) hHeld.2.2.2.2.2.1, hcell6 _ _ (by exact Nat.lt_succ_of_lt hadb) hHeld.2.2.2.2.2.2.1, hcell6 _ _ (by exact Nat.lt_succ_of_lt hadb) hHeld.2.2.2.2.2.2.2⟩ (fun hHeld => ?_)
                  clear hK K
                  refine norm_ (a' := ?_) ?_ ?_
                  rotate_left
                  · show Act.put _ (some 67) _ = _
                    simp only [Act.put, List.setIfInBounds_toArray, List.set_cons_zero, List.set_cons_succ]
                    rfl
                  clear hg6 hcell6
                  refine pure_ (i := 13) (N := some 5) (v := ?_) (a' := ?_) #[true, true, true, true, true, true, true, true, true, true, true, true, true, true] rfl rfl (by kernel_rfl) (fun _ _ _ h => h) (Or.inl ⟨by rfl, ?_⟩) ?_ ?_
                  rotate_left
                  · intro w'
                    go_simp
                    with_reducible rfl
                  rotate_left
                  · simp only [Act.put, List.setIfInBounds_toArray, List.set_cons_zero, List.set_cons_succ]
                    rfl
                  refine done_ (by kernel_rfl) ?_
                  go_wp2_with fail
                  go_meet
                  exact ⟨A6, c6, rfl, HC6, Lib.hid ⟨hHeld.1, hHeld.2.1⟩, HB6, hw6⟩
                · refine value_ (v := .slice (some ⟨W3.heap.size, 0, none⟩) 1 1) (w1 := W3.alloc (.cells #[.int .i64 x.kind, .int .i64 x.r, .int .i64 x.tgt, .int .i64 x.op, .int .i64 x.n, .string x.name] 75)) rfl rfl ?hrun ?_
                  case hrun =>
                    go_simp
                  refine hK.out _ _ ⟨nd_below ((Below.refl _ _).alloc (Nat.le_refl _) _) hHeld.1, nd_below ((Below.refl _ _).alloc (Nat.le_refl _) _) hHeld.2.1, nd_below ((Below.refl _ _).alloc (Nat.le_refl _) _) hHeld.2.2.1, nd_below ((Below.refl _ _).alloc (Nat.le_refl _) _) hHeld.2.2.2.1, nd_below ((Below.refl _ _).alloc (Nat.le_refl _) _) hHeld.2.2.2.2.1, nd_below ((Below.refl _ _).alloc (Nat.le_refl _) _) hHeld.2.2.2.2.2.1, nd_below ((Below.refl _ _).alloc (Nat.le_refl _) _) hHeld.2.2.2.2.2.2.1, nd_below ((Below.refl _ _).alloc (Nat.le_refl _) _) hHeld.2.2.2.2.2.2.2⟩ (fun hHeld => ?_)
                  clear hK K
                  refine norm_ (a' := ?_) ?_ ?_
                  rotate_left
                  · show Act.put _ (some 66) _ = _
                    simp only [Act.put, List.setIfInBounds_toArray, List.set_cons_zero, List.set_cons_succ]
                    rfl
                  have HBX3 := Lib.hid (heap_alloc_new W3 (.cells #[.int .i64 x.kind, .int .i64 x.r, .int .i64 x.tgt, .int .i64 x.op, .int .i64 x.n, .string x.name] 75))
                  have HB3' := Lib.hid (HB3.out.alloc HB3.out.size (.cells #[.int .i64 x.kind, .int .i64 x.r, .int .i64 x.tgt, .int .i64 x.op, .int .i64 x.n, .string x.name] 75))
                  have hw3' : w.heap.size < (W3.alloc (.cells #[.int .i64 x.kind, .int .i64 x.r, .int .i64 x.tgt, .int .i64 x.op, .int .i64 x.n, .string x.name] 75)).heap.size := by simp; omega
                  have hg3 : W3.heap.size < (W3.alloc (.cells #[.int .i64 x.kind, .int .i64 x.r, .int .i64 x.tgt, .int .i64 x.op, .int .i64 x.n, .string x.name] 75)).heap.size := by simp
                  generalize W3.alloc (.cells #[.int .i64 x.kind, .int .i64 x.r, .int .i64 x.tgt, .int .i64 x.op, .int .i64 x.n, .string x.name] 75) = W4 at hHeld HBX3 HB3' hw3' hg3 ⊢
                  refine one_ (i := 5) (N := some 60) #[true, true, true, true, true, true, true, true, true, true, true, true, false, false] rfl rfl (by kernel_rfl) (by decide) (fun K hK => ?_)
                  refine goes_ Tryd.func32 (by kernel_rfl) rfl #[.slice (some ad) (i + 1) c] (by rfl) rfl rfl (by (try simp only [List.map_toArray, List.map_cons, List.map_nil]); first | done | rfl) ?_
                  refine (HCOP.out _ HB3'.out).mono ?_
                  rintro en w4 ⟨v4, rfl, hR4, hb4⟩
                  obtain ⟨A4, c4, rfl, hc4, _⟩ := Kd.R_reads hR4
                  have HR4 := Lib.hid (Kd.R_lower hR4 HB3'.out.size)
                  have HB4 := Lib.hid (HB3'.out.trans (hb4.mono HB3'.out.size))
                  have hw4 : w.heap.size < w4.heap.size := Nat.lt_of_lt_of_le hw3' hb4.size
                  have hb4' := hb4
                  refine ⟨_, rfl, ?_⟩
                  have HNE4 : Hid (∀ b, b < w.heap.size + 1 → some b ≠ (Value.slice A4 (p.take (i + 1)).length c4).ownBlock) := Lib.hid (fun b hb he => by have := Kd.R_base hR4 b he.symm; omega)
                  refine hK.out _ _ ⟨nd_below hb4' hHeld.1, nd_below hb4' hHeld.2.1, nd_below hb4' hHeld.2.2.1, nd_below hb4' hHeld.2.2.2.1, nd_below hb4' hHeld.2.2.2.2.1, nd_below hb4' hHeld.2.2.2.2.2.1, nd_below hb4' hHeld.2.2.2.2.2.2.1, nd_below hb4' hHeld.2.2.2.2.2.2.2⟩ (fun hHeld => ?_)
                  clear hK K
                  refine norm_ (a' := ?_) ?_ ?_
                  rotate_left
                  · show Act.put _ (some 60) _ = _
                    simp only [Act.put, List.setIfInBounds_toArray, List.set_cons_zero, List.set_cons_succ]
                    rfl
                  have HR5 := HR4
                  have HB5 := HB4
                  have HC5 := Lib.hid (one_C (x := x) ((hb4.block _ hg3).trans HBX3.out))
                  have hw5 := hw4
                  have HNE5 := HNE4
                  clear hb4 hb4' hR4
                  refine one_ (i := 12) (N := some 67) #[true, true, true, true, true, true, true, true, true, true, true, true, true, false] rfl rfl (by kernel_rfl) (by decide) (fun K hK => ?_)
                  refine Kd.R_append_rows_step kCm (w0 := w) w.heap.size rfl (.tmp 60) (.tmp 66) 61 75 (.agg #[.int .i64 0, .int .i64 0, .int .i64 0, .int .i64 0, .int .i64 0, .string ⟨#[]⟩]) 56 rfl Tryd.underlying61 infoCm rfl (by decide) (by omega) (.slice A4 (p.take (i + 1)).length c4) (p.take (i + 1)) [x] (some ⟨W3.heap.size, 0, none⟩) 1 1 (fun _ => True) (fun _ => False) rfl rfl HR5.out HC5.out (fun _ _ hk => kCm_KM hk) (fun _ hk => hk.elim) (fun _ _ => trivial) HB5.out HB5.out.size (by rw [HTL.out]; omega) ?_
                  intro v6 w6 hR6 hb6 hg6 _
                  rw [← HQ.out] at hR6
                  obtain ⟨A6, c6, rfl, hc6, hC6⟩ := Kd.R_reads hR6
                  have HC6 := Lib.hid hC6
                  have HB6 := Lib.hid hb6
                  have hw6 : w.heap.size < w6.heap.size := by have := hg6.size; omega
                  have hcell6 : ∀ (ad' : Addr) (v' : Value), ad'.block < w.heap.size + 1 → (w4).cell? ad' = some v' → w6.cell? ad' = some v' := fun ad' v' hlt hv => (World.cell?_of_block (hg6.block ad'.block (by omega) (fun he => HNE5.out ad'.block hlt he))).trans hv
                  refine hK.out _ _ ⟨hcell6 _ _ (by simp) hHeld.1, hcell6 _ _ (by simp) hHeld.2.1, hcell6 _ _ (by exact Nat.lt_succ_of_lt hadb) hHeld.2.2.1, hcell6 _ _ (by exact Nat.lt_succ_of_lt hadb) hHeld.2.2.2.1, hcell6 _ _ (by exact Nat.lt_succ_of_lt hadb) hHeld.2.2.2.2.1, hcell6 _ _ (by exact Nat.lt_succ_of_lt hadb) hHeld.2.2.2.2.2.1, hcell6 _ _ (by exact Nat.lt_succ_of_lt hadb) hHeld.2.2.2.2.2.2.1, hcell6 _ _ (by exact Nat.lt_succ_of_lt hadb) hHeld.2.2.2.2.2.2.2⟩ (fun hHeld => ?_)
                  clear hK K
                  refine norm_ (a' := ?_) ?_ ?_
                  rotate_left
                  · show Act.put _ (some 67) _ = _
                    simp only [Act.put, List.setIfInBounds_toArray, List.set_cons_zero, List.set_cons_succ]
                    rfl
                  clear hg6 hcell6
                  refine pure_ (i := 13) (N := some 5) (v := ?_) (a' := ?_) #[true, true, true, true, true, true, true, true, true, true, true, true, true, true] rfl rfl (by kernel_rfl) (fun _ _ _ h => h) (Or.inl ⟨by rfl, ?_⟩) ?_ ?_
                  rotate_left
                  · intro w'
                    go_simp
                    with_reducible rfl
                  rotate_left
                  · simp only [Act.put, List.setIfInBounds_toArray, List.set_cons_zero, List.set_cons_succ]
                    rfl
                  refine done_ (by kernel_rfl) ?_
                  go_wp2_with fail
                  go_meet
                  exact ⟨A6, c6, rfl, HC6, Lib.hid ⟨hHeld.1, hHeld.2.1⟩, HB6, hw6⟩
              case rest =>
                obtain ⟨A5, c5, rfl, hC5, hBX5, hB5, hww5⟩ := hcut
                have b0'' := hBX5.out.1
                have b1'' := hBX5.out.2
                have hE : errOf (mcheck q holes) = 1 := by rw [HAG.out]; rfl
                clear hsl HCOP b0' b1' hc0 q1 q2 q3 q4 q5 hBX2
                rename_i wd
                go_wp2_with (go_at_call 31; refine (mc_any q holes A5 c5 _ (HT.out.below hB5.out) hC5.out HQN.out).mono ?_; rintro en w6 ⟨rfl, hb6⟩; have c0'' := nd_below hb6 b0''; have c1'' := nd_below hb6 b1''; have HB6 := Lib.hid (hB5.out.trans (hb6.mono hB5.out.size)); have hww6 := Nat.lt_of_lt_of_le hww5 hb6.size; clear hb6; rw [hE])
                go_roundw
                case rel => exact ⟨i + 1, t + 1, by go_num, by go_num, by omega, by omega, HT1, Lib.hid ⟨c0'', c1''⟩, HB6, hww6⟩
                case measure => simp [intOf]; omega
            · have k1 : (x.kind == 3) = false := beq_eq_false_iff_ne.2 hk
              have HT1 : Hid (t = takes (p.take (i + 1))) := Lib.hid (by rw [e1, takes_snoc, if_neg hk, ← hT.out]; rfl)
              clear hk e1 hx c0 c1 cc2 cc3 c4 c5
              go_wp2_with fail
              go_roundw
              case rel => exact ⟨i + 1, t, by go_num, rfl, by omega, by omega, HT1, hBX2, hB2, hww2⟩
              case measure => simp [intOf]; omega
          · have HT1 : Hid (t = takes (p.take (i + 1))) := Lib.hid (by rw [hT.out, List.take_of_length_le (by omega), List.take_of_length_le (by omega)])
            go_wp2_with fail
            go_roundw
            case rel => exact ⟨i + 1, t, by go_num, rfl, by omega, by omega, HT1, hBX2, hB2, hww2⟩
            case measure => simp [intOf]; omega
      · go_wp2_with fail
        go_ret
        exact ⟨rfl, hB.out⟩
end Go.Proofs.YticaocadeeolkaaDoor
