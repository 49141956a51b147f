/-
  THE WALK of the closure within the law's Values: the value of an earlier cell.
  THE WALK of the law's Values: the value of each cell.
  THE WALK of the law's Values, whole.
-/
import Derived.Test.YticaocadeeolkaaDoorMI

namespace Go.Proofs.YticaocadeeolkaaDoor
open Go.RowKit Plain Go.Proofs.YticaocadeeolkaaDoorW.PrintWords Go.Proofs.YticaocadeeolkaaDoorW.PrintLast Go.Proofs.YticaocadeeolkaaDoorW.PrintMore

theorem ret_val {a b : Value} (h : a = b) : Ending.returned a = .returned b := by rw [h]
set_option maxHeartbeats 4000000 in
set_option maxRecDepth 100000 in
theorem get_any (i : Nat) (k : Int) (g gl n : Nat) (ts : List Tm) (w : World) (h3 : w.cell? ⟨g, 0, none⟩ = some (.slice (some ⟨gl, 0, none⟩) n n)) (hl : ∀ j t, ts[j]? = some t → w.cell? ⟨gl, j, none⟩ = some (tval t)) (hi : i ≤ ts.length) (hin : i ≤ n) :
    Calls Tryd.prog 35 #[.int .i64 i, .int .i64 k, .pointer (some ⟨g, 0, none⟩)] w fun en w' => en = .returned (tval (getT ts i k)) ∧ w = w' := by
  have HL := Lib.hid hl
  clear hl
  by_cases h0 : k < 0
  · have d1 : decide (k < 0) = true := decide_eq_true h0
    have HG : Hid (getT ts i k = .nil) := Lib.hid (by unfold getT; rw [if_neg (by omega)])
    go_enter Tryd.func35, Tryd.ntmps35
    go_wp2
    go_ret
    exact ⟨by rw [HG.out]; rfl, rfl⟩
  · have d1 : decide (k < 0) = false := decide_eq_false h0
    by_cases h1 : (i : Int) ≤ k
    · have d2 : decide ((i : Int) ≤ k) = true := decide_eq_true h1
      have HG : Hid (getT ts i k = .nil) := Lib.hid (by unfold getT; rw [if_neg (by omega)])
      go_enter Tryd.func35, Tryd.ntmps35
      go_wp2
      go_ret
      exact ⟨by rw [HG.out]; rfl, rfl⟩
    · have d2 : decide ((i : Int) ≤ k) = false := decide_eq_false h1
      obtain ⟨kn, rfl⟩ := Int.eq_ofNat_of_zero_le (show 0 ≤ k by omega)
      obtain ⟨t, ht⟩ : ∃ t, ts[kn]? = some t := ⟨_, List.getElem?_eq_getElem (by omega)⟩
      have HG : Hid (getT ts i (kn : Int) = t) := Lib.hid (by unfold getT; rw [if_pos (by omega), Int.toNat_natCast, List.getD_eq_getElem?_getD, ht]; rfl)
      have hc := HL.out kn t ht
      clear ht
      go_enter Tryd.func35, Tryd.ntmps35
      go_wp2
      go_ret
      exact ⟨by rw [HG.out]; rfl, rfl⟩
end Go.Proofs.YticaocadeeolkaaDoor

namespace Go.Proofs.YticaocadeeolkaaDoor
open Go.RowKit Plain Go.Proofs.YticaocadeeolkaaDoorW.PrintWords Go.Proofs.YticaocadeeolkaaDoorW.PrintLast Go.Proofs.YticaocadeeolkaaDoorW.PrintMore

/-- The row of the terms so far. -/
def valsRow (ts : List Tm) (n : Nat) : List Value := ts.map tval ++ List.replicate (n - ts.length) .nilIface
theorem valsRow_next (ts : List Tm) (n : Nat) (t : Tm) (h : ts.length < n) : (valsRow ts n).set ts.length (tval t) = valsRow (ts ++ [t]) n := by
  unfold valsRow
  rw [List.set_append_right _ _ (by simp), List.length_map, Nat.sub_self]
  obtain ⟨d, hd⟩ : ∃ d, n - ts.length = d + 1 := ⟨n - ts.length - 1, by omega⟩
  rw [hd, List.replicate_succ, List.set_cons_zero, List.map_append, List.length_append]
  have : n - (ts.length + [t].length) = d := by simp; omega
  rw [this]; simp
theorem valsRow_all (ts : List Tm) : valsRow ts ts.length = ts.map tval := by simp [valsRow]
theorem valsRow_zero (n : Nat) : (valsRow [] n).toArray = madeCells #[.nilIface] n := by
  unfold valsRow madeCells
  apply Array.ext
  · simp
  · intro i h1 h2
    simp [Nat.mod_one]
theorem getT_append (ts : List Tm) (t : Tm) (i : Nat) (k : Int) (h : i ≤ ts.length) : getT (ts ++ [t]) i k = getT ts i k := by
  unfold getT
  split
  · rename_i hk
    rw [List.getD_eq_getElem?_getD, List.getD_eq_getElem?_getD, List.getElem?_append_left (by omega)]
  · rfl
theorem valOk_append {ts : List Tm} {t u : Tm} {i : Nat} {x : Cl} (h : i ≤ ts.length) : ValOk ts i x u → ValOk (ts ++ [t]) i x u := by
  unfold ValOk
  simp only [getT_append ts t i _ h]
  exact id
structure VInv (cells : List Cl) (w : World) (gl g3 : Nat) (i : Nat) (ts : List Tm) (wr : World) : Prop where
  len : ts.length = i
  hin : i ≤ cells.length
  row : wr.heap[gl]? = some (.cells (valsRow ts cells.length).toArray 33 (0, 0))
  var : wr.heap[g3]? = some (.cells #[.slice (some ⟨gl, 0, none⟩) cells.length cells.length] 24 (0, 0))
  val : ∀ j x, j < i → cells[j]? = some x → ValOk ts j x (ts.getD j .nil)
  fine : ∀ t ∈ ts, tfine t ∧ tn maxLen t
  B : Below w.heap.size w wr
  hgl : w.heap.size ≤ gl
  hne : g3 ≠ gl
section
variable {cells : List Cl} {w : World} {gl g3 i : Nat} {ts : List Tm} {wr : World}
theorem VInv.cell (h : VInv cells w gl g3 i ts wr) : ∀ j t, ts[j]? = some t → wr.cell? ⟨gl, j, none⟩ = some (tval t) := fun j t ht => by
  have hlt := (List.getElem?_eq_some_iff.1 ht).1
  have hj : (valsRow ts cells.length).toArray[j]? = some (tval t) := by
    unfold valsRow
    rw [List.getElem?_toArray, List.getElem?_append_left (by simpa using hlt), List.getElem?_map, ht]; rfl
  simp [World.cell?, h.row, hj]
theorem VInv.here (h : VInv cells w gl g3 i ts wr) (hi : i < cells.length) : wr.cell? ⟨gl, i, none⟩ = some .nilIface := by
  have hl := h.len
  have hj : (valsRow ts cells.length).toArray[i]? = some .nilIface := by
    unfold valsRow
    rw [List.getElem?_toArray, List.getElem?_append_right (by simp; omega), List.getElem?_replicate]
    simp; omega
  simp [World.cell?, h.row, hj]
theorem VInv.get (h : VInv cells w gl g3 i ts wr) (k : Int) {w2 : World} (hb : Below wr.heap.size wr w2) : Calls Tryd.prog 35 #[.int .i64 i, .int .i64 k, .pointer (some ⟨g3, 0, none⟩)] w2 fun en w' => en = .returned (tval (getT ts i k)) ∧ w2 = w' :=
  get_any i k g3 gl cells.length ts w2 (nd_below hb (blk_cell h.var 0)) (fun j t ht => nd_below hb (h.cell j t ht)) (by rw [h.len]; exact Nat.le_refl _) h.hin
theorem VInv.next (h : VInv cells w gl g3 i ts wr) {x : Cl} (hx : cells[i]? = some x) {t : Tm} (hv : ValOk ts i x t) (hf : tfine t ∧ tn maxLen t) {w2 : World} (hb : Below wr.heap.size wr w2) : VInv cells w gl g3 (i + 1) (ts ++ [t]) (w2.setCell ⟨gl, i, none⟩ (tval t)) where
  len := by simp [h.len]
  hin := (List.getElem?_eq_some_iff.1 hx).1
  row := by
    have hlt := (List.getElem?_eq_some_iff.1 hx).1
    have h1 := heap_setCell_same w2 gl i _ _ (tval t) ((hb.block gl (Array.getElem?_eq_some_iff.1 h.row).1).trans h.row)
    rw [h1, ← valsRow_next ts cells.length t (by rw [h.len]; exact hlt), h.len, List.setIfInBounds_toArray]
  var := (Below.heap_setCell w2 ⟨gl, i, none⟩ (tval t) g3 h.hne).trans ((hb.block g3 (Array.getElem?_eq_some_iff.1 h.var).1).trans h.var)
  val := fun j y hj hy => by
    by_cases hji : j < i
    · rw [List.getD_eq_getElem?_getD, List.getElem?_append_left (by rw [h.len]; exact hji), ← List.getD_eq_getElem?_getD]
      exact valOk_append (by rw [h.len]; omega) (h.val j y hji hy)
    · have hje : j = i := by omega
      subst hje
      rw [hx] at hy; cases hy
      rw [List.getD_eq_getElem?_getD, List.getElem?_append_right (by rw [h.len]; exact Nat.le_refl _), h.len, Nat.sub_self]
      exact valOk_append (by rw [h.len]; exact Nat.le_refl _) hv
  fine := fun u hu => by
    rcases List.mem_append.1 hu with h1 | h1
    · exact h.fine u h1
    · rw [List.mem_singleton.1 h1]; exact hf
  B := (h.B.trans (hb.mono h.B.size)).setCell (p := ⟨gl, i, none⟩) h.hgl (tval t)
  hgl := h.hgl
  hne := h.hne
theorem getT_fine (h : VInv cells w gl g3 i ts wr) (k : Int) : tfine (getT ts i k) ∧ tn maxLen (getT ts i k) := by
  unfold getT
  split
  · rw [List.getD_eq_getElem?_getD]
    cases hh : ts[k.toNat]? with
    | none => exact ⟨trivial, trivial⟩
    | some t => exact h.fine t (List.mem_of_getElem? hh)
  · exact ⟨trivial, trivial⟩
end
end Go.Proofs.YticaocadeeolkaaDoor

namespace Go.Proofs.YticaocadeeolkaaDoor
open Go.RowKit Plain Go.Proofs.YticaocadeeolkaaDoorW.PrintWords Go.Proofs.YticaocadeeolkaaDoorW.PrintLast Go.Proofs.YticaocadeeolkaaDoorW.PrintMore

theorem cell_far {w : World} {p : Addr} {u v : Value} {a : Addr} (hne : a.block ≠ p.block) (h : w.cell? a = some v) : (w.setCell p u).cell? a = some v := (World.cell?_of_block (w := w) (Below.heap_setCell w p u a.block hne)).trans h
theorem VInv.below {cells : List Cl} {w : World} {gl g3 i : Nat} {ts : List Tm} {wr : World} (h : VInv cells w gl g3 i ts wr) {w2 : World} (hb : Below wr.heap.size wr w2) : VInv cells w gl g3 i ts w2 :=
  { h with row := (hb.block gl (Array.getElem?_eq_some_iff.1 h.row).1).trans h.row, var := (hb.block g3 (Array.getElem?_eq_some_iff.1 h.var).1).trans h.var, B := h.B.trans (hb.mono h.B.size) }
theorem VInv.skip {cells : List Cl} {w : World} {gl g3 i : Nat} {ts : List Tm} {wr : World} (h : VInv cells w gl g3 i ts wr) {x : Cl} (hx : cells[i]? = some x) (hv : ValOk ts i x .nil) {w2 : World} (hb : Below wr.heap.size wr w2) : VInv cells w gl g3 (i + 1) (ts ++ [.nil]) w2 where
  len := by simp [h.len]
  hin := (List.getElem?_eq_some_iff.1 hx).1
  row := by
    have hlt := (List.getElem?_eq_some_iff.1 hx).1
    have hl := h.len
    have e : valsRow (ts ++ [.nil]) cells.length = valsRow ts cells.length := by
      unfold valsRow
      obtain ⟨d, hd⟩ : ∃ d, cells.length - ts.length = d + 1 := ⟨cells.length - ts.length - 1, by omega⟩
      have h2 : cells.length - (ts ++ [Tm.nil]).length = d := by simp; omega
      rw [hd, h2, List.replicate_succ, List.map_append, List.append_assoc]; rfl
    rw [e]
    exact (hb.block gl (Array.getElem?_eq_some_iff.1 h.row).1).trans h.row
  var := (hb.block g3 (Array.getElem?_eq_some_iff.1 h.var).1).trans h.var
  val := fun j y hj hy => by
    by_cases hji : j < i
    · rw [List.getD_eq_getElem?_getD, List.getElem?_append_left (by rw [h.len]; exact hji), ← List.getD_eq_getElem?_getD]
      exact valOk_append (by rw [h.len]; omega) (h.val j y hji hy)
    · have hje : j = i := by omega
      subst hje
      rw [hx] at hy; cases hy
      rw [List.getD_eq_getElem?_getD, List.getElem?_append_right (by rw [h.len]; exact Nat.le_refl _), h.len, Nat.sub_self]
      exact valOk_append (by rw [h.len]; exact Nat.le_refl _) hv
  fine := fun u hu => by
    rcases List.mem_append.1 hu with h1 | h1
    · exact h.fine u h1
    · rw [List.mem_singleton.1 h1]; exact ⟨trivial, trivial⟩
  B := h.B.trans (hb.mono h.B.size)
  hgl := h.hgl
  hne := h.hne
theorem make_termsN (c : Nat) (hc : c ≤ 17592186044416) (w : World) :
    (Instr.makeSlice 24 (.int .i64 (c : Int)) (.int .i64 (c : Int))).run Tryd.prog w = .ok (.slice (some ⟨w.heap.size, 0, none⟩) c c) (w.alloc (.cells (madeCells #[.nilIface] c) 33)) := by
  obtain ⟨i, hi, hzz⟩ := Option.map_eq_some_iff.1 infoTm
  simp only [Prod.mk.injEq] at hzz
  obtain ⟨hz0, hz1, hz2⟩ := hzz
  have := run_make_rowN 24 33 i .nilIface Tryd.underlying24 hi hz0 .i64 .i64 c c (Nat.le_refl _) (by rw [hz2]; omega) (by omega) w
  rw [hz1, Nat.mul_one] at this
  exact this
def ValuesOk (cells : List Cl) (w : World) (en : Ending) (w' : World) : Prop := ∃ ts A c, en = .returned (.slice A ts.length c) ∧ ts.length = cells.length ∧ ts.length ≤ c ∧ Kd.C kTm w' A ts.length ts ∧
  (∀ j x, cells[j]? = some x → ValOk ts j x (ts.getD j .nil)) ∧ (∀ t ∈ ts, tfine t ∧ tn maxLen t) ∧ Below w.heap.size w w'
set_option maxHeartbeats 16000000 in
set_option maxRecDepth 100000 in
theorem values_any (cells : List Cl) (A : Option Addr) (c : Nat) (w : World) (hr : Kd.C kCl w A cells.length cells) (hcn : cells.length ≤ 2199023255488) (hnm : ∀ x ∈ cells, x.name.size ≤ maxLen) :
    Calls Tryd.prog 10 #[.slice A cells.length c] w (ValuesOk cells w) := by
  have HR := Lib.hid hr
  have HNM := Lib.hid hnm
  have hu2 := Tryd.underlying84
  have hmk := fun w => make_termsN cells.length (by omega) w
  have hmf : ∀ (fn : Fn) (first cap : Array Value) (w : World), (Instr.makeFunc fn first cap).run Tryd.prog w = .ok (.func fn first cap) w := fun _ _ _ _ => rfl
  clear hr hnm
  go_enter Tryd.func10, Tryd.ntmps10
  go_wp2
  go_loopw [13] (fun iv wr => ∃ (i : Nat) (ts : List Tm), iv = .int .i64 i ∧ Hid (VInv cells w w.heap.size (w.heap.size + 1) i ts wr)) (fun iv _ => cells.length - (intOf iv).toNat)
  case atStart => exact ⟨0, [], rfl, Lib.hid ⟨rfl, Nat.zero_le _, by rw [valsRow_zero]; exact (Below.heap_alloc _ _ _ (by simp)).trans (heap_alloc_new w _), heap_two w _ _, fun j x hj => absurd hj (by omega), (fun _ h => by cases h), ((Below.refl _ _).alloc (Nat.le_refl _) _).alloc (by simp) _, Nat.le_refl _, by omega⟩⟩
  case round =>
    obtain ⟨i, ts, rfl, hI⟩ := hrel
    have hi := hI.out.hin
    have hvar := blk_cell hI.out.var 0
    have hwr := hI.out.B.size
    have hgw : w.heap.size < wr.heap.size := (Array.getElem?_eq_some_iff.1 hI.out.row).1
    have hg3 : w.heap.size + 1 < wr.heap.size := (Array.getElem?_eq_some_iff.1 hI.out.var).1
    obtain ⟨wo, rfl⟩ : ∃ wo : World, wo = wr := ⟨_, rfl⟩
    by_cases hlt : i < cells.length
    · obtain ⟨x, hx⟩ : ∃ x, cells[i]? = some x := ⟨_, List.getElem?_eq_getElem hlt⟩
      obtain ⟨ad, hA, c0, c1, c2, c3, c4, c5, c6⟩ := cl_at HR.out hx
      subst hA
      have hc0 := nd_below hI.out.B c0
      have hc1 := nd_below hI.out.B c1
      have hc2 := nd_below hI.out.B c2
      have hc3 := nd_below hI.out.B c3
      have hc4 := nd_below hI.out.B c4
      have hc5 := nd_below hI.out.B c5
      have hc6 := nd_below hI.out.B c6
      have hhere := hI.out.here hlt
      have hfrz := blk_frozen hI.out.row i
      have HX := Lib.hid hx
      have HNX := Lib.hid (HNM.out x (List.mem_of_getElem? hx))
      clear c0 c1 c2 c3 c4 c5 c6 hx
      by_cases h : x.kind = 1
      · have HV : Hid (ValOk ts i x (.lit x.n)) := Lib.hid (.inl ⟨h, rfl⟩)
        have e1 : (x.kind == 1) = true := beq_iff_eq.2 h
        clear h
        go_wp2
        go_roundw
        case rel => exact ⟨i + 1, ts ++ [.lit x.n], by go_num, Lib.hid ((hI.out.next HX.out HV.out ⟨trivial, trivial⟩ (Below.refl _ _)).below ((Below.refl _ _).alloc (Nat.le_refl _) _))⟩
        case measure => simp [intOf]; omega
      have h1 := h
      clear h
      by_cases h : x.kind = 2
      · have HV : Hid (ValOk ts i x (.var x.name)) := Lib.hid (.inr (.inl ⟨h, rfl⟩))
        have e1 : (x.kind == 1) = false := by rw [h]; rfl
        have e2 : (x.kind == 2) = true := beq_iff_eq.2 h
        clear h
        go_wp2
        go_roundw
        case rel => exact ⟨i + 1, ts ++ [.var x.name], by go_num, Lib.hid ((hI.out.next HX.out HV.out ⟨trivial, HNX.out⟩ (Below.refl _ _)).below ((Below.refl _ _).alloc (Nat.le_refl _) _))⟩
        case measure => simp [intOf]; omega
      have h2 := h
      clear h
      by_cases h : x.kind = 3
      · have HV : Hid (ValOk ts i x (.un x.op (getT ts i x.a))) := Lib.hid (.inr (.inr (.inl ⟨h, rfl⟩)))
        have HF : Hid (tfine (.un x.op (getT ts i x.a)) ∧ tn maxLen (.un x.op (getT ts i x.a))) := Lib.hid (getT_fine hI.out x.a)
        have e1 : (x.kind == 1) = false := by rw [h]; rfl
        have e2 : (x.kind == 2) = false := by rw [h]; rfl
        have e3 : (x.kind == 3) = true := beq_iff_eq.2 h
        clear h
        go_wp2
        have hnew := heap_alloc_new wo (.cells #[.int .i64 x.kind, .int .i64 x.op, .int .i64 x.n, .string x.name, .int .i64 x.a, .int .i64 x.b, .int .i64 x.c] 84 (0, 0))
        have hB0 := (Below.refl wo.heap.size wo).alloc (Nat.le_refl _) (.cells #[.int .i64 x.kind, .int .i64 x.op, .int .i64 x.n, .string x.name, .int .i64 x.a, .int .i64 x.b, .int .i64 x.c] 84 (0, 0))
        generalize (wo.alloc (.cells #[.int .i64 x.kind, .int .i64 x.op, .int .i64 x.n, .string x.name, .int .i64 x.a, .int .i64 x.b, .int .i64 x.c] 84 (0, 0))) = W at hnew hB0 ⊢
        have p1 := blk_cell hnew 1
        have p4 := blk_cell hnew 4
        have p5 := blk_cell hnew 5
        have p6 := blk_cell hnew 6
        have pv := nd_below hB0 hvar
        have ph := nd_below hB0 hhere
        have pz := blk_frozen ((hB0.block _ hgw).trans hI.out.row) i
        have HB0 := Lib.hid hB0
        clear hvar hhere hfrz hnew hB0
        go_region_held3 (fun w' => w'.cell? ⟨w.heap.size + 1, 0, none⟩ = some (.slice (some ⟨w.heap.size, 0, none⟩) cells.length cells.length) ∧ w'.cell? ⟨wo.heap.size, 1, none⟩ = some (.int .i64 x.op) ∧ w'.cell? ⟨wo.heap.size, 4, none⟩ = some (.int .i64 x.a) ∧ w'.cell? ⟨wo.heap.size, 5, none⟩ = some (.int .i64 x.b) ∧ w'.cell? ⟨wo.heap.size, 6, none⟩ = some (.int .i64 x.c)) (first | (refine ⟨?_, ?_, ?_, ?_, ?_⟩ <;> assumption) | (refine ⟨?_, ?_, ?_, ?_, ?_⟩ <;> refine cell_far (by simp only []; omega) ?_ <;> assumption)) (first | (go_at_call 35; refine (hI.out.get _ (by with_reducible repeat (first | exact HB0.out | refine Below.drew ?_))).mono ?_; rintro en w1 ⟨rfl, rfl⟩))
        all_goals go_wp2
        all_goals go_roundw
        all_goals first | exact ⟨i + 1, ts ++ [.un x.op (getT ts i x.a)], by go_num, Lib.hid ((hI.out.next HX.out HV.out HF.out HB0.out).below (Below.refl _ _).drew)⟩ | (simp [intOf]; omega)
      have h3 := h
      clear h
      by_cases h : x.kind = 4
      · have HV : Hid (ValOk ts i x (.bin x.op (getT ts i x.a) (getT ts i x.b))) := Lib.hid (.inr (.inr (.inr (.inl ⟨h, rfl⟩))))
        have HF : Hid (tfine (.bin x.op (getT ts i x.a) (getT ts i x.b)) ∧ tn maxLen (.bin x.op (getT ts i x.a) (getT ts i x.b))) := Lib.hid (⟨⟨(getT_fine hI.out x.a).1, (getT_fine hI.out x.b).1⟩, ⟨(getT_fine hI.out x.a).2, (getT_fine hI.out x.b).2⟩⟩)
        have e1 : (x.kind == 1) = false := by rw [h]; rfl
        have e2 : (x.kind == 2) = false := by rw [h]; rfl
        have e3 : (x.kind == 3) = false := by rw [h]; rfl
        have e4 : (x.kind == 4) = true := beq_iff_eq.2 h
        clear h
        go_wp2
        have hnew := heap_alloc_new wo (.cells #[.int .i64 x.kind, .int .i64 x.op, .int .i64 x.n, .string x.name, .int .i64 x.a, .int .i64 x.b, .int .i64 x.c] 84 (0, 0))
        have hB0 := (Below.refl wo.heap.size wo).alloc (Nat.le_refl _) (.cells #[.int .i64 x.kind, .int .i64 x.op, .int .i64 x.n, .string x.name, .int .i64 x.a, .int .i64 x.b, .int .i64 x.c] 84 (0, 0))
        generalize (wo.alloc (.cells #[.int .i64 x.kind, .int .i64 x.op, .int .i64 x.n, .string x.name, .int .i64 x.a, .int .i64 x.b, .int .i64 x.c] 84 (0, 0))) = W at hnew hB0 ⊢
        have p1 := blk_cell hnew 1
        have p4 := blk_cell hnew 4
        have p5 := blk_cell hnew 5
        have p6 := blk_cell hnew 6
        have pv := nd_below hB0 hvar
        have ph := nd_below hB0 hhere
        have pz := blk_frozen ((hB0.block _ hgw).trans hI.out.row) i
        have HB0 := Lib.hid hB0
        clear hvar hhere hfrz hnew hB0
        go_region_held3 (fun w' => w'.cell? ⟨w.heap.size + 1, 0, none⟩ = some (.slice (some ⟨w.heap.size, 0, none⟩) cells.length cells.length) ∧ w'.cell? ⟨wo.heap.size, 1, none⟩ = some (.int .i64 x.op) ∧ w'.cell? ⟨wo.heap.size, 4, none⟩ = some (.int .i64 x.a) ∧ w'.cell? ⟨wo.heap.size, 5, none⟩ = some (.int .i64 x.b) ∧ w'.cell? ⟨wo.heap.size, 6, none⟩ = some (.int .i64 x.c)) (first | (refine ⟨?_, ?_, ?_, ?_, ?_⟩ <;> assumption) | (refine ⟨?_, ?_, ?_, ?_, ?_⟩ <;> refine cell_far (by simp only []; omega) ?_ <;> assumption)) (first | (go_at_call 35; refine (hI.out.get _ (by with_reducible repeat (first | exact HB0.out | refine Below.drew ?_))).mono ?_; rintro en w1 ⟨rfl, rfl⟩))
        all_goals go_wp2
        all_goals go_roundw
        all_goals first | exact ⟨i + 1, ts ++ [.bin x.op (getT ts i x.a) (getT ts i x.b)], by go_num, Lib.hid ((hI.out.next HX.out HV.out HF.out HB0.out).below (Below.refl _ _).drew)⟩ | (simp [intOf]; omega)
      have h4 := h
      clear h
      by_cases h : x.kind = 5
      · have HV : Hid (ValOk ts i x (.ite (getT ts i x.c) (getT ts i x.a) (getT ts i x.b))) := Lib.hid (.inr (.inr (.inr (.inr (.inl ⟨h, rfl⟩)))))
        have HF : Hid (tfine (.ite (getT ts i x.c) (getT ts i x.a) (getT ts i x.b)) ∧ tn maxLen (.ite (getT ts i x.c) (getT ts i x.a) (getT ts i x.b))) := Lib.hid (⟨⟨(getT_fine hI.out x.c).1, (getT_fine hI.out x.a).1, (getT_fine hI.out x.b).1⟩, ⟨(getT_fine hI.out x.c).2, (getT_fine hI.out x.a).2, (getT_fine hI.out x.b).2⟩⟩)
        have e1 : (x.kind == 1) = false := by rw [h]; rfl
        have e2 : (x.kind == 2) = false := by rw [h]; rfl
        have e3 : (x.kind == 3) = false := by rw [h]; rfl
        have e4 : (x.kind == 4) = false := by rw [h]; rfl
        have e5 : (x.kind == 5) = true := beq_iff_eq.2 h
        clear h
        go_wp2
        have hnew := heap_alloc_new wo (.cells #[.int .i64 x.kind, .int .i64 x.op, .int .i64 x.n, .string x.name, .int .i64 x.a, .int .i64 x.b, .int .i64 x.c] 84 (0, 0))
        have hB0 := (Below.refl wo.heap.size wo).alloc (Nat.le_refl _) (.cells #[.int .i64 x.kind, .int .i64 x.op, .int .i64 x.n, .string x.name, .int .i64 x.a, .int .i64 x.b, .int .i64 x.c] 84 (0, 0))
        generalize (wo.alloc (.cells #[.int .i64 x.kind, .int .i64 x.op, .int .i64 x.n, .string x.name, .int .i64 x.a, .int .i64 x.b, .int .i64 x.c] 84 (0, 0))) = W at hnew hB0 ⊢
        have p1 := blk_cell hnew 1
        have p4 := blk_cell hnew 4
        have p5 := blk_cell hnew 5
        have p6 := blk_cell hnew 6
        have pv := nd_below hB0 hvar
        have ph := nd_below hB0 hhere
        have pz := blk_frozen ((hB0.block _ hgw).trans hI.out.row) i
        have HB0 := Lib.hid hB0
        clear hvar hhere hfrz hnew hB0
        go_region_held3 (fun w' => w'.cell? ⟨w.heap.size + 1, 0, none⟩ = some (.slice (some ⟨w.heap.size, 0, none⟩) cells.length cells.length) ∧ w'.cell? ⟨wo.heap.size, 1, none⟩ = some (.int .i64 x.op) ∧ w'.cell? ⟨wo.heap.size, 4, none⟩ = some (.int .i64 x.a) ∧ w'.cell? ⟨wo.heap.size, 5, none⟩ = some (.int .i64 x.b) ∧ w'.cell? ⟨wo.heap.size, 6, none⟩ = some (.int .i64 x.c)) (first | (refine ⟨?_, ?_, ?_, ?_, ?_⟩ <;> assumption) | (refine ⟨?_, ?_, ?_, ?_, ?_⟩ <;> refine cell_far (by simp only []; omega) ?_ <;> assumption)) (first | (go_at_call 35; refine (hI.out.get _ (by with_reducible repeat (first | exact HB0.out | refine Below.drew ?_))).mono ?_; rintro en w1 ⟨rfl, rfl⟩))
        all_goals go_wp2
        all_goals go_roundw
        all_goals first | exact ⟨i + 1, ts ++ [.ite (getT ts i x.c) (getT ts i x.a) (getT ts i x.b)], by go_num, Lib.hid ((hI.out.next HX.out HV.out HF.out HB0.out).below (Below.refl _ _).drew)⟩ | (simp [intOf]; omega)
      have h5 := h
      clear h
      by_cases h : x.kind = 6
      · have HV : Hid (ValOk ts i x (.other 91 (.pointer (some ⟨wo.heap.size + 1, 0, none⟩)))) := Lib.hid (.inr (.inr (.inr (.inr (.inr ⟨by omega, by omega, by omega, by omega, by omega, .inr ⟨_, _, rfl⟩⟩)))))
        have e1 : (x.kind == 1) = false := by rw [h]; rfl
        have e2 : (x.kind == 2) = false := by rw [h]; rfl
        have e3 : (x.kind == 3) = false := by rw [h]; rfl
        have e4 : (x.kind == 4) = false := by rw [h]; rfl
        have e5 : (x.kind == 5) = false := by rw [h]; rfl
        have e6 : (x.kind == 6) = true := beq_iff_eq.2 h
        clear h
        go_wp2
        go_roundw
        case rel => exact ⟨i + 1, ts ++ [.other 91 (.pointer (some ⟨wo.heap.size + 1, 0, none⟩))], by go_num, Lib.hid ((hI.out.next HX.out HV.out ⟨⟨by decide, by decide, by decide, by decide, by decide⟩, trivial⟩ (Below.refl _ _)).below (((Below.refl _ _).alloc (Nat.le_refl _) _).alloc (by simp) _))⟩
        case measure => simp [intOf]; omega
      have h6 := h
      clear h
      by_cases h : x.kind = 7
      · have HV : Hid (ValOk ts i x (.other 92 (.agg #[.int .i64 x.n]))) := Lib.hid (.inr (.inr (.inr (.inr (.inr ⟨by omega, by omega, by omega, by omega, by omega, .inr ⟨_, _, rfl⟩⟩)))))
        have e1 : (x.kind == 1) = false := by rw [h]; rfl
        have e2 : (x.kind == 2) = false := by rw [h]; rfl
        have e3 : (x.kind == 3) = false := by rw [h]; rfl
        have e4 : (x.kind == 4) = false := by rw [h]; rfl
        have e5 : (x.kind == 5) = false := by rw [h]; rfl
        have e6 : (x.kind == 6) = false := by rw [h]; rfl
        have e7 : (x.kind == 7) = true := beq_iff_eq.2 h
        clear h
        go_wp2
        go_roundw
        case rel => exact ⟨i + 1, ts ++ [.other 92 (.agg #[.int .i64 x.n])], by go_num, Lib.hid ((hI.out.next HX.out HV.out ⟨⟨by decide, by decide, by decide, by decide, by decide⟩, trivial⟩ (Below.refl _ _)).below ((Below.refl _ _).alloc (Nat.le_refl _) _))⟩
        case measure => simp [intOf]; omega
      have h7 := h
      clear h
      have HV : Hid (ValOk ts i x .nil) := Lib.hid (.inr (.inr (.inr (.inr (.inr ⟨h1, h2, h3, h4, h5, .inl rfl⟩)))))
      have e1 : (x.kind == 1) = false := beq_eq_false_iff_ne.2 h1
      have e2 : (x.kind == 2) = false := beq_eq_false_iff_ne.2 h2
      have e3 : (x.kind == 3) = false := beq_eq_false_iff_ne.2 h3
      have e4 : (x.kind == 4) = false := beq_eq_false_iff_ne.2 h4
      have e5 : (x.kind == 5) = false := beq_eq_false_iff_ne.2 h5
      have e6 : (x.kind == 6) = false := beq_eq_false_iff_ne.2 h6
      have e7 : (x.kind == 7) = false := beq_eq_false_iff_ne.2 h7
      clear h1 h2 h3 h4 h5 h6 h7
      go_wp2
      go_roundw
      case rel => exact ⟨i + 1, ts ++ [.nil], by go_num, Lib.hid (hI.out.skip HX.out HV.out ((Below.refl _ _).alloc (Nat.le_refl _) _))⟩
      case measure => simp [intOf]; omega
    · have hie : i = cells.length := by omega
      have hIe := hI.out
      rw [hie] at hIe
      have HIE := Lib.hid hIe
      clear hie hIe
      go_wp2
      go_ret
      have hl := HIE.out.len
      have hrow := HIE.out.row
      rw [← hl, valsRow_all] at hrow
      have hR := R_of_block tval tval_one (base := 0) hrow (Nat.zero_le _) (by unfold maxLen; omega)
      refine ⟨ts, some ⟨w.heap.size, 0, none⟩, ts.length, by rw [hl]; rfl, hl, Nat.le_refl _, (Kd.R_reads' (d := kTm) hR).2.2, fun j x hx => HIE.out.val j x (List.getElem?_eq_some_iff.1 hx).1 hx, HIE.out.fine, HIE.out.B⟩
end Go.Proofs.YticaocadeeolkaaDoor
