/-
  THE TABLES: what the rows' list gives is what the walks ask of them.
-/
import Derived.Test.YticaocadeeolkaaDoorAb
import Derived.Test.YticaocadeeolkaaDoorRows
import Derived.Lib.LaidTab
import Derived.OpenShut
namespace Go.Proofs.YticaocadeeolkaaDoor
open Go.RowKit Plain Go.ChangeShapes

theorem chunks2 {f : Nat → List Value} : ∀ (n : Nat) (cs : List Value), cs.length = n * 2 → (∀ i, i < n → (cs.drop (i * 2)).take 2 = f i) → cs = (List.range n).flatMap f
  | 0, cs, h, _ => by
    rw [Nat.zero_mul] at h
    rw [List.length_eq_zero_iff.1 h]; rfl
  | n + 1, cs, h, hf => by
    have h1 := chunks2 (f := f) n (cs.take (n * 2)) (by rw [List.length_take]; omega) (fun i hi => by
      rw [← hf i (by omega), List.drop_take, List.take_take, Nat.min_eq_left (by omega)])
    have h2 := hf n (by omega)
    rw [List.take_of_length_le (by rw [List.length_drop]; omega)] at h2
    rw [List.range_succ, List.flatMap_append, ← h1]
    simp only [List.flatMap_cons, List.flatMap_nil, List.append_nil]
    rw [← h2, List.take_append_drop]
def letterPairs : List (Int × Int) := [(97, 122), (65, 90), (95, 95), (192, 214), (216, 246), (248, 591), (880, 893), (895, 902), (904, 1023), (1024, 1153), (1162, 1327), (19968, 40959), (66560, 66639)]
theorem gLetters : Tryd.prog.globalNamed "sorrel/runes.letters" = some 0 := by kernel_rfl
theorem gLettersT : (Tryd.prog.globals[0]?).map (·.type) = some 160 := by kernel_rfl
theorem gZeros : Tryd.prog.globalNamed "sorrel/runes.zeros" = some 1 := by kernel_rfl
theorem gZerosT : (Tryd.prog.globals[1]?).map (·.type) = some 167 := by kernel_rfl
theorem cSpan : Tryd.prog.cellsOf 159 = 2 := by kernel_rfl
theorem cSpans : Tryd.prog.cellsOf 160 = 26 := by kernel_rfl
theorem cRune : Tryd.prog.cellsOf 21 = 1 := by kernel_rfl
theorem cZeros : Tryd.prog.cellsOf 167 = 3 := by kernel_rfl
section
variable {W : World} {enc : TypeId × Value → Unit} {held : Bool}
set_option maxRecDepth 100000 in
theorem span_cells {fuel : Nat} {cs : List Value} {a b : Int} {p : List MemPlace} (h : DataW.trod enc Tryd.prog W 0 (fun _ => true) held fuel 159 cs = some (.agg [.lit (.int .i32 a), .lit (.int .i32 b)], p)) : cs = [.int .i32 a, .int .i32 b] := by
  obtain ⟨xs, k, rfl, hx, hcl, hxl, hf⟩ := DataW.trod_struct Tryd.underlying159 h
  rw [cSpan] at hcl
  match cs, hcl with
  | [c0, c1], _ =>
    match xs, hxl with
    | [x0, x1], _ =>
      have h0 : DataW.trod enc Tryd.prog W 0 (fun _ => true) held k 21 ([c0, c1].take (Tryd.prog.cellsOf 21)) = some x0 := hf 0 _ rfl
      have h1 : DataW.trod enc Tryd.prog W 0 (fun _ => true) held k 21 ([c1].take (Tryd.prog.cellsOf 21)) = some x1 := hf 1 _ rfl
      rw [cRune] at h0 h1
      obtain ⟨m, e0, rfl, _⟩ := DataW.trod_int Tryd.underlying21 h0
      obtain ⟨n, e1, rfl, _⟩ := DataW.trod_int Tryd.underlying21 h1
      have hx1 := (Prod.mk.inj hx).1
      simp only [List.map_cons, List.map_nil, DataW.agg.injEq, List.cons.injEq, DataW.lit.injEq, Lit.int.injEq, true_and, and_true] at hx1
      obtain ⟨rfl, rfl⟩ := hx1
      obtain rfl : c0 = .int .i32 a := by simpa using e0
      obtain rfl : c1 = .int .i32 b := by simpa using e1
      rfl
set_option maxRecDepth 100000 in
theorem letter_cells {fuel : Nat} {cs : List Value} {p : List MemPlace} (h : DataW.trod enc Tryd.prog W 0 (fun _ => true) held fuel 160 cs = some (Rows.laid_sorrel_runes_letters, p)) : cs = lettersCells.map (Value.int .i32) := by
  obtain ⟨xs, k, rfl, hx, hcl, hxl, hf⟩ := DataW.trod_array Tryd.underlying160 h
  rw [cSpans] at hcl
  have hxs : xs.map (·.1) = letterPairs.map fun p => (DataW.agg [.lit (.int .i32 p.1), .lit (.int .i32 p.2)] : DataW Unit) := by
    have := (Prod.mk.inj hx).1
    unfold Rows.laid_sorrel_runes_letters at this
    simp only [DataW.agg.injEq] at this
    rw [← this]; rfl
  have := chunks2 (f := fun i => [.int .i32 (letterPairs.getD i (0, 0)).1, .int .i32 (letterPairs.getD i (0, 0)).2]) 13 cs hcl (fun i hi => by
    have h1 := hf i hi
    rw [cSpan] at h1
    have h2 : (xs.map (·.1))[i]? = some (DataW.agg [.lit (.int .i32 (letterPairs.getD i (0, 0)).1), .lit (.int .i32 (letterPairs.getD i (0, 0)).2)]) := by
      rw [hxs, List.getElem?_map, List.getD_eq_getElem?_getD, List.getElem?_eq_getElem (by exact hi)]; rfl
    obtain ⟨x, h3, h4⟩ := List.getElem?_map ▸ h2 |> Option.map_eq_some_iff.1
    rw [h3] at h1
    obtain ⟨x1, x2⟩ := x
    simp only at h4
    subst h4
    exact span_cells h1)
  rw [this]; rfl
set_option maxRecDepth 100000 in
theorem tabs_of_laid (h : laidMetH Tryd.prog [("sorrel/runes.letters", Rows.laid_sorrel_runes_letters), ("sorrel/runes.zeros", Rows.laid_sorrel_runes_zeros)] W) : Tabs W := by
  obtain ⟨ps, ⟨g1, t1, cs1, fuel1, p1, q1, hg1, ht1, hv1, hd1, ⟨g2, t2, cs2, fuel2, p2, q2, hg2, ht2, hv2, hd2, _, _⟩, _⟩, _⟩ := (show laidMet Tryd.prog [("sorrel/runes.letters", Rows.laid_sorrel_runes_letters), ("sorrel/runes.zeros", Rows.laid_sorrel_runes_zeros)] W from h)
  obtain rfl := Option.some.inj (gLetters.symm.trans hg1)
  obtain rfl := Option.some.inj (gLettersT.symm.trans ht1)
  obtain rfl := Option.some.inj (gZeros.symm.trans hg2)
  obtain rfl := Option.some.inj (gZerosT.symm.trans ht2)
  have e1 := letter_cells hd1
  have e2 : cs2.toList = zerosCells.map (Value.int .i32) := Lib.cells_of_tab (zs := zerosCells) Tryd.underlying167 Tryd.underlying21 cRune cZeros hd2
  constructor
  · intro j v hj
    have := World.var?_cell gLetters hv1 j
    rw [← Array.getElem?_toList, e1, List.getElem?_map, hj] at this
    exact this
  · intro j v hj
    have := World.var?_cell gZeros hv2 j
    rw [← Array.getElem?_toList, e2, List.getElem?_map, hj] at this
    exact this
end
end Go.Proofs.YticaocadeeolkaaDoor
