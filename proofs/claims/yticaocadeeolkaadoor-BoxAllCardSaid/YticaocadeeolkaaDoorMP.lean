/-
  ARGUMENTS OPENED: a slice of whatever the kinds can say; an expression, a list of nodes.
  THE TABLES: what the rows' list gives is what the walks ask of them.
-/
import Derived.Test.YticaocadeeolkaaDoorMG
import Derived.Deep.Slices
import Derived.Test.YticaocadeeolkaaDoorMA
import Derived.Test.YticaocadeeolkaaDoorRows
import Derived.Lib.LaidTab
import Derived.OpenShut

namespace Go.Proofs.YticaocadeeolkaaDoor
open Go.RowKit Plain Go.Proofs.YticaocadeeolkaaDoorW.PrintWords Go.Proofs.YticaocadeeolkaaDoorW.PrintLast Go.Proofs.YticaocadeeolkaaDoorW.PrintMore
open Go.ChangeShapes Go.WideShapes Go.ChangeAt Go.Deep

theorem list_of {α : Type} {p : Nat → α → Prop} : ∀ (n : Nat), (∀ i, i < n → ∃ x, p i x) → ∃ xs : List α, xs.length = n ∧ ∀ i x, xs[i]? = some x → p i x
  | 0, _ => ⟨[], rfl, fun i x h => by simp at h⟩
  | n + 1, h => by
    obtain ⟨xs, hl, hx⟩ := list_of n (fun i hi => h i (by omega))
    obtain ⟨y, hy⟩ := h n (by omega)
    refine ⟨xs ++ [y], by simp [hl], fun i x hi => ?_⟩
    by_cases hlt : i < xs.length
    · rw [List.getElem?_append_left hlt] at hi; exact hx i x hi
    · rw [List.getElem?_append_right (by omega)] at hi
      have h0 : i - xs.length = 0 := by
        have := (List.getElem?_eq_some_iff.1 hi).1
        simp at this; omega
      rw [h0] at hi
      have hin : i = n := by omega
      rw [hin]
      have : y = x := by simpa using hi
      rw [← this]; exact hy
section
variable {H : Type} {enc : TypeId × Value → H} {P : Program} {w : World}
theorem weights_all {e : TypeId} : ∀ {l : List (DataW H)} {d : DataW H}, d ∈ l → ∀ n ∈ d.weights P e, n ∈ DataW.weightsAll P e l
  | [], _, h, _, _ => by cases h
  | x :: r, d, h, n, hn => by
    simp only [DataW.weightsAll, List.mem_append]
    rcases List.mem_cons.1 h with rfl | h
    · exact .inl hn
    · exact .inr (weights_all h n hn)
/-- A slice that came in, opened by a kind: its list; what is told of each element. -/
theorem open_rows {α : Type} (d : Kd α) (Q : α → DataW H → Prop) {t e : TypeId} (ht : P.underlying t = some (.slice e)) (hc : P.cellsOf e = d.sz)
    (hel : ∀ n cs y, DataW.trod enc P w 0 (fun _ => true) true n e cs = some y → ∃ x, d.K w x cs ∧ Q x y.1)
    {fuel : Nat} {v : Value} {x : DataW H × List MemPlace} (h : DataW.trod enc P w 0 (fun _ => true) true fuel t [v] = some x) :
    ∃ A c xs, v = .slice A xs.length c ∧ xs.length ≤ c ∧ c ≤ maxLen ∧ d.C w A xs.length xs ∧ (xs.length = 0 ∨ ∃ m, m ∈ x.1.weights P t ∧ xs.length * P.bytesOf e ≤ m) ∧
      ∀ a ∈ xs, ∃ D, Q a D ∧ ∀ n ∈ D.weights P e, n ∈ x.1.weights P t := by
  rcases open_slice ht h with ⟨hcs, rfl⟩ | ⟨ad, len, cap, m, n, D, Pl, hcs, hb, hl, hm, hmm, rfl, hx⟩
  · obtain rfl : v = .slice none 0 0 := by simpa using hcs
    exact ⟨none, 0, [], rfl, by simp, by simp, ⟨rfl, by simp, fun h => by simp at h⟩, .inl rfl, fun _ h => by cases h⟩
  · obtain rfl : v = .slice (some ad) len cap := by simpa using hcs
    simp only [if_true] at hmm
    subst hmm
    obtain ⟨xs, hxl, hxs⟩ := list_of (p := fun i a => ∃ cs', d.K w a cs' ∧ (∀ j u, cs'[j]? = some u → w.cell? (ad.add (i * d.sz + j)) = some u) ∧ Q a (D i)) len (fun i hi => by
      obtain ⟨cs', h1, h2⟩ := hx i (by omega)
      obtain ⟨a, h3, h4⟩ := hel _ _ _ h2
      obtain ⟨_, hlen, hcell⟩ := World.cells?_some h1
      refine ⟨a, cs', h3, fun j u hu => ?_, h4⟩
      have hj : j < cs'.length := (List.getElem?_eq_some_iff.1 hu).1
      have := hcell j (by omega)
      rw [hu, hc] at this
      rw [← this, Deep.add_add])
    subst hxl
    refine ⟨some ad, m, xs, rfl, hl, hm, ⟨rfl, by unfold maxLen at hm; omega, fun _ => ⟨ad, rfl, fun j p hj => ?_⟩⟩, .inr ?_, fun a ha => ?_⟩
    · obtain ⟨cs', h1, h2, _⟩ := hxs j p hj
      exact ⟨cs', d.K_len h1, h1, h2⟩
    · refine ⟨(xs.length + (m - xs.length)) * P.bytesOf e, ?_, Nat.mul_le_mul_right _ (by omega)⟩
      simp only [DataW.weights, ht, List.length_map, List.length_range]
      exact List.mem_cons_self
    · obtain ⟨i, hi⟩ := List.getElem?_of_mem ha
      obtain ⟨_, _, _, h3⟩ := hxs i a hi
      have hlt : i < xs.length := (List.getElem?_eq_some_iff.1 hi).1
      refine ⟨D i, h3, fun n hn => ?_⟩
      simp only [DataW.weights, ht]
      exact List.mem_cons_of_mem _ (List.mem_append_left _ (weights_all (List.mem_map.2 ⟨i, List.mem_range.2 hlt, rfl⟩) n hn))
end
theorem kNd_mkK {w : World} {A : Option Addr} {c : Nat} (x : Nd) (hc : x.kids.length ≤ c) (h : (Kd.int .i64).C w A x.kids.length x.kids) : kNd.K w x [.int .i64 x.op, .int .i64 x.n, .string x.name, .slice A x.kids.length c] :=
  ⟨[.int .i64 x.op], [.int .i64 x.n, .string x.name, .slice A x.kids.length c], rfl, rfl, ⟨[.int .i64 x.n], [.string x.name, .slice A x.kids.length c], rfl, rfl, ⟨[.string x.name], [.slice A x.kids.length c], rfl, rfl, ⟨A, c, rfl, hc, h⟩⟩⟩⟩
theorem cellsInt : Tryd.prog.cellsOf 3 = 1 := by kernel_rfl
theorem cellsInt64 : Tryd.prog.cellsOf 2 = 1 := by kernel_rfl
theorem cellsStr : Tryd.prog.cellsOf 9 = 1 := by kernel_rfl
theorem cellsInts : Tryd.prog.cellsOf 68 = 1 := by kernel_rfl
theorem cellsNode : Tryd.prog.cellsOf 96 = 4 := by kernel_rfl
theorem bytesInt : Tryd.prog.bytesOf 3 = 8 := by kernel_rfl
theorem bytesNode : Tryd.prog.bytesOf 96 = 56 := by kernel_rfl
section
variable {H : Type} {enc : TypeId × Value → H} {W : World}
theorem weights_each {ts : List TypeId} {ds : List (DataW H)} {j : Nat} {t : TypeId} {d : DataW H} (ht : ts[j]? = some t) (hd : ds[j]? = some d) {P : Program} : ∀ n ∈ d.weights P t, n ∈ DataW.weightsEach P ts ds := DataW.weights_mem_each ht hd
set_option maxRecDepth 100000 in
theorem open_node (n : Nat) (cs : List Value) (y : DataW H × List MemPlace) (h : DataW.trod enc Tryd.prog W 0 (fun _ => true) true n 96 cs = some y) :
    ∃ x, kNd.K W x cs ∧ (x.name.size ≤ maxLen ∧ ((∀ m ∈ y.1.weights Tryd.prog 96, m ≤ reachBytes) → x.kids.length ≤ 17592186043904)) := by
  have hu := Tryd.underlying96
  obtain ⟨xs, k, rfl, rfl, hcl, hxl, hf⟩ := DataW.trod_struct hu h
  rw [cellsNode] at hcl
  match cs, hcl with
  | [c0, c1, c2, c3], _ =>
    match xs, hxl with
    | [x0, x1, x2, x3], _ =>
      have h0 : DataW.trod enc Tryd.prog W 0 (fun _ => true) true k 3 ([c0, c1, c2, c3].take (Tryd.prog.cellsOf 3)) = some x0 := hf 0 _ rfl
      have h1 : DataW.trod enc Tryd.prog W 0 (fun _ => true) true k 2 ([c1, c2, c3].take (Tryd.prog.cellsOf 2)) = some x1 := hf 1 _ rfl
      have h2 : DataW.trod enc Tryd.prog W 0 (fun _ => true) true k 9 ([c2, c3].take (Tryd.prog.cellsOf 9)) = some x2 := hf 2 _ rfl
      have h3 : DataW.trod enc Tryd.prog W 0 (fun _ => true) true k 68 ([c3].take (Tryd.prog.cellsOf 68)) = some x3 := hf 3 _ rfl
      rw [cellsInt] at h0
      rw [cellsInt64] at h1
      rw [cellsStr] at h2
      rw [cellsInts] at h3
      obtain ⟨op, e0, _, _⟩ := DataW.trod_int Tryd.underlying3 h0
      obtain ⟨nn, e1, _, _⟩ := DataW.trod_int Tryd.underlying2 h1
      obtain ⟨s, e2, _, hs⟩ := DataW.trod_string Tryd.underlying9 h2
      obtain ⟨A, c, ks, e3, hkc, _, hC, hw, _⟩ := open_rows (Kd.int .i64) (fun _ _ => True) Tryd.underlying68 cellsInt (fun n cs y hy => by
        obtain ⟨m, rfl, _, _⟩ := DataW.trod_int Tryd.underlying3 hy
        exact ⟨m, rfl, trivial⟩) h3
      obtain rfl : c0 = .int .i64 op := by simpa using e0
      obtain rfl : c1 = .int .i64 nn := by simpa using e1
      obtain rfl : c2 = .string s := by simpa using e2
      subst e3
      refine ⟨⟨op, nn, s, ks⟩, kNd_mkK _ hkc hC, hs, fun hwt => ?_⟩
      rcases hw with hw | ⟨m, hm, hle⟩
      · show ks.length ≤ _; omega
      · have := hwt m (by
          simp only [DataW.weights, hu, List.map_cons, List.map_nil]
          exact weights_each (j := 3) rfl rfl m hm)
        rw [bytesInt] at hle
        unfold reachBytes at this
        show ks.length ≤ _; omega
set_option maxRecDepth 100000 in
theorem open_nodes {b0 : Nat} {v : Value} {d : DataW H} {p : List MemPlace} (hv : Value.okWide Tryd.prog W .any b0 28 v) (h : DataW.Trod enc Tryd.prog W 0 (fun _ => true) true 28 v d p) (hsz : ∀ m ∈ d.weights Tryd.prog 28, m ≤ reachBytes) :
    ∃ A c e, v = .slice A e.length c ∧ e.length ≤ c ∧ Kd.C kNd W A e.length e ∧ (∀ x ∈ e, x.name.size ≤ maxLen) ∧ Short e := by
  obtain ⟨a, l, c, rfl⟩ := okWide_slice Tryd.underlying28 hv
  obtain ⟨fuel, hf⟩ := h
  obtain ⟨A, c', e, hve, hc, _, hC, hw, hq⟩ := open_rows kNd (fun x D => x.name.size ≤ maxLen ∧ ((∀ m ∈ D.weights Tryd.prog 96, m ≤ reachBytes) → x.kids.length ≤ 17592186043904)) Tryd.underlying28 cellsNode open_node (v := .slice a l c) (by simpa [Value.cells] using hf)
  refine ⟨A, c', e, hve, hc, hC, fun x hx => ?_, ⟨?_, fun x hx => ?_⟩⟩
  · obtain ⟨D, h1, _⟩ := hq x hx; exact h1.1
  · rcases hw with hw | ⟨m, hm, hle⟩
    · omega
    · have := hsz m hm
      rw [bytesNode] at hle
      unfold reachBytes at this
      omega
  · obtain ⟨D, h1, h2⟩ := hq x hx; exact h1.2 (fun m hm => hsz m (h2 m hm))
end
end Go.Proofs.YticaocadeeolkaaDoor

namespace Go.Proofs.YticaocadeeolkaaDoor
open Go.RowKit Plain Go.ChangeShapes

theorem chunks2 {f : Nat → List Value} : ∀ (n : Nat) (cs : List Value), cs.length = n * 2 → (∀ i, i < n → (cs.drop (i * 2)).take 2 = f i) → cs = (List.range n).flatMap f
  | 0, cs, h, _ => by
    rw [Nat.zero_mul] at h
    rw [List.length_eq_zero_iff.1 h]; rfl
  | n + 1, cs, h, hf => by
    have h1 := chunks2 (f := f) n (cs.take (n * 2)) (by rw [List.length_take]; omega) (fun i hi => by
      rw [← hf i (by omega), List.drop_take, List.take_take, Nat.min_eq_left (by omega)])
    have h2 := hf n (by omega)
    rw [List.take_of_length_le (by rw [List.length_drop]; omega)] at h2
    rw [List.range_succ, List.flatMap_append, ← h1]
    simp only [List.flatMap_cons, List.flatMap_nil, List.append_nil]
    rw [← h2, List.take_append_drop]
def letterPairs : List (Int × Int) := [(97, 122), (65, 90), (95, 95), (192, 214), (216, 246), (248, 591), (880, 893), (895, 902), (904, 1023), (1024, 1153), (1162, 1327), (19968, 40959), (66560, 66639)]
theorem gLetters : Tryd.prog.globalNamed "sorrel/runes.letters" = some 0 := by kernel_rfl
theorem gLettersT : (Tryd.prog.globals[0]?).map (·.type) = some 160 := by kernel_rfl
theorem gZeros : Tryd.prog.globalNamed "sorrel/runes.zeros" = some 1 := by kernel_rfl
theorem gZerosT : (Tryd.prog.globals[1]?).map (·.type) = some 167 := by kernel_rfl
theorem cSpan : Tryd.prog.cellsOf 159 = 2 := by kernel_rfl
theorem cSpans : Tryd.prog.cellsOf 160 = 26 := by kernel_rfl
theorem cRune : Tryd.prog.cellsOf 21 = 1 := by kernel_rfl
theorem cZeros : Tryd.prog.cellsOf 167 = 3 := by kernel_rfl
section
variable {W : World} {enc : TypeId × Value → Unit} {held : Bool}
set_option maxRecDepth 100000 in
theorem span_cells {fuel : Nat} {cs : List Value} {a b : Int} {p : List MemPlace} (h : DataW.trod enc Tryd.prog W 0 (fun _ => true) held fuel 159 cs = some (.agg [.lit (.int .i32 a), .lit (.int .i32 b)], p)) : cs = [.int .i32 a, .int .i32 b] := by
  obtain ⟨xs, k, rfl, hx, hcl, hxl, hf⟩ := DataW.trod_struct Tryd.underlying159 h
  rw [cSpan] at hcl
  match cs, hcl with
  | [c0, c1], _ =>
    match xs, hxl with
    | [x0, x1], _ =>
      have h0 : DataW.trod enc Tryd.prog W 0 (fun _ => true) held k 21 ([c0, c1].take (Tryd.prog.cellsOf 21)) = some x0 := hf 0 _ rfl
      have h1 : DataW.trod enc Tryd.prog W 0 (fun _ => true) held k 21 ([c1].take (Tryd.prog.cellsOf 21)) = some x1 := hf 1 _ rfl
      rw [cRune] at h0 h1
      obtain ⟨m, e0, rfl, _⟩ := DataW.trod_int Tryd.underlying21 h0
      obtain ⟨n, e1, rfl, _⟩ := DataW.trod_int Tryd.underlying21 h1
      have hx1 := (Prod.mk.inj hx).1
      simp only [List.map_cons, List.map_nil, DataW.agg.injEq, List.cons.injEq, DataW.lit.injEq, Lit.int.injEq, true_and, and_true] at hx1
      obtain ⟨rfl, rfl⟩ := hx1
      obtain rfl : c0 = .int .i32 a := by simpa using e0
      obtain rfl : c1 = .int .i32 b := by simpa using e1
      rfl
set_option maxRecDepth 100000 in
theorem letter_cells {fuel : Nat} {cs : List Value} {p : List MemPlace} (h : DataW.trod enc Tryd.prog W 0 (fun _ => true) held fuel 160 cs = some (Rows.laid_sorrel_runes_letters, p)) : cs = lettersCells.map (Value.int .i32) := by
  obtain ⟨xs, k, rfl, hx, hcl, hxl, hf⟩ := DataW.trod_array Tryd.underlying160 h
  rw [cSpans] at hcl
  have hxs : xs.map (·.1) = letterPairs.map fun p => (DataW.agg [.lit (.int .i32 p.1), .lit (.int .i32 p.2)] : DataW Unit) := by
    have := (Prod.mk.inj hx).1
    unfold Rows.laid_sorrel_runes_letters at this
    simp only [DataW.agg.injEq] at this
    rw [← this]; rfl
  have := chunks2 (f := fun i => [.int .i32 (letterPairs.getD i (0, 0)).1, .int .i32 (letterPairs.getD i (0, 0)).2]) 13 cs hcl (fun i hi => by
    have h1 := hf i hi
    rw [cSpan] at h1
    have h2 : (xs.map (·.1))[i]? = some (DataW.agg [.lit (.int .i32 (letterPairs.getD i (0, 0)).1), .lit (.int .i32 (letterPairs.getD i (0, 0)).2)]) := by
      rw [hxs, List.getElem?_map, List.getD_eq_getElem?_getD, List.getElem?_eq_getElem (by exact hi)]; rfl
    obtain ⟨x, h3, h4⟩ := List.getElem?_map ▸ h2 |> Option.map_eq_some_iff.1
    rw [h3] at h1
    obtain ⟨x1, x2⟩ := x
    simp only at h4
    subst h4
    exact span_cells h1)
  rw [this]; rfl
set_option maxRecDepth 100000 in
theorem tabs_of_laid (h : laidMetH Tryd.prog [("sorrel/runes.letters", Rows.laid_sorrel_runes_letters), ("sorrel/runes.zeros", Rows.laid_sorrel_runes_zeros)] W) : Tabs W := by
  obtain ⟨ps, ⟨g1, t1, cs1, fuel1, p1, q1, hg1, ht1, hv1, hd1, ⟨g2, t2, cs2, fuel2, p2, q2, hg2, ht2, hv2, hd2, _, _⟩, _⟩, _⟩ := (show laidMet Tryd.prog [("sorrel/runes.letters", Rows.laid_sorrel_runes_letters), ("sorrel/runes.zeros", Rows.laid_sorrel_runes_zeros)] W from h)
  obtain rfl := Option.some.inj (gLetters.symm.trans hg1)
  obtain rfl := Option.some.inj (gLettersT.symm.trans ht1)
  obtain rfl := Option.some.inj (gZeros.symm.trans hg2)
  obtain rfl := Option.some.inj (gZerosT.symm.trans ht2)
  have e1 := letter_cells hd1
  have e2 : cs2.toList = zerosCells.map (Value.int .i32) := Lib.cells_of_tab (zs := zerosCells) Tryd.underlying167 Tryd.underlying21 cRune cZeros hd2
  constructor
  · intro j v hj
    have := World.var?_cell gLetters hv1 j
    rw [← Array.getElem?_toList, e1, List.getElem?_map, hj] at this
    exact this
  · intro j v hj
    have := World.var?_cell gZeros hv2 j
    rw [← Array.getElem?_toList, e2, List.getElem?_map, hj] at this
    exact this
end
end Go.Proofs.YticaocadeeolkaaDoor
