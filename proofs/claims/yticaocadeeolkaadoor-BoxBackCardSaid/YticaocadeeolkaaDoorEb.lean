/-
  ARGUMENTS OPENED: a slice of whatever the kinds can say; an expression, a list of nodes.
-/
import Derived.Test.YticaocadeeolkaaDoorEa
import Derived.Deep.Slices
namespace Go.Proofs.YticaocadeeolkaaDoor
open Go.RowKit Plain Go.Proofs.YticaocadeeolkaaDoorW.PrintWords Go.Proofs.YticaocadeeolkaaDoorW.PrintLast Go.Proofs.YticaocadeeolkaaDoorW.PrintMore
open Go.ChangeShapes Go.WideShapes Go.ChangeAt Go.Deep

theorem list_of {α : Type} {p : Nat → α → Prop} : ∀ (n : Nat), (∀ i, i < n → ∃ x, p i x) → ∃ xs : List α, xs.length = n ∧ ∀ i x, xs[i]? = some x → p i x
  | 0, _ => ⟨[], rfl, fun i x h => by simp at h⟩
  | n + 1, h => by
    obtain ⟨xs, hl, hx⟩ := list_of n (fun i hi => h i (by omega))
    obtain ⟨y, hy⟩ := h n (by omega)
    refine ⟨xs ++ [y], by simp [hl], fun i x hi => ?_⟩
    by_cases hlt : i < xs.length
    · rw [List.getElem?_append_left hlt] at hi; exact hx i x hi
    · rw [List.getElem?_append_right (by omega)] at hi
      have h0 : i - xs.length = 0 := by
        have := (List.getElem?_eq_some_iff.1 hi).1
        simp at this; omega
      rw [h0] at hi
      have hin : i = n := by omega
      rw [hin]
      have : y = x := by simpa using hi
      rw [← this]; exact hy
section
variable {H : Type} {enc : TypeId × Value → H} {P : Program} {w : World}
theorem weights_all {e : TypeId} : ∀ {l : List (DataW H)} {d : DataW H}, d ∈ l → ∀ n ∈ d.weights P e, n ∈ DataW.weightsAll P e l
  | [], _, h, _, _ => by cases h
  | x :: r, d, h, n, hn => by
    simp only [DataW.weightsAll, List.mem_append]
    rcases List.mem_cons.1 h with rfl | h
    · exact .inl hn
    · exact .inr (weights_all h n hn)
/-- A slice that came in, opened by a kind: its list; what is told of each element. -/
theorem open_rows {α : Type} (d : Kd α) (Q : α → DataW H → Prop) {t e : TypeId} (ht : P.underlying t = some (.slice e)) (hc : P.cellsOf e = d.sz)
    (hel : ∀ n cs y, DataW.trod enc P w 0 (fun _ => true) true n e cs = some y → ∃ x, d.K w x cs ∧ Q x y.1)
    {fuel : Nat} {v : Value} {x : DataW H × List MemPlace} (h : DataW.trod enc P w 0 (fun _ => true) true fuel t [v] = some x) :
    ∃ A c xs, v = .slice A xs.length c ∧ xs.length ≤ c ∧ c ≤ maxLen ∧ d.C w A xs.length xs ∧ (xs.length = 0 ∨ ∃ m, m ∈ x.1.weights P t ∧ xs.length * P.bytesOf e ≤ m) ∧
      ∀ a ∈ xs, ∃ D, Q a D ∧ ∀ n ∈ D.weights P e, n ∈ x.1.weights P t := by
  rcases open_slice ht h with ⟨hcs, rfl⟩ | ⟨ad, len, cap, m, n, D, Pl, hcs, hb, hl, hm, hmm, rfl, hx⟩
  · obtain rfl : v = .slice none 0 0 := by simpa using hcs
    exact ⟨none, 0, [], rfl, by simp, by simp, ⟨rfl, by simp, fun h => by simp at h⟩, .inl rfl, fun _ h => by cases h⟩
  · obtain rfl : v = .slice (some ad) len cap := by simpa using hcs
    simp only [if_true] at hmm
    subst hmm
    obtain ⟨xs, hxl, hxs⟩ := list_of (p := fun i a => ∃ cs', d.K w a cs' ∧ (∀ j u, cs'[j]? = some u → w.cell? (ad.add (i * d.sz + j)) = some u) ∧ Q a (D i)) len (fun i hi => by
      obtain ⟨cs', h1, h2⟩ := hx i (by omega)
      obtain ⟨a, h3, h4⟩ := hel _ _ _ h2
      obtain ⟨_, hlen, hcell⟩ := World.cells?_some h1
      refine ⟨a, cs', h3, fun j u hu => ?_, h4⟩
      have hj : j < cs'.length := (List.getElem?_eq_some_iff.1 hu).1
      have := hcell j (by omega)
      rw [hu, hc] at this
      rw [← this, Deep.add_add])
    subst hxl
    refine ⟨some ad, m, xs, rfl, hl, hm, ⟨rfl, by unfold maxLen at hm; omega, fun _ => ⟨ad, rfl, fun j p hj => ?_⟩⟩, .inr ?_, fun a ha => ?_⟩
    · obtain ⟨cs', h1, h2, _⟩ := hxs j p hj
      exact ⟨cs', d.K_len h1, h1, h2⟩
    · refine ⟨(xs.length + (m - xs.length)) * P.bytesOf e, ?_, Nat.mul_le_mul_right _ (by omega)⟩
      simp only [DataW.weights, ht, List.length_map, List.length_range]
      exact List.mem_cons_self
    · obtain ⟨i, hi⟩ := List.getElem?_of_mem ha
      obtain ⟨_, _, _, h3⟩ := hxs i a hi
      have hlt : i < xs.length := (List.getElem?_eq_some_iff.1 hi).1
      refine ⟨D i, h3, fun n hn => ?_⟩
      simp only [DataW.weights, ht]
      exact List.mem_cons_of_mem _ (List.mem_append_left _ (weights_all (List.mem_map.2 ⟨i, List.mem_range.2 hlt, rfl⟩) n hn))
end
theorem kNd_mkK {w : World} {A : Option Addr} {c : Nat} (x : Nd) (hc : x.kids.length ≤ c) (h : (Kd.int .i64).C w A x.kids.length x.kids) : kNd.K w x [.int .i64 x.op, .int .i64 x.n, .string x.name, .slice A x.kids.length c] :=
  ⟨[.int .i64 x.op], [.int .i64 x.n, .string x.name, .slice A x.kids.length c], rfl, rfl, ⟨[.int .i64 x.n], [.string x.name, .slice A x.kids.length c], rfl, rfl, ⟨[.string x.name], [.slice A x.kids.length c], rfl, rfl, ⟨A, c, rfl, hc, h⟩⟩⟩⟩
theorem cellsInt : Tryd.prog.cellsOf 3 = 1 := by kernel_rfl
theorem cellsInt64 : Tryd.prog.cellsOf 2 = 1 := by kernel_rfl
theorem cellsStr : Tryd.prog.cellsOf 9 = 1 := by kernel_rfl
theorem cellsInts : Tryd.prog.cellsOf 68 = 1 := by kernel_rfl
theorem cellsNode : Tryd.prog.cellsOf 96 = 4 := by kernel_rfl
theorem bytesInt : Tryd.prog.bytesOf 3 = 8 := by kernel_rfl
theorem bytesNode : Tryd.prog.bytesOf 96 = 56 := by kernel_rfl
section
variable {H : Type} {enc : TypeId × Value → H} {W : World}
theorem weights_each {ts : List TypeId} {ds : List (DataW H)} {j : Nat} {t : TypeId} {d : DataW H} (ht : ts[j]? = some t) (hd : ds[j]? = some d) {P : Program} : ∀ n ∈ d.weights P t, n ∈ DataW.weightsEach P ts ds := DataW.weights_mem_each ht hd
set_option maxRecDepth 100000 in
theorem open_node (n : Nat) (cs : List Value) (y : DataW H × List MemPlace) (h : DataW.trod enc Tryd.prog W 0 (fun _ => true) true n 96 cs = some y) :
    ∃ x, kNd.K W x cs ∧ (x.name.size ≤ maxLen ∧ ((∀ m ∈ y.1.weights Tryd.prog 96, m ≤ reachBytes) → x.kids.length ≤ 17592186043904)) := by
  have hu := Tryd.underlying96
  obtain ⟨xs, k, rfl, rfl, hcl, hxl, hf⟩ := DataW.trod_struct hu h
  rw [cellsNode] at hcl
  match cs, hcl with
  | [c0, c1, c2, c3], _ =>
    match xs, hxl with
    | [x0, x1, x2, x3], _ =>
      have h0 : DataW.trod enc Tryd.prog W 0 (fun _ => true) true k 3 ([c0, c1, c2, c3].take (Tryd.prog.cellsOf 3)) = some x0 := hf 0 _ rfl
      have h1 : DataW.trod enc Tryd.prog W 0 (fun _ => true) true k 2 ([c1, c2, c3].take (Tryd.prog.cellsOf 2)) = some x1 := hf 1 _ rfl
      have h2 : DataW.trod enc Tryd.prog W 0 (fun _ => true) true k 9 ([c2, c3].take (Tryd.prog.cellsOf 9)) = some x2 := hf 2 _ rfl
      have h3 : DataW.trod enc Tryd.prog W 0 (fun _ => true) true k 68 ([c3].take (Tryd.prog.cellsOf 68)) = some x3 := hf 3 _ rfl
      rw [cellsInt] at h0
      rw [cellsInt64] at h1
      rw [cellsStr] at h2
      rw [cellsInts] at h3
      obtain ⟨op, e0, _, _⟩ := DataW.trod_int Tryd.underlying3 h0
      obtain ⟨nn, e1, _, _⟩ := DataW.trod_int Tryd.underlying2 h1
      obtain ⟨s, e2, _, hs⟩ := DataW.trod_string Tryd.underlying9 h2
      obtain ⟨A, c, ks, e3, hkc, _, hC, hw, _⟩ := open_rows (Kd.int .i64) (fun _ _ => True) Tryd.underlying68 cellsInt (fun n cs y hy => by
        obtain ⟨m, rfl, _, _⟩ := DataW.trod_int Tryd.underlying3 hy
        exact ⟨m, rfl, trivial⟩) h3
      obtain rfl : c0 = .int .i64 op := by simpa using e0
      obtain rfl : c1 = .int .i64 nn := by simpa using e1
      obtain rfl : c2 = .string s := by simpa using e2
      subst e3
      refine ⟨⟨op, nn, s, ks⟩, kNd_mkK _ hkc hC, hs, fun hwt => ?_⟩
      rcases hw with hw | ⟨m, hm, hle⟩
      · show ks.length ≤ _; omega
      · have := hwt m (by
          simp only [DataW.weights, hu, List.map_cons, List.map_nil]
          exact weights_each (j := 3) rfl rfl m hm)
        rw [bytesInt] at hle
        unfold reachBytes at this
        show ks.length ≤ _; omega
set_option maxRecDepth 100000 in
theorem open_nodes {b0 : Nat} {v : Value} {d : DataW H} {p : List MemPlace} (hv : Value.okWide Tryd.prog W .any b0 28 v) (h : DataW.Trod enc Tryd.prog W 0 (fun _ => true) true 28 v d p) (hsz : ∀ m ∈ d.weights Tryd.prog 28, m ≤ reachBytes) :
    ∃ A c e, v = .slice A e.length c ∧ e.length ≤ c ∧ Kd.C kNd W A e.length e ∧ (∀ x ∈ e, x.name.size ≤ maxLen) ∧ Short e := by
  obtain ⟨a, l, c, rfl⟩ := okWide_slice Tryd.underlying28 hv
  obtain ⟨fuel, hf⟩ := h
  obtain ⟨A, c', e, hve, hc, _, hC, hw, hq⟩ := open_rows kNd (fun x D => x.name.size ≤ maxLen ∧ ((∀ m ∈ D.weights Tryd.prog 96, m ≤ reachBytes) → x.kids.length ≤ 17592186043904)) Tryd.underlying28 cellsNode open_node (v := .slice a l c) (by simpa [Value.cells] using hf)
  refine ⟨A, c', e, hve, hc, hC, fun x hx => ?_, ⟨?_, fun x hx => ?_⟩⟩
  · obtain ⟨D, h1, _⟩ := hq x hx; exact h1.1
  · rcases hw with hw | ⟨m, hm, hle⟩
    · omega
    · have := hsz m hm
      rw [bytesNode] at hle
      unfold reachBytes at this
      omega
  · obtain ⟨D, h1, h2⟩ := hq x hx; exact h1.2 (fun m hm => hsz m (h2 m hm))
end
end Go.Proofs.YticaocadeeolkaaDoor
