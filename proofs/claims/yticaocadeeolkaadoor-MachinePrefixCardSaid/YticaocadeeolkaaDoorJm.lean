/-
  ARGUMENTS OPENED: a list of commands; a question to the machine.
-/
import Derived.Test.YticaocadeeolkaaDoorMP
import Derived.Test.YticaocadeeolkaaDoorJA
namespace Go.Proofs.YticaocadeeolkaaDoor
open Go.RowKit Plain Go.Proofs.YticaocadeeolkaaDoorW.PrintWords Go.Proofs.YticaocadeeolkaaDoorW.PrintLast Go.Proofs.YticaocadeeolkaaDoorW.PrintMore
open Go.ChangeShapes Go.WideShapes Go.ChangeAt Go.Deep

theorem cellsCmd : Tryd.prog.cellsOf 75 = 6 := by kernel_rfl
theorem bytesCmd : Tryd.prog.bytesOf 75 = 56 := by kernel_rfl
theorem cellsCmds : Tryd.prog.cellsOf 61 = 1 := by kernel_rfl
theorem cellsAsk : Tryd.prog.cellsOf 72 = 5 := by kernel_rfl
theorem cellsPic : Tryd.prog.cellsOf 70 = 2 := by kernel_rfl
theorem cellsCls : Tryd.prog.cellsOf 67 = 1 := by kernel_rfl
section
variable {H : Type} {enc : TypeId × Value → H} {W : World}
set_option maxRecDepth 100000 in
theorem open_cmd (n : Nat) (cs : List Value) (y : DataW H × List MemPlace) (h : DataW.trod enc Tryd.prog W 0 (fun _ => true) true n 75 cs = some y) :
    ∃ x, kCm.K W x cs ∧ x.name.size ≤ maxLen := by
  have hu := Tryd.underlying75
  obtain ⟨xs, k, rfl, rfl, hcl, hxl, hf⟩ := DataW.trod_struct hu h
  rw [cellsCmd] at hcl
  match cs, hcl with
  | [c0, c1, c2, c3, c4, c5], _ =>
    match xs, hxl with
    | [x0, x1, x2, x3, x4, x5], _ =>
      have h0 : DataW.trod enc Tryd.prog W 0 (fun _ => true) true k 3 ([c0, c1, c2, c3, c4, c5].take (Tryd.prog.cellsOf 3)) = some x0 := hf 0 _ rfl
      have h1 : DataW.trod enc Tryd.prog W 0 (fun _ => true) true k 3 ([c1, c2, c3, c4, c5].take (Tryd.prog.cellsOf 3)) = some x1 := hf 1 _ rfl
      have h2 : DataW.trod enc Tryd.prog W 0 (fun _ => true) true k 3 ([c2, c3, c4, c5].take (Tryd.prog.cellsOf 3)) = some x2 := hf 2 _ rfl
      have h3 : DataW.trod enc Tryd.prog W 0 (fun _ => true) true k 3 ([c3, c4, c5].take (Tryd.prog.cellsOf 3)) = some x3 := hf 3 _ rfl
      have h4 : DataW.trod enc Tryd.prog W 0 (fun _ => true) true k 2 ([c4, c5].take (Tryd.prog.cellsOf 2)) = some x4 := hf 4 _ rfl
      have h5 : DataW.trod enc Tryd.prog W 0 (fun _ => true) true k 9 ([c5].take (Tryd.prog.cellsOf 9)) = some x5 := hf 5 _ rfl
      rw [cellsInt] at h0 h1 h2 h3
      rw [cellsInt64] at h4
      rw [cellsStr] at h5
      obtain ⟨a0, e0, _, _⟩ := DataW.trod_int Tryd.underlying3 h0
      obtain ⟨a1, e1, _, _⟩ := DataW.trod_int Tryd.underlying3 h1
      obtain ⟨a2, e2, _, _⟩ := DataW.trod_int Tryd.underlying3 h2
      obtain ⟨a3, e3, _, _⟩ := DataW.trod_int Tryd.underlying3 h3
      obtain ⟨a4, e4, _, _⟩ := DataW.trod_int Tryd.underlying2 h4
      obtain ⟨s, e5, _, hs⟩ := DataW.trod_string Tryd.underlying9 h5
      obtain rfl : c0 = .int .i64 a0 := by simpa using e0
      obtain rfl : c1 = .int .i64 a1 := by simpa using e1
      obtain rfl : c2 = .int .i64 a2 := by simpa using e2
      obtain rfl : c3 = .int .i64 a3 := by simpa using e3
      obtain rfl : c4 = .int .i64 a4 := by simpa using e4
      obtain rfl : c5 = .string s := by simpa using e5
      exact ⟨⟨a0, a1, a2, a3, a4, s⟩, kCm_mkK W _, hs⟩
theorem slice_form {t e : TypeId} (ht : Tryd.prog.underlying t = some (.slice e)) {fuel : Nat} {v : Value} {x : DataW H × List MemPlace} (h : DataW.trod enc Tryd.prog W 0 (fun _ => true) true fuel t [v] = some x) : ∃ A n c, v = .slice A n c := by
  rcases open_slice ht h with ⟨hcs, rfl⟩ | ⟨ad, len, cap, m, n, D, Pl, hcs, _⟩
  · exact ⟨none, 0, 0, by simpa using hcs⟩
  · exact ⟨some ad, len, cap, by simpa using hcs⟩
set_option maxRecDepth 100000 in
theorem open_ask {b0 : Nat} {v : Value} {d : DataW H} {p : List MemPlace} (hv : Value.okWide Tryd.prog W .any b0 72 v) (h : DataW.Trod enc Tryd.prog W 0 (fun _ => true) true 72 v d p) (hsz : ∀ m ∈ d.weights Tryd.prog 72, m ≤ reachBytes) :
    ∃ A c q holes A2 n2 c2 A3 n3 c3 k4, v = .agg #[.slice A q.length c, .int .i64 holes, .slice A2 n2 c2, .slice A3 n3 c3, .int .i64 k4] ∧ q.length ≤ c ∧ Kd.C kCm W A q.length q ∧ (∀ x ∈ q, x.name.size ≤ maxLen) ∧ q.length ≤ 2513169434843 := by
  have hu := Tryd.underlying72
  obtain ⟨cs, rfl, hcz⟩ := okWide_struct hu hv
  obtain ⟨l⟩ := cs
  match l, hcz.trans cellsAsk with
  | [c0, c1, c2, c3, c4], _ =>
    obtain ⟨fuel, hf⟩ := h
    obtain ⟨xs, k, rfl, hx, hcl, hxl, hg⟩ := DataW.trod_struct hu hf
    match xs, hxl with
    | [x0, x1, x2, x3], _ =>
      have h0 : DataW.trod enc Tryd.prog W 0 (fun _ => true) true k 61 ([c0, c1, c2, c3, c4].take (Tryd.prog.cellsOf 61)) = some x0 := hg 0 _ rfl
      have h1 : DataW.trod enc Tryd.prog W 0 (fun _ => true) true k 3 ([c1, c2, c3, c4].take (Tryd.prog.cellsOf 3)) = some x1 := hg 1 _ rfl
      have h2 : DataW.trod enc Tryd.prog W 0 (fun _ => true) true k 70 ([c2, c3, c4].take (Tryd.prog.cellsOf 70)) = some x2 := hg 2 _ rfl
      have h3 : DataW.trod enc Tryd.prog W 0 (fun _ => true) true k 3 ([c4].take (Tryd.prog.cellsOf 3)) = some x3 := hg 3 _ rfl
      rw [cellsCmds] at h0
      rw [cellsInt] at h1 h3
      rw [cellsPic] at h2
      obtain ⟨holes, e1, _, _⟩ := DataW.trod_int Tryd.underlying3 h1
      obtain ⟨k4, e4, _, _⟩ := DataW.trod_int Tryd.underlying3 h3
      obtain ⟨ys, k2, _, _, _, hyl, hg2⟩ := DataW.trod_struct Tryd.underlying70 h2
      obtain ⟨A, c, q, e0, hqc, _, hC, hw, hq⟩ := open_rows kCm (fun x D => x.name.size ≤ maxLen) Tryd.underlying61 cellsCmd open_cmd h0
      match ys, hyl with
      | [y0, y1], _ =>
        have g0 : DataW.trod enc Tryd.prog W 0 (fun _ => true) true k2 67 ([c2, c3].take (Tryd.prog.cellsOf 67)) = some y0 := hg2 0 _ rfl
        have g1 : DataW.trod enc Tryd.prog W 0 (fun _ => true) true k2 68 ([c3].take (Tryd.prog.cellsOf 68)) = some y1 := hg2 1 _ rfl
        rw [cellsCls] at g0
        rw [cellsInts] at g1
        obtain ⟨A2, n2, c2', e2⟩ := slice_form Tryd.underlying67 g0
        obtain ⟨A3, n3, c3', e3⟩ := slice_form Tryd.underlying68 g1
        obtain rfl : c1 = .int .i64 holes := by simpa using e1
        obtain rfl : c4 = .int .i64 k4 := by simpa using e4
        subst e0 e2 e3
        simp only [Prod.mk.injEq] at hx
        refine ⟨A, c, q, holes, A2, n2, c2', A3, n3, c3', k4, rfl, hqc, hC, fun x hx => ?_, ?_⟩
        · obtain ⟨D, h1, _⟩ := hq x hx; exact h1
        · rcases hw with hw | ⟨m, hm, hle⟩
          · omega
          · have := hsz m (by
              rw [hx.1]
              simp only [DataW.weights, hu, List.map_cons, List.map_nil]
              exact weights_each (j := 0) rfl rfl m hm)
            rw [bytesCmd] at hle
            unfold reachBytes at this
            omega
end
end Go.Proofs.YticaocadeeolkaaDoor
