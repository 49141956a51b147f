/-
  ARGUMENTS OPENED: a list of cells.
-/
import Derived.Test.YticaocadeeolkaaDoorMP
import Derived.Test.YticaocadeeolkaaDoorMI
namespace Go.Proofs.YticaocadeeolkaaDoor
open Go.RowKit Plain Go.Proofs.YticaocadeeolkaaDoorW.PrintWords Go.Proofs.YticaocadeeolkaaDoorW.PrintLast Go.Proofs.YticaocadeeolkaaDoorW.PrintMore
open Go.ChangeShapes Go.WideShapes Go.ChangeAt Go.Deep

theorem cellsCell : Tryd.prog.cellsOf 84 = 7 := by kernel_rfl
theorem bytesCell : Tryd.prog.bytesOf 84 = 64 := by kernel_rfl
section
variable {H : Type} {enc : TypeId × Value → H} {W : World}
set_option maxRecDepth 100000 in
theorem open_cell (n : Nat) (cs : List Value) (y : DataW H × List MemPlace) (h : DataW.trod enc Tryd.prog W 0 (fun _ => true) true n 84 cs = some y) :
    ∃ x, kCl.K W x cs ∧ x.name.size ≤ maxLen := by
  have hu := Tryd.underlying84
  obtain ⟨xs, k, rfl, rfl, hcl, hxl, hf⟩ := DataW.trod_struct hu h
  rw [cellsCell] at hcl
  match cs, hcl with
  | [c0, c1, c2, c3, c4, c5, c6], _ =>
    match xs, hxl with
    | [x0, x1, x2, x3, x4, x5, x6], _ =>
      have h0 : DataW.trod enc Tryd.prog W 0 (fun _ => true) true k 3 ([c0, c1, c2, c3, c4, c5, c6].take (Tryd.prog.cellsOf 3)) = some x0 := hf 0 _ rfl
      have h1 : DataW.trod enc Tryd.prog W 0 (fun _ => true) true k 3 ([c1, c2, c3, c4, c5, c6].take (Tryd.prog.cellsOf 3)) = some x1 := hf 1 _ rfl
      have h2 : DataW.trod enc Tryd.prog W 0 (fun _ => true) true k 2 ([c2, c3, c4, c5, c6].take (Tryd.prog.cellsOf 2)) = some x2 := hf 2 _ rfl
      have h3 : DataW.trod enc Tryd.prog W 0 (fun _ => true) true k 9 ([c3, c4, c5, c6].take (Tryd.prog.cellsOf 9)) = some x3 := hf 3 _ rfl
      have h4 : DataW.trod enc Tryd.prog W 0 (fun _ => true) true k 3 ([c4, c5, c6].take (Tryd.prog.cellsOf 3)) = some x4 := hf 4 _ rfl
      have h5 : DataW.trod enc Tryd.prog W 0 (fun _ => true) true k 3 ([c5, c6].take (Tryd.prog.cellsOf 3)) = some x5 := hf 5 _ rfl
      have h6 : DataW.trod enc Tryd.prog W 0 (fun _ => true) true k 3 ([c6].take (Tryd.prog.cellsOf 3)) = some x6 := hf 6 _ rfl
      rw [cellsInt] at h0 h1 h4 h5 h6
      rw [cellsInt64] at h2
      rw [cellsStr] at h3
      obtain ⟨a0, e0, _, _⟩ := DataW.trod_int Tryd.underlying3 h0
      obtain ⟨a1, e1, _, _⟩ := DataW.trod_int Tryd.underlying3 h1
      obtain ⟨a2, e2, _, _⟩ := DataW.trod_int Tryd.underlying2 h2
      obtain ⟨s, e3, _, hs⟩ := DataW.trod_string Tryd.underlying9 h3
      obtain ⟨a4, e4, _, _⟩ := DataW.trod_int Tryd.underlying3 h4
      obtain ⟨a5, e5, _, _⟩ := DataW.trod_int Tryd.underlying3 h5
      obtain ⟨a6, e6, _, _⟩ := DataW.trod_int Tryd.underlying3 h6
      obtain rfl : c0 = .int .i64 a0 := by simpa using e0
      obtain rfl : c1 = .int .i64 a1 := by simpa using e1
      obtain rfl : c2 = .int .i64 a2 := by simpa using e2
      obtain rfl : c3 = .string s := by simpa using e3
      obtain rfl : c4 = .int .i64 a4 := by simpa using e4
      obtain rfl : c5 = .int .i64 a5 := by simpa using e5
      obtain rfl : c6 = .int .i64 a6 := by simpa using e6
      exact ⟨⟨a0, a1, a2, s, a4, a5, a6⟩, kCl_mkK W _, hs⟩
set_option maxRecDepth 100000 in
theorem open_cls {b0 : Nat} {v : Value} {d : DataW H} {p : List MemPlace} (hv : Value.okWide Tryd.prog W .any b0 22 v) (h : DataW.Trod enc Tryd.prog W 0 (fun _ => true) true 22 v d p) (hsz : ∀ m ∈ d.weights Tryd.prog 22, m ≤ reachBytes) :
    ∃ A c e, v = .slice A e.length c ∧ e.length ≤ c ∧ Kd.C kCl W A e.length e ∧ (∀ x ∈ e, x.name.size ≤ maxLen) ∧ e.length ≤ 2199023255488 := by
  obtain ⟨a, l, c, rfl⟩ := okWide_slice Tryd.underlying22 hv
  obtain ⟨fuel, hf⟩ := h
  obtain ⟨A, c', e, hve, hc, _, hC, hw, hq⟩ := open_rows kCl (fun x D => x.name.size ≤ maxLen) Tryd.underlying22 cellsCell open_cell hf
  refine ⟨A, c', e, hve, hc, hC, fun x hx => ?_, ?_⟩
  · obtain ⟨D, h1, _⟩ := hq x hx; exact h1
  · rcases hw with hw | ⟨m, hm, hle⟩
    · omega
    · have := hsz m hm
      rw [bytesCell] at hle
      unfold reachBytes at this
      omega
end
end Go.Proofs.YticaocadeeolkaaDoor
