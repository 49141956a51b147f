/-
  THE WALK of the law's copied: a list of commands of its own.
-/
import Derived.Test.YticaocadeeolkaaDoorJA
namespace Go.Proofs.YticaocadeeolkaaDoor
open Go.RowKit Plain Go.Proofs.YticaocadeeolkaaDoorW.PrintWords Go.Proofs.YticaocadeeolkaaDoorW.PrintLast Go.Proofs.YticaocadeeolkaaDoorW.PrintMore

theorem infoCm : (Tryd.prog.info? 75).map (fun i => (i.zero, i.size, i.bytes)) = some (some (.agg #[.int .i64 0, .int .i64 0, .int .i64 0, .int .i64 0, .int .i64 0, .string ⟨#[]⟩]), 6, 56) := by kernel_rfl
theorem kCm_mkM (w : World) (base : Nat) (ok : Nat → Prop) (x : Cm) : kCm.M w base ok x [.int .i64 x.kind, .int .i64 x.r, .int .i64 x.tgt, .int .i64 x.op, .int .i64 x.n, .string x.name] :=
  ⟨[_], _, rfl, rfl, ⟨[_], _, rfl, rfl, ⟨[_], _, rfl, rfl, ⟨[_], _, rfl, rfl, ⟨[_], _, rfl, rfl, rfl⟩⟩⟩⟩⟩
theorem kCm_KM {w w' : World} {base : Nat} {ok : Nat → Prop} {x : Cm} {cs : List Value} (h : kCm.K w x cs) : kCm.M w' base ok x cs := by
  rw [kCm_open h]; exact kCm_mkM _ _ _ _
set_option maxHeartbeats 4000000 in
set_option maxRecDepth 100000 in
theorem copied_any (p : List Cm) (A : Option Addr) (c : Nat) (w : World) (hr : Kd.C kCm w A p.length p) (hl : p.length ≤ 2513169434843) :
    Calls Tryd.prog 32 #[.slice A p.length c] w fun en w' => ∃ v, en = .returned v ∧ Kd.R kCm 75 w' w.heap.size (fun _ => True) v p ∧ Below w.heap.size w w' := by
  have HR := Lib.hid hr
  clear hr
  go_enter Tryd.func32, Tryd.ntmps32
  go_wp2_with (first
    | ((with_reducible refine gate_dst (N := 3) rfl ?_); refine Kd.R_lit kCm _ 75 ?hg (N := 3) ?hd (xs := ([] : List Cm)) (inner := []) (ok := fun _ => True) (okp := fun _ => True) ?hr ?hp (fun _ hk => hk) trivial (Below.refl _ _) (Nat.le_refl _) (by simp) ?_; (case hd => rfl); (case hg => rfl); (case hr => first | (go_simp; done) | (go_simp; rfl)); (case hp => exact (Reps.none _ _)); intro v1 w1 hR1 hb1 hg1 hn1; obtain ⟨A1, c1, e1, _, _⟩ := Kd.R_reads hR1; subst e1; have HR1 := Lib.hid hR1; have HB1 := Lib.hid hb1; have hs1 := hb1.size; clear hR1 hb1 hg1 hn1)
    | ((with_reducible refine gate_dst (N := 5) rfl ?_); refine Kd.R_append_rows kCm (w0 := w) w.heap.size ?hg (.tmp 3) (.tmp 4) 61 75 (.agg #[.int .i64 0, .int .i64 0, .int .i64 0, .int .i64 0, .int .i64 0, .string ⟨#[]⟩]) 56 ?ho Tryd.underlying61 infoCm rfl (by decide) (by omega) _ [] p A p.length c (fun _ => True) (fun _ => False) ?hs ?hx HR1.out (Kd.C_below HR.out HB1.out) (fun _ _ hk => kCm_KM hk) (fun _ hk => hk.elim) (fun _ _ => trivial) HB1.out hs1 (by simp; omega) ?_; (case hg => rfl); (case ho => rfl); (case hs => rfl); (case hx => rfl); intro v2 w2 hR2 hb2 _ _; obtain ⟨A2, c2, e2, _, _⟩ := Kd.R_reads hR2; subst e2; have HR2 := Lib.hid hR2; have HB2 := Lib.hid hb2; clear hR2 hb2))
  go_ret
  exact ⟨_, rfl, HR2.out, HB2.out⟩
end Go.Proofs.YticaocadeeolkaaDoor
