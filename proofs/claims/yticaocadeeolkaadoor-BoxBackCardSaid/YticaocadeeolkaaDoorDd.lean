/-
  THE WALK of alike: a term without values of other types is alike itself.
-/
import Derived.Test.YticaocadeeolkaaDoorDb
import Derived.Laws.StructEq
namespace Go.Proofs.YticaocadeeolkaaDoor
open Go.RowKit Plain Go.Proofs.YticaocadeeolkaaDoorW.PrintWords

/-- Old cells and marks read as before. -/
theorem bcell {W w1 : World} (hb : Below W.heap.size W w1) : (∀ b o, b < W.heap.size → w1.cell? ⟨b, o, none⟩ = W.cell? ⟨b, o, none⟩) ∧ (∀ b o, b < W.heap.size → w1.frozen? ⟨b, o, none⟩ = W.frozen? ⟨b, o, none⟩) :=
  ⟨fun b o h => hb.cell (p := ⟨b, o, none⟩) h, fun b o h => hb.frozen (p := ⟨b, o, none⟩) h⟩
def tpure : Tm → Prop
  | .un _ a => tpure a | .bin _ a b => tpure a ∧ tpure b | .ite c a b => tpure c ∧ tpure a ∧ tpure b | .other _ _ => False | _ => True
theorem tpure_fine : ∀ (t : Tm), tpure t → tfine t := by
  intro t
  induction t with
  | un _ a ih => exact fun h => ih h
  | bin _ a b iha ihb => exact fun h => ⟨iha h.1, ihb h.2⟩
  | ite c a b ihc iha ihb => exact fun h => ⟨ihc h.1, iha h.2.1, ihb h.2.2⟩
  | other => exact fun h => h.elim
  | _ => exact fun _ => trivial
set_option maxHeartbeats 4000000 in
set_option maxRecDepth 100000 in
theorem alike_self (t : Tm) : tpure t → ∀ w : World, Calls Tryd.prog 17 #[tval t, tval t] w fun en w' => en = .returned (.bool true) ∧ Below w.heap.size w w' := by
  induction t with
  | other => exact fun h => h.elim
  | nil =>
    intro _ w
    unfold tval
    go_enter Tryd.func17, Tryd.ntmps17
    go_wp2
    go_ret
    exact ⟨ret_bool (by first | rfl | simp), (by repeat (first | exact Below.refl _ _ | (refine Below.alloc ?_ (by simp) _)))⟩
  | lit n =>
    intro _ w
    unfold tval
    go_enter Tryd.func17, Tryd.ntmps17
    go_wp2
    go_ret
    exact ⟨ret_bool (by first | rfl | simp), (by repeat (first | exact Below.refl _ _ | (refine Below.alloc ?_ (by simp) _)))⟩
  | var s =>
    intro _ w
    unfold tval
    go_enter Tryd.func17, Tryd.ntmps17
    go_wp2
    go_ret
    exact ⟨ret_bool (by first | rfl | simp), (by repeat (first | exact Below.refl _ _ | (refine Below.alloc ?_ (by simp) _)))⟩
  | un op a ih0 =>
    intro hp w
    have I0 := Lib.hid (ih0 hp)
    clear ih0
    unfold tval
    go_enter Tryd.func17, Tryd.ntmps17
    go_wp2_with (go_at_call 17; first | ((with_reducible refine (I0.out _).mono ?_); rintro en w1 ⟨rfl, hb1⟩; have HB1 := Lib.hid hb1; clear hb1; have g1 := bcell HB1.out; obtain ⟨gc1, gf1⟩ := g1; have gz1 := HB1.out.size; (try simp only [World.size_alloc] at gz1); have gy1 : w.heap.size < w1.heap.size := (by omega); have gx1 : w.heap.size + 1 < w1.heap.size := (by omega)))
    go_ret
    exact ⟨ret_bool (by first | rfl | simp), below_step ((by repeat (first | exact Below.refl _ _ | (refine Below.alloc ?_ (by simp) _)))) (HB1.out)⟩
  | bin op a b ih0 ih1 =>
    intro hp w
    have I0 := Lib.hid (ih0 hp.1)
    have I1 := Lib.hid (ih1 hp.2)
    clear ih0 ih1
    unfold tval
    go_enter Tryd.func17, Tryd.ntmps17
    go_wp2_with (go_at_call 17; first | ((with_reducible refine (I0.out _).mono ?_); rintro en w1 ⟨rfl, hb1⟩; have HB1 := Lib.hid hb1; clear hb1; have g1 := bcell HB1.out; obtain ⟨gc1, gf1⟩ := g1; have gz1 := HB1.out.size; (try simp only [World.size_alloc] at gz1); have gy1 : w.heap.size < w1.heap.size := (by omega); have gx1 : w.heap.size + 1 < w1.heap.size := (by omega)) | ((with_reducible refine (I1.out _).mono ?_); rintro en w2 ⟨rfl, hb2⟩; have HB2 := Lib.hid hb2; clear hb2; have g2 := bcell HB2.out; obtain ⟨gc2, gf2⟩ := g2; have gz2 := HB2.out.size; (try simp only [World.size_alloc] at gz2); have gy2 : w.heap.size < w2.heap.size := (by omega); have gx2 : w.heap.size + 1 < w2.heap.size := (by omega)))
    go_ret
    exact ⟨ret_bool (by first | rfl | simp), below_step (below_step ((by repeat (first | exact Below.refl _ _ | (refine Below.alloc ?_ (by simp) _)))) (HB1.out)) (HB2.out)⟩
  | ite c a b ih0 ih1 ih2 =>
    intro hp w
    have I0 := Lib.hid (ih0 hp.1)
    have I1 := Lib.hid (ih1 hp.2.1)
    have I2 := Lib.hid (ih2 hp.2.2)
    clear ih0 ih1 ih2
    unfold tval
    go_enter Tryd.func17, Tryd.ntmps17
    go_wp2_with (go_at_call 17; first | ((with_reducible refine (I0.out _).mono ?_); rintro en w1 ⟨rfl, hb1⟩; have HB1 := Lib.hid hb1; clear hb1; have g1 := bcell HB1.out; obtain ⟨gc1, gf1⟩ := g1; have gz1 := HB1.out.size; (try simp only [World.size_alloc] at gz1); have gy1 : w.heap.size < w1.heap.size := (by omega); have gx1 : w.heap.size + 1 < w1.heap.size := (by omega)) | ((with_reducible refine (I1.out _).mono ?_); rintro en w2 ⟨rfl, hb2⟩; have HB2 := Lib.hid hb2; clear hb2; have g2 := bcell HB2.out; obtain ⟨gc2, gf2⟩ := g2; have gz2 := HB2.out.size; (try simp only [World.size_alloc] at gz2); have gy2 : w.heap.size < w2.heap.size := (by omega); have gx2 : w.heap.size + 1 < w2.heap.size := (by omega)) | ((with_reducible refine (I2.out _).mono ?_); rintro en w3 ⟨rfl, hb3⟩; have HB3 := Lib.hid hb3; clear hb3; have g3 := bcell HB3.out; obtain ⟨gc3, gf3⟩ := g3; have gz3 := HB3.out.size; (try simp only [World.size_alloc] at gz3); have gy3 : w.heap.size < w3.heap.size := (by omega); have gx3 : w.heap.size + 1 < w3.heap.size := (by omega)))
    go_ret
    exact ⟨ret_bool (by first | rfl | simp), below_step (below_step (below_step ((by repeat (first | exact Below.refl _ _ | (refine Below.alloc ?_ (by simp) _)))) (HB1.out)) (HB2.out)) (HB3.out)⟩
end Go.Proofs.YticaocadeeolkaaDoor
