/-
  THE LAW BoxAll: marks.
-/
import Derived.Test.YticaocadeeolkaaDoorLb
import Derived.Test.YticaocadeeolkaaDoorMK
namespace Go.Proofs.YticaocadeeolkaaDoor
open Go.RowKit Plain Go.Proofs.YticaocadeeolkaaDoorW.PrintWords Go.Proofs.YticaocadeeolkaaDoorW.PrintLast Go.Proofs.YticaocadeeolkaaDoorW.PrintMore

def mark (D : Nat) : Deferred := { target := .collected D, args := #[] }
/-- The marks of the loops that are over, each its own block. -/
structure Marks (B : Nat) (Ds : List Nat) (w : World) : Prop where
  ne : Ds.Pairwise (fun x y => x ≠ y)
  at_ : ∀ D ∈ Ds, B ≤ D ∧ w.heap[D]? = some (.deferred (some []))
theorem Marks.keep {B : Nat} {Ds : List Nat} {w w' : World} (h : Marks B Ds w) (hk : ∀ D, B ≤ D → w.heap[D]? = some (.deferred (some [])) → w'.heap[D]? = some (.deferred (some []))) : Marks B Ds w' :=
  ⟨h.ne, fun D hD => ⟨(h.at_ D hD).1, hk D (h.at_ D hD).1 (h.at_ D hD).2⟩⟩
theorem Marks.below {B : Nat} {Ds : List Nat} {w w' : World} (h : Marks B Ds w) (hb : Below w.heap.size w w') : Marks B Ds w' :=
  h.keep (fun D _ hD => (hb.block D (Array.getElem?_eq_some_iff.1 hD).1).trans hD)
theorem Marks.setCell {B : Nat} {Ds : List Nat} {w : World} (h : Marks B Ds w) {p : Addr} {cs : Array Value} {t : Nat} (hp : w.heap[p.block]? = some (.cells cs t (0, 0))) (v : Value) : Marks B Ds (w.setCell p v) :=
  h.keep (fun D _ hD => (Below.heap_setCell w p v D (fun he => by rw [he, hp] at hD; cases hD)).trans hD)
theorem Marks.cons {B : Nat} {Ds : List Nat} {w w' : World} (h : Marks B Ds w) (h' : Marks B Ds w') (hB : B ≤ w.heap.size) (hD : w'.heap[w.heap.size]? = some (.deferred (some []))) : Marks B (w.heap.size :: Ds) w' :=
  ⟨List.pairwise_cons.2 ⟨fun D hm he => by
    have := (Array.getElem?_eq_some_iff.1 (h.at_ D hm).2).1
    omega, h.ne⟩, fun D hm => by
    rcases List.mem_cons.1 hm with rfl | hm
    · exact ⟨hB, hD⟩
    · exact h'.at_ D hm⟩
theorem leaves_marks {P : Program} {fn : Func} {tmps : Array Value} {b : Nat} {w0 : World} (hr : ∀ w, w.heap[b]? = some (.cells #[.bool true] 4 (0, 0)) → (results fn tmps).run P w = .ok (.bool true) w) (hb : b < w0.heap.size + 3) :
    ∀ (Ds : List Nat) (w : World), Marks (w0.heap.size + 3) Ds w → w.heap[b]? = some (.cells #[.bool true] 4 (0, 0)) → Below w0.heap.size w0 w →
      LeavesInM Fence.wide 3 P fn tmps (fun e w' => e = .returned (.bool true) ∧ Below w0.heap.size w0 w') (Ds.map mark) .returning w
  | [], w, _, hc, hB => ⟨_, hr w hc, rfl, hB⟩
  | D :: Ds, w, hM, hc, hB => by
    have hD := hM.at_ D List.mem_cons_self
    have hne := (List.pairwise_cons.1 hM.ne).1
    refine ⟨by simp, .inl ⟨D, _, rfl, run_takeDeferred hD.2, ?_⟩⟩
    refine leaves_marks hr hb Ds _ ⟨(List.pairwise_cons.1 hM.ne).2, fun D' hD' => ⟨(hM.at_ D' (List.mem_cons_of_mem _ hD')).1, (World.putObj_heap_other (fun he => hne D' hD' he.symm)).trans (hM.at_ D' (List.mem_cons_of_mem _ hD')).2⟩⟩ ((World.putObj_heap_other (by omega)).trans hc) (hB.trans (below_put w _ (by omega)))
end Go.Proofs.YticaocadeeolkaaDoor
