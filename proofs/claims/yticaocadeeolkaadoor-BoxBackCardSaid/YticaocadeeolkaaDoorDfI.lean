/-
  THE WALK of (*box.opener).lay: the nodes of a term, behind those that there are.
-/
import Derived.Test.YticaocadeeolkaaDoorDe
namespace Go.Proofs.YticaocadeeolkaaDoor
open Go.RowKit Plain Go.Proofs.YticaocadeeolkaaDoorW.PrintWords Go.Proofs.YticaocadeeolkaaDoorW.PrintLast Go.Proofs.YticaocadeeolkaaDoorW.PrintMore

theorem kNd_mkM (w : World) (base : Nat) (ok : Nat → Prop) (x : Nd) {v : Value} (g : (Kd.int .i64).R 3 w base ok v x.kids) : kNd.M w base ok x [.int .i64 x.op, .int .i64 x.n, .string x.name, v] :=
  ⟨[.int .i64 x.op], [.int .i64 x.n, .string x.name, v], rfl, rfl, ⟨[.int .i64 x.n], [.string x.name, v], rfl, rfl, ⟨[.string x.name], [v], rfl, rfl, ⟨v, rfl, g⟩⟩⟩⟩

def isVar : Tm → Bool
  | .var _ => true
  | _ => false
theorem ta_var_any (t : Tm) (ht : tfine t) (w : World) : (Instr.typeAssert (tval t) 33 81 true).run Tryd.prog w = .ok (.tuple #[.agg #[.string (nameOf t)], .bool (isVar t)]) w := by
  cases t with
  | nil => exact ta_var_nil w
  | lit => exact ta_var_miss (by decide) _ w
  | var => exact ta_var_hit _ w
  | un => exact ta_var_miss (by decide) _ w
  | bin => exact ta_var_miss (by decide) _ w
  | ite => exact ta_var_miss (by decide) _ w
  | other T v => exact ta_var_miss ht.2.1 _ w
theorem num_zero {t : Tm} (h : isLit t = false) : numOf t = 0 := by cases t <;> first | rfl | cases h
theorem name_zero {t : Tm} (h : isVar t = false) : nameOf t = ⟨#[]⟩ := by cases t <;> first | rfl | cases h

/-- What a call of lay does to the world: the object's block, and the row of its list, and what is new. -/
structure LayFrame (B g : Nat) (row : Option Nat) (w w' : World) : Prop where
  below : Below B w w'
  keep : KeepBut w w' g row
def LayPost (t : Tm) (B g : Nat) (Ok : Nat → Prop) (v : Value) (l : List Nd) (w : World) (en : Ending) (w' : World) : Prop :=
  (∃ v' l', lay t l = some l' ∧ en = .returned (.bool true) ∧ w'.heap[g]? = some (.cells #[v'] 100 (0, 0)) ∧ Kd.S kNd 96 w' B (fun k => Ok k ∧ k ≠ g) v' l' ∧ (v'.ownBlock = v.ownBlock ∨ ∃ b, v'.ownBlock = some b ∧ w.heap.size ≤ b) ∧ LayFrame B g v.ownBlock w w')
  ∨ (lay t l = none ∧ en = .returned (.bool false) ∧ Below B w w')
def LayC (t : Tm) : Prop := ∀ (B g : Nat) (Ok : Nat → Prop) (v : Value) (l : List Nd) (w : World),
  w.heap[g]? = some (.cells #[v] 100 (0, 0)) → B ≤ g → Kd.S kNd 96 w B (fun k => Ok k ∧ k ≠ g) v l → (∀ k, w.heap.size ≤ k → Ok k) → l.length ≤ 64 →
  Calls Tryd.prog 38 #[.pointer (some ⟨g, 0, none⟩), tval t] w (LayPost t B g Ok v l w)


theorem keep_own {α : Type} {w w' : World} {g : Nat} {row : Option Nat} {d : Kd α} {e base : Nat} {ok : Nat → Prop} {v : Value} {xs : List α} (hE : d.E = []) (h : d.R e w base ok v xs) (k : KeepBut w w' g row) (hg : some g ≠ v.ownBlock) (hr : ∀ b, v.ownBlock = some b → some b ≠ row) : d.R e w' base ok v xs :=
  Kd.R_mono (Kd.R_step (Kd.R_tight2 hE h) (fun b hb hlt => k.2 b hlt (fun he => hg (by rw [← he]; exact hb.1)) (hr b hb.1.symm))) (fun _ hk => hk.2)

/-- Where lay stands in its loop over the parts. -/
structure LInv (t : Tm) (B g nb : Nat) (Ok : Nat → Prop) (v : Value) (w : World) (Ap : Option Addr) (cp : Nat) (wr : World) (v1 vk : Value) (l1 : List Nd) (ks : List Int) : Prop where
  hgw : g < w.heap.size
  hBg : B ≤ g
  hnb : w.heap.size ≤ nb
  fr : ∀ k, w.heap.size ≤ k → Ok k
  G : wr.heap[g]? = some (.cells #[v1] 100 (0, 0))
  NB : wr.heap[nb]? = some (.cells #[.int .i64 (opOf t), .int .i64 (numOf t), .string (nameOf t), vk] 96 (0, 0))
  S : Kd.S kNd 96 wr B (fun k => (Ok k ∧ k ≠ nb ∧ some k ≠ vk.ownBlock) ∧ k ≠ g) v1 l1
  K : Kd.R (Kd.int .i64) 3 wr w.heap.size (fun _ => True) vk ks
  P : Kd.R kTm 33 wr w.heap.size (fun _ => True) (.slice Ap (partsOf t).length cp) (partsOf t)
  Bl : Below B w wr
  F : KeepBut w wr g v.ownBlock
  own : v1.ownBlock = v.ownBlock ∨ ∃ b, v1.ownBlock = some b ∧ w.heap.size ≤ b
section
variable {t : Tm} {B g nb : Nat} {Ok : Nat → Prop} {v : Value} {w : World} {Ap : Option Addr} {cp : Nat} {wr : World} {v1 vk : Value} {l1 : List Nd} {ks : List Int}
theorem LInv.nblt (h : LInv t B g nb Ok v w Ap cp wr v1 vk l1 ks) : nb < wr.heap.size := (Array.getElem?_eq_some_iff.1 h.NB).1
theorem LInv.le (h : LInv t B g nb Ok v w Ap cp wr v1 vk l1 ks) : w.heap.size ≤ wr.heap.size := by have := h.nblt; have := h.hnb; omega
theorem LInv.fr' (h : LInv t B g nb Ok v w Ap cp wr v1 vk l1 ks) : ∀ k, wr.heap.size ≤ k → Ok k ∧ k ≠ nb ∧ some k ≠ vk.ownBlock := fun k hk =>
  ⟨h.fr k (Nat.le_trans h.le hk), by have := h.nblt; omega, fun he => by have := Kd.R_lt h.K k he.symm; omega⟩
theorem LInv.drew (h : LInv t B g nb Ok v w Ap cp wr v1 vk l1 ks) : LInv t B g nb Ok v w Ap cp wr.drew v1 vk l1 ks :=
  { h with G := h.G, NB := h.NB, S := Kd.S_drew h.S, K := Kd.R_below h.K (Below.refl _ _).drew, P := Kd.R_below h.P (Below.refl _ _).drew, Bl := h.Bl.drew, F := keep_drewN h.F 1 }
theorem LInv.v1_ok (h : LInv t B g nb Ok v w Ap cp wr v1 vk l1 ks) : ∀ b, v1.ownBlock = some b → (Ok b ∧ b ≠ nb ∧ some b ≠ vk.ownBlock) ∧ b ≠ g := (Kd.S_R h.S).1
theorem LInv.vk_ne (h : LInv t B g nb Ok v w Ap cp wr v1 vk l1 ks) : ∀ b, vk.ownBlock = some b → some b ≠ v1.ownBlock := fun b hb he => (h.v1_ok b he.symm).1.2.2 hb.symm
theorem LInv.call (h : LInv t B g nb Ok v w Ap cp wr v1 vk l1 ks) {w4 : World} {v2 : Value} {l2 : List Nd}
    (hG : w4.heap[g]? = some (.cells #[v2] 100 (0, 0))) (hS : Kd.S kNd 96 w4 B (fun k => (Ok k ∧ k ≠ nb ∧ some k ≠ vk.ownBlock) ∧ k ≠ g) v2 l2)
    (hown : v2.ownBlock = v1.ownBlock ∨ ∃ b, v2.ownBlock = some b ∧ wr.heap.size ≤ b) (hF : LayFrame B g v1.ownBlock wr w4) : LInv t B g nb Ok v w Ap cp w4 v2 vk l2 ks where
  hgw := h.hgw
  hBg := h.hBg
  hnb := h.hnb
  fr := h.fr
  G := hG
  NB := hF.keep.blk h.NB (by have := h.hgw; have := h.hnb; omega) (fun he => (h.v1_ok nb he.symm).1.2.1 rfl)
  S := hS
  K := keep_own rfl h.K hF.keep (Kd.R_ne h.K h.G (by decide)) h.vk_ne
  P := keep_own rfl h.P hF.keep (Kd.R_ne h.P h.G (by decide)) (fun b hb he => by
    obtain ⟨c1, h1⟩ := Kd.R_typed h.P b hb
    obtain ⟨c2, h2⟩ := Kd.S_typed h.S b he.symm
    rw [h1] at h2
    simp at h2)
  Bl := h.Bl.trans hF.below
  F := h.F.trans hF.keep h.own
  own := by
    rcases hown with he | ⟨b, hb, hlt⟩
    · rw [he]; exact h.own
    · exact .inr ⟨b, hb, Nat.le_trans h.le hlt⟩
/-- A number more in the new node's row. -/
theorem LInv.app (h : LInv t B g nb Ok v w Ap cp wr v1 vk l1 ks) {w1 : World} {vk1 : Value} {ks1 : List Int} (hR : Kd.R (Kd.int .i64) 3 w1 w.heap.size (fun _ => True) vk1 ks1)
    (hb : Below w.heap.size wr w1) (hg : wr.grownBy w1 vk.ownBlock) (hat : vk1.ownBlock = vk.ownBlock ∨ ∃ b, vk1.ownBlock = some b ∧ wr.heap.size ≤ b) : LInv t B g nb Ok v w Ap cp (w1.setCell ⟨nb, 3, none⟩ vk1) v1 vk1 l1 ks1 where
  hgw := h.hgw
  hBg := h.hBg
  hnb := h.hnb
  fr := h.fr
  G := by
    refine (Below.heap_setCell w1 ⟨nb, 3, none⟩ vk1 g (by have := h.hgw; have := h.hnb; simp; omega)).trans ?_
    exact (hg.block g (Array.getElem?_eq_some_iff.1 h.G).1 (Kd.R_ne h.K h.G (by decide))).trans h.G
  NB := heap_setCell_same w1 nb 3 _ _ vk1 ((hg.block nb h.nblt (Kd.R_ne h.K h.NB (by decide))).trans h.NB)
  S := by
    have h1 := Kd.S_far (p := ⟨nb, 3, none⟩) (Kd.S_after (v1 := vk1) (Kd.S_mono h.S (ok' := fun k => ((Ok k ∧ k ≠ nb) ∧ k ≠ g) ∧ some k ≠ vk.ownBlock) (fun k hk => ⟨⟨⟨hk.1.1, hk.1.2.1⟩, hk.2⟩, hk.1.2.2⟩)) hg hat) (fun k hk => hk.1.1.2) vk1
    exact Kd.S_mono h1 (fun k hk => ⟨⟨hk.1.1.1, hk.1.1.2, hk.2⟩, hk.1.2⟩)
  K := Kd.R_mono (Kd.R_far (p := ⟨nb, 3, none⟩) (Kd.R_tight rfl hR) (fun k hk he => by
    have he' : k = nb := he
    subst he'
    rcases hat with h1 | ⟨b, h1, h2⟩
    · exact Kd.R_ne h.K h.NB (by decide) (hk.trans h1)
    · rw [h1] at hk; have := h.nblt; cases hk; omega) vk1) (fun _ _ => trivial)
  P := by
    refine Kd.R_mono (Kd.R_far (p := ⟨nb, 3, none⟩) (Kd.R_grown (Kd.R_tight rfl h.P) hg (fun k hk he => ?_)) (fun k hk he => ?_) vk1) (fun _ _ => trivial)
    · obtain ⟨c1, h1⟩ := Kd.R_typed h.P k hk.symm
      obtain ⟨c2, h2⟩ := Kd.R_typed h.K k he.symm
      rw [h1] at h2
      simp at h2
    · have he' : k = nb := he
      subst he'
      exact Kd.R_ne h.P h.NB (by decide) hk
  Bl := (h.Bl.trans (hb.mono (by have := h.hgw; have := h.hBg; omega))).setCell (by have := h.hgw; have := h.hBg; have := h.hnb; show B ≤ nb; omega) _
  F := by
    refine ⟨Nat.le_trans h.le (by simpa [World.setCell] using hb.size), fun i hi hgi hr => ?_⟩
    refine (Below.heap_setCell w1 ⟨nb, 3, none⟩ vk1 i (by have := h.hnb; show i ≠ nb; omega)).trans ((hb.block i hi).trans (h.F.2 i hi hgi hr))
  own := h.own
/-- The node goes behind the list. -/
theorem LInv.fin (h : LInv t B g nb Ok v w Ap cp wr v1 vk l1 ks) {w1 : World} {v2 : Value} {l2 : List Nd} (hS : Kd.S kNd 96 w1 B (fun k => Ok k ∧ k ≠ g) v2 l2)
    (hb : Below B wr w1) (hg : wr.grownBy w1 v1.ownBlock) (hat : v2.ownBlock = v1.ownBlock ∨ ∃ b, v2.ownBlock = some b ∧ wr.heap.size ≤ b) :
    (w1.setCell ⟨g, 0, none⟩ v2).heap[g]? = some (.cells #[v2] 100 (0, 0)) ∧ Kd.S kNd 96 (w1.setCell ⟨g, 0, none⟩ v2) B (fun k => Ok k ∧ k ≠ g) v2 l2 ∧ (v2.ownBlock = v.ownBlock ∨ ∃ b, v2.ownBlock = some b ∧ w.heap.size ≤ b) ∧ LayFrame B g v.ownBlock w (w1.setCell ⟨g, 0, none⟩ v2) := by
  refine ⟨?_, Kd.S_far hS (fun _ hk => hk.2) v2, ?_, ?_, ?_⟩
  · exact heap_setCell_same w1 g 0 _ _ v2 ((hg.block g (Array.getElem?_eq_some_iff.1 h.G).1 (fun he => (h.v1_ok g he.symm).2 rfl)).trans h.G)
  · rcases hat with he | ⟨b, hb, hlt⟩
    · rw [he]; exact h.own
    · exact .inr ⟨b, hb, Nat.le_trans h.le hlt⟩
  · exact (h.Bl.trans hb).setCell (by have := h.hBg; exact this) _
  · exact (h.F.trans (KeepBut.of_grown hg g) h.own).set_ 0 v2
theorem LInv.kids (h : LInv t B g nb Ok v w Ap cp wr v1 vk l1 ks) : kNd.M wr B (fun k => some k = vk.ownBlock) ⟨opOf t, numOf t, nameOf t, ks⟩ [.int .i64 (opOf t), .int .i64 (numOf t), .string (nameOf t), vk] :=
  kNd_mkM wr B _ _ (Kd.R_lower (Kd.R_tight rfl h.K) (by have := h.hgw; have := h.hBg; omega))
theorem LInv.kids_ok (h : LInv t B g nb Ok v w Ap cp wr v1 vk l1 ks) : ∀ k, some k = vk.ownBlock → (Ok k ∧ k ≠ g) ∧ some k ≠ v1.ownBlock := fun _ hk =>
  ⟨⟨h.fr _ (Kd.R_base h.K _ hk.symm), fun he => Kd.R_ne h.K h.G (by decide) (he ▸ hk)⟩, h.vk_ne _ hk.symm⟩
theorem LInv.list (h : LInv t B g nb Ok v w Ap cp wr v1 vk l1 ks) : Kd.S kNd 96 wr B (fun k => (Ok k ∧ k ≠ g) ∧ ¬ some k = vk.ownBlock) v1 l1 :=
  Kd.S_mono h.S (fun _ hk => ⟨⟨hk.1.1, hk.2⟩, hk.1.2.2⟩)
end
end Go.Proofs.YticaocadeeolkaaDoor
