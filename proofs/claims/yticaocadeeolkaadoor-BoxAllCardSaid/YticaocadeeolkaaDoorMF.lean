/-
  THE WALK of (*box.opener).lay: the nodes of a term, behind those that there are.
  THE WALK of (*box.opener).lay: the nodes of a term, behind those that there are.
-/
import Derived.Test.YticaocadeeolkaaDoorME

namespace Go.Proofs.YticaocadeeolkaaDoor
open Go.RowKit Plain Go.Proofs.YticaocadeeolkaaDoorW.PrintWords Go.Proofs.YticaocadeeolkaaDoorW.PrintLast Go.Proofs.YticaocadeeolkaaDoorW.PrintMore

theorem kNd_mkM (w : World) (base : Nat) (ok : Nat → Prop) (x : Nd) {v : Value} (g : (Kd.int .i64).R 3 w base ok v x.kids) : kNd.M w base ok x [.int .i64 x.op, .int .i64 x.n, .string x.name, v] :=
  ⟨[.int .i64 x.op], [.int .i64 x.n, .string x.name, v], rfl, rfl, ⟨[.int .i64 x.n], [.string x.name, v], rfl, rfl, ⟨[.string x.name], [v], rfl, rfl, ⟨v, rfl, g⟩⟩⟩⟩

def isVar : Tm → Bool
  | .var _ => true
  | _ => false
theorem ta_var_any (t : Tm) (ht : tfine t) (w : World) : (Instr.typeAssert (tval t) 33 81 true).run Tryd.prog w = .ok (.tuple #[.agg #[.string (nameOf t)], .bool (isVar t)]) w := by
  cases t with
  | nil => exact ta_var_nil w
  | lit => exact ta_var_miss (by decide) _ w
  | var => exact ta_var_hit _ w
  | un => exact ta_var_miss (by decide) _ w
  | bin => exact ta_var_miss (by decide) _ w
  | ite => exact ta_var_miss (by decide) _ w
  | other T v => exact ta_var_miss ht.2.1 _ w
theorem num_zero {t : Tm} (h : isLit t = false) : numOf t = 0 := by cases t <;> first | rfl | cases h
theorem name_zero {t : Tm} (h : isVar t = false) : nameOf t = ⟨#[]⟩ := by cases t <;> first | rfl | cases h

/-- What a call of lay does to the world: the object's block, and the row of its list, and what is new. -/
structure LayFrame (B g : Nat) (row : Option Nat) (w w' : World) : Prop where
  below : Below B w w'
  keep : KeepBut w w' g row
def LayPost (t : Tm) (B g : Nat) (Ok : Nat → Prop) (v : Value) (l : List Nd) (w : World) (en : Ending) (w' : World) : Prop :=
  (∃ v' l', lay t l = some l' ∧ en = .returned (.bool true) ∧ w'.heap[g]? = some (.cells #[v'] 100 (0, 0)) ∧ Kd.S kNd 96 w' B (fun k => Ok k ∧ k ≠ g) v' l' ∧ (v'.ownBlock = v.ownBlock ∨ ∃ b, v'.ownBlock = some b ∧ w.heap.size ≤ b) ∧ LayFrame B g v.ownBlock w w')
  ∨ (lay t l = none ∧ en = .returned (.bool false) ∧ Below B w w')
def LayC (t : Tm) : Prop := ∀ (B g : Nat) (Ok : Nat → Prop) (v : Value) (l : List Nd) (w : World),
  w.heap[g]? = some (.cells #[v] 100 (0, 0)) → B ≤ g → Kd.S kNd 96 w B (fun k => Ok k ∧ k ≠ g) v l → (∀ k, w.heap.size ≤ k → Ok k) → l.length ≤ 64 →
  Calls Tryd.prog 38 #[.pointer (some ⟨g, 0, none⟩), tval t] w (LayPost t B g Ok v l w)


theorem keep_own {α : Type} {w w' : World} {g : Nat} {row : Option Nat} {d : Kd α} {e base : Nat} {ok : Nat → Prop} {v : Value} {xs : List α} (hE : d.E = []) (h : d.R e w base ok v xs) (k : KeepBut w w' g row) (hg : some g ≠ v.ownBlock) (hr : ∀ b, v.ownBlock = some b → some b ≠ row) : d.R e w' base ok v xs :=
  Kd.R_mono (Kd.R_step (Kd.R_tight2 hE h) (fun b hb hlt => k.2 b hlt (fun he => hg (by rw [← he]; exact hb.1)) (hr b hb.1.symm))) (fun _ hk => hk.2)

/-- Where lay stands in its loop over the parts. -/
structure LInv (t : Tm) (B g nb : Nat) (Ok : Nat → Prop) (v : Value) (w : World) (Ap : Option Addr) (cp : Nat) (wr : World) (v1 vk : Value) (l1 : List Nd) (ks : List Int) : Prop where
  hgw : g < w.heap.size
  hBg : B ≤ g
  hnb : w.heap.size ≤ nb
  fr : ∀ k, w.heap.size ≤ k → Ok k
  G : wr.heap[g]? = some (.cells #[v1] 100 (0, 0))
  NB : wr.heap[nb]? = some (.cells #[.int .i64 (opOf t), .int .i64 (numOf t), .string (nameOf t), vk] 96 (0, 0))
  S : Kd.S kNd 96 wr B (fun k => (Ok k ∧ k ≠ nb ∧ some k ≠ vk.ownBlock) ∧ k ≠ g) v1 l1
  K : Kd.R (Kd.int .i64) 3 wr w.heap.size (fun _ => True) vk ks
  P : Kd.R kTm 33 wr w.heap.size (fun _ => True) (.slice Ap (partsOf t).length cp) (partsOf t)
  Bl : Below B w wr
  F : KeepBut w wr g v.ownBlock
  own : v1.ownBlock = v.ownBlock ∨ ∃ b, v1.ownBlock = some b ∧ w.heap.size ≤ b
section
variable {t : Tm} {B g nb : Nat} {Ok : Nat → Prop} {v : Value} {w : World} {Ap : Option Addr} {cp : Nat} {wr : World} {v1 vk : Value} {l1 : List Nd} {ks : List Int}
theorem LInv.nblt (h : LInv t B g nb Ok v w Ap cp wr v1 vk l1 ks) : nb < wr.heap.size := (Array.getElem?_eq_some_iff.1 h.NB).1
theorem LInv.le (h : LInv t B g nb Ok v w Ap cp wr v1 vk l1 ks) : w.heap.size ≤ wr.heap.size := by have := h.nblt; have := h.hnb; omega
theorem LInv.fr' (h : LInv t B g nb Ok v w Ap cp wr v1 vk l1 ks) : ∀ k, wr.heap.size ≤ k → Ok k ∧ k ≠ nb ∧ some k ≠ vk.ownBlock := fun k hk =>
  ⟨h.fr k (Nat.le_trans h.le hk), by have := h.nblt; omega, fun he => by have := Kd.R_lt h.K k he.symm; omega⟩
theorem LInv.drew (h : LInv t B g nb Ok v w Ap cp wr v1 vk l1 ks) : LInv t B g nb Ok v w Ap cp wr.drew v1 vk l1 ks :=
  { h with G := h.G, NB := h.NB, S := Kd.S_drew h.S, K := Kd.R_below h.K (Below.refl _ _).drew, P := Kd.R_below h.P (Below.refl _ _).drew, Bl := h.Bl.drew, F := keep_drewN h.F 1 }
theorem LInv.v1_ok (h : LInv t B g nb Ok v w Ap cp wr v1 vk l1 ks) : ∀ b, v1.ownBlock = some b → (Ok b ∧ b ≠ nb ∧ some b ≠ vk.ownBlock) ∧ b ≠ g := (Kd.S_R h.S).1
theorem LInv.vk_ne (h : LInv t B g nb Ok v w Ap cp wr v1 vk l1 ks) : ∀ b, vk.ownBlock = some b → some b ≠ v1.ownBlock := fun b hb he => (h.v1_ok b he.symm).1.2.2 hb.symm
theorem LInv.call (h : LInv t B g nb Ok v w Ap cp wr v1 vk l1 ks) {w4 : World} {v2 : Value} {l2 : List Nd}
    (hG : w4.heap[g]? = some (.cells #[v2] 100 (0, 0))) (hS : Kd.S kNd 96 w4 B (fun k => (Ok k ∧ k ≠ nb ∧ some k ≠ vk.ownBlock) ∧ k ≠ g) v2 l2)
    (hown : v2.ownBlock = v1.ownBlock ∨ ∃ b, v2.ownBlock = some b ∧ wr.heap.size ≤ b) (hF : LayFrame B g v1.ownBlock wr w4) : LInv t B g nb Ok v w Ap cp w4 v2 vk l2 ks where
  hgw := h.hgw
  hBg := h.hBg
  hnb := h.hnb
  fr := h.fr
  G := hG
  NB := hF.keep.blk h.NB (by have := h.hgw; have := h.hnb; omega) (fun he => (h.v1_ok nb he.symm).1.2.1 rfl)
  S := hS
  K := keep_own rfl h.K hF.keep (Kd.R_ne h.K h.G (by decide)) h.vk_ne
  P := keep_own rfl h.P hF.keep (Kd.R_ne h.P h.G (by decide)) (fun b hb he => by
    obtain ⟨c1, h1⟩ := Kd.R_typed h.P b hb
    obtain ⟨c2, h2⟩ := Kd.S_typed h.S b he.symm
    rw [h1] at h2
    simp at h2)
  Bl := h.Bl.trans hF.below
  F := h.F.trans hF.keep h.own
  own := by
    rcases hown with he | ⟨b, hb, hlt⟩
    · rw [he]; exact h.own
    · exact .inr ⟨b, hb, Nat.le_trans h.le hlt⟩
/-- A number more in the new node's row. -/
theorem LInv.app (h : LInv t B g nb Ok v w Ap cp wr v1 vk l1 ks) {w1 : World} {vk1 : Value} {ks1 : List Int} (hR : Kd.R (Kd.int .i64) 3 w1 w.heap.size (fun _ => True) vk1 ks1)
    (hb : Below w.heap.size wr w1) (hg : wr.grownBy w1 vk.ownBlock) (hat : vk1.ownBlock = vk.ownBlock ∨ ∃ b, vk1.ownBlock = some b ∧ wr.heap.size ≤ b) : LInv t B g nb Ok v w Ap cp (w1.setCell ⟨nb, 3, none⟩ vk1) v1 vk1 l1 ks1 where
  hgw := h.hgw
  hBg := h.hBg
  hnb := h.hnb
  fr := h.fr
  G := by
    refine (Below.heap_setCell w1 ⟨nb, 3, none⟩ vk1 g (by have := h.hgw; have := h.hnb; simp; omega)).trans ?_
    exact (hg.block g (Array.getElem?_eq_some_iff.1 h.G).1 (Kd.R_ne h.K h.G (by decide))).trans h.G
  NB := heap_setCell_same w1 nb 3 _ _ vk1 ((hg.block nb h.nblt (Kd.R_ne h.K h.NB (by decide))).trans h.NB)
  S := by
    have h1 := Kd.S_far (p := ⟨nb, 3, none⟩) (Kd.S_after (v1 := vk1) (Kd.S_mono h.S (ok' := fun k => ((Ok k ∧ k ≠ nb) ∧ k ≠ g) ∧ some k ≠ vk.ownBlock) (fun k hk => ⟨⟨⟨hk.1.1, hk.1.2.1⟩, hk.2⟩, hk.1.2.2⟩)) hg hat) (fun k hk => hk.1.1.2) vk1
    exact Kd.S_mono h1 (fun k hk => ⟨⟨hk.1.1.1, hk.1.1.2, hk.2⟩, hk.1.2⟩)
  K := Kd.R_mono (Kd.R_far (p := ⟨nb, 3, none⟩) (Kd.R_tight rfl hR) (fun k hk he => by
    have he' : k = nb := he
    subst he'
    rcases hat with h1 | ⟨b, h1, h2⟩
    · exact Kd.R_ne h.K h.NB (by decide) (hk.trans h1)
    · rw [h1] at hk; have := h.nblt; cases hk; omega) vk1) (fun _ _ => trivial)
  P := by
    refine Kd.R_mono (Kd.R_far (p := ⟨nb, 3, none⟩) (Kd.R_grown (Kd.R_tight rfl h.P) hg (fun k hk he => ?_)) (fun k hk he => ?_) vk1) (fun _ _ => trivial)
    · obtain ⟨c1, h1⟩ := Kd.R_typed h.P k hk.symm
      obtain ⟨c2, h2⟩ := Kd.R_typed h.K k he.symm
      rw [h1] at h2
      simp at h2
    · have he' : k = nb := he
      subst he'
      exact Kd.R_ne h.P h.NB (by decide) hk
  Bl := (h.Bl.trans (hb.mono (by have := h.hgw; have := h.hBg; omega))).setCell (by have := h.hgw; have := h.hBg; have := h.hnb; show B ≤ nb; omega) _
  F := by
    refine ⟨Nat.le_trans h.le (by simpa [World.setCell] using hb.size), fun i hi hgi hr => ?_⟩
    refine (Below.heap_setCell w1 ⟨nb, 3, none⟩ vk1 i (by have := h.hnb; show i ≠ nb; omega)).trans ((hb.block i hi).trans (h.F.2 i hi hgi hr))
  own := h.own
/-- The node goes behind the list. -/
theorem LInv.fin (h : LInv t B g nb Ok v w Ap cp wr v1 vk l1 ks) {w1 : World} {v2 : Value} {l2 : List Nd} (hS : Kd.S kNd 96 w1 B (fun k => Ok k ∧ k ≠ g) v2 l2)
    (hb : Below B wr w1) (hg : wr.grownBy w1 v1.ownBlock) (hat : v2.ownBlock = v1.ownBlock ∨ ∃ b, v2.ownBlock = some b ∧ wr.heap.size ≤ b) :
    (w1.setCell ⟨g, 0, none⟩ v2).heap[g]? = some (.cells #[v2] 100 (0, 0)) ∧ Kd.S kNd 96 (w1.setCell ⟨g, 0, none⟩ v2) B (fun k => Ok k ∧ k ≠ g) v2 l2 ∧ (v2.ownBlock = v.ownBlock ∨ ∃ b, v2.ownBlock = some b ∧ w.heap.size ≤ b) ∧ LayFrame B g v.ownBlock w (w1.setCell ⟨g, 0, none⟩ v2) := by
  refine ⟨?_, Kd.S_far hS (fun _ hk => hk.2) v2, ?_, ?_, ?_⟩
  · exact heap_setCell_same w1 g 0 _ _ v2 ((hg.block g (Array.getElem?_eq_some_iff.1 h.G).1 (fun he => (h.v1_ok g he.symm).2 rfl)).trans h.G)
  · rcases hat with he | ⟨b, hb, hlt⟩
    · rw [he]; exact h.own
    · exact .inr ⟨b, hb, Nat.le_trans h.le hlt⟩
  · exact (h.Bl.trans hb).setCell (by have := h.hBg; exact this) _
  · exact (h.F.trans (KeepBut.of_grown hg g) h.own).set_ 0 v2
theorem LInv.kids (h : LInv t B g nb Ok v w Ap cp wr v1 vk l1 ks) : kNd.M wr B (fun k => some k = vk.ownBlock) ⟨opOf t, numOf t, nameOf t, ks⟩ [.int .i64 (opOf t), .int .i64 (numOf t), .string (nameOf t), vk] :=
  kNd_mkM wr B _ _ (Kd.R_lower (Kd.R_tight rfl h.K) (by have := h.hgw; have := h.hBg; omega))
theorem LInv.kids_ok (h : LInv t B g nb Ok v w Ap cp wr v1 vk l1 ks) : ∀ k, some k = vk.ownBlock → (Ok k ∧ k ≠ g) ∧ some k ≠ v1.ownBlock := fun _ hk =>
  ⟨⟨h.fr _ (Kd.R_base h.K _ hk.symm), fun he => Kd.R_ne h.K h.G (by decide) (he ▸ hk)⟩, h.vk_ne _ hk.symm⟩
theorem LInv.list (h : LInv t B g nb Ok v w Ap cp wr v1 vk l1 ks) : Kd.S kNd 96 wr B (fun k => (Ok k ∧ k ≠ g) ∧ ¬ some k = vk.ownBlock) v1 l1 :=
  Kd.S_mono h.S (fun _ hk => ⟨⟨hk.1.1, hk.2⟩, hk.1.2.2⟩)
end
end Go.Proofs.YticaocadeeolkaaDoor

namespace Go.Proofs.YticaocadeeolkaaDoor
open Go.RowKit Plain Go.Proofs.YticaocadeeolkaaDoorW.PrintWords Go.Proofs.YticaocadeeolkaaDoorW.PrintLast Go.Proofs.YticaocadeeolkaaDoorW.PrintMore

theorem lay_len {t : Tm} {l l' : List Nd} (h : lay t l = some l') : 1 ≤ l'.length ∧ l'.length ≤ 64 := by
  rw [lay_kids] at h
  split at h
  · obtain ⟨p, _, h2⟩ := Option.bind_eq_some_iff.1 h
    obtain ⟨h3, h4⟩ := lay_end_le h2
    exact ⟨by rw [h3]; simp, h4⟩
  · cases h
theorem infoInt : (Tryd.prog.info? 3).map (fun i => (i.zero, i.size, i.bytes)) = some (some (.int .i64 0), 1, 8) := by kernel_rfl
theorem infoNd : (Tryd.prog.info? 96).map (fun i => (i.zero, i.size, i.bytes)) = some (some (.agg #[.int .i64 0, .int .i64 0, .string ⟨#[]⟩, .slice none 0 0]), 4, 56) := by kernel_rfl
set_option maxHeartbeats 16000000 in
set_option maxRecDepth 100000 in
theorem lay_node (t : Tm) (ht : tfine t) (ih : ∀ p ∈ partsOf t, LayC p) : LayC t := by
  intro B g Ok v l w hg hBg hS hfr hl64
  have hta := ta_var_any t ht
  have HT := Lib.hid ht
  have IH := Lib.hid ih
  have HG := Lib.hid hg
  have HS := Lib.hid hS
  have HFR := Lib.hid hfr
  have hgw : g < w.heap.size := (Array.getElem?_eq_some_iff.1 hg).1
  have HLK := Lib.hid (lay_kids t l)
  have hu := Tryd.underlying96
  clear ht ih hg hS hfr
  cases hlit : isLit t
  · have HN0 := Lib.hid (num_zero hlit)
    cases hvar : isVar t
    · have HV0 := Lib.hid (name_zero hvar)
      go_enter Tryd.func38, Tryd.ntmps38
      go_wp2_with (first | (go_at_call 34; refine (op_any t HT.out _).mono ?_; rintro en w1 ⟨rfl, hb1⟩; have hb := bcell hb1; obtain ⟨gc1, gf1⟩ := hb; have HB1 := Lib.hid hb1; clear hb1) | (go_at_call 33; refine (lit_any t HT.out _).mono ?_; rintro en w2 ⟨rfl, hb2⟩; have hb := bcell hb2; obtain ⟨gc2, gf2⟩ := hb; have HB2 := Lib.hid hb2; clear hb2; have hz2 := HB2.out.size; have hz2' : w1.heap.size < w2.heap.size := (by simp only [World.size_alloc] at hz2; omega)))
      go_at_call 22
      refine (parts_any t HT.out _).mono ?_
      rintro en w3 ⟨vp, rfl, hRp, hb3⟩
      have k1 : (w1.alloc (.cells #[.int .i64 (opOf t), .int .i64 0, .string ⟨#[]⟩, .slice none 0 0] 96)).heap[w1.heap.size]? = some (.cells #[.int .i64 (opOf t), .int .i64 0, .string ⟨#[]⟩, .slice none 0 0] 96) := heap_alloc_new w1 _
      have k2 : w2.heap[w1.heap.size]? = some (.cells #[.int .i64 (opOf t), .int .i64 0, .string ⟨#[]⟩, .slice none 0 0] 96) := (HB2.out.block w1.heap.size (by simp)).trans k1
      have k3 : w3.heap[w1.heap.size]? = some (.cells #[.int .i64 (opOf t), .int .i64 0, .string ⟨#[]⟩, .slice none 0 0] 96) := (hb3.block w1.heap.size (by simp; omega)).trans ((Below.heap_alloc w2 _ _ hz2').trans k2)
      have HNB : Hid (w3.heap[w1.heap.size]? = some (.cells #[.int .i64 (opOf t), .int .i64 (numOf t), .string (nameOf t), .slice none 0 0] 96)) := Lib.hid (by rw [HN0.out, HV0.out]; exact k3)
      have hBW : Below w.heap.size w w3 := below_step ((below_step ((HB1.out.alloc HB1.out.size _)) HB2.out).alloc (Nat.le_trans HB1.out.size (Nat.le_of_lt hz2')) _) hb3
      have hn1 : w.heap.size ≤ w1.heap.size := HB1.out.size
      have hn2 : w1.heap.size < w3.heap.size := (Array.getElem?_eq_some_iff.1 HNB.out).1
      have HBW := Lib.hid hBW
      have HRP := Lib.hid (Kd.R_lower hRp (base' := w.heap.size) (by simp; omega))
      clear gc1 gf1 gc2 gf2 HB1 HB2 hz2 hz2' k1 k2 k3 hb3 hRp hBW
      generalize w1.heap.size = nb at *
      obtain ⟨Ap, cp, rfl, hlp, hCp⟩ := Kd.R_reads HRP.out
      clear hCp
      have n0 : w3.cell? ⟨nb, 0, none⟩ = some (.int .i64 (opOf t)) := blk_cell HNB.out 0
      cases har : arity (opOf t) with
      | none =>
        have HA := Lib.hid har
        have he : (arityE (opOf t) != 0) = true := by rw [arityE, har]; rfl
        clear har
        go_wp2_with (first | (go_at_call 55; refine (arity_any _ _).mono ?_; rintro en w' ⟨rfl, rfl⟩))
        go_ret
        exact .inr ⟨by rw [HLK.out, HA.out]; rfl, rfl, HBW.out.mono (by omega)⟩
      | some j =>
        have HA := Lib.hid har
        have he : (arityE (opOf t) != 0) = false := by rw [arityE, har]; rfl
        have hj : arityI (opOf t) = (j : Int) := by rw [arityI, har]
        clear har
        by_cases hk : j = (partsOf t).length
        · have hk' : ((j : Int) != ((partsOf t).length : Int)) = false := by rw [bne_eq_false_iff_eq]; omega
          have HK := Lib.hid hk
          have HLK2 : Hid (lay t l = (layKids (partsOf t) l []).bind fun p => layEnd (opOf t) (numOf t) (nameOf t) p.2 p.1) := Lib.hid (by rw [HLK.out, HA.out, hk, if_pos rfl])
          clear hk
          have hpl : (partsOf t).length ≤ 3 := by rw [← HK.out]; exact arity_le HA.out
          go_wp2_with (first | (go_at_call 55; refine (arity_any _ _).mono ?_; rintro en w' ⟨rfl, rfl⟩))
          go_loopw [53] (fun iv wr => ∃ (i : Nat) (v1 vk : Value) (l1 : List Nd) (ks : List Int), iv = .int .i64 i ∧ i ≤ (partsOf t).length ∧ l1.length ≤ 64 ∧ ks.length ≤ i ∧ Hid (layKids ((partsOf t).drop i) l1 ks = layKids (partsOf t) l []) ∧ Hid (LInv t B g nb Ok v w Ap cp wr v1 vk l1 ks)) (fun iv _ => (partsOf t).length - (intOf iv).toNat)
          case atStart => exact ⟨0, v, .slice none 0 0, l, [], rfl, by omega, hl64, by simp, Lib.hid rfl, Lib.hid ⟨hgw, hBg, hn1, HFR.out, (HBW.out.block g hgw).trans HG.out, HNB.out, Kd.S_below (Kd.S_mono (Kd.S_bound HS.out) (fun k hk => ⟨⟨hk.1.1, by have := hk.2.2.1; omega, by simp [Value.ownBlock]⟩, hk.1.2⟩)) HBW.out, Kd.R_nil _ _ _ _ _, HRP.out, HBW.out.mono (by omega), KeepBut.of_below HBW.out _ _, .inl rfl⟩⟩
          case round =>
            obtain ⟨i, v1, vk, l1, ks, rfl, hi, hl1, hks, hq, hI⟩ := hrel
            obtain ⟨A1, c1, rfl, hc1, _⟩ := Kd.S_reads hI.out.S
            obtain ⟨Ak, ck, rfl, hck, _⟩ := Kd.R_reads hI.out.K
            have gcell : wr.cell? ⟨g, 0, none⟩ = some (.slice A1 l1.length c1) := blk_cell hI.out.G 0
            by_cases hlt : i < (partsOf t).length
            · obtain ⟨p, hp⟩ : ∃ p, (partsOf t)[i]? = some p := ⟨_, List.getElem?_eq_getElem hlt⟩
              obtain ⟨_, _, hCP⟩ := Kd.R_reads' hI.out.P
              obtain ⟨adp, ep, hpc⟩ := tm_at hCP hp
              subst ep
              have hdrop : (partsOf t).drop i = p :: (partsOf t).drop (i + 1) := by
                rw [List.drop_eq_getElem_cons hlt]; congr 1
                exact Option.some.inj ((List.getElem?_eq_getElem hlt).symm.trans hp)
              have HDR := Lib.hid hdrop
              have HPM := Lib.hid (List.mem_of_getElem? hp)
              clear hCP hp hdrop
              have hnbr : nb < wr.heap.size := hI.out.nblt
              obtain ⟨wo, rfl⟩ : ∃ wo : World, wo = wr := ⟨_, rfl⟩
              by_cases h64 : 64 ≤ l1.length
              · have hge : decide ((64 : Int) ≤ (l1.length : Int)) = true := decide_eq_true (by omega)
                go_wp2
                go_ret
                exact .inr ⟨by rw [HLK2.out, ← hq.out, HDR.out]; simp only [layKids, layPart, h64, if_true]; rfl, rfl, hI.out.Bl⟩
              · have hge : decide ((64 : Int) ≤ (l1.length : Int)) = false := decide_eq_false (by omega)
                have hih := Lib.hid (IH.out p HPM.out B g _ _ l1 wo hI.out.G hBg hI.out.S hI.out.fr' (by omega))
                have HQ2 : Hid (layKids (partsOf t) l [] = (lay p l1).bind fun l2 => layKids ((partsOf t).drop (i + 1)) l2 (ks ++ [last l2])) := Lib.hid (by rw [← hq.out, HDR.out]; simp only [layKids, layPart, h64, if_false])
                go_wp2_with (first | (go_at_call 38; refine hih.out.mono ?_; rintro en w4 (⟨v2, l2, hlay, rfl, hG4, hS4, hown4, hF4⟩ | ⟨hlay, rfl, hB4⟩); have HLY := Lib.hid hlay; clear hlay))
                · have hI4 := hI.out.call hG4 hS4 hown4 hF4
                  obtain ⟨A2, c2, rfl, hc2, _⟩ := Kd.S_reads hS4
                  have HI4 := Lib.hid hI4
                  have gy : wo.heap.size ≤ w4.heap.size := hF4.below.size
                  clear hI4 hG4 hS4 hown4 hF4
                  obtain ⟨hl20, hl2⟩ := lay_len HLY.out
                  have hwr : IntKind.i64.wrap ((l2.length : Int) - 1) = (l2.length : Int) - 1 := by rw [i64_w]; unfold wrap64; omega
                  have HQ3 := Lib.hid (HQ2.out.trans (by rw [HLY.out]))
                  refine start_ (n := 12) (S := fun w' => w'.cell? ⟨nb, 3, none⟩ = some (.slice Ak ks.length ck) ∧ w'.cell? ⟨g, 0, none⟩ = some (.slice A2 l2.length c2)) (ds := [11]) #[false, false, false, false, false, false, false, false, false, false, false, false] (by kernel_rfl) rfl rfl ⟨blk_cell HI4.out.NB 3, blk_cell HI4.out.G 0⟩ (fun hHeld => ?_)
                  have HIq : Hid (LInv t B g nb Ok v w (some adp) cp w4.drew (.slice A2 l2.length c2) (.slice Ak ks.length ck) l2 ks) := Lib.hid HI4.out.drew
                  generalize w4.drew = wq at hHeld HIq ⊢
                  have hnbq : nb < wq.heap.size := HIq.out.nblt
                  have hgq : g < wq.heap.size := by have := HIq.out.hnb; omega
                  refine pure_ (i := 0) (N := some 69) (v := ?_) (a' := ?_) #[true, false, false, false, false, false, false, false, false, false, false, false] rfl rfl (by kernel_rfl) (fun _ _ _ h => h) (Or.inl ⟨by rfl, ?_⟩) ?_ ?_
                  rotate_left
                  · intro w'
                    go_simp
                    with_reducible rfl
                  rotate_left
                  · simp only [Act.put, List.setIfInBounds_toArray, List.set_cons_zero, List.set_cons_succ]
                    rfl
                  refine pure_ (i := 2) (N := some 71) (v := ?_) (a' := ?_) #[true, false, true, false, false, false, false, false, false, false, false, false] rfl rfl (by kernel_rfl) (fun _ _ _ h => h) (Or.inl ⟨by rfl, ?_⟩) ?_ ?_
                  rotate_left
                  · intro w'
                    go_simp
                    with_reducible rfl
                  rotate_left
                  · simp only [Act.put, List.setIfInBounds_toArray, List.set_cons_zero, List.set_cons_succ]
                    rfl
                  refine pure_ (i := 3) (N := some 72) (v := ?_) (a' := ?_) #[true, false, true, true, false, false, false, false, false, false, false, false] rfl rfl (by kernel_rfl) (fun _ _ _ h => h) (Or.inl ⟨by rfl, ?_⟩) ?_ ?_
                  rotate_left
                  · intro w'
                    go_simp
                    with_reducible rfl
                  rotate_left
                  · simp only [Act.put, List.setIfInBounds_toArray, List.set_cons_zero, List.set_cons_succ]
                    rfl
                  refine pure_ (i := 4) (N := some 73) (v := ?_) (a' := ?_) #[true, false, true, true, true, false, false, false, false, false, false, false] rfl rfl (by kernel_rfl) (fun _ _ _ h => h) (Or.inl ⟨by rfl, ?_⟩) ?_ ?_
                  rotate_left
                  · intro w'
                    go_simp
                    with_reducible rfl
                  rotate_left
                  · simp only [Act.put, List.setIfInBounds_toArray, List.set_cons_zero, List.set_cons_succ]
                    rfl
                  refine take_ (i := 1) (N := some 70) (v := ?_) (a' := ?_) #[true, true, true, true, true, false, false, false, false, false, false, false] rfl rfl (by kernel_rfl) (fun _ _ _ h => h) (Or.inl ⟨by rfl, ?_⟩) hHeld ?_ ?_
                  rotate_left
                  · rintro w' ⟨s0, s1⟩
                    go_simp
                    with_reducible rfl
                  rotate_left
                  · simp only [Act.put, List.setIfInBounds_toArray, List.set_cons_zero, List.set_cons_succ]
                    rfl
                  refine take_ (i := 5) (N := some 74) (v := ?_) (a' := ?_) #[true, true, true, true, true, true, false, false, false, false, false, false] rfl rfl (by kernel_rfl) (fun _ _ _ h => h) (Or.inl ⟨by rfl, ?_⟩) hHeld ?_ ?_
                  rotate_left
                  · rintro w' ⟨s0, s1⟩
                    go_simp
                    with_reducible rfl
                  rotate_left
                  · simp only [Act.put, List.setIfInBounds_toArray, List.set_cons_zero, List.set_cons_succ]
                    rfl
                  refine pure_ (i := 6) (N := some 75) (v := ?_) (a' := ?_) #[true, true, true, true, true, true, true, false, false, false, false, false] rfl rfl (by kernel_rfl) (fun _ _ _ h => h) (Or.inl ⟨by rfl, ?_⟩) ?_ ?_
                  rotate_left
                  · intro w'
                    go_simp
                    with_reducible rfl
                  rotate_left
                  · simp only [Act.put, List.setIfInBounds_toArray, List.set_cons_zero, List.set_cons_succ]
                    rfl
                  refine pure_ (i := 7) (N := some 76) (v := ?_) (a' := ?_) #[true, true, true, true, true, true, true, true, false, false, false, false] rfl rfl (by kernel_rfl) (fun _ _ _ h => h) (Or.inl ⟨by rfl, ?_⟩) ?_ ?_
                  rotate_left
                  · intro w'
                    go_simp
                    with_reducible rfl
                  rotate_left
                  · simp only [Act.put, List.setIfInBounds_toArray, List.set_cons_zero, List.set_cons_succ]
                    rfl
                  refine one_ (i := 8) (N := some 77) #[true, true, true, true, true, true, true, true, true, false, false, false] rfl rfl (by kernel_rfl) (by decide) (fun K hK => ?_)
                  refine value_ (v := .slice (some ⟨wq.heap.size, 0, none⟩) 1 1) (w1 := wq.alloc (.cells #[.int .i64 ((l2.length : Int) - 1)] 3)) rfl rfl ?hrun ?_
                  case hrun =>
                    go_simp
                  refine hK.out _ _ ⟨(nd_below ((Below.refl _ _).alloc (Nat.le_refl _) _) hHeld.1), (nd_below ((Below.refl _ _).alloc (Nat.le_refl _) _) hHeld.2)⟩ (fun hHeld => ?_)
                  clear hK K
                  refine norm_ (a' := ?_) ?_ ?_
                  rotate_left
                  · show Act.put _ (some 77) _ = _
                    simp only [Act.put, List.setIfInBounds_toArray, List.set_cons_zero, List.set_cons_succ]
                    rfl
                  refine one_ (i := 9) (N := some 78) #[true, true, true, true, true, true, true, true, true, true, false, false] rfl rfl (by kernel_rfl) (by decide) (fun K hK => ?_)
                  refine Kd.R_append_step (Kd.int .i64) (w0 := wq) w.heap.size rfl (.tmp 70) (.tmp 77) 68 3 (.int .i64 0) 8 rfl Tryd.underlying68 infoInt rfl (by decide) (by omega) (.slice Ak ks.length ck) ks ((l2.length : Int) - 1) [.int .i64 ((l2.length : Int) - 1)] (fun _ => True) (fun _ => False) rfl rfl ?aP (fun _ h => h.elim) (fun _ _ => trivial) ?aO ?aB ?aS ?aL ?_
                  case aP => exact rfl
                  case aO => exact HIq.out.K
                  case aB => exact Below.refl _ _
                  case aS => exact HIq.out.le
                  case aL => omega
                  intro vk1 w5 hR5 hb5 hg5 hat5
                  obtain ⟨A5, c5, rfl, hc5, _⟩ := Kd.R_reads hR5
                  have HR5 := Lib.hid hR5
                  have HB5 := Lib.hid hb5
                  have HG5 := Lib.hid hg5
                  have HAT5 := Lib.hid hat5
                  clear hR5 hb5 hg5 hat5
                  have hNB5 : w5.heap[nb]? = some (.cells #[.int .i64 (opOf t), .int .i64 (numOf t), .string (nameOf t), .slice Ak ks.length ck] 96 (0, 0)) := (HG5.out.block nb hnbq (Kd.R_ne HIq.out.K HIq.out.NB (by decide))).trans HIq.out.NB
                  have hG5 : w5.heap[g]? = some (.cells #[.slice A2 l2.length c2] 100 (0, 0)) := (HG5.out.block g hgq (Kd.R_ne HIq.out.K HIq.out.G (by decide))).trans HIq.out.G
                  have HI5 := Lib.hid (HIq.out.app HR5.out HB5.out HG5.out HAT5.out)
                  refine hK.out _ _ ⟨blk_cell hNB5 3, blk_cell hG5 0⟩ (fun hHeld => ?_)
                  clear hK K
                  refine norm_ (a' := ?_) ?_ ?_
                  rotate_left
                  · show Act.put _ (some 78) _ = _
                    simp only [Act.put, List.setIfInBounds_toArray, List.set_cons_zero, List.set_cons_succ]
                    rfl
                  refine pure_ (i := 10) (N := some 79) (v := ?_) (a' := ?_) #[true, true, true, true, true, true, true, true, true, true, true, false] rfl rfl (by kernel_rfl) (fun _ _ _ h => h) (Or.inl ⟨by rfl, ?_⟩) ?_ ?_
                  rotate_left
                  · intro w'
                    go_simp
                    with_reducible rfl
                  rotate_left
                  · simp only [Act.put, List.setIfInBounds_toArray, List.set_cons_zero, List.set_cons_succ]
                    rfl
                  have frn := blk_frozen hNB5 3
                  refine last_ (i := 11) (N := none) #[true, true, true, true, true, true, true, true, true, true, true, true] rfl rfl (by kernel_rfl) (by decide) (fun K hK => ?_)
                  refine skip_ (w1 := w5.setCell ⟨nb, 3, none⟩ (.slice A5 (ks ++ [(l2.length : Int) - 1]).length c5)) rfl rfl ?hrun ?_
                  case hrun =>
                    go_simp
                  refine hK.out _ _ ?_
                  clear hK K
                  refine done_ (by kernel_rfl) ?_
                  go_wp2
                  go_roundw
                  simp only [List.length_append, List.length_cons, List.length_nil, Nat.zero_add] at HI5
                  case rel => exact ⟨i + 1, _, _, l2, ks ++ [(l2.length : Int) - 1], by go_num, by omega, hl2, by simp; omega, Lib.hid (HQ3.out).symm, HI5⟩
                  case measure => simp [intOf]; omega
                · have HB4 := Lib.hid hB4
                  have HLY := Lib.hid hlay
                  clear hB4 hlay
                  go_wp2
                  go_ret
                  exact .inr ⟨by rw [HLK2.out, HQ2.out, HLY.out]; rfl, rfl, hI.out.Bl.trans HB4.out⟩
            · have hie : i = (partsOf t).length := by omega
              have HQ4 : Hid (layKids (partsOf t) l [] = some (l1, ks)) := Lib.hid (by rw [← hq.out, hie, List.drop_length]; rfl)
              clear hie
              go_wp2
              refine start_ (n := 11) (S := fun w' => w'.cell? ⟨nb, 0, none⟩ = some (.int .i64 (opOf t)) ∧ w'.cell? ⟨nb, 1, none⟩ = some (.int .i64 (numOf t)) ∧ w'.cell? ⟨nb, 2, none⟩ = some (.string (nameOf t)) ∧ w'.cell? ⟨nb, 3, none⟩ = some (.slice Ak ks.length ck) ∧ w'.cell? ⟨g, 0, none⟩ = some (.slice A1 l1.length c1)) (ds := [10]) #[false, false, false, false, false, false, false, false, false, false, false] (by kernel_rfl) rfl rfl ⟨blk_cell hI.out.NB 0, blk_cell hI.out.NB 1, blk_cell hI.out.NB 2, blk_cell hI.out.NB 3, gcell⟩ (fun hHeld => ?_)
              have HIq : Hid (LInv t B g nb Ok v w Ap cp wr.drew (.slice A1 l1.length c1) (.slice Ak ks.length ck) l1 ks) := Lib.hid hI.out.drew
              clear gcell hI
              generalize wr.drew = wq at hHeld HIq ⊢
              have hnbq : nb < wq.heap.size := HIq.out.nblt
              have hgq : g < wq.heap.size := by have := HIq.out.hnb; omega
              refine pure_ (i := 0) (N := some 81) (v := ?_) (a' := ?_) #[true, false, false, false, false, false, false, false, false, false, false] rfl rfl (by kernel_rfl) (fun _ _ _ h => h) (Or.inl ⟨by rfl, ?_⟩) ?_ ?_
              rotate_left
              · intro w'
                go_simp
                with_reducible rfl
              rotate_left
              · simp only [Act.put, List.setIfInBounds_toArray, List.set_cons_zero, List.set_cons_succ]
                rfl
              refine pure_ (i := 1) (N := some 82) (v := ?_) (a' := ?_) #[true, true, false, false, false, false, false, false, false, false, false] rfl rfl (by kernel_rfl) (fun _ _ _ h => h) (Or.inl ⟨by rfl, ?_⟩) ?_ ?_
              rotate_left
              · intro w'
                go_simp
                with_reducible rfl
              rotate_left
              · simp only [Act.put, List.setIfInBounds_toArray, List.set_cons_zero, List.set_cons_succ]
                rfl
              refine pure_ (i := 2) (N := some 83) (v := ?_) (a' := ?_) #[true, true, true, false, false, false, false, false, false, false, false] rfl rfl (by kernel_rfl) (fun _ _ _ h => h) (Or.inl ⟨by rfl, ?_⟩) ?_ ?_
              rotate_left
              · intro w'
                go_simp
                with_reducible rfl
              rotate_left
              · simp only [Act.put, List.setIfInBounds_toArray, List.set_cons_zero, List.set_cons_succ]
                rfl
              refine pure_ (i := 3) (N := some 84) (v := ?_) (a' := ?_) #[true, true, true, true, false, false, false, false, false, false, false] rfl rfl (by kernel_rfl) (fun _ _ _ h => h) (Or.inl ⟨by rfl, ?_⟩) ?_ ?_
              rotate_left
              · intro w'
                go_simp
                with_reducible rfl
              rotate_left
              · simp only [Act.put, List.setIfInBounds_toArray, List.set_cons_zero, List.set_cons_succ]
                rfl
              refine take_ (i := 4) (N := some 85) (v := ?_) (a' := ?_) #[true, true, true, true, true, false, false, false, false, false, false] rfl rfl (by kernel_rfl) (fun _ _ _ h => h) (Or.inl ⟨by rfl, ?_⟩) hHeld ?_ ?_
              rotate_left
              · rintro w' ⟨s0, s1, s2, s3, s4⟩
                go_simp
                with_reducible rfl
              rotate_left
              · simp only [Act.put, List.setIfInBounds_toArray, List.set_cons_zero, List.set_cons_succ]
                rfl
              refine take_ (i := 5) (N := some 86) (v := ?_) (a' := ?_) #[true, true, true, true, true, true, false, false, false, false, false] rfl rfl (by kernel_rfl) (fun _ _ _ h => h) (Or.inl ⟨by rfl, ?_⟩) hHeld ?_ ?_
              rotate_left
              · rintro w' ⟨s0, s1, s2, s3, s4⟩
                go_simp
                with_reducible rfl
              rotate_left
              · simp only [Act.put, List.setIfInBounds_toArray, List.set_cons_zero, List.set_cons_succ]
                rfl
              refine one_ (i := 6) (N := some 87) #[true, true, true, true, true, true, true, false, false, false, false] rfl rfl (by kernel_rfl) (by decide) (fun K hK => ?_)
              refine value_ (v := .slice (some ⟨wq.heap.size, 0, none⟩) 1 1) (w1 := wq.alloc (.cells #[.int .i64 (opOf t), .int .i64 (numOf t), .string (nameOf t), .slice Ak ks.length ck] 96)) rfl rfl ?hrun ?_
              case hrun =>
                go_simp
              refine hK.out _ _ ⟨(nd_below ((Below.refl _ _).alloc (Nat.le_refl _) _) hHeld.1), (nd_below ((Below.refl _ _).alloc (Nat.le_refl _) _) hHeld.2.1), (nd_below ((Below.refl _ _).alloc (Nat.le_refl _) _) hHeld.2.2.1), (nd_below ((Below.refl _ _).alloc (Nat.le_refl _) _) hHeld.2.2.2.1), (nd_below ((Below.refl _ _).alloc (Nat.le_refl _) _) hHeld.2.2.2.2)⟩ (fun hHeld => ?_)
              clear hK K
              refine norm_ (a' := ?_) ?_ ?_
              rotate_left
              · show Act.put _ (some 87) _ = _
                simp only [Act.put, List.setIfInBounds_toArray, List.set_cons_zero, List.set_cons_succ]
                rfl
              refine one_ (i := 7) (N := some 88) #[true, true, true, true, true, true, true, true, false, false, false] rfl rfl (by kernel_rfl) (by decide) (fun K hK => ?_)
              refine Kd.S_append_step kNd (w0 := wq) B rfl (.tmp 85) (.tmp 87) 28 96 (.agg #[.int .i64 0, .int .i64 0, .string ⟨#[]⟩, .slice none 0 0]) 56 rfl Tryd.underlying28 infoNd rfl (by decide) (by omega) (.slice A1 l1.length c1) l1 ⟨opOf t, numOf t, nameOf t, ks⟩ [.int .i64 (opOf t), .int .i64 (numOf t), .string (nameOf t), .slice Ak ks.length ck] (fun k => Ok k ∧ k ≠ g) (fun k => some k = (Value.slice Ak ks.length ck).ownBlock) rfl rfl ?aP ?aK ?aF ?aO ?aB ?aS ?aL ?_
              case aP => exact HIq.out.kids
              case aK => exact HIq.out.kids_ok
              case aF => exact fun k hk => ⟨HIq.out.fr k (Nat.le_trans HIq.out.le hk), by omega⟩
              case aO => exact HIq.out.list
              case aB => exact Below.refl _ _
              case aS => omega
              case aL => omega
              intro v2 w5 hS5 hb5 hg5 hat5
              obtain ⟨A5, c5, rfl, hc5, _⟩ := Kd.S_reads hS5
              have hG5 : w5.heap[g]? = some (.cells #[.slice A1 l1.length c1] 100 (0, 0)) := (hg5.block g hgq (fun he => (HIq.out.v1_ok g he.symm).2 rfl)).trans HIq.out.G
              have hNB5 : w5.heap[nb]? = some (.cells #[.int .i64 (opOf t), .int .i64 (numOf t), .string (nameOf t), .slice Ak ks.length ck] 96 (0, 0)) := (hg5.block nb hnbq (fun he => (HIq.out.v1_ok nb he.symm).1.2.1 rfl)).trans HIq.out.NB
              have HFIN := Lib.hid (HIq.out.fin hS5 hb5 hg5 hat5)
              clear hS5 hb5 hg5 hat5
              refine hK.out _ _ ⟨blk_cell hNB5 0, blk_cell hNB5 1, blk_cell hNB5 2, blk_cell hNB5 3, blk_cell hG5 0⟩ (fun hHeld => ?_)
              clear hK K
              refine norm_ (a' := ?_) ?_ ?_
              rotate_left
              · show Act.put _ (some 88) _ = _
                simp only [Act.put, List.setIfInBounds_toArray, List.set_cons_zero, List.set_cons_succ]
                rfl
              refine pure_ (i := 8) (N := some 89) (v := ?_) (a' := ?_) #[true, true, true, true, true, true, true, true, true, false, false] rfl rfl (by kernel_rfl) (fun _ _ _ h => h) (Or.inl ⟨by rfl, ?_⟩) ?_ ?_
              rotate_left
              · intro w'
                go_simp
                with_reducible rfl
              rotate_left
              · simp only [Act.put, List.setIfInBounds_toArray, List.set_cons_zero, List.set_cons_succ]
                rfl
              refine pure_ (i := 9) (N := some 90) (v := ?_) (a' := ?_) #[true, true, true, true, true, true, true, true, true, true, false] rfl rfl (by kernel_rfl) (fun _ _ _ h => h) (Or.inl ⟨by rfl, ?_⟩) ?_ ?_
              rotate_left
              · intro w'
                go_simp
                with_reducible rfl
              rotate_left
              · simp only [Act.put, List.setIfInBounds_toArray, List.set_cons_zero, List.set_cons_succ]
                rfl
              have frn := blk_frozen hG5 0
              refine last_ (i := 10) (N := none) #[true, true, true, true, true, true, true, true, true, true, true] rfl rfl (by kernel_rfl) (by decide) (fun K hK => ?_)
              refine skip_ (w1 := w5.setCell ⟨g, 0, none⟩ (.slice A5 (l1 ++ [(⟨opOf t, numOf t, nameOf t, ks⟩ : Nd)]).length c5)) rfl rfl ?hrun ?_
              case hrun =>
                go_simp
              refine hK.out _ _ ?_
              clear hK K
              refine done_ (by kernel_rfl) ?_
              have gnew := blk_cell HFIN.out.1 0
              clear hNB5 hG5 frn hHeld
              generalize w5.setCell ⟨g, 0, none⟩ (.slice A5 (l1 ++ [(⟨opOf t, numOf t, nameOf t, ks⟩ : Nd)]).length c5) = w6 at HFIN gnew ⊢
              rw [List.length_append, List.length_singleton] at gnew
              by_cases h63 : l1.length + 1 ≤ 64
              · have hd : decide (((l1.length + 1 : Nat) : Int) ≤ 64) = true := decide_eq_true (by omega)
                have hd' : decide ((l1.length : Int) + 1 ≤ 64) = true := decide_eq_true (by omega)
                go_wp2
                go_ret
                refine .inl ⟨_, _, ?_, rfl, HFIN.out.1, HFIN.out.2.1, HFIN.out.2.2.1, HFIN.out.2.2.2⟩
                rw [HLK2.out, HQ4.out]; simp only [Option.bind_some, layEnd, h63, if_true]
              · have hd : decide (((l1.length + 1 : Nat) : Int) ≤ 64) = false := decide_eq_false (by omega)
                have hd' : decide ((l1.length : Int) + 1 ≤ 64) = false := decide_eq_false (by omega)
                go_wp2
                go_ret
                refine .inr ⟨?_, rfl, HFIN.out.2.2.2.below⟩
                rw [HLK2.out, HQ4.out]; simp only [Option.bind_some, layEnd, h63, if_false]
        · have hk' : ((j : Int) != ((partsOf t).length : Int)) = true := by rw [bne_iff_ne]; omega
          have HK := Lib.hid hk
          clear hk
          go_wp2_with (first | (go_at_call 55; refine (arity_any _ _).mono ?_; rintro en w' ⟨rfl, rfl⟩))
          go_ret
          exact .inr ⟨by rw [HLK.out, HA.out, if_neg (by intro h; exact HK.out (Option.some.inj h))], rfl, HBW.out.mono (by omega)⟩
    · skip
      go_enter Tryd.func38, Tryd.ntmps38
      go_wp2_with (first | (go_at_call 34; refine (op_any t HT.out _).mono ?_; rintro en w1 ⟨rfl, hb1⟩; have hb := bcell hb1; obtain ⟨gc1, gf1⟩ := hb; have HB1 := Lib.hid hb1; clear hb1) | (go_at_call 33; refine (lit_any t HT.out _).mono ?_; rintro en w2 ⟨rfl, hb2⟩; have hb := bcell hb2; obtain ⟨gc2, gf2⟩ := hb; have HB2 := Lib.hid hb2; clear hb2; have hz2 := HB2.out.size; have hz2' : w1.heap.size < w2.heap.size := (by simp only [World.size_alloc] at hz2; omega)))
      go_at_call 22
      refine (parts_any t HT.out _).mono ?_
      rintro en w3 ⟨vp, rfl, hRp, hb3⟩
      have k1 : (w1.alloc (.cells #[.int .i64 (opOf t), .int .i64 0, .string ⟨#[]⟩, .slice none 0 0] 96)).heap[w1.heap.size]? = some (.cells #[.int .i64 (opOf t), .int .i64 0, .string ⟨#[]⟩, .slice none 0 0] 96) := heap_alloc_new w1 _
      have k2 : w2.heap[w1.heap.size]? = some (.cells #[.int .i64 (opOf t), .int .i64 0, .string ⟨#[]⟩, .slice none 0 0] 96) := (HB2.out.block w1.heap.size (by simp)).trans k1
      have k2b : (w2.setCell ⟨w1.heap.size, 2, none⟩ (.string (nameOf t))).heap[w1.heap.size]? = some (.cells #[.int .i64 (opOf t), .int .i64 0, .string (nameOf t), .slice none 0 0] 96) := heap_setCell_same _ w1.heap.size 2 _ _ (.string (nameOf t)) k2
      have k2c : ((w2.setCell ⟨w1.heap.size, 2, none⟩ (.string (nameOf t))).alloc (.cells #[.string (nameOf t)] 81)).heap[w1.heap.size]? = some (.cells #[.int .i64 (opOf t), .int .i64 0, .string (nameOf t), .slice none 0 0] 96) := (Below.heap_alloc _ _ _ (by simpa using hz2')).trans k2b
      have k3 : w3.heap[w1.heap.size]? = some (.cells #[.int .i64 (opOf t), .int .i64 0, .string (nameOf t), .slice none 0 0] 96) := (hb3.block w1.heap.size (by simp; omega)).trans k2c
      have HNB : Hid (w3.heap[w1.heap.size]? = some (.cells #[.int .i64 (opOf t), .int .i64 (numOf t), .string (nameOf t), .slice none 0 0] 96)) := Lib.hid (by rw [HN0.out]; exact k3)
      have hBW : Below w.heap.size w w3 := below_step (((below_step ((HB1.out.alloc HB1.out.size _)) HB2.out).setCell (p := ⟨w1.heap.size, 2, none⟩) HB1.out.size _).alloc (by simp; exact Nat.le_trans HB1.out.size (Nat.le_of_lt hz2')) _) hb3
      have hn1 : w.heap.size ≤ w1.heap.size := HB1.out.size
      have hn2 : w1.heap.size < w3.heap.size := (Array.getElem?_eq_some_iff.1 HNB.out).1
      have HBW := Lib.hid hBW
      have HRP := Lib.hid (Kd.R_lower hRp (base' := w.heap.size) (by simp; omega))
      clear gc1 gf1 gc2 gf2 HB1 HB2 hz2 hz2' k1 k2 k3 hb3 hRp hBW k2b k2c
      generalize w1.heap.size = nb at *
      obtain ⟨Ap, cp, rfl, hlp, hCp⟩ := Kd.R_reads HRP.out
      clear hCp
      have n0 : w3.cell? ⟨nb, 0, none⟩ = some (.int .i64 (opOf t)) := blk_cell HNB.out 0
      cases har : arity (opOf t) with
      | none =>
        have HA := Lib.hid har
        have he : (arityE (opOf t) != 0) = true := by rw [arityE, har]; rfl
        clear har
        go_wp2_with (first | (go_at_call 55; refine (arity_any _ _).mono ?_; rintro en w' ⟨rfl, rfl⟩))
        go_ret
        exact .inr ⟨by rw [HLK.out, HA.out]; rfl, rfl, HBW.out.mono (by omega)⟩
      | some j =>
        have HA := Lib.hid har
        have he : (arityE (opOf t) != 0) = false := by rw [arityE, har]; rfl
        have hj : arityI (opOf t) = (j : Int) := by rw [arityI, har]
        clear har
        by_cases hk : j = (partsOf t).length
        · have hk' : ((j : Int) != ((partsOf t).length : Int)) = false := by rw [bne_eq_false_iff_eq]; omega
          have HK := Lib.hid hk
          have HLK2 : Hid (lay t l = (layKids (partsOf t) l []).bind fun p => layEnd (opOf t) (numOf t) (nameOf t) p.2 p.1) := Lib.hid (by rw [HLK.out, HA.out, hk, if_pos rfl])
          clear hk
          have hpl : (partsOf t).length ≤ 3 := by rw [← HK.out]; exact arity_le HA.out
          go_wp2_with (first | (go_at_call 55; refine (arity_any _ _).mono ?_; rintro en w' ⟨rfl, rfl⟩))
          go_loopw [53] (fun iv wr => ∃ (i : Nat) (v1 vk : Value) (l1 : List Nd) (ks : List Int), iv = .int .i64 i ∧ i ≤ (partsOf t).length ∧ l1.length ≤ 64 ∧ ks.length ≤ i ∧ Hid (layKids ((partsOf t).drop i) l1 ks = layKids (partsOf t) l []) ∧ Hid (LInv t B g nb Ok v w Ap cp wr v1 vk l1 ks)) (fun iv _ => (partsOf t).length - (intOf iv).toNat)
          case atStart => exact ⟨0, v, .slice none 0 0, l, [], rfl, by omega, hl64, by simp, Lib.hid rfl, Lib.hid ⟨hgw, hBg, hn1, HFR.out, (HBW.out.block g hgw).trans HG.out, HNB.out, Kd.S_below (Kd.S_mono (Kd.S_bound HS.out) (fun k hk => ⟨⟨hk.1.1, by have := hk.2.2.1; omega, by simp [Value.ownBlock]⟩, hk.1.2⟩)) HBW.out, Kd.R_nil _ _ _ _ _, HRP.out, HBW.out.mono (by omega), KeepBut.of_below HBW.out _ _, .inl rfl⟩⟩
          case round =>
            obtain ⟨i, v1, vk, l1, ks, rfl, hi, hl1, hks, hq, hI⟩ := hrel
            obtain ⟨A1, c1, rfl, hc1, _⟩ := Kd.S_reads hI.out.S
            obtain ⟨Ak, ck, rfl, hck, _⟩ := Kd.R_reads hI.out.K
            have gcell : wr.cell? ⟨g, 0, none⟩ = some (.slice A1 l1.length c1) := blk_cell hI.out.G 0
            by_cases hlt : i < (partsOf t).length
            · obtain ⟨p, hp⟩ : ∃ p, (partsOf t)[i]? = some p := ⟨_, List.getElem?_eq_getElem hlt⟩
              obtain ⟨_, _, hCP⟩ := Kd.R_reads' hI.out.P
              obtain ⟨adp, ep, hpc⟩ := tm_at hCP hp
              subst ep
              have hdrop : (partsOf t).drop i = p :: (partsOf t).drop (i + 1) := by
                rw [List.drop_eq_getElem_cons hlt]; congr 1
                exact Option.some.inj ((List.getElem?_eq_getElem hlt).symm.trans hp)
              have HDR := Lib.hid hdrop
              have HPM := Lib.hid (List.mem_of_getElem? hp)
              clear hCP hp hdrop
              have hnbr : nb < wr.heap.size := hI.out.nblt
              obtain ⟨wo, rfl⟩ : ∃ wo : World, wo = wr := ⟨_, rfl⟩
              by_cases h64 : 64 ≤ l1.length
              · have hge : decide ((64 : Int) ≤ (l1.length : Int)) = true := decide_eq_true (by omega)
                go_wp2
                go_ret
                exact .inr ⟨by rw [HLK2.out, ← hq.out, HDR.out]; simp only [layKids, layPart, h64, if_true]; rfl, rfl, hI.out.Bl⟩
              · have hge : decide ((64 : Int) ≤ (l1.length : Int)) = false := decide_eq_false (by omega)
                have hih := Lib.hid (IH.out p HPM.out B g _ _ l1 wo hI.out.G hBg hI.out.S hI.out.fr' (by omega))
                have HQ2 : Hid (layKids (partsOf t) l [] = (lay p l1).bind fun l2 => layKids ((partsOf t).drop (i + 1)) l2 (ks ++ [last l2])) := Lib.hid (by rw [← hq.out, HDR.out]; simp only [layKids, layPart, h64, if_false])
                go_wp2_with (first | (go_at_call 38; refine hih.out.mono ?_; rintro en w4 (⟨v2, l2, hlay, rfl, hG4, hS4, hown4, hF4⟩ | ⟨hlay, rfl, hB4⟩); have HLY := Lib.hid hlay; clear hlay))
                · have hI4 := hI.out.call hG4 hS4 hown4 hF4
                  obtain ⟨A2, c2, rfl, hc2, _⟩ := Kd.S_reads hS4
                  have HI4 := Lib.hid hI4
                  have gy : wo.heap.size ≤ w4.heap.size := hF4.below.size
                  clear hI4 hG4 hS4 hown4 hF4
                  obtain ⟨hl20, hl2⟩ := lay_len HLY.out
                  have hwr : IntKind.i64.wrap ((l2.length : Int) - 1) = (l2.length : Int) - 1 := by rw [i64_w]; unfold wrap64; omega
                  have HQ3 := Lib.hid (HQ2.out.trans (by rw [HLY.out]))
                  refine start_ (n := 12) (S := fun w' => w'.cell? ⟨nb, 3, none⟩ = some (.slice Ak ks.length ck) ∧ w'.cell? ⟨g, 0, none⟩ = some (.slice A2 l2.length c2)) (ds := [11]) #[false, false, false, false, false, false, false, false, false, false, false, false] (by kernel_rfl) rfl rfl ⟨blk_cell HI4.out.NB 3, blk_cell HI4.out.G 0⟩ (fun hHeld => ?_)
                  have HIq : Hid (LInv t B g nb Ok v w (some adp) cp w4.drew (.slice A2 l2.length c2) (.slice Ak ks.length ck) l2 ks) := Lib.hid HI4.out.drew
                  generalize w4.drew = wq at hHeld HIq ⊢
                  have hnbq : nb < wq.heap.size := HIq.out.nblt
                  have hgq : g < wq.heap.size := by have := HIq.out.hnb; omega
                  refine pure_ (i := 0) (N := some 69) (v := ?_) (a' := ?_) #[true, false, false, false, false, false, false, false, false, false, false, false] rfl rfl (by kernel_rfl) (fun _ _ _ h => h) (Or.inl ⟨by rfl, ?_⟩) ?_ ?_
                  rotate_left
                  · intro w'
                    go_simp
                    with_reducible rfl
                  rotate_left
                  · simp only [Act.put, List.setIfInBounds_toArray, List.set_cons_zero, List.set_cons_succ]
                    rfl
                  refine pure_ (i := 2) (N := some 71) (v := ?_) (a' := ?_) #[true, false, true, false, false, false, false, false, false, false, false, false] rfl rfl (by kernel_rfl) (fun _ _ _ h => h) (Or.inl ⟨by rfl, ?_⟩) ?_ ?_
                  rotate_left
                  · intro w'
                    go_simp
                    with_reducible rfl
                  rotate_left
                  · simp only [Act.put, List.setIfInBounds_toArray, List.set_cons_zero, List.set_cons_succ]
                    rfl
                  refine pure_ (i := 3) (N := some 72) (v := ?_) (a' := ?_) #[true, false, true, true, false, false, false, false, false, false, false, false] rfl rfl (by kernel_rfl) (fun _ _ _ h => h) (Or.inl ⟨by rfl, ?_⟩) ?_ ?_
                  rotate_left
                  · intro w'
                    go_simp
                    with_reducible rfl
                  rotate_left
                  · simp only [Act.put, List.setIfInBounds_toArray, List.set_cons_zero, List.set_cons_succ]
                    rfl
                  refine pure_ (i := 4) (N := some 73) (v := ?_) (a' := ?_) #[true, false, true, true, true, false, false, false, false, false, false, false] rfl rfl (by kernel_rfl) (fun _ _ _ h => h) (Or.inl ⟨by rfl, ?_⟩) ?_ ?_
                  rotate_left
                  · intro w'
                    go_simp
                    with_reducible rfl
                  rotate_left
                  · simp only [Act.put, List.setIfInBounds_toArray, List.set_cons_zero, List.set_cons_succ]
                    rfl
                  refine take_ (i := 1) (N := some 70) (v := ?_) (a' := ?_) #[true, true, true, true, true, false, false, false, false, false, false, false] rfl rfl (by kernel_rfl) (fun _ _ _ h => h) (Or.inl ⟨by rfl, ?_⟩) hHeld ?_ ?_
                  rotate_left
                  · rintro w' ⟨s0, s1⟩
                    go_simp
                    with_reducible rfl
                  rotate_left
                  · simp only [Act.put, List.setIfInBounds_toArray, List.set_cons_zero, List.set_cons_succ]
                    rfl
                  refine take_ (i := 5) (N := some 74) (v := ?_) (a' := ?_) #[true, true, true, true, true, true, false, false, false, false, false, false] rfl rfl (by kernel_rfl) (fun _ _ _ h => h) (Or.inl ⟨by rfl, ?_⟩) hHeld ?_ ?_
                  rotate_left
                  · rintro w' ⟨s0, s1⟩
                    go_simp
                    with_reducible rfl
                  rotate_left
                  · simp only [Act.put, List.setIfInBounds_toArray, List.set_cons_zero, List.set_cons_succ]
                    rfl
                  refine pure_ (i := 6) (N := some 75) (v := ?_) (a' := ?_) #[true, true, true, true, true, true, true, false, false, false, false, false] rfl rfl (by kernel_rfl) (fun _ _ _ h => h) (Or.inl ⟨by rfl, ?_⟩) ?_ ?_
                  rotate_left
                  · intro w'
                    go_simp
                    with_reducible rfl
                  rotate_left
                  · simp only [Act.put, List.setIfInBounds_toArray, List.set_cons_zero, List.set_cons_succ]
                    rfl
                  refine pure_ (i := 7) (N := some 76) (v := ?_) (a' := ?_) #[true, true, true, true, true, true, true, true, false, false, false, false] rfl rfl (by kernel_rfl) (fun _ _ _ h => h) (Or.inl ⟨by rfl, ?_⟩) ?_ ?_
                  rotate_left
                  · intro w'
                    go_simp
                    with_reducible rfl
                  rotate_left
                  · simp only [Act.put, List.setIfInBounds_toArray, List.set_cons_zero, List.set_cons_succ]
                    rfl
                  refine one_ (i := 8) (N := some 77) #[true, true, true, true, true, true, true, true, true, false, false, false] rfl rfl (by kernel_rfl) (by decide) (fun K hK => ?_)
                  refine value_ (v := .slice (some ⟨wq.heap.size, 0, none⟩) 1 1) (w1 := wq.alloc (.cells #[.int .i64 ((l2.length : Int) - 1)] 3)) rfl rfl ?hrun ?_
                  case hrun =>
                    go_simp
                  refine hK.out _ _ ⟨(nd_below ((Below.refl _ _).alloc (Nat.le_refl _) _) hHeld.1), (nd_below ((Below.refl _ _).alloc (Nat.le_refl _) _) hHeld.2)⟩ (fun hHeld => ?_)
                  clear hK K
                  refine norm_ (a' := ?_) ?_ ?_
                  rotate_left
                  · show Act.put _ (some 77) _ = _
                    simp only [Act.put, List.setIfInBounds_toArray, List.set_cons_zero, List.set_cons_succ]
                    rfl
                  refine one_ (i := 9) (N := some 78) #[true, true, true, true, true, true, true, true, true, true, false, false] rfl rfl (by kernel_rfl) (by decide) (fun K hK => ?_)
                  refine Kd.R_append_step (Kd.int .i64) (w0 := wq) w.heap.size rfl (.tmp 70) (.tmp 77) 68 3 (.int .i64 0) 8 rfl Tryd.underlying68 infoInt rfl (by decide) (by omega) (.slice Ak ks.length ck) ks ((l2.length : Int) - 1) [.int .i64 ((l2.length : Int) - 1)] (fun _ => True) (fun _ => False) rfl rfl ?aP (fun _ h => h.elim) (fun _ _ => trivial) ?aO ?aB ?aS ?aL ?_
                  case aP => exact rfl
                  case aO => exact HIq.out.K
                  case aB => exact Below.refl _ _
                  case aS => exact HIq.out.le
                  case aL => omega
                  intro vk1 w5 hR5 hb5 hg5 hat5
                  obtain ⟨A5, c5, rfl, hc5, _⟩ := Kd.R_reads hR5
                  have HR5 := Lib.hid hR5
                  have HB5 := Lib.hid hb5
                  have HG5 := Lib.hid hg5
                  have HAT5 := Lib.hid hat5
                  clear hR5 hb5 hg5 hat5
                  have hNB5 : w5.heap[nb]? = some (.cells #[.int .i64 (opOf t), .int .i64 (numOf t), .string (nameOf t), .slice Ak ks.length ck] 96 (0, 0)) := (HG5.out.block nb hnbq (Kd.R_ne HIq.out.K HIq.out.NB (by decide))).trans HIq.out.NB
                  have hG5 : w5.heap[g]? = some (.cells #[.slice A2 l2.length c2] 100 (0, 0)) := (HG5.out.block g hgq (Kd.R_ne HIq.out.K HIq.out.G (by decide))).trans HIq.out.G
                  have HI5 := Lib.hid (HIq.out.app HR5.out HB5.out HG5.out HAT5.out)
                  refine hK.out _ _ ⟨blk_cell hNB5 3, blk_cell hG5 0⟩ (fun hHeld => ?_)
                  clear hK K
                  refine norm_ (a' := ?_) ?_ ?_
                  rotate_left
                  · show Act.put _ (some 78) _ = _
                    simp only [Act.put, List.setIfInBounds_toArray, List.set_cons_zero, List.set_cons_succ]
                    rfl
                  refine pure_ (i := 10) (N := some 79) (v := ?_) (a' := ?_) #[true, true, true, true, true, true, true, true, true, true, true, false] rfl rfl (by kernel_rfl) (fun _ _ _ h => h) (Or.inl ⟨by rfl, ?_⟩) ?_ ?_
                  rotate_left
                  · intro w'
                    go_simp
                    with_reducible rfl
                  rotate_left
                  · simp only [Act.put, List.setIfInBounds_toArray, List.set_cons_zero, List.set_cons_succ]
                    rfl
                  have frn := blk_frozen hNB5 3
                  refine last_ (i := 11) (N := none) #[true, true, true, true, true, true, true, true, true, true, true, true] rfl rfl (by kernel_rfl) (by decide) (fun K hK => ?_)
                  refine skip_ (w1 := w5.setCell ⟨nb, 3, none⟩ (.slice A5 (ks ++ [(l2.length : Int) - 1]).length c5)) rfl rfl ?hrun ?_
                  case hrun =>
                    go_simp
                  refine hK.out _ _ ?_
                  clear hK K
                  refine done_ (by kernel_rfl) ?_
                  go_wp2
                  go_roundw
                  simp only [List.length_append, List.length_cons, List.length_nil, Nat.zero_add] at HI5
                  case rel => exact ⟨i + 1, _, _, l2, ks ++ [(l2.length : Int) - 1], by go_num, by omega, hl2, by simp; omega, Lib.hid (HQ3.out).symm, HI5⟩
                  case measure => simp [intOf]; omega
                · have HB4 := Lib.hid hB4
                  have HLY := Lib.hid hlay
                  clear hB4 hlay
                  go_wp2
                  go_ret
                  exact .inr ⟨by rw [HLK2.out, HQ2.out, HLY.out]; rfl, rfl, hI.out.Bl.trans HB4.out⟩
            · have hie : i = (partsOf t).length := by omega
              have HQ4 : Hid (layKids (partsOf t) l [] = some (l1, ks)) := Lib.hid (by rw [← hq.out, hie, List.drop_length]; rfl)
              clear hie
              go_wp2
              refine start_ (n := 11) (S := fun w' => w'.cell? ⟨nb, 0, none⟩ = some (.int .i64 (opOf t)) ∧ w'.cell? ⟨nb, 1, none⟩ = some (.int .i64 (numOf t)) ∧ w'.cell? ⟨nb, 2, none⟩ = some (.string (nameOf t)) ∧ w'.cell? ⟨nb, 3, none⟩ = some (.slice Ak ks.length ck) ∧ w'.cell? ⟨g, 0, none⟩ = some (.slice A1 l1.length c1)) (ds := [10]) #[false, false, false, false, false, false, false, false, false, false, false] (by kernel_rfl) rfl rfl ⟨blk_cell hI.out.NB 0, blk_cell hI.out.NB 1, blk_cell hI.out.NB 2, blk_cell hI.out.NB 3, gcell⟩ (fun hHeld => ?_)
              have HIq : Hid (LInv t B g nb Ok v w Ap cp wr.drew (.slice A1 l1.length c1) (.slice Ak ks.length ck) l1 ks) := Lib.hid hI.out.drew
              clear gcell hI
              generalize wr.drew = wq at hHeld HIq ⊢
              have hnbq : nb < wq.heap.size := HIq.out.nblt
              have hgq : g < wq.heap.size := by have := HIq.out.hnb; omega
              refine pure_ (i := 0) (N := some 81) (v := ?_) (a' := ?_) #[true, false, false, false, false, false, false, false, false, false, false] rfl rfl (by kernel_rfl) (fun _ _ _ h => h) (Or.inl ⟨by rfl, ?_⟩) ?_ ?_
              rotate_left
              · intro w'
                go_simp
                with_reducible rfl
              rotate_left
              · simp only [Act.put, List.setIfInBounds_toArray, List.set_cons_zero, List.set_cons_succ]
                rfl
              refine pure_ (i := 1) (N := some 82) (v := ?_) (a' := ?_) #[true, true, false, false, false, false, false, false, false, false, false] rfl rfl (by kernel_rfl) (fun _ _ _ h => h) (Or.inl ⟨by rfl, ?_⟩) ?_ ?_
              rotate_left
              · intro w'
                go_simp
                with_reducible rfl
              rotate_left
              · simp only [Act.put, List.setIfInBounds_toArray, List.set_cons_zero, List.set_cons_succ]
                rfl
              refine pure_ (i := 2) (N := some 83) (v := ?_) (a' := ?_) #[true, true, true, false, false, false, false, false, false, false, false] rfl rfl (by kernel_rfl) (fun _ _ _ h => h) (Or.inl ⟨by rfl, ?_⟩) ?_ ?_
              rotate_left
              · intro w'
                go_simp
                with_reducible rfl
              rotate_left
              · simp only [Act.put, List.setIfInBounds_toArray, List.set_cons_zero, List.set_cons_succ]
                rfl
              refine pure_ (i := 3) (N := some 84) (v := ?_) (a' := ?_) #[true, true, true, true, false, false, false, false, false, false, false] rfl rfl (by kernel_rfl) (fun _ _ _ h => h) (Or.inl ⟨by rfl, ?_⟩) ?_ ?_
              rotate_left
              · intro w'
                go_simp
                with_reducible rfl
              rotate_left
              · simp only [Act.put, List.setIfInBounds_toArray, List.set_cons_zero, List.set_cons_succ]
                rfl
              refine take_ (i := 4) (N := some 85) (v := ?_) (a' := ?_) #[true, true, true, true, true, false, false, false, false, false, false] rfl rfl (by kernel_rfl) (fun _ _ _ h => h) (Or.inl ⟨by rfl, ?_⟩) hHeld ?_ ?_
              rotate_left
              · rintro w' ⟨s0, s1, s2, s3, s4⟩
                go_simp
                with_reducible rfl
              rotate_left
              · simp only [Act.put, List.setIfInBounds_toArray, List.set_cons_zero, List.set_cons_succ]
                rfl
              refine take_ (i := 5) (N := some 86) (v := ?_) (a' := ?_) #[true, true, true, true, true, true, false, false, false, false, false] rfl rfl (by kernel_rfl) (fun _ _ _ h => h) (Or.inl ⟨by rfl, ?_⟩) hHeld ?_ ?_
              rotate_left
              · rintro w' ⟨s0, s1, s2, s3, s4⟩
                go_simp
                with_reducible rfl
              rotate_left
              · simp only [Act.put, List.setIfInBounds_toArray, List.set_cons_zero, List.set_cons_succ]
                rfl
              refine one_ (i := 6) (N := some 87) #[true, true, true, true, true, true, true, false, false, false, false] rfl rfl (by kernel_rfl) (by decide) (fun K hK => ?_)
              refine value_ (v := .slice (some ⟨wq.heap.size, 0, none⟩) 1 1) (w1 := wq.alloc (.cells #[.int .i64 (opOf t), .int .i64 (numOf t), .string (nameOf t), .slice Ak ks.length ck] 96)) rfl rfl ?hrun ?_
              case hrun =>
                go_simp
              refine hK.out _ _ ⟨(nd_below ((Below.refl _ _).alloc (Nat.le_refl _) _) hHeld.1), (nd_below ((Below.refl _ _).alloc (Nat.le_refl _) _) hHeld.2.1), (nd_below ((Below.refl _ _).alloc (Nat.le_refl _) _) hHeld.2.2.1), (nd_below ((Below.refl _ _).alloc (Nat.le_refl _) _) hHeld.2.2.2.1), (nd_below ((Below.refl _ _).alloc (Nat.le_refl _) _) hHeld.2.2.2.2)⟩ (fun hHeld => ?_)
              clear hK K
              refine norm_ (a' := ?_) ?_ ?_
              rotate_left
              · show Act.put _ (some 87) _ = _
                simp only [Act.put, List.setIfInBounds_toArray, List.set_cons_zero, List.set_cons_succ]
                rfl
              refine one_ (i := 7) (N := some 88) #[true, true, true, true, true, true, true, true, false, false, false] rfl rfl (by kernel_rfl) (by decide) (fun K hK => ?_)
              refine Kd.S_append_step kNd (w0 := wq) B rfl (.tmp 85) (.tmp 87) 28 96 (.agg #[.int .i64 0, .int .i64 0, .string ⟨#[]⟩, .slice none 0 0]) 56 rfl Tryd.underlying28 infoNd rfl (by decide) (by omega) (.slice A1 l1.length c1) l1 ⟨opOf t, numOf t, nameOf t, ks⟩ [.int .i64 (opOf t), .int .i64 (numOf t), .string (nameOf t), .slice Ak ks.length ck] (fun k => Ok k ∧ k ≠ g) (fun k => some k = (Value.slice Ak ks.length ck).ownBlock) rfl rfl ?aP ?aK ?aF ?aO ?aB ?aS ?aL ?_
              case aP => exact HIq.out.kids
              case aK => exact HIq.out.kids_ok
              case aF => exact fun k hk => ⟨HIq.out.fr k (Nat.le_trans HIq.out.le hk), by omega⟩
              case aO => exact HIq.out.list
              case aB => exact Below.refl _ _
              case aS => omega
              case aL => omega
              intro v2 w5 hS5 hb5 hg5 hat5
              obtain ⟨A5, c5, rfl, hc5, _⟩ := Kd.S_reads hS5
              have hG5 : w5.heap[g]? = some (.cells #[.slice A1 l1.length c1] 100 (0, 0)) := (hg5.block g hgq (fun he => (HIq.out.v1_ok g he.symm).2 rfl)).trans HIq.out.G
              have hNB5 : w5.heap[nb]? = some (.cells #[.int .i64 (opOf t), .int .i64 (numOf t), .string (nameOf t), .slice Ak ks.length ck] 96 (0, 0)) := (hg5.block nb hnbq (fun he => (HIq.out.v1_ok nb he.symm).1.2.1 rfl)).trans HIq.out.NB
              have HFIN := Lib.hid (HIq.out.fin hS5 hb5 hg5 hat5)
              clear hS5 hb5 hg5 hat5
              refine hK.out _ _ ⟨blk_cell hNB5 0, blk_cell hNB5 1, blk_cell hNB5 2, blk_cell hNB5 3, blk_cell hG5 0⟩ (fun hHeld => ?_)
              clear hK K
              refine norm_ (a' := ?_) ?_ ?_
              rotate_left
              · show Act.put _ (some 88) _ = _
                simp only [Act.put, List.setIfInBounds_toArray, List.set_cons_zero, List.set_cons_succ]
                rfl
              refine pure_ (i := 8) (N := some 89) (v := ?_) (a' := ?_) #[true, true, true, true, true, true, true, true, true, false, false] rfl rfl (by kernel_rfl) (fun _ _ _ h => h) (Or.inl ⟨by rfl, ?_⟩) ?_ ?_
              rotate_left
              · intro w'
                go_simp
                with_reducible rfl
              rotate_left
              · simp only [Act.put, List.setIfInBounds_toArray, List.set_cons_zero, List.set_cons_succ]
                rfl
              refine pure_ (i := 9) (N := some 90) (v := ?_) (a' := ?_) #[true, true, true, true, true, true, true, true, true, true, false] rfl rfl (by kernel_rfl) (fun _ _ _ h => h) (Or.inl ⟨by rfl, ?_⟩) ?_ ?_
              rotate_left
              · intro w'
                go_simp
                with_reducible rfl
              rotate_left
              · simp only [Act.put, List.setIfInBounds_toArray, List.set_cons_zero, List.set_cons_succ]
                rfl
              have frn := blk_frozen hG5 0
              refine last_ (i := 10) (N := none) #[true, true, true, true, true, true, true, true, true, true, true] rfl rfl (by kernel_rfl) (by decide) (fun K hK => ?_)
              refine skip_ (w1 := w5.setCell ⟨g, 0, none⟩ (.slice A5 (l1 ++ [(⟨opOf t, numOf t, nameOf t, ks⟩ : Nd)]).length c5)) rfl rfl ?hrun ?_
              case hrun =>
                go_simp
              refine hK.out _ _ ?_
              clear hK K
              refine done_ (by kernel_rfl) ?_
              have gnew := blk_cell HFIN.out.1 0
              clear hNB5 hG5 frn hHeld
              generalize w5.setCell ⟨g, 0, none⟩ (.slice A5 (l1 ++ [(⟨opOf t, numOf t, nameOf t, ks⟩ : Nd)]).length c5) = w6 at HFIN gnew ⊢
              rw [List.length_append, List.length_singleton] at gnew
              by_cases h63 : l1.length + 1 ≤ 64
              · have hd : decide (((l1.length + 1 : Nat) : Int) ≤ 64) = true := decide_eq_true (by omega)
                have hd' : decide ((l1.length : Int) + 1 ≤ 64) = true := decide_eq_true (by omega)
                go_wp2
                go_ret
                refine .inl ⟨_, _, ?_, rfl, HFIN.out.1, HFIN.out.2.1, HFIN.out.2.2.1, HFIN.out.2.2.2⟩
                rw [HLK2.out, HQ4.out]; simp only [Option.bind_some, layEnd, h63, if_true]
              · have hd : decide (((l1.length + 1 : Nat) : Int) ≤ 64) = false := decide_eq_false (by omega)
                have hd' : decide ((l1.length : Int) + 1 ≤ 64) = false := decide_eq_false (by omega)
                go_wp2
                go_ret
                refine .inr ⟨?_, rfl, HFIN.out.2.2.2.below⟩
                rw [HLK2.out, HQ4.out]; simp only [Option.bind_some, layEnd, h63, if_false]
        · have hk' : ((j : Int) != ((partsOf t).length : Int)) = true := by rw [bne_iff_ne]; omega
          have HK := Lib.hid hk
          clear hk
          go_wp2_with (first | (go_at_call 55; refine (arity_any _ _).mono ?_; rintro en w' ⟨rfl, rfl⟩))
          go_ret
          exact .inr ⟨by rw [HLK.out, HA.out, if_neg (by intro h; exact HK.out (Option.some.inj h))], rfl, HBW.out.mono (by omega)⟩
  · have HV0 : Hid (nameOf t = ⟨#[]⟩) := Lib.hid (by cases t <;> first | rfl | cases hlit)
    have hvar : isVar t = false := by cases t <;> first | rfl | cases hlit
    go_enter Tryd.func38, Tryd.ntmps38
    go_wp2_with (first | (go_at_call 34; refine (op_any t HT.out _).mono ?_; rintro en w1 ⟨rfl, hb1⟩; have hb := bcell hb1; obtain ⟨gc1, gf1⟩ := hb; have HB1 := Lib.hid hb1; clear hb1) | (go_at_call 33; refine (lit_any t HT.out _).mono ?_; rintro en w2 ⟨rfl, hb2⟩; have hb := bcell hb2; obtain ⟨gc2, gf2⟩ := hb; have HB2 := Lib.hid hb2; clear hb2; have hz2 := HB2.out.size; have hz2' : w1.heap.size < w2.heap.size := (by simp only [World.size_alloc] at hz2; omega)))
    go_at_call 22
    refine (parts_any t HT.out _).mono ?_
    rintro en w3 ⟨vp, rfl, hRp, hb3⟩
    have k1 : (w1.alloc (.cells #[.int .i64 (opOf t), .int .i64 0, .string ⟨#[]⟩, .slice none 0 0] 96)).heap[w1.heap.size]? = some (.cells #[.int .i64 (opOf t), .int .i64 0, .string ⟨#[]⟩, .slice none 0 0] 96) := heap_alloc_new w1 _
    have k2 : w2.heap[w1.heap.size]? = some (.cells #[.int .i64 (opOf t), .int .i64 0, .string ⟨#[]⟩, .slice none 0 0] 96) := (HB2.out.block w1.heap.size (by simp)).trans k1
    have k2b : (w2.setCell ⟨w1.heap.size, 1, none⟩ (.int .i64 (numOf t))).heap[w1.heap.size]? = some (.cells #[.int .i64 (opOf t), .int .i64 (numOf t), .string ⟨#[]⟩, .slice none 0 0] 96) := heap_setCell_same w2 w1.heap.size 1 _ _ (.int .i64 (numOf t)) k2
    have k3 : w3.heap[w1.heap.size]? = some (.cells #[.int .i64 (opOf t), .int .i64 (numOf t), .string ⟨#[]⟩, .slice none 0 0] 96) := (hb3.block w1.heap.size (by simp; omega)).trans ((Below.heap_alloc _ _ _ (by simpa using hz2')).trans k2b)
    have HNB : Hid (w3.heap[w1.heap.size]? = some (.cells #[.int .i64 (opOf t), .int .i64 (numOf t), .string (nameOf t), .slice none 0 0] 96)) := Lib.hid (by rw [HV0.out]; exact k3)
    have hBW : Below w.heap.size w w3 := below_step (((below_step ((HB1.out.alloc HB1.out.size _)) HB2.out).setCell (p := ⟨w1.heap.size, 1, none⟩) HB1.out.size _).alloc (by simp; exact Nat.le_trans HB1.out.size (Nat.le_of_lt hz2')) _) hb3
    have hn1 : w.heap.size ≤ w1.heap.size := HB1.out.size
    have hn2 : w1.heap.size < w3.heap.size := (Array.getElem?_eq_some_iff.1 HNB.out).1
    have HBW := Lib.hid hBW
    have HRP := Lib.hid (Kd.R_lower hRp (base' := w.heap.size) (by simp; omega))
    clear gc1 gf1 gc2 gf2 HB1 HB2 hz2 hz2' k1 k2 k3 hb3 hRp hBW k2b
    generalize w1.heap.size = nb at *
    obtain ⟨Ap, cp, rfl, hlp, hCp⟩ := Kd.R_reads HRP.out
    clear hCp
    have n0 : w3.cell? ⟨nb, 0, none⟩ = some (.int .i64 (opOf t)) := blk_cell HNB.out 0
    cases har : arity (opOf t) with
    | none =>
      have HA := Lib.hid har
      have he : (arityE (opOf t) != 0) = true := by rw [arityE, har]; rfl
      clear har
      go_wp2_with (first | (go_at_call 55; refine (arity_any _ _).mono ?_; rintro en w' ⟨rfl, rfl⟩))
      go_ret
      exact .inr ⟨by rw [HLK.out, HA.out]; rfl, rfl, HBW.out.mono (by omega)⟩
    | some j =>
      have HA := Lib.hid har
      have he : (arityE (opOf t) != 0) = false := by rw [arityE, har]; rfl
      have hj : arityI (opOf t) = (j : Int) := by rw [arityI, har]
      clear har
      by_cases hk : j = (partsOf t).length
      · have hk' : ((j : Int) != ((partsOf t).length : Int)) = false := by rw [bne_eq_false_iff_eq]; omega
        have HK := Lib.hid hk
        have HLK2 : Hid (lay t l = (layKids (partsOf t) l []).bind fun p => layEnd (opOf t) (numOf t) (nameOf t) p.2 p.1) := Lib.hid (by rw [HLK.out, HA.out, hk, if_pos rfl])
        clear hk
        have hpl : (partsOf t).length ≤ 3 := by rw [← HK.out]; exact arity_le HA.out
        go_wp2_with (first | (go_at_call 55; refine (arity_any _ _).mono ?_; rintro en w' ⟨rfl, rfl⟩))
        go_loopw [53] (fun iv wr => ∃ (i : Nat) (v1 vk : Value) (l1 : List Nd) (ks : List Int), iv = .int .i64 i ∧ i ≤ (partsOf t).length ∧ l1.length ≤ 64 ∧ ks.length ≤ i ∧ Hid (layKids ((partsOf t).drop i) l1 ks = layKids (partsOf t) l []) ∧ Hid (LInv t B g nb Ok v w Ap cp wr v1 vk l1 ks)) (fun iv _ => (partsOf t).length - (intOf iv).toNat)
        case atStart => exact ⟨0, v, .slice none 0 0, l, [], rfl, by omega, hl64, by simp, Lib.hid rfl, Lib.hid ⟨hgw, hBg, hn1, HFR.out, (HBW.out.block g hgw).trans HG.out, HNB.out, Kd.S_below (Kd.S_mono (Kd.S_bound HS.out) (fun k hk => ⟨⟨hk.1.1, by have := hk.2.2.1; omega, by simp [Value.ownBlock]⟩, hk.1.2⟩)) HBW.out, Kd.R_nil _ _ _ _ _, HRP.out, HBW.out.mono (by omega), KeepBut.of_below HBW.out _ _, .inl rfl⟩⟩
        case round =>
          obtain ⟨i, v1, vk, l1, ks, rfl, hi, hl1, hks, hq, hI⟩ := hrel
          obtain ⟨A1, c1, rfl, hc1, _⟩ := Kd.S_reads hI.out.S
          obtain ⟨Ak, ck, rfl, hck, _⟩ := Kd.R_reads hI.out.K
          have gcell : wr.cell? ⟨g, 0, none⟩ = some (.slice A1 l1.length c1) := blk_cell hI.out.G 0
          by_cases hlt : i < (partsOf t).length
          · obtain ⟨p, hp⟩ : ∃ p, (partsOf t)[i]? = some p := ⟨_, List.getElem?_eq_getElem hlt⟩
            obtain ⟨_, _, hCP⟩ := Kd.R_reads' hI.out.P
            obtain ⟨adp, ep, hpc⟩ := tm_at hCP hp
            subst ep
            have hdrop : (partsOf t).drop i = p :: (partsOf t).drop (i + 1) := by
              rw [List.drop_eq_getElem_cons hlt]; congr 1
              exact Option.some.inj ((List.getElem?_eq_getElem hlt).symm.trans hp)
            have HDR := Lib.hid hdrop
            have HPM := Lib.hid (List.mem_of_getElem? hp)
            clear hCP hp hdrop
            have hnbr : nb < wr.heap.size := hI.out.nblt
            obtain ⟨wo, rfl⟩ : ∃ wo : World, wo = wr := ⟨_, rfl⟩
            by_cases h64 : 64 ≤ l1.length
            · have hge : decide ((64 : Int) ≤ (l1.length : Int)) = true := decide_eq_true (by omega)
              go_wp2
              go_ret
              exact .inr ⟨by rw [HLK2.out, ← hq.out, HDR.out]; simp only [layKids, layPart, h64, if_true]; rfl, rfl, hI.out.Bl⟩
            · have hge : decide ((64 : Int) ≤ (l1.length : Int)) = false := decide_eq_false (by omega)
              have hih := Lib.hid (IH.out p HPM.out B g _ _ l1 wo hI.out.G hBg hI.out.S hI.out.fr' (by omega))
              have HQ2 : Hid (layKids (partsOf t) l [] = (lay p l1).bind fun l2 => layKids ((partsOf t).drop (i + 1)) l2 (ks ++ [last l2])) := Lib.hid (by rw [← hq.out, HDR.out]; simp only [layKids, layPart, h64, if_false])
              go_wp2_with (first | (go_at_call 38; refine hih.out.mono ?_; rintro en w4 (⟨v2, l2, hlay, rfl, hG4, hS4, hown4, hF4⟩ | ⟨hlay, rfl, hB4⟩); have HLY := Lib.hid hlay; clear hlay))
              · have hI4 := hI.out.call hG4 hS4 hown4 hF4
                obtain ⟨A2, c2, rfl, hc2, _⟩ := Kd.S_reads hS4
                have HI4 := Lib.hid hI4
                have gy : wo.heap.size ≤ w4.heap.size := hF4.below.size
                clear hI4 hG4 hS4 hown4 hF4
                obtain ⟨hl20, hl2⟩ := lay_len HLY.out
                have hwr : IntKind.i64.wrap ((l2.length : Int) - 1) = (l2.length : Int) - 1 := by rw [i64_w]; unfold wrap64; omega
                have HQ3 := Lib.hid (HQ2.out.trans (by rw [HLY.out]))
                refine start_ (n := 12) (S := fun w' => w'.cell? ⟨nb, 3, none⟩ = some (.slice Ak ks.length ck) ∧ w'.cell? ⟨g, 0, none⟩ = some (.slice A2 l2.length c2)) (ds := [11]) #[false, false, false, false, false, false, false, false, false, false, false, false] (by kernel_rfl) rfl rfl ⟨blk_cell HI4.out.NB 3, blk_cell HI4.out.G 0⟩ (fun hHeld => ?_)
                have HIq : Hid (LInv t B g nb Ok v w (some adp) cp w4.drew (.slice A2 l2.length c2) (.slice Ak ks.length ck) l2 ks) := Lib.hid HI4.out.drew
                generalize w4.drew = wq at hHeld HIq ⊢
                have hnbq : nb < wq.heap.size := HIq.out.nblt
                have hgq : g < wq.heap.size := by have := HIq.out.hnb; omega
                refine pure_ (i := 0) (N := some 69) (v := ?_) (a' := ?_) #[true, false, false, false, false, false, false, false, false, false, false, false] rfl rfl (by kernel_rfl) (fun _ _ _ h => h) (Or.inl ⟨by rfl, ?_⟩) ?_ ?_
                rotate_left
                · intro w'
                  go_simp
                  with_reducible rfl
                rotate_left
                · simp only [Act.put, List.setIfInBounds_toArray, List.set_cons_zero, List.set_cons_succ]
                  rfl
                refine pure_ (i := 2) (N := some 71) (v := ?_) (a' := ?_) #[true, false, true, false, false, false, false, false, false, false, false, false] rfl rfl (by kernel_rfl) (fun _ _ _ h => h) (Or.inl ⟨by rfl, ?_⟩) ?_ ?_
                rotate_left
                · intro w'
                  go_simp
                  with_reducible rfl
                rotate_left
                · simp only [Act.put, List.setIfInBounds_toArray, List.set_cons_zero, List.set_cons_succ]
                  rfl
                refine pure_ (i := 3) (N := some 72) (v := ?_) (a' := ?_) #[true, false, true, true, false, false, false, false, false, false, false, false] rfl rfl (by kernel_rfl) (fun _ _ _ h => h) (Or.inl ⟨by rfl, ?_⟩) ?_ ?_
                rotate_left
                · intro w'
                  go_simp
                  with_reducible rfl
                rotate_left
                · simp only [Act.put, List.setIfInBounds_toArray, List.set_cons_zero, List.set_cons_succ]
                  rfl
                refine pure_ (i := 4) (N := some 73) (v := ?_) (a' := ?_) #[true, false, true, true, true, false, false, false, false, false, false, false] rfl rfl (by kernel_rfl) (fun _ _ _ h => h) (Or.inl ⟨by rfl, ?_⟩) ?_ ?_
                rotate_left
                · intro w'
                  go_simp
                  with_reducible rfl
                rotate_left
                · simp only [Act.put, List.setIfInBounds_toArray, List.set_cons_zero, List.set_cons_succ]
                  rfl
                refine take_ (i := 1) (N := some 70) (v := ?_) (a' := ?_) #[true, true, true, true, true, false, false, false, false, false, false, false] rfl rfl (by kernel_rfl) (fun _ _ _ h => h) (Or.inl ⟨by rfl, ?_⟩) hHeld ?_ ?_
                rotate_left
                · rintro w' ⟨s0, s1⟩
                  go_simp
                  with_reducible rfl
                rotate_left
                · simp only [Act.put, List.setIfInBounds_toArray, List.set_cons_zero, List.set_cons_succ]
                  rfl
                refine take_ (i := 5) (N := some 74) (v := ?_) (a' := ?_) #[true, true, true, true, true, true, false, false, false, false, false, false] rfl rfl (by kernel_rfl) (fun _ _ _ h => h) (Or.inl ⟨by rfl, ?_⟩) hHeld ?_ ?_
                rotate_left
                · rintro w' ⟨s0, s1⟩
                  go_simp
                  with_reducible rfl
                rotate_left
                · simp only [Act.put, List.setIfInBounds_toArray, List.set_cons_zero, List.set_cons_succ]
                  rfl
                refine pure_ (i := 6) (N := some 75) (v := ?_) (a' := ?_) #[true, true, true, true, true, true, true, false, false, false, false, false] rfl rfl (by kernel_rfl) (fun _ _ _ h => h) (Or.inl ⟨by rfl, ?_⟩) ?_ ?_
                rotate_left
                · intro w'
                  go_simp
                  with_reducible rfl
                rotate_left
                · simp only [Act.put, List.setIfInBounds_toArray, List.set_cons_zero, List.set_cons_succ]
                  rfl
                refine pure_ (i := 7) (N := some 76) (v := ?_) (a' := ?_) #[true, true, true, true, true, true, true, true, false, false, false, false] rfl rfl (by kernel_rfl) (fun _ _ _ h => h) (Or.inl ⟨by rfl, ?_⟩) ?_ ?_
                rotate_left
                · intro w'
                  go_simp
                  with_reducible rfl
                rotate_left
                · simp only [Act.put, List.setIfInBounds_toArray, List.set_cons_zero, List.set_cons_succ]
                  rfl
                refine one_ (i := 8) (N := some 77) #[true, true, true, true, true, true, true, true, true, false, false, false] rfl rfl (by kernel_rfl) (by decide) (fun K hK => ?_)
                refine value_ (v := .slice (some ⟨wq.heap.size, 0, none⟩) 1 1) (w1 := wq.alloc (.cells #[.int .i64 ((l2.length : Int) - 1)] 3)) rfl rfl ?hrun ?_
                case hrun =>
                  go_simp
                refine hK.out _ _ ⟨(nd_below ((Below.refl _ _).alloc (Nat.le_refl _) _) hHeld.1), (nd_below ((Below.refl _ _).alloc (Nat.le_refl _) _) hHeld.2)⟩ (fun hHeld => ?_)
                clear hK K
                refine norm_ (a' := ?_) ?_ ?_
                rotate_left
                · show Act.put _ (some 77) _ = _
                  simp only [Act.put, List.setIfInBounds_toArray, List.set_cons_zero, List.set_cons_succ]
                  rfl
                refine one_ (i := 9) (N := some 78) #[true, true, true, true, true, true, true, true, true, true, false, false] rfl rfl (by kernel_rfl) (by decide) (fun K hK => ?_)
                refine Kd.R_append_step (Kd.int .i64) (w0 := wq) w.heap.size rfl (.tmp 70) (.tmp 77) 68 3 (.int .i64 0) 8 rfl Tryd.underlying68 infoInt rfl (by decide) (by omega) (.slice Ak ks.length ck) ks ((l2.length : Int) - 1) [.int .i64 ((l2.length : Int) - 1)] (fun _ => True) (fun _ => False) rfl rfl ?aP (fun _ h => h.elim) (fun _ _ => trivial) ?aO ?aB ?aS ?aL ?_
                case aP => exact rfl
                case aO => exact HIq.out.K
                case aB => exact Below.refl _ _
                case aS => exact HIq.out.le
                case aL => omega
                intro vk1 w5 hR5 hb5 hg5 hat5
                obtain ⟨A5, c5, rfl, hc5, _⟩ := Kd.R_reads hR5
                have HR5 := Lib.hid hR5
                have HB5 := Lib.hid hb5
                have HG5 := Lib.hid hg5
                have HAT5 := Lib.hid hat5
                clear hR5 hb5 hg5 hat5
                have hNB5 : w5.heap[nb]? = some (.cells #[.int .i64 (opOf t), .int .i64 (numOf t), .string (nameOf t), .slice Ak ks.length ck] 96 (0, 0)) := (HG5.out.block nb hnbq (Kd.R_ne HIq.out.K HIq.out.NB (by decide))).trans HIq.out.NB
                have hG5 : w5.heap[g]? = some (.cells #[.slice A2 l2.length c2] 100 (0, 0)) := (HG5.out.block g hgq (Kd.R_ne HIq.out.K HIq.out.G (by decide))).trans HIq.out.G
                have HI5 := Lib.hid (HIq.out.app HR5.out HB5.out HG5.out HAT5.out)
                refine hK.out _ _ ⟨blk_cell hNB5 3, blk_cell hG5 0⟩ (fun hHeld => ?_)
                clear hK K
                refine norm_ (a' := ?_) ?_ ?_
                rotate_left
                · show Act.put _ (some 78) _ = _
                  simp only [Act.put, List.setIfInBounds_toArray, List.set_cons_zero, List.set_cons_succ]
                  rfl
                refine pure_ (i := 10) (N := some 79) (v := ?_) (a' := ?_) #[true, true, true, true, true, true, true, true, true, true, true, false] rfl rfl (by kernel_rfl) (fun _ _ _ h => h) (Or.inl ⟨by rfl, ?_⟩) ?_ ?_
                rotate_left
                · intro w'
                  go_simp
                  with_reducible rfl
                rotate_left
                · simp only [Act.put, List.setIfInBounds_toArray, List.set_cons_zero, List.set_cons_succ]
                  rfl
                have frn := blk_frozen hNB5 3
                refine last_ (i := 11) (N := none) #[true, true, true, true, true, true, true, true, true, true, true, true] rfl rfl (by kernel_rfl) (by decide) (fun K hK => ?_)
                refine skip_ (w1 := w5.setCell ⟨nb, 3, none⟩ (.slice A5 (ks ++ [(l2.length : Int) - 1]).length c5)) rfl rfl ?hrun ?_
                case hrun =>
                  go_simp
                refine hK.out _ _ ?_
                clear hK K
                refine done_ (by kernel_rfl) ?_
                go_wp2
                go_roundw
                simp only [List.length_append, List.length_cons, List.length_nil, Nat.zero_add] at HI5
                case rel => exact ⟨i + 1, _, _, l2, ks ++ [(l2.length : Int) - 1], by go_num, by omega, hl2, by simp; omega, Lib.hid (HQ3.out).symm, HI5⟩
                case measure => simp [intOf]; omega
              · have HB4 := Lib.hid hB4
                have HLY := Lib.hid hlay
                clear hB4 hlay
                go_wp2
                go_ret
                exact .inr ⟨by rw [HLK2.out, HQ2.out, HLY.out]; rfl, rfl, hI.out.Bl.trans HB4.out⟩
          · have hie : i = (partsOf t).length := by omega
            have HQ4 : Hid (layKids (partsOf t) l [] = some (l1, ks)) := Lib.hid (by rw [← hq.out, hie, List.drop_length]; rfl)
            clear hie
            go_wp2
            refine start_ (n := 11) (S := fun w' => w'.cell? ⟨nb, 0, none⟩ = some (.int .i64 (opOf t)) ∧ w'.cell? ⟨nb, 1, none⟩ = some (.int .i64 (numOf t)) ∧ w'.cell? ⟨nb, 2, none⟩ = some (.string (nameOf t)) ∧ w'.cell? ⟨nb, 3, none⟩ = some (.slice Ak ks.length ck) ∧ w'.cell? ⟨g, 0, none⟩ = some (.slice A1 l1.length c1)) (ds := [10]) #[false, false, false, false, false, false, false, false, false, false, false] (by kernel_rfl) rfl rfl ⟨blk_cell hI.out.NB 0, blk_cell hI.out.NB 1, blk_cell hI.out.NB 2, blk_cell hI.out.NB 3, gcell⟩ (fun hHeld => ?_)
            have HIq : Hid (LInv t B g nb Ok v w Ap cp wr.drew (.slice A1 l1.length c1) (.slice Ak ks.length ck) l1 ks) := Lib.hid hI.out.drew
            clear gcell hI
            generalize wr.drew = wq at hHeld HIq ⊢
            have hnbq : nb < wq.heap.size := HIq.out.nblt
            have hgq : g < wq.heap.size := by have := HIq.out.hnb; omega
            refine pure_ (i := 0) (N := some 81) (v := ?_) (a' := ?_) #[true, false, false, false, false, false, false, false, false, false, false] rfl rfl (by kernel_rfl) (fun _ _ _ h => h) (Or.inl ⟨by rfl, ?_⟩) ?_ ?_
            rotate_left
            · intro w'
              go_simp
              with_reducible rfl
            rotate_left
            · simp only [Act.put, List.setIfInBounds_toArray, List.set_cons_zero, List.set_cons_succ]
              rfl
            refine pure_ (i := 1) (N := some 82) (v := ?_) (a' := ?_) #[true, true, false, false, false, false, false, false, false, false, false] rfl rfl (by kernel_rfl) (fun _ _ _ h => h) (Or.inl ⟨by rfl, ?_⟩) ?_ ?_
            rotate_left
            · intro w'
              go_simp
              with_reducible rfl
            rotate_left
            · simp only [Act.put, List.setIfInBounds_toArray, List.set_cons_zero, List.set_cons_succ]
              rfl
            refine pure_ (i := 2) (N := some 83) (v := ?_) (a' := ?_) #[true, true, true, false, false, false, false, false, false, false, false] rfl rfl (by kernel_rfl) (fun _ _ _ h => h) (Or.inl ⟨by rfl, ?_⟩) ?_ ?_
            rotate_left
            · intro w'
              go_simp
              with_reducible rfl
            rotate_left
            · simp only [Act.put, List.setIfInBounds_toArray, List.set_cons_zero, List.set_cons_succ]
              rfl
            refine pure_ (i := 3) (N := some 84) (v := ?_) (a' := ?_) #[true, true, true, true, false, false, false, false, false, false, false] rfl rfl (by kernel_rfl) (fun _ _ _ h => h) (Or.inl ⟨by rfl, ?_⟩) ?_ ?_
            rotate_left
            · intro w'
              go_simp
              with_reducible rfl
            rotate_left
            · simp only [Act.put, List.setIfInBounds_toArray, List.set_cons_zero, List.set_cons_succ]
              rfl
            refine take_ (i := 4) (N := some 85) (v := ?_) (a' := ?_) #[true, true, true, true, true, false, false, false, false, false, false] rfl rfl (by kernel_rfl) (fun _ _ _ h => h) (Or.inl ⟨by rfl, ?_⟩) hHeld ?_ ?_
            rotate_left
            · rintro w' ⟨s0, s1, s2, s3, s4⟩
              go_simp
              with_reducible rfl
            rotate_left
            · simp only [Act.put, List.setIfInBounds_toArray, List.set_cons_zero, List.set_cons_succ]
              rfl
            refine take_ (i := 5) (N := some 86) (v := ?_) (a' := ?_) #[true, true, true, true, true, true, false, false, false, false, false] rfl rfl (by kernel_rfl) (fun _ _ _ h => h) (Or.inl ⟨by rfl, ?_⟩) hHeld ?_ ?_
            rotate_left
            · rintro w' ⟨s0, s1, s2, s3, s4⟩
              go_simp
              with_reducible rfl
            rotate_left
            · simp only [Act.put, List.setIfInBounds_toArray, List.set_cons_zero, List.set_cons_succ]
              rfl
            refine one_ (i := 6) (N := some 87) #[true, true, true, true, true, true, true, false, false, false, false] rfl rfl (by kernel_rfl) (by decide) (fun K hK => ?_)
            refine value_ (v := .slice (some ⟨wq.heap.size, 0, none⟩) 1 1) (w1 := wq.alloc (.cells #[.int .i64 (opOf t), .int .i64 (numOf t), .string (nameOf t), .slice Ak ks.length ck] 96)) rfl rfl ?hrun ?_
            case hrun =>
              go_simp
            refine hK.out _ _ ⟨(nd_below ((Below.refl _ _).alloc (Nat.le_refl _) _) hHeld.1), (nd_below ((Below.refl _ _).alloc (Nat.le_refl _) _) hHeld.2.1), (nd_below ((Below.refl _ _).alloc (Nat.le_refl _) _) hHeld.2.2.1), (nd_below ((Below.refl _ _).alloc (Nat.le_refl _) _) hHeld.2.2.2.1), (nd_below ((Below.refl _ _).alloc (Nat.le_refl _) _) hHeld.2.2.2.2)⟩ (fun hHeld => ?_)
            clear hK K
            refine norm_ (a' := ?_) ?_ ?_
            rotate_left
            · show Act.put _ (some 87) _ = _
              simp only [Act.put, List.setIfInBounds_toArray, List.set_cons_zero, List.set_cons_succ]
              rfl
            refine one_ (i := 7) (N := some 88) #[true, true, true, true, true, true, true, true, false, false, false] rfl rfl (by kernel_rfl) (by decide) (fun K hK => ?_)
            refine Kd.S_append_step kNd (w0 := wq) B rfl (.tmp 85) (.tmp 87) 28 96 (.agg #[.int .i64 0, .int .i64 0, .string ⟨#[]⟩, .slice none 0 0]) 56 rfl Tryd.underlying28 infoNd rfl (by decide) (by omega) (.slice A1 l1.length c1) l1 ⟨opOf t, numOf t, nameOf t, ks⟩ [.int .i64 (opOf t), .int .i64 (numOf t), .string (nameOf t), .slice Ak ks.length ck] (fun k => Ok k ∧ k ≠ g) (fun k => some k = (Value.slice Ak ks.length ck).ownBlock) rfl rfl ?aP ?aK ?aF ?aO ?aB ?aS ?aL ?_
            case aP => exact HIq.out.kids
            case aK => exact HIq.out.kids_ok
            case aF => exact fun k hk => ⟨HIq.out.fr k (Nat.le_trans HIq.out.le hk), by omega⟩
            case aO => exact HIq.out.list
            case aB => exact Below.refl _ _
            case aS => omega
            case aL => omega
            intro v2 w5 hS5 hb5 hg5 hat5
            obtain ⟨A5, c5, rfl, hc5, _⟩ := Kd.S_reads hS5
            have hG5 : w5.heap[g]? = some (.cells #[.slice A1 l1.length c1] 100 (0, 0)) := (hg5.block g hgq (fun he => (HIq.out.v1_ok g he.symm).2 rfl)).trans HIq.out.G
            have hNB5 : w5.heap[nb]? = some (.cells #[.int .i64 (opOf t), .int .i64 (numOf t), .string (nameOf t), .slice Ak ks.length ck] 96 (0, 0)) := (hg5.block nb hnbq (fun he => (HIq.out.v1_ok nb he.symm).1.2.1 rfl)).trans HIq.out.NB
            have HFIN := Lib.hid (HIq.out.fin hS5 hb5 hg5 hat5)
            clear hS5 hb5 hg5 hat5
            refine hK.out _ _ ⟨blk_cell hNB5 0, blk_cell hNB5 1, blk_cell hNB5 2, blk_cell hNB5 3, blk_cell hG5 0⟩ (fun hHeld => ?_)
            clear hK K
            refine norm_ (a' := ?_) ?_ ?_
            rotate_left
            · show Act.put _ (some 88) _ = _
              simp only [Act.put, List.setIfInBounds_toArray, List.set_cons_zero, List.set_cons_succ]
              rfl
            refine pure_ (i := 8) (N := some 89) (v := ?_) (a' := ?_) #[true, true, true, true, true, true, true, true, true, false, false] rfl rfl (by kernel_rfl) (fun _ _ _ h => h) (Or.inl ⟨by rfl, ?_⟩) ?_ ?_
            rotate_left
            · intro w'
              go_simp
              with_reducible rfl
            rotate_left
            · simp only [Act.put, List.setIfInBounds_toArray, List.set_cons_zero, List.set_cons_succ]
              rfl
            refine pure_ (i := 9) (N := some 90) (v := ?_) (a' := ?_) #[true, true, true, true, true, true, true, true, true, true, false] rfl rfl (by kernel_rfl) (fun _ _ _ h => h) (Or.inl ⟨by rfl, ?_⟩) ?_ ?_
            rotate_left
            · intro w'
              go_simp
              with_reducible rfl
            rotate_left
            · simp only [Act.put, List.setIfInBounds_toArray, List.set_cons_zero, List.set_cons_succ]
              rfl
            have frn := blk_frozen hG5 0
            refine last_ (i := 10) (N := none) #[true, true, true, true, true, true, true, true, true, true, true] rfl rfl (by kernel_rfl) (by decide) (fun K hK => ?_)
            refine skip_ (w1 := w5.setCell ⟨g, 0, none⟩ (.slice A5 (l1 ++ [(⟨opOf t, numOf t, nameOf t, ks⟩ : Nd)]).length c5)) rfl rfl ?hrun ?_
            case hrun =>
              go_simp
            refine hK.out _ _ ?_
            clear hK K
            refine done_ (by kernel_rfl) ?_
            have gnew := blk_cell HFIN.out.1 0
            clear hNB5 hG5 frn hHeld
            generalize w5.setCell ⟨g, 0, none⟩ (.slice A5 (l1 ++ [(⟨opOf t, numOf t, nameOf t, ks⟩ : Nd)]).length c5) = w6 at HFIN gnew ⊢
            rw [List.length_append, List.length_singleton] at gnew
            by_cases h63 : l1.length + 1 ≤ 64
            · have hd : decide (((l1.length + 1 : Nat) : Int) ≤ 64) = true := decide_eq_true (by omega)
              have hd' : decide ((l1.length : Int) + 1 ≤ 64) = true := decide_eq_true (by omega)
              go_wp2
              go_ret
              refine .inl ⟨_, _, ?_, rfl, HFIN.out.1, HFIN.out.2.1, HFIN.out.2.2.1, HFIN.out.2.2.2⟩
              rw [HLK2.out, HQ4.out]; simp only [Option.bind_some, layEnd, h63, if_true]
            · have hd : decide (((l1.length + 1 : Nat) : Int) ≤ 64) = false := decide_eq_false (by omega)
              have hd' : decide ((l1.length : Int) + 1 ≤ 64) = false := decide_eq_false (by omega)
              go_wp2
              go_ret
              refine .inr ⟨?_, rfl, HFIN.out.2.2.2.below⟩
              rw [HLK2.out, HQ4.out]; simp only [Option.bind_some, layEnd, h63, if_false]
      · have hk' : ((j : Int) != ((partsOf t).length : Int)) = true := by rw [bne_iff_ne]; omega
        have HK := Lib.hid hk
        clear hk
        go_wp2_with (first | (go_at_call 55; refine (arity_any _ _).mono ?_; rintro en w' ⟨rfl, rfl⟩))
        go_ret
        exact .inr ⟨by rw [HLK.out, HA.out, if_neg (by intro h; exact HK.out (Option.some.inj h))], rfl, HBW.out.mono (by omega)⟩
theorem lay_any : ∀ (t : Tm), tfine t → LayC t
  | .nil, h => lay_node _ h (fun _ hp => by cases hp)
  | .lit _, h => lay_node _ h (fun _ hp => by cases hp)
  | .var _, h => lay_node _ h (fun _ hp => by cases hp)
  | .other _ _, h => lay_node _ h (fun _ hp => by cases hp)
  | .un op a, h => lay_node _ h (fun p hp => by
      simp only [partsOf, List.mem_singleton] at hp
      rw [hp]; exact lay_any a h)
  | .bin op a b, h => lay_node _ h (fun p hp => by
      simp only [partsOf, List.mem_cons, List.not_mem_nil, or_false] at hp
      rcases hp with h1 | h1
      · rw [h1]; exact lay_any a h.1
      · rw [h1]; exact lay_any b h.2)
  | .ite c a b, h => lay_node _ h (fun p hp => by
      simp only [partsOf, List.mem_cons, List.not_mem_nil, or_false] at hp
      rcases hp with h1 | h1 | h1
      · rw [h1]; exact lay_any c h.1
      · rw [h1]; exact lay_any a h.2.1
      · rw [h1]; exact lay_any b h.2.2)
end Go.Proofs.YticaocadeeolkaaDoor
