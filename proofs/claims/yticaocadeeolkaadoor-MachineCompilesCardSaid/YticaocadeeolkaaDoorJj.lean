/-
  THE WALK of (*machine.compiler).node. (Laid by gen_jj.py.)
-/
import Derived.Test.YticaocadeeolkaaDoorJd
import Derived.Test.YticaocadeeolkaaDoorJi
namespace Go.Proofs.YticaocadeeolkaaDoor
open Go.RowKit Plain Go.WideMaps Go.Maps Go.Proofs.YticaocadeeolkaaDoorW.PrintWords Go.Proofs.YticaocadeeolkaaDoorW.PrintLast Go.Proofs.YticaocadeeolkaaDoorW.PrintMore

def TK (D : DataW Unit) (T : ByteArray → Option Int) : Prop := IsMap D ∧ (∀ t, has D (keyS t) = (T t).isSome) ∧ ∀ t r, T t = some r → D.atKey (keyS t) (.lit (.int .i64 0)) = .lit (.int .i64 r)
theorem tk_start : TK (.map []) (fun _ => none) := ⟨isMap_empty, fun t => by simp [has], fun t r h => by cases h⟩
open Classical in
theorem tk_put {D : DataW Unit} {T : ByteArray → Option Int} (h : TK D T) (t : ByteArray) (r : Int) : TK (D.put (keyS t) (.lit (.int .i64 r))) (fun u => if u = t then some r else T u) := by
  refine ⟨h.1.put _ _, fun u => ?_, fun u r' hu => ?_⟩
  · by_cases he : u = t
    · subst he; rw [has_put_same h.1 (keyS_lit _)]; simp
    · rw [has_put_other (keyS_ne he), h.2.1 u]; simp [he]
  · by_cases he : u = t
    · subst he
      simp at hu; subst hu
      exact atKey_put_same h.1 (keyS_lit _) _ _
    · rw [atKey_put_other (keyS_ne he)]
      simp [he] at hu
      exact h.2.2 u r' hu
/-- The compiler in memory. -/
structure CMem (e : List Nd) (Ap : Option Addr) (cp : Nat) (w0 : World) (g m : Nat) (Ah : Option Addr) (ch : Nat) (hs : List ByteArray) (nm : Nat) (s : CSt) (v : Value) (w : World) : Prop where
  blk : w.heap[g]? = some (.cells #[.slice Ap e.length cp, v, .int .i64 s.regs, .map (some m), .slice Ah hs.length ch] 125 (0, 0))
  row : Kd.R kCm 75 w w0.heap.size (fun _ => True) v s.list
  map : ∃ D, w.ownsMap Tryd.prog 9 (plainElem Tryd.prog 3) m nm D ∧ TK D s.taken
  hol : Kd.R Kd.string 9 w w0.heap.size (fun _ => True) (.slice Ah hs.length ch) hs
  B : Below w0.heap.size w0 w
  hg : w0.heap.size ≤ g
  hm : w0.heap.size ≤ m
theorem ownsMap_below {P : Program} {k : TypeId} {R : Value → Option (DataW Unit × List MemPlace)} {b n : Nat} {D : DataW Unit} {w w' : World} (h : w.ownsMap P k R b n D) (hb : Below w.heap.size w w') : w'.ownsMap P k R b n D := by
  obtain ⟨es, clock, h1, h2⟩ := h
  exact ⟨es, clock, (hb.block b (Array.getElem?_eq_some_iff.1 h1).1).trans h1, h2⟩
theorem ownsMap_ne {P : Program} {k : TypeId} {R : Value → Option (DataW Unit × List MemPlace)} {b n : Nat} {D : DataW Unit} {w : World} (h : w.ownsMap P k R b n D) {α : Type} {d : Kd α} {e base : Nat} {ok : Nat → Prop} {v : Value} {xs : List α} (hr : d.R e w base ok v xs) : some b ≠ v.ownBlock := fun he => by
  obtain ⟨es, clock, h1, _⟩ := h
  obtain ⟨cs, h2⟩ := Kd.R_typed hr b he.symm
  rw [h1] at h2; cases h2
theorem ownsMap_cells {P : Program} {k : TypeId} {R : Value → Option (DataW Unit × List MemPlace)} {b n g : Nat} {D : DataW Unit} {w : World} {cs : Array Value} {t : Nat} (h : w.ownsMap P k R b n D) (hg : w.heap[g]? = some (.cells cs t (0, 0))) : b ≠ g := fun he => by
  obtain ⟨es, clock, h1, _⟩ := h
  subst he; rw [h1] at hg; cases hg
section
variable {e : List Nd} {Ap : Option Addr} {cp : Nat} {w0 : World} {g m : Nat} {Ah : Option Addr} {ch : Nat} {hs : List ByteArray} {nm : Nat} {s : CSt} {v : Value} {w w' w1 : World}
theorem CMem.gw (h : CMem e Ap cp w0 g m Ah ch hs nm s v w) : g < w.heap.size := (Array.getElem?_eq_some_iff.1 h.blk).1
theorem CMem.below (h : CMem e Ap cp w0 g m Ah ch hs nm s v w) (hb : Below w.heap.size w w') : CMem e Ap cp w0 g m Ah ch hs nm s v w' where
  blk := (hb.block g h.gw).trans h.blk
  row := Kd.R_below h.row hb
  map := by obtain ⟨D, h1, h2⟩ := h.map; exact ⟨D, ownsMap_below h1 hb, h2⟩
  hol := Kd.R_below h.hol hb
  B := h.B.trans (hb.mono h.B.size)
  hg := h.hg
  hm := h.hm
theorem CMem.drew (h : CMem e Ap cp w0 g m Ah ch hs nm s v w) : CMem e Ap cp w0 g m Ah ch hs nm s v w.drew := h.below (below_drew (Below.refl _ _))
theorem CMem.look (h : CMem e Ap cp w0 g m Ah ch hs nm s v w) {t : ByteArray} (hkey : keyOf Tryd.prog 9 (.string t) = some (keyS t)) {r : Int} (ht : s.taken t = some r) : (Instr.lookup 123 (.map (some m)) (.string t) true).run Tryd.prog w = .ok (.tuple #[.int .i64 r, .bool true]) w := by
  obtain ⟨D, ho, hD⟩ := h.map
  obtain ⟨v0, ps, hrun, hv⟩ := ho.look_ok law9 Tryd.underlying123 (zero3 w) (plainElem_int Tryd.underlying3 (by decide)) hkey
  rw [hD.2.2 t r ht] at hv
  rw [hD.2.1 t, ht] at hrun
  obtain ⟨c, rfl, hc, _⟩ := plainElem_int_inv Tryd.underlying3 hv
  simp only [Prod.mk.injEq, DataW.lit.injEq, Lit.int.injEq, true_and] at hc
  rw [hc.1]; exact hrun
theorem CMem.look_none (h : CMem e Ap cp w0 g m Ah ch hs nm s v w) {t : ByteArray} (hkey : keyOf Tryd.prog 9 (.string t) = some (keyS t)) (ht : s.taken t = none) : ∃ v0, (Instr.lookup 123 (.map (some m)) (.string t) true).run Tryd.prog w = .ok (.tuple #[v0, .bool false]) w := by
  obtain ⟨D, ho, hD⟩ := h.map
  obtain ⟨v0, ps, hrun, _⟩ := ho.look_ok law9 Tryd.underlying123 (zero3 w) (plainElem_int Tryd.underlying3 (by decide)) hkey
  rw [hD.2.1 t, ht] at hrun
  exact ⟨v0, hrun⟩
theorem CMem.more (h : CMem e Ap cp w0 g m Ah ch hs nm s v w) {n' : Nat} (hn : nm ≤ n') : CMem e Ap cp w0 g m Ah ch hs n' s v w :=
  { h with map := by obtain ⟨D, h1, h2⟩ := h.map; exact ⟨D, h1.mono hn, h2⟩ }
theorem hol_ne {d : Kd Cm} {v : Value} {xs : List Cm} {hs : List ByteArray} {w : World} {base : Nat} {ok ok' : Nat → Prop} {Ah : Value} (h : Kd.R Kd.string 9 w base ok Ah hs) (hr : d.R 75 w base ok' v xs) : ∀ b, Ah.ownBlock = some b → some b ≠ v.ownBlock := fun b hb he => by
  obtain ⟨c1, h1⟩ := Kd.R_typed h b hb
  obtain ⟨c2, h2⟩ := Kd.R_typed hr b he.symm
  rw [h1] at h2
  simp at h2
/-- A command appended, stored. -/
theorem CMem.app (h : CMem e Ap cp w0 g m Ah ch hs nm s v w) {c : Cm} {v1 : Value} (hR : Kd.R kCm 75 w1 w0.heap.size (fun _ => True) v1 (s.list ++ [c])) (hg : w.grownBy w1 v.ownBlock) (hb : Below w0.heap.size w0 w1) :
    CMem e Ap cp w0 g m Ah ch hs nm { s with list := s.list ++ [c] } v1 (w1.setCell ⟨g, 1, none⟩ v1) := by
  have hblk : w1.heap[g]? = some (.cells #[.slice Ap e.length cp, v, .int .i64 s.regs, .map (some m), .slice Ah hs.length ch] 125 (0, 0)) := (hg.block g h.gw (Kd.R_ne h.row h.blk (by decide))).trans h.blk
  refine ⟨heap_setCell_same w1 g 1 _ _ v1 hblk, Kd.R_set hR hblk (by decide) 1 v1, ?_, Kd.R_set (R_grown rfl h.hol hg (hol_ne h.hol h.row)) hblk (by decide) 1 v1, hb.setCell (p := ⟨g, 1, none⟩) h.hg v1, h.hg, h.hm⟩
  obtain ⟨D, h1, h2⟩ := h.map
  exact ⟨D, (h1.kept hg (ownsMap_ne h1 h.row)).setCell (a := ⟨g, 1, none⟩) (ownsMap_cells h1 h.blk) v1, h2⟩
/-- The registers stored. -/
theorem CMem.regs (h : CMem e Ap cp w0 g m Ah ch hs nm s v w) (k : Int) : CMem e Ap cp w0 g m Ah ch hs nm { s with regs := k } v (w.setCell ⟨g, 2, none⟩ (.int .i64 k)) := by
  refine ⟨heap_setCell_same w g 2 _ _ (.int .i64 k) h.blk, Kd.R_set h.row h.blk (by decide) 2 _, ?_, Kd.R_set h.hol h.blk (by decide) 2 _, h.B.setCell (p := ⟨g, 2, none⟩) h.hg _, h.hg, h.hm⟩
  obtain ⟨D, h1, h2⟩ := h.map
  exact ⟨D, h1.setCell (a := ⟨g, 2, none⟩) (ownsMap_cells h1 h.blk) _, h2⟩
open Classical in
/-- A hole taken. -/
theorem CMem.upd (h : CMem e Ap cp w0 g m Ah ch hs nm s v w) {D : DataW Unit} (hD : TK D s.taken) {t : ByteArray} {r : Int} (ho : w1.ownsMap Tryd.prog 9 (plainElem Tryd.prog 3) m (nm + 1) (D.put (keyS t) (.lit (.int .i64 r)))) (hg : w.grownBy w1 (some m)) (ho0 : w.ownsMap Tryd.prog 9 (plainElem Tryd.prog 3) m nm D) :
    CMem e Ap cp w0 g m Ah ch hs (nm + 1) { s with taken := fun u => if u = t then some r else s.taken u } v w1 := by
  refine ⟨(hg.block g h.gw (fun he => ownsMap_cells ho0 h.blk (Option.some.inj he).symm)).trans h.blk, R_grown rfl h.row hg (fun b hb he => by rw [he] at hb; exact ownsMap_ne ho0 h.row hb.symm), ⟨_, ho, tk_put hD t r⟩, R_grown rfl h.hol hg (fun b hb he => by rw [he] at hb; exact ownsMap_ne ho0 h.hol hb.symm), h.B.grown hg h.B.size (fun k e => by cases e; exact h.hm), h.hg, h.hm⟩
end
def NodeOk (e : List Nd) (Ap : Option Addr) (cp : Nat) (w0 : World) (g m : Nat) (Ah : Option Addr) (ch : Nat) (hs : List ByteArray) (s' : CSt) (en : Ending) (w' : World) : Prop := en = .returned (.tuple #[]) ∧ ∃ v', CMem e Ap cp w0 g m Ah ch hs s'.list.length s' v' w'
def NodeC (e : List Nd) (hs : List ByteArray) (f lo i : Nat) : Prop := ∀ (Ap : Option Addr) (cp : Nat) (w0 : World) (g m : Nat) (Ah : Option Addr) (ch nm : Nat) (s : CSt) (v : Value) (w : World) (reg : Int),
  CMem e Ap cp w0 g m Ah ch hs nm s v w → Kd.C kNd w0 Ap e.length e → CInv hs s → 0 ≤ reg → reg < s.regs → s.regs ≤ 1 + 3 * (s.list.length : Int) → nm ≤ s.list.length → s.list.length + (i + 1 - lo) ≤ 16 →
  Calls Tryd.prog 52 #[.pointer (some ⟨g, 0, none⟩), .int .i64 i, .int .i64 reg] w (NodeOk e Ap cp w0 g m Ah ch hs (comp e hs f i reg s))
theorem comp_same {e : List Nd} {hs : List ByteArray} {f i : Nat} {reg r : Int} {s : CSt} {x : Nd} (hx : e[i]? = some x) (ho : x.op = 18) (ht : s.taken x.name = some r) : comp e hs (f + 1) i reg s = sameC r reg s := by
  rw [comp, hx]; simp only [if_pos ho, ht]
theorem comp_take {e : List Nd} {hs : List ByteArray} {f i : Nat} {reg : Int} {s : CSt} {x : Nd} (hx : e[i]? = some x) (ho : x.op = 18) (ht : s.taken x.name = none) : comp e hs (f + 1) i reg s = takeC hs x.name reg s := by
  rw [comp, hx]; simp only [if_pos ho, ht]
theorem comp_class {e : List Nd} {hs : List ByteArray} {f i : Nat} {reg : Int} {s : CSt} {x : Nd} (hx : e[i]? = some x) (ho : ¬ x.op = 18) : comp e hs (f + 1) i reg s = kidsC (comp e hs f) x.kids s.regs (classC x reg s) := by
  rw [comp, hx]; simp only [if_neg ho]
theorem kidsC_next (F : Nat → Int → CSt → CSt) : ∀ (ks : List Int) (j : Nat) (k : Int) (reg : Int) (s : CSt), ks[j]? = some k → kidsC F (ks.take (j + 1)) reg s = F k.toNat (reg + j) (kidsC F (ks.take j) reg s)
  | [], _, _, _, _, h => by simp at h
  | a :: r, 0, k, reg, s, h => by
    have : a = k := by simpa using h
    subst this
    simp [kidsC]
  | a :: r, j + 1, k, reg, s, h => by
    have := kidsC_next F r j k (reg + 1) (F a.toNat reg s) (by simpa using h)
    simp only [List.take_succ_cons, kidsC]
    rw [this]
    congr 1
    omega
theorem kids_prefix {hs : List ByteArray} {e : List Nd} {f : Nat} {F : Nat → Int → CSt → CSt} (ih : NodeLaw hs e f F) {lo i : Nat} {ks : List Nat} (h : Segs e lo ks i) (hf : i ≤ f) (reg : Int) (s : CSt) (hI : CInv hs s) (h0 : 0 ≤ reg) (hr : reg + ks.length ≤ s.regs) {j k : Nat} (hj : ks[j]? = some k) :
    ∃ mid, Seg e mid k ∧ lo ≤ mid ∧ mid ≤ k ∧ k < i ∧ CStep hs e lo mid s (kidsC F ((ks.map (fun (k : Nat) => (k : Int))).take j) reg s) := by
  have hlt := (List.getElem?_eq_some_iff.1 hj).1
  have e1 : ks = ks.take j ++ k :: ks.drop (j + 1) := by
    conv => lhs; rw [← List.take_append_drop j ks, List.drop_eq_getElem_cons hlt]
    congr 2; exact (List.getElem?_eq_some_iff.1 hj).2
  rw [e1] at h
  obtain ⟨mid, h1, h2⟩ := h.split
  cases h2 with
  | cons h3 h4 =>
    have hle := h4.le
    have hmk := h3.le
    refine ⟨mid, h3, h1.le, hmk, by omega, ?_⟩
    have := kids_law ih h1 (by omega) reg s hI h0 (by rw [List.length_take]; omega)
    rwa [List.map_take] at this
set_option maxHeartbeats 16000000 in
set_option maxRecDepth 100000 in
theorem node_step (e : List Nd) (hs : List ByteArray) (hnd : hs.Nodup) (hfm : ∀ x ∈ e, form (plainN x) = true) (hhs : ∀ x ∈ e, x.op = 18 → x.name ∈ hs) (hn : ∀ x ∈ e, x.name.size ≤ maxLen) (h6 : hs.length ≤ 6) (f : Nat) (ih : ∀ lo i, Seg e lo i → i < f → NodeC e hs f lo i) (lo i : Nat) (hseg : Seg e lo i) (hif : i < f + 1) : NodeC e hs (f + 1) lo i := by
  intro Ap cp w0 g m Ah ch nm s v w reg hM hp hI h0 h1 hrg hnm hln
  obtain ⟨x, hx⟩ : ∃ x, e[i]? = some x := ⟨_, List.getElem?_eq_getElem hseg.lt⟩
  have hmem := List.mem_of_getElem? hx
  have hlt := hseg.lt
  obtain ⟨ad, A3, c3, hA, q0, q1, q2, q3, hl3, hk3⟩ := nd_at hp hx
  subst hA
  replace q0 := nd_below hM.B q0
  replace q1 := nd_below hM.B q1
  replace q2 := nd_below hM.B q2
  replace q3 := nd_below hM.B q3
  obtain ⟨Av, cv, rfl, hcv, _⟩ := Kd.R_reads hM.row
  have G0 := blk_cell hM.blk 0
  have G2 := blk_cell hM.blk 2
  have hgw := hM.gw
  have HX := Lib.hid hx
  have HM := Lib.hid hM
  have HP := Lib.hid hp
  have HK3 := Lib.hid hk3
  have HI := Lib.hid hI
  have HNX := Lib.hid (hn x hmem)
  have hkey := keyS_ok (hn x hmem)
  have hu := Tryd.underlying96
  have HIH := Lib.hid ih
  have HLAW := Lib.hid (comp_law hnd hfm hhs f)
  have HSEG := Lib.hid hseg
  have HFM := Lib.hid (hfm x hmem)
  have HHS := Lib.hid (hhs x hmem)
  clear hx hp hk3 hI hM hmem hn hfm ih hseg hhs
  by_cases hop : x.op = 18
  · have o1 : (x.op == 18) = true := beq_iff_eq.2 hop
    cases ht : s.taken x.name with
    | some r =>
      have HC := Lib.hid (comp_same (hs := hs) (f := f) (reg := reg) HX.out hop ht)
      have HT := Lib.hid ht
      have HHM := Lib.hid (HHS.out hop)
      clear hop ht
      go_enter Tryd.func52, Tryd.ntmps52
      go_wp2_with fail
      have hNB : (w.alloc (.cells #[.int .i64 x.op, .int .i64 x.n, .string x.name, .slice A3 x.kids.length c3] 96)).heap[w.heap.size]? = some (.cells #[.int .i64 x.op, .int .i64 x.n, .string x.name, .slice A3 x.kids.length c3] 96 (0, 0)) := heap_alloc_new w _
      have HM1 := Lib.hid (HM.out.below ((Below.refl _ _).alloc (Nat.le_refl _) (.cells #[.int .i64 x.op, .int .i64 x.n, .string x.name, .slice A3 x.kids.length c3] 96)))
      have hgn : g ≠ w.heap.size := by omega
      have HNB := Lib.hid hNB
      have hnw : w.heap.size < (w.alloc (.cells #[.int .i64 x.op, .int .i64 x.n, .string x.name, .slice A3 x.kids.length c3] 96)).heap.size := by simp
      have HBN := Lib.hid ((Below.refl w.heap.size w).alloc (Nat.le_refl _) (.cells #[.int .i64 x.op, .int .i64 x.n, .string x.name, .slice A3 x.kids.length c3] 96))
      generalize w.alloc (.cells #[.int .i64 x.op, .int .i64 x.n, .string x.name, .slice A3 x.kids.length c3] 96) = W1 at HM1 HNB hnw HBN ⊢
      skip
      clear hNB q0 q1 q2 q3 G0 G2
      refine start_ (n := 12) (S := fun w' => w'.cell? ⟨g, 3, none⟩ = some (.map (some m)) ∧ w'.cell? ⟨w.heap.size, 2, none⟩ = some (.string x.name) ∧ (Instr.lookup 123 (.map (some m)) (.string x.name) true).run Tryd.prog w' = .ok (.tuple #[.int .i64 r, .bool true]) w') (ds := []) #[false, false, false, false, false, false, false, false, false, false, false, false] (by kernel_rfl) rfl rfl ⟨blk_cell HM1.out.drew.blk 3, blk_cell HNB.out 2, HM1.out.drew.look hkey HT.out⟩ (fun hHeld => ?_)
      have HM2 := Lib.hid HM1.out.drew
      have HNB2 : Hid (W1.drew.heap[w.heap.size]? = some (.cells #[.int .i64 x.op, .int .i64 x.n, .string x.name, .slice A3 x.kids.length c3] 96 (0, 0))) := Lib.hid HNB.out
      have HBW2 : Hid (Below w.heap.size w W1.drew) := Lib.hid (below_drew HBN.out)
      have hnw2 : w.heap.size < W1.drew.heap.size := hnw
      clear hnw HM1 HNB HBN
      generalize W1.drew = W2 at hHeld HM2 HNB2 HBW2 hnw2 ⊢
      refine pure_ (i := 0) (N := some 23) (v := ?_) (a' := ?_) #[true, false, false, false, false, false, false, false, false, false, false, false] rfl rfl (by kernel_rfl) (fun _ _ _ h => h) (Or.inl ⟨by rfl, ?_⟩) ?_ ?_
      rotate_left
      · intro w'
        go_simp
        with_reducible rfl
      rotate_left
      · simp only [Act.put, List.setIfInBounds_toArray, List.set_cons_zero, List.set_cons_succ]
        rfl
      refine pure_ (i := 1) (N := some 24) (v := ?_) (a' := ?_) #[true, true, false, false, false, false, false, false, false, false, false, false] rfl rfl (by kernel_rfl) (fun _ _ _ h => h) (Or.inl ⟨by rfl, ?_⟩) ?_ ?_
      rotate_left
      · intro w'
        go_simp
        with_reducible rfl
      rotate_left
      · simp only [Act.put, List.setIfInBounds_toArray, List.set_cons_zero, List.set_cons_succ]
        rfl
      refine pure_ (i := 2) (N := some 25) (v := ?_) (a' := ?_) #[true, true, true, false, false, false, false, false, false, false, false, false] rfl rfl (by kernel_rfl) (fun _ _ _ h => h) (Or.inl ⟨by rfl, ?_⟩) ?_ ?_
      rotate_left
      · intro w'
        go_simp
        with_reducible rfl
      rotate_left
      · simp only [Act.put, List.setIfInBounds_toArray, List.set_cons_zero, List.set_cons_succ]
        rfl
      refine take_ (i := 3) (N := some 26) (v := ?_) (a' := ?_) #[true, true, true, true, false, false, false, false, false, false, false, false] rfl rfl (by kernel_rfl) (fun _ _ _ h => h) (Or.inl ⟨by rfl, ?_⟩) hHeld ?_ ?_
      rotate_left
      · rintro w' ⟨s0, s1, s2⟩
        go_simp
        with_reducible rfl
      rotate_left
      · simp only [Act.put, List.setIfInBounds_toArray, List.set_cons_zero, List.set_cons_succ]
        rfl
      refine pure_ (i := 4) (N := some 27) (v := ?_) (a' := ?_) #[true, true, true, true, true, false, false, false, false, false, false, false] rfl rfl (by kernel_rfl) (fun _ _ _ h => h) (Or.inl ⟨by rfl, ?_⟩) ?_ ?_
      rotate_left
      · intro w'
        go_simp
        with_reducible rfl
      rotate_left
      · simp only [Act.put, List.setIfInBounds_toArray, List.set_cons_zero, List.set_cons_succ]
        rfl
      refine take_ (i := 5) (N := some 28) (v := ?_) (a' := ?_) #[true, true, true, true, true, true, false, false, false, false, false, false] rfl rfl (by kernel_rfl) (fun _ _ _ h => h) (Or.inl ⟨by rfl, ?_⟩) hHeld ?_ ?_
      rotate_left
      · rintro w' ⟨s0, s1, s2⟩
        go_simp
        with_reducible rfl
      rotate_left
      · simp only [Act.put, List.setIfInBounds_toArray, List.set_cons_zero, List.set_cons_succ]
        rfl
      refine take_ (i := 6) (N := some 29) (v := ?_) (a' := ?_) #[true, true, true, true, true, true, true, false, false, false, false, false] rfl rfl (by kernel_rfl) (fun _ _ _ h => h) (Or.inl ⟨by rfl, ?_⟩) hHeld ?_ ?_
      rotate_left
      · rintro w' ⟨s0, s1, s2⟩
        go_simp
        with_reducible rfl
      rotate_left
      · simp only [Act.put, List.setIfInBounds_toArray, List.set_cons_zero, List.set_cons_succ]
        rfl
      refine pure_ (i := 7) (N := some 22) (v := ?_) (a' := ?_) #[true, true, true, true, true, true, true, true, false, false, false, false] rfl rfl (by kernel_rfl) (fun _ _ _ h => h) (Or.inl ⟨by rfl, ?_⟩) ?_ ?_
      rotate_left
      · intro w'
        go_simp
        with_reducible rfl
      rotate_left
      · simp only [Act.put, List.setIfInBounds_toArray, List.set_cons_zero, List.set_cons_succ]
        rfl
      refine pure_ (i := 8) (N := some 30) (v := ?_) (a' := ?_) #[true, true, true, true, true, true, true, true, true, false, false, false] rfl rfl (by kernel_rfl) (fun _ _ _ h => h) (Or.inl ⟨by rfl, ?_⟩) ?_ ?_
      rotate_left
      · intro w'
        go_simp
        with_reducible rfl
      rotate_left
      · simp only [Act.put, List.setIfInBounds_toArray, List.set_cons_zero, List.set_cons_succ]
        rfl
      refine pure_ (i := 9) (N := some 31) (v := ?_) (a' := ?_) #[true, true, true, true, true, true, true, true, true, true, false, false] rfl rfl (by kernel_rfl) (fun _ _ _ h => h) (Or.inl ⟨by rfl, ?_⟩) ?_ ?_
      rotate_left
      · intro w'
        go_simp
        with_reducible rfl
      rotate_left
      · simp only [Act.put, List.setIfInBounds_toArray, List.set_cons_zero, List.set_cons_succ]
        rfl
      refine pure_ (i := 10) (N := some 7) (v := ?_) (a' := ?_) #[true, true, true, true, true, true, true, true, true, true, true, false] rfl rfl (by kernel_rfl) (fun _ _ _ h => h) (Or.inl ⟨by rfl, ?_⟩) ?_ ?_
      rotate_left
      · intro w'
        go_simp
        with_reducible rfl
      rotate_left
      · simp only [Act.put, List.setIfInBounds_toArray, List.set_cons_zero, List.set_cons_succ]
        rfl
      refine pure_ (i := 11) (N := some 8) (v := ?_) (a' := ?_) #[true, true, true, true, true, true, true, true, true, true, true, true] rfl rfl (by kernel_rfl) (fun _ _ _ h => h) (Or.inl ⟨by rfl, ?_⟩) ?_ ?_
      rotate_left
      · intro w'
        go_simp
        with_reducible rfl
      rotate_left
      · simp only [Act.put, List.setIfInBounds_toArray, List.set_cons_zero, List.set_cons_succ]
        rfl
      refine done_ (by kernel_rfl) ?_
      clear hHeld
      have g0 := blk_cell HM2.out.blk 0
      have g1 := blk_cell HM2.out.blk 1
      have f1 := blk_frozen HM2.out.blk 1
      have hs2 := HM2.out.B.size
      go_wp2_with (refine Kd.R_append kCm (w0 := w0) w0.heap.size rfl (.tmp 37) (.tmp 41) 61 75 (.agg #[.int .i64 0, .int .i64 0, .int .i64 0, .int .i64 0, .int .i64 0, .string ⟨#[]⟩]) 56 rfl Tryd.underlying61 infoCm rfl (by decide) (by omega) (.slice Av s.list.length cv) s.list (⟨2, r, reg, 0, 0, ⟨#[]⟩⟩ : Cm) [.int .i64 2, .int .i64 r, .int .i64 reg, .int .i64 0, .int .i64 0, .string ⟨#[]⟩] (fun _ => True) (fun _ => False) rfl rfl ?aP (fun _ h => h.elim) (fun _ _ => trivial) ?aO ?aB ?aS ?aL ?_)
      case aP => exact kCm_mkM _ _ _ _
      case aO => exact HM2.out.row
      case aB => exact HM2.out.B
      case aS => exact hs2
      case aL => omega
      intro v1 w3 hR3 hb3 hg3 _
      obtain ⟨A3', c3', rfl, hc3', _⟩ := Kd.R_reads hR3
      have HM3 := Lib.hid (HM2.out.app hR3 hg3 hb3)
      skip
      have hblk : w3.heap[g]? = some (.cells #[.slice (some ad) e.length cp, .slice Av s.list.length cv, .int .i64 s.regs, .map (some m), .slice Ah hs.length ch] 125 (0, 0)) := (hg3.block g HM2.out.gw (Kd.R_ne HM2.out.row HM2.out.blk (by decide))).trans HM2.out.blk
      have g1' := blk_cell hblk 1
      have f1' := blk_frozen hblk 1
      clear hR3 hb3 hg3 hblk g0 g1 f1
      go_wp2
      refine bodyPost_ret (v := .tuple #[]) (by simp [results, Tryd.results52, go_sem]) rfl ⟨rfl, .slice A3' (s.list.length + 1) c3', ?_⟩
      simp only [List.length_append, List.length_cons, List.length_nil, Nat.zero_add] at HM3
      rw [HC.out]
      exact HM3.out.more (by simp only [sameC, List.length_append, List.length_cons, List.length_nil]; omega)
    | none =>
      have HC := Lib.hid (comp_take (hs := hs) (f := f) (reg := reg) HX.out hop ht)
      have HT := Lib.hid ht
      have HHM := Lib.hid (HHS.out hop)
      clear hop ht
      go_enter Tryd.func52, Tryd.ntmps52
      go_wp2_with fail
      have hNB : (w.alloc (.cells #[.int .i64 x.op, .int .i64 x.n, .string x.name, .slice A3 x.kids.length c3] 96)).heap[w.heap.size]? = some (.cells #[.int .i64 x.op, .int .i64 x.n, .string x.name, .slice A3 x.kids.length c3] 96 (0, 0)) := heap_alloc_new w _
      have HM1 := Lib.hid (HM.out.below ((Below.refl _ _).alloc (Nat.le_refl _) (.cells #[.int .i64 x.op, .int .i64 x.n, .string x.name, .slice A3 x.kids.length c3] 96)))
      have hgn : g ≠ w.heap.size := by omega
      have HNB := Lib.hid hNB
      have hnw : w.heap.size < (w.alloc (.cells #[.int .i64 x.op, .int .i64 x.n, .string x.name, .slice A3 x.kids.length c3] 96)).heap.size := by simp
      have HBN := Lib.hid ((Below.refl w.heap.size w).alloc (Nat.le_refl _) (.cells #[.int .i64 x.op, .int .i64 x.n, .string x.name, .slice A3 x.kids.length c3] 96))
      generalize w.alloc (.cells #[.int .i64 x.op, .int .i64 x.n, .string x.name, .slice A3 x.kids.length c3] 96) = W1 at HM1 HNB hnw HBN ⊢
      skip
      clear hNB q0 q1 q2 q3 G0 G2
      obtain ⟨v0, hlk⟩ := HM1.out.drew.look_none hkey HT.out
      refine start_ (n := 12) (S := fun w' => w'.cell? ⟨g, 3, none⟩ = some (.map (some m)) ∧ w'.cell? ⟨w.heap.size, 2, none⟩ = some (.string x.name) ∧ (Instr.lookup 123 (.map (some m)) (.string x.name) true).run Tryd.prog w' = .ok (.tuple #[v0, .bool false]) w') (ds := []) #[false, false, false, false, false, false, false, false, false, false, false, false] (by kernel_rfl) rfl rfl ⟨blk_cell HM1.out.drew.blk 3, blk_cell HNB.out 2, hlk⟩ (fun hHeld => ?_)
      clear hlk
      have HM2 := Lib.hid HM1.out.drew
      have HNB2 : Hid (W1.drew.heap[w.heap.size]? = some (.cells #[.int .i64 x.op, .int .i64 x.n, .string x.name, .slice A3 x.kids.length c3] 96 (0, 0))) := Lib.hid HNB.out
      have HBW2 : Hid (Below w.heap.size w W1.drew) := Lib.hid (below_drew HBN.out)
      have hnw2 : w.heap.size < W1.drew.heap.size := hnw
      clear hnw HM1 HNB HBN
      generalize W1.drew = W2 at hHeld HM2 HNB2 HBW2 hnw2 ⊢
      refine pure_ (i := 0) (N := some 23) (v := ?_) (a' := ?_) #[true, false, false, false, false, false, false, false, false, false, false, false] rfl rfl (by kernel_rfl) (fun _ _ _ h => h) (Or.inl ⟨by rfl, ?_⟩) ?_ ?_
      rotate_left
      · intro w'
        go_simp
        with_reducible rfl
      rotate_left
      · simp only [Act.put, List.setIfInBounds_toArray, List.set_cons_zero, List.set_cons_succ]
        rfl
      refine pure_ (i := 1) (N := some 24) (v := ?_) (a' := ?_) #[true, true, false, false, false, false, false, false, false, false, false, false] rfl rfl (by kernel_rfl) (fun _ _ _ h => h) (Or.inl ⟨by rfl, ?_⟩) ?_ ?_
      rotate_left
      · intro w'
        go_simp
        with_reducible rfl
      rotate_left
      · simp only [Act.put, List.setIfInBounds_toArray, List.set_cons_zero, List.set_cons_succ]
        rfl
      refine pure_ (i := 2) (N := some 25) (v := ?_) (a' := ?_) #[true, true, true, false, false, false, false, false, false, false, false, false] rfl rfl (by kernel_rfl) (fun _ _ _ h => h) (Or.inl ⟨by rfl, ?_⟩) ?_ ?_
      rotate_left
      · intro w'
        go_simp
        with_reducible rfl
      rotate_left
      · simp only [Act.put, List.setIfInBounds_toArray, List.set_cons_zero, List.set_cons_succ]
        rfl
      refine take_ (i := 3) (N := some 26) (v := ?_) (a' := ?_) #[true, true, true, true, false, false, false, false, false, false, false, false] rfl rfl (by kernel_rfl) (fun _ _ _ h => h) (Or.inl ⟨by rfl, ?_⟩) hHeld ?_ ?_
      rotate_left
      · rintro w' ⟨s0, s1, s2⟩
        go_simp
        with_reducible rfl
      rotate_left
      · simp only [Act.put, List.setIfInBounds_toArray, List.set_cons_zero, List.set_cons_succ]
        rfl
      refine pure_ (i := 4) (N := some 27) (v := ?_) (a' := ?_) #[true, true, true, true, true, false, false, false, false, false, false, false] rfl rfl (by kernel_rfl) (fun _ _ _ h => h) (Or.inl ⟨by rfl, ?_⟩) ?_ ?_
      rotate_left
      · intro w'
        go_simp
        with_reducible rfl
      rotate_left
      · simp only [Act.put, List.setIfInBounds_toArray, List.set_cons_zero, List.set_cons_succ]
        rfl
      refine take_ (i := 5) (N := some 28) (v := ?_) (a' := ?_) #[true, true, true, true, true, true, false, false, false, false, false, false] rfl rfl (by kernel_rfl) (fun _ _ _ h => h) (Or.inl ⟨by rfl, ?_⟩) hHeld ?_ ?_
      rotate_left
      · rintro w' ⟨s0, s1, s2⟩
        go_simp
        with_reducible rfl
      rotate_left
      · simp only [Act.put, List.setIfInBounds_toArray, List.set_cons_zero, List.set_cons_succ]
        rfl
      refine take_ (i := 6) (N := some 29) (v := ?_) (a' := ?_) #[true, true, true, true, true, true, true, false, false, false, false, false] rfl rfl (by kernel_rfl) (fun _ _ _ h => h) (Or.inl ⟨by rfl, ?_⟩) hHeld ?_ ?_
      rotate_left
      · rintro w' ⟨s0, s1, s2⟩
        go_simp
        with_reducible rfl
      rotate_left
      · simp only [Act.put, List.setIfInBounds_toArray, List.set_cons_zero, List.set_cons_succ]
        rfl
      refine pure_ (i := 7) (N := some 22) (v := ?_) (a' := ?_) #[true, true, true, true, true, true, true, true, false, false, false, false] rfl rfl (by kernel_rfl) (fun _ _ _ h => h) (Or.inl ⟨by rfl, ?_⟩) ?_ ?_
      rotate_left
      · intro w'
        go_simp
        with_reducible rfl
      rotate_left
      · simp only [Act.put, List.setIfInBounds_toArray, List.set_cons_zero, List.set_cons_succ]
        rfl
      refine pure_ (i := 8) (N := some 30) (v := ?_) (a' := ?_) #[true, true, true, true, true, true, true, true, true, false, false, false] rfl rfl (by kernel_rfl) (fun _ _ _ h => h) (Or.inl ⟨by rfl, ?_⟩) ?_ ?_
      rotate_left
      · intro w'
        go_simp
        with_reducible rfl
      rotate_left
      · simp only [Act.put, List.setIfInBounds_toArray, List.set_cons_zero, List.set_cons_succ]
        rfl
      refine pure_ (i := 9) (N := some 31) (v := ?_) (a' := ?_) #[true, true, true, true, true, true, true, true, true, true, false, false] rfl rfl (by kernel_rfl) (fun _ _ _ h => h) (Or.inl ⟨by rfl, ?_⟩) ?_ ?_
      rotate_left
      · intro w'
        go_simp
        with_reducible rfl
      rotate_left
      · simp only [Act.put, List.setIfInBounds_toArray, List.set_cons_zero, List.set_cons_succ]
        rfl
      refine pure_ (i := 10) (N := some 7) (v := ?_) (a' := ?_) #[true, true, true, true, true, true, true, true, true, true, true, false] rfl rfl (by kernel_rfl) (fun _ _ _ h => h) (Or.inl ⟨by rfl, ?_⟩) ?_ ?_
      rotate_left
      · intro w'
        go_simp
        with_reducible rfl
      rotate_left
      · simp only [Act.put, List.setIfInBounds_toArray, List.set_cons_zero, List.set_cons_succ]
        rfl
      refine pure_ (i := 11) (N := some 8) (v := ?_) (a' := ?_) #[true, true, true, true, true, true, true, true, true, true, true, true] rfl rfl (by kernel_rfl) (fun _ _ _ h => h) (Or.inl ⟨by rfl, ?_⟩) ?_ ?_
      rotate_left
      · intro w'
        go_simp
        with_reducible rfl
      rotate_left
      · simp only [Act.put, List.setIfInBounds_toArray, List.set_cons_zero, List.set_cons_succ]
        rfl
      refine done_ (by kernel_rfl) ?_
      clear hHeld
      have hwf : (Lit.int .i64 reg).wf = true := by
        have : wrap64 reg = reg := by unfold wrap64; omega
        rw [← this]; exact wrap64_wf _
      go_wp2_with fail
      refine start_ (n := 8) (S := fun w' => w'.cell? ⟨g, 3, none⟩ = some (.map (some m)) ∧ w'.cell? ⟨w.heap.size, 2, none⟩ = some (.string x.name)) (ds := [7]) #[false, false, false, false, false, false, false, false] (by kernel_rfl) rfl rfl ⟨blk_cell HM2.out.drew.blk 3, blk_cell HNB2.out 2⟩ (fun hHeld => ?_)
      have HM3 := Lib.hid HM2.out.drew
      have HNB3 : Hid (W2.drew.heap[w.heap.size]? = some (.cells #[.int .i64 x.op, .int .i64 x.n, .string x.name, .slice A3 x.kids.length c3] 96 (0, 0))) := Lib.hid HNB2.out
      have HBW3 : Hid (Below w.heap.size w W2.drew) := Lib.hid (below_drew HBW2.out)
      have hnw3 : w.heap.size < W2.drew.heap.size := hnw2
      clear hnw2 HM2 HNB2 HBW2
      generalize W2.drew = W3 at hHeld HM3 HNB3 HBW3 hnw3 ⊢
      refine pure_ (i := 0) (N := some 45) (v := ?_) (a' := ?_) #[true, false, false, false, false, false, false, false] rfl rfl (by kernel_rfl) (fun _ _ _ h => h) (Or.inl ⟨by rfl, ?_⟩) ?_ ?_
      rotate_left
      · intro w'
        go_simp
        with_reducible rfl
      rotate_left
      · simp only [Act.put, List.setIfInBounds_toArray, List.set_cons_zero, List.set_cons_succ]
        rfl
      refine pure_ (i := 1) (N := some 46) (v := ?_) (a' := ?_) #[true, true, false, false, false, false, false, false] rfl rfl (by kernel_rfl) (fun _ _ _ h => h) (Or.inl ⟨by rfl, ?_⟩) ?_ ?_
      rotate_left
      · intro w'
        go_simp
        with_reducible rfl
      rotate_left
      · simp only [Act.put, List.setIfInBounds_toArray, List.set_cons_zero, List.set_cons_succ]
        rfl
      refine pure_ (i := 2) (N := some 47) (v := ?_) (a' := ?_) #[true, true, true, false, false, false, false, false] rfl rfl (by kernel_rfl) (fun _ _ _ h => h) (Or.inl ⟨by rfl, ?_⟩) ?_ ?_
      rotate_left
      · intro w'
        go_simp
        with_reducible rfl
      rotate_left
      · simp only [Act.put, List.setIfInBounds_toArray, List.set_cons_zero, List.set_cons_succ]
        rfl
      refine take_ (i := 3) (N := some 48) (v := ?_) (a' := ?_) #[true, true, true, true, false, false, false, false] rfl rfl (by kernel_rfl) (fun _ _ _ h => h) (Or.inl ⟨by rfl, ?_⟩) hHeld ?_ ?_
      rotate_left
      · rintro w' ⟨s0, s1⟩
        go_simp
        with_reducible rfl
      rotate_left
      · simp only [Act.put, List.setIfInBounds_toArray, List.set_cons_zero, List.set_cons_succ]
        rfl
      refine pure_ (i := 4) (N := some 49) (v := ?_) (a' := ?_) #[true, true, true, true, true, false, false, false] rfl rfl (by kernel_rfl) (fun _ _ _ h => h) (Or.inl ⟨by rfl, ?_⟩) ?_ ?_
      rotate_left
      · intro w'
        go_simp
        with_reducible rfl
      rotate_left
      · simp only [Act.put, List.setIfInBounds_toArray, List.set_cons_zero, List.set_cons_succ]
        rfl
      refine take_ (i := 5) (N := some 50) (v := ?_) (a' := ?_) #[true, true, true, true, true, true, false, false] rfl rfl (by kernel_rfl) (fun _ _ _ h => h) (Or.inl ⟨by rfl, ?_⟩) hHeld ?_ ?_
      rotate_left
      · rintro w' ⟨s0, s1⟩
        go_simp
        with_reducible rfl
      rotate_left
      · simp only [Act.put, List.setIfInBounds_toArray, List.set_cons_zero, List.set_cons_succ]
        rfl
      refine pure_ (i := 6) (N := some 51) (v := ?_) (a' := ?_) #[true, true, true, true, true, true, true, false] rfl rfl (by kernel_rfl) (fun _ _ _ h => h) (Or.inl ⟨by rfl, ?_⟩) ?_ ?_
      rotate_left
      · intro w'
        go_simp
        with_reducible rfl
      rotate_left
      · simp only [Act.put, List.setIfInBounds_toArray, List.set_cons_zero, List.set_cons_succ]
        rfl
      obtain ⟨D, hown, hD⟩ := HM3.out.map
      obtain ⟨w4, hmu, hown4, hgr4⟩ := hown.update law9 Tryd.underlying123 (by unfold maxLen; omega) hkey (plainElem_int Tryd.underlying3 hwf)
      have HM4 := Lib.hid (HM3.out.upd hD hown4 hgr4 hown)
      have hmne : ∀ b cs t, W3.heap[b]? = some (Obj.cells cs t (0, 0)) → w4.heap[b]? = some (Obj.cells cs t (0, 0)) := fun b cs t hb => (hgr4.block b (Array.getElem?_eq_some_iff.1 hb).1 (fun he => ownsMap_cells hown hb (Option.some.inj he).symm)).trans hb
      have HNB4 := Lib.hid (hmne _ _ _ HNB3.out)
      have hs4 := hgr4.size
      clear hown4 hgr4 hown hD hmne
      refine last_ (i := 7) (N := none) #[true, true, true, true, true, true, true, true] rfl rfl (by kernel_rfl) (by decide) (fun K hK => ?_)
      refine skip_ (w1 := w4) rfl rfl ?hrun ?_
      case hrun =>
        go_simp
      refine hK.out _ _ ?_
      clear hK K
      refine done_ (by kernel_rfl) ?_
      clear hmu hHeld
      have hnw4 : w.heap.size < w4.heap.size := by omega
      go_wp2_with fail
      refine start_ (n := 19) (S := fun w' => w'.cell? ⟨g, 1, none⟩ = some (.slice Av s.list.length cv) ∧ w'.cell? ⟨g, 4, none⟩ = some (.slice Ah hs.length ch) ∧ w'.cell? ⟨w.heap.size, 2, none⟩ = some (.string x.name)) (ds := [18]) #[false, false, false, false, false, false, false, false, false, false, false, false, false, false, false, false, false, false, false] (by kernel_rfl) rfl rfl ⟨blk_cell HM4.out.drew.blk 1, blk_cell HM4.out.drew.blk 4, blk_cell HNB4.out 2⟩ (fun hHeld => ?_)
      have HM5 := Lib.hid HM4.out.drew
      have hs5 := HM5.out.B.size
      have hnbne' : some w.heap.size ≠ (Value.slice Av s.list.length cv).ownBlock := Kd.R_ne HM5.out.row (show w4.drew.heap[w.heap.size]? = some (.cells #[.int .i64 x.op, .int .i64 x.n, .string x.name, .slice A3 x.kids.length c3] 96 (0, 0)) from HNB4.out) (by decide)
      have hnw4' : w.heap.size < w4.drew.heap.size := hnw4
      clear HM4 HNB4
      generalize w4.drew = W5 at hHeld HM5 hs5 hnw4' ⊢
      have HNC := Lib.hid hHeld.2.2
      have hnbne : some w.heap.size ≠ (Value.slice Av s.list.length cv).ownBlock := hnbne'
      have hnw5 : w.heap.size < W5.heap.size := hnw4'
      have HSI := Lib.hid (sidx_any hs x.name Ah ch W5 (Kd.R_reads' HM5.out.hol).2.2 HHM.out h6)
      refine pure_ (i := 0) (N := some 52) (v := ?_) (a' := ?_) #[true, false, false, false, false, false, false, false, false, false, false, false, false, false, false, false, false, false, false] rfl rfl (by kernel_rfl) (fun _ _ _ h => h) (Or.inl ⟨by rfl, ?_⟩) ?_ ?_
      rotate_left
      · intro w'
        go_simp
        with_reducible rfl
      rotate_left
      · simp only [Act.put, List.setIfInBounds_toArray, List.set_cons_zero, List.set_cons_succ]
        rfl
      refine pure_ (i := 1) (N := some 53) (v := ?_) (a' := ?_) #[true, true, false, false, false, false, false, false, false, false, false, false, false, false, false, false, false, false, false] rfl rfl (by kernel_rfl) (fun _ _ _ h => h) (Or.inl ⟨by rfl, ?_⟩) ?_ ?_
      rotate_left
      · intro w'
        go_simp
        with_reducible rfl
      rotate_left
      · simp only [Act.put, List.setIfInBounds_toArray, List.set_cons_zero, List.set_cons_succ]
        rfl
      refine pure_ (i := 2) (N := some 54) (v := ?_) (a' := ?_) #[true, true, true, false, false, false, false, false, false, false, false, false, false, false, false, false, false, false, false] rfl rfl (by kernel_rfl) (fun _ _ _ h => h) (Or.inl ⟨by rfl, ?_⟩) ?_ ?_
      rotate_left
      · intro w'
        go_simp
        with_reducible rfl
      rotate_left
      · simp only [Act.put, List.setIfInBounds_toArray, List.set_cons_zero, List.set_cons_succ]
        rfl
      refine pure_ (i := 3) (N := some 55) (v := ?_) (a' := ?_) #[true, true, true, true, false, false, false, false, false, false, false, false, false, false, false, false, false, false, false] rfl rfl (by kernel_rfl) (fun _ _ _ h => h) (Or.inl ⟨by rfl, ?_⟩) ?_ ?_
      rotate_left
      · intro w'
        go_simp
        with_reducible rfl
      rotate_left
      · simp only [Act.put, List.setIfInBounds_toArray, List.set_cons_zero, List.set_cons_succ]
        rfl
      refine take_ (i := 4) (N := some 56) (v := ?_) (a' := ?_) #[true, true, true, true, true, false, false, false, false, false, false, false, false, false, false, false, false, false, false] rfl rfl (by kernel_rfl) (fun _ _ _ h => h) (Or.inl ⟨by rfl, ?_⟩) hHeld ?_ ?_
      rotate_left
      · rintro w' ⟨s0, s1, s2⟩
        go_simp
        with_reducible rfl
      rotate_left
      · simp only [Act.put, List.setIfInBounds_toArray, List.set_cons_zero, List.set_cons_succ]
        rfl
      refine pure_ (i := 5) (N := some 57) (v := ?_) (a' := ?_) #[true, true, true, true, true, true, false, false, false, false, false, false, false, false, false, false, false, false, false] rfl rfl (by kernel_rfl) (fun _ _ _ h => h) (Or.inl ⟨by rfl, ?_⟩) ?_ ?_
      rotate_left
      · intro w'
        go_simp
        with_reducible rfl
      rotate_left
      · simp only [Act.put, List.setIfInBounds_toArray, List.set_cons_zero, List.set_cons_succ]
        rfl
      refine pure_ (i := 6) (N := some 58) (v := ?_) (a' := ?_) #[true, true, true, true, true, true, true, false, false, false, false, false, false, false, false, false, false, false, false] rfl rfl (by kernel_rfl) (fun _ _ _ h => h) (Or.inl ⟨by rfl, ?_⟩) ?_ ?_
      rotate_left
      · intro w'
        go_simp
        with_reducible rfl
      rotate_left
      · simp only [Act.put, List.setIfInBounds_toArray, List.set_cons_zero, List.set_cons_succ]
        rfl
      refine pure_ (i := 7) (N := some 59) (v := ?_) (a' := ?_) #[true, true, true, true, true, true, true, true, false, false, false, false, false, false, false, false, false, false, false] rfl rfl (by kernel_rfl) (fun _ _ _ h => h) (Or.inl ⟨by rfl, ?_⟩) ?_ ?_
      rotate_left
      · intro w'
        go_simp
        with_reducible rfl
      rotate_left
      · simp only [Act.put, List.setIfInBounds_toArray, List.set_cons_zero, List.set_cons_succ]
        rfl
      refine pure_ (i := 8) (N := some 60) (v := ?_) (a' := ?_) #[true, true, true, true, true, true, true, true, true, false, false, false, false, false, false, false, false, false, false] rfl rfl (by kernel_rfl) (fun _ _ _ h => h) (Or.inl ⟨by rfl, ?_⟩) ?_ ?_
      rotate_left
      · intro w'
        go_simp
        with_reducible rfl
      rotate_left
      · simp only [Act.put, List.setIfInBounds_toArray, List.set_cons_zero, List.set_cons_succ]
        rfl
      refine take_ (i := 9) (N := some 61) (v := ?_) (a' := ?_) #[true, true, true, true, true, true, true, true, true, true, false, false, false, false, false, false, false, false, false] rfl rfl (by kernel_rfl) (fun _ _ _ h => h) (Or.inl ⟨by rfl, ?_⟩) hHeld ?_ ?_
      rotate_left
      · rintro w' ⟨s0, s1, s2⟩
        go_simp
        with_reducible rfl
      rotate_left
      · simp only [Act.put, List.setIfInBounds_toArray, List.set_cons_zero, List.set_cons_succ]
        rfl
      refine pure_ (i := 10) (N := some 62) (v := ?_) (a' := ?_) #[true, true, true, true, true, true, true, true, true, true, true, false, false, false, false, false, false, false, false] rfl rfl (by kernel_rfl) (fun _ _ _ h => h) (Or.inl ⟨by rfl, ?_⟩) ?_ ?_
      rotate_left
      · intro w'
        go_simp
        with_reducible rfl
      rotate_left
      · simp only [Act.put, List.setIfInBounds_toArray, List.set_cons_zero, List.set_cons_succ]
        rfl
      refine take_ (i := 11) (N := some 63) (v := ?_) (a' := ?_) #[true, true, true, true, true, true, true, true, true, true, true, true, false, false, false, false, false, false, false] rfl rfl (by kernel_rfl) (fun _ _ _ h => h) (Or.inl ⟨by rfl, ?_⟩) hHeld ?_ ?_
      rotate_left
      · rintro w' ⟨s0, s1, s2⟩
        go_simp
        with_reducible rfl
      rotate_left
      · simp only [Act.put, List.setIfInBounds_toArray, List.set_cons_zero, List.set_cons_succ]
        rfl
      refine one_ (i := 12) (N := some 64) #[true, true, true, true, true, true, true, true, true, true, true, true, true, false, false, false, false, false, false] rfl rfl (by kernel_rfl) (by decide) (fun K hK => ?_)
      refine goes_ Tryd.func67 (by kernel_rfl) rfl #[.slice Ah hs.length ch, .string x.name] (by rfl) rfl rfl (by (try simp only [List.map_toArray, List.map_cons, List.map_nil]); first | done | rfl) ?_
      refine HSI.out.mono ?_
      rintro en w' ⟨rfl, rfl⟩
      refine ⟨_, rfl, ?_⟩
      refine hK.out _ _ hHeld (fun hHeld => ?_)
      clear hK K
      refine norm_ (a' := ?_) ?_ ?_
      rotate_left
      · show Act.put _ (some 64) _ = _
        simp only [Act.put, List.setIfInBounds_toArray, List.set_cons_zero, List.set_cons_succ]
        rfl
      refine pure_ (i := 13) (N := some 65) (v := ?_) (a' := ?_) #[true, true, true, true, true, true, true, true, true, true, true, true, true, true, false, false, false, false, false] rfl rfl (by kernel_rfl) (fun _ _ _ h => h) (Or.inl ⟨by rfl, ?_⟩) ?_ ?_
      rotate_left
      · intro w'
        go_simp
        with_reducible rfl
      rotate_left
      · simp only [Act.put, List.setIfInBounds_toArray, List.set_cons_zero, List.set_cons_succ]
        rfl
      refine one_ (i := 14) (N := some 66) #[true, true, true, true, true, true, true, true, true, true, true, true, true, true, true, false, false, false, false] rfl rfl (by kernel_rfl) (by decide) (fun K hK => ?_)
      refine value_ (v := .slice (some ⟨W5.heap.size, 0, none⟩) 1 1) (w1 := W5.alloc (.cells #[.int .i64 3, .int .i64 reg, .int .i64 (idx hs x.name : Int), .int .i64 0, .int .i64 0, .string ⟨#[]⟩] 75)) rfl rfl ?hrun ?_
      case hrun =>
        go_simp
      refine hK.out _ _ ⟨(nd_below ((Below.refl _ _).alloc (Nat.le_refl _) _) hHeld.1), (nd_below ((Below.refl _ _).alloc (Nat.le_refl _) _) hHeld.2.1), (nd_below ((Below.refl _ _).alloc (Nat.le_refl _) _) hHeld.2.2)⟩ (fun hHeld => ?_)
      clear hK K
      refine norm_ (a' := ?_) ?_ ?_
      rotate_left
      · show Act.put _ (some 66) _ = _
        simp only [Act.put, List.setIfInBounds_toArray, List.set_cons_zero, List.set_cons_succ]
        rfl
      refine one_ (i := 15) (N := some 67) #[true, true, true, true, true, true, true, true, true, true, true, true, true, true, true, true, false, false, false] rfl rfl (by kernel_rfl) (by decide) (fun K hK => ?_)
      refine Kd.R_append_step kCm (w0 := w0) w0.heap.size rfl (.tmp 56) (.tmp 66) 61 75 (.agg #[.int .i64 0, .int .i64 0, .int .i64 0, .int .i64 0, .int .i64 0, .string ⟨#[]⟩]) 56 rfl Tryd.underlying61 infoCm rfl (by decide) (by omega) (.slice Av s.list.length cv) s.list (⟨3, reg, (idx hs x.name : Int), 0, 0, ⟨#[]⟩⟩ : Cm) [.int .i64 3, .int .i64 reg, .int .i64 (idx hs x.name : Int), .int .i64 0, .int .i64 0, .string ⟨#[]⟩] (fun _ => True) (fun _ => False) rfl rfl ?aP (fun _ h => h.elim) (fun _ _ => trivial) ?aO ?aB ?aS ?aL ?_
      case aP => exact kCm_mkM _ _ _ _
      case aO => exact HM5.out.row
      case aB => exact HM5.out.B
      case aS => exact hs5
      case aL => omega
      intro v1 w6 hR6 hb6 hg6 _
      obtain ⟨A3', c3', rfl, hc3', _⟩ := Kd.R_reads hR6
      have HM6 := Lib.hid (HM5.out.app hR6 hg6 hb6)
      have hblk : w6.heap[g]? = some (.cells #[.slice (some ad) e.length cp, .slice Av s.list.length cv, .int .i64 s.regs, .map (some m), .slice Ah hs.length ch] 125 (0, 0)) := (hg6.block g HM5.out.gw (Kd.R_ne HM5.out.row HM5.out.blk (by decide))).trans HM5.out.blk
      have hnb6 : w6.cell? ⟨w.heap.size, 2, none⟩ = some (.string x.name) := (World.cell?_of_block (hg6.block w.heap.size hnw5 hnbne)).trans HNC.out
      clear hR6 hb6 hg6
      refine hK.out _ _ ⟨blk_cell hblk 1, blk_cell hblk 4, hnb6⟩ (fun hHeld => ?_)
      clear hK K
      refine norm_ (a' := ?_) ?_ ?_
      rotate_left
      · show Act.put _ (some 67) _ = _
        simp only [Act.put, List.setIfInBounds_toArray, List.set_cons_zero, List.set_cons_succ]
        rfl
      refine pure_ (i := 16) (N := some 68) (v := ?_) (a' := ?_) #[true, true, true, true, true, true, true, true, true, true, true, true, true, true, true, true, true, false, false] rfl rfl (by kernel_rfl) (fun _ _ _ h => h) (Or.inl ⟨by rfl, ?_⟩) ?_ ?_
      rotate_left
      · intro w'
        go_simp
        with_reducible rfl
      rotate_left
      · simp only [Act.put, List.setIfInBounds_toArray, List.set_cons_zero, List.set_cons_succ]
        rfl
      refine pure_ (i := 17) (N := some 69) (v := ?_) (a' := ?_) #[true, true, true, true, true, true, true, true, true, true, true, true, true, true, true, true, true, true, false] rfl rfl (by kernel_rfl) (fun _ _ _ h => h) (Or.inl ⟨by rfl, ?_⟩) ?_ ?_
      rotate_left
      · intro w'
        go_simp
        with_reducible rfl
      rotate_left
      · simp only [Act.put, List.setIfInBounds_toArray, List.set_cons_zero, List.set_cons_succ]
        rfl
      have f1' := blk_frozen hblk 1
      refine last_ (i := 18) (N := none) #[true, true, true, true, true, true, true, true, true, true, true, true, true, true, true, true, true, true, true] rfl rfl (by kernel_rfl) (by decide) (fun K hK => ?_)
      refine skip_ (w1 := w6.setCell ⟨g, 1, none⟩ (.slice A3' (s.list ++ [(⟨3, reg, (idx hs x.name : Int), 0, 0, ⟨#[]⟩⟩ : Cm)]).length c3')) rfl rfl ?hrun ?_
      case hrun =>
        go_simp
      refine hK.out _ _ ?_
      clear hK K
      refine done_ (by kernel_rfl) ?_
      clear hHeld hblk hnb6 f1'
      generalize w6.setCell ⟨g, 1, none⟩ (.slice A3' (s.list ++ [(⟨3, reg, (idx hs x.name : Int), 0, 0, ⟨#[]⟩⟩ : Cm)]).length c3') = w7 at HM6 ⊢
      go_wp2
      refine bodyPost_ret (v := .tuple #[]) (by simp [results, Tryd.results52, go_sem]) rfl ⟨rfl, (.slice A3' (s.list ++ [(⟨3, reg, (idx hs x.name : Int), 0, 0, ⟨#[]⟩⟩ : Cm)]).length c3'), ?_⟩
      rw [HC.out]
      exact HM6.out.more (by simp only [takeC, List.length_append, List.length_cons, List.length_nil]; omega)
  · have o1 : (x.op == 18) = false := beq_eq_false_iff_ne.2 hop
    have HC := Lib.hid (comp_class (hs := hs) (f := f) (reg := reg) (s := s) HX.out hop)
    have HK33 : Hid (x.kids.length ≤ 3) := Lib.hid (by
      have h := HFM.out
      rw [plain_self hop] at h
      obtain ⟨k, h1, h2⟩ := form_kids h
      have := arity_le h1; omega)
    have HCI : Hid (CInv hs (classC x reg s)) := Lib.hid (class_inv HI.out (by have h := HFM.out; rwa [plain_self hop] at h) h0 h1)
    clear hop
    go_enter Tryd.func52, Tryd.ntmps52
    go_wp2_with fail
    have hNB : (w.alloc (.cells #[.int .i64 x.op, .int .i64 x.n, .string x.name, .slice A3 x.kids.length c3] 96)).heap[w.heap.size]? = some (.cells #[.int .i64 x.op, .int .i64 x.n, .string x.name, .slice A3 x.kids.length c3] 96 (0, 0)) := heap_alloc_new w _
    have HM1 := Lib.hid (HM.out.below ((Below.refl _ _).alloc (Nat.le_refl _) (.cells #[.int .i64 x.op, .int .i64 x.n, .string x.name, .slice A3 x.kids.length c3] 96)))
    have hgn : g ≠ w.heap.size := by omega
    have HNB := Lib.hid hNB
    have hnw : w.heap.size < (w.alloc (.cells #[.int .i64 x.op, .int .i64 x.n, .string x.name, .slice A3 x.kids.length c3] 96)).heap.size := by simp
    have HBN := Lib.hid ((Below.refl w.heap.size w).alloc (Nat.le_refl _) (.cells #[.int .i64 x.op, .int .i64 x.n, .string x.name, .slice A3 x.kids.length c3] 96))
    generalize w.alloc (.cells #[.int .i64 x.op, .int .i64 x.n, .string x.name, .slice A3 x.kids.length c3] 96) = W1 at HM1 HNB hnw HBN ⊢
    skip
    clear hNB q0 q1 q2 q3 G0 G2
    refine start_ (n := 19) (S := fun w' => w'.cell? ⟨g, 1, none⟩ = some (.slice Av s.list.length cv) ∧ w'.cell? ⟨w.heap.size, 0, none⟩ = some (.int .i64 x.op) ∧ w'.cell? ⟨w.heap.size, 1, none⟩ = some (.int .i64 x.n) ∧ w'.cell? ⟨w.heap.size, 2, none⟩ = some (.string x.name)) (ds := [18]) #[false, false, false, false, false, false, false, false, false, false, false, false, false, false, false, false, false, false, false] (by kernel_rfl) rfl rfl ⟨blk_cell HM1.out.drew.blk 1, blk_cell HNB.out 0, blk_cell HNB.out 1, blk_cell HNB.out 2⟩ (fun hHeld => ?_)
    have HM5 := Lib.hid HM1.out.drew
    have hs5 := HM5.out.B.size
    have HNB5 : Hid (W1.drew.heap[w.heap.size]? = some (.cells #[.int .i64 x.op, .int .i64 x.n, .string x.name, .slice A3 x.kids.length c3] 96 (0, 0))) := Lib.hid HNB.out
    have hnw5 : w.heap.size < W1.drew.heap.size := hnw
    clear HM1 HNB hnw HBN
    generalize W1.drew = W5 at hHeld HM5 hs5 HNB5 hnw5 ⊢
    have hnbne : some w.heap.size ≠ (Value.slice Av s.list.length cv).ownBlock := Kd.R_ne HM5.out.row HNB5.out (by decide)
    refine pure_ (i := 0) (N := some 74) (v := ?_) (a' := ?_) #[true, false, false, false, false, false, false, false, false, false, false, false, false, false, false, false, false, false, false] rfl rfl (by kernel_rfl) (fun _ _ _ h => h) (Or.inl ⟨by rfl, ?_⟩) ?_ ?_
    rotate_left
    · intro w'
      go_simp
      with_reducible rfl
    rotate_left
    · simp only [Act.put, List.setIfInBounds_toArray, List.set_cons_zero, List.set_cons_succ]
      rfl
    refine pure_ (i := 1) (N := some 75) (v := ?_) (a' := ?_) #[true, true, false, false, false, false, false, false, false, false, false, false, false, false, false, false, false, false, false] rfl rfl (by kernel_rfl) (fun _ _ _ h => h) (Or.inl ⟨by rfl, ?_⟩) ?_ ?_
    rotate_left
    · intro w'
      go_simp
      with_reducible rfl
    rotate_left
    · simp only [Act.put, List.setIfInBounds_toArray, List.set_cons_zero, List.set_cons_succ]
      rfl
    refine pure_ (i := 2) (N := some 76) (v := ?_) (a' := ?_) #[true, true, true, false, false, false, false, false, false, false, false, false, false, false, false, false, false, false, false] rfl rfl (by kernel_rfl) (fun _ _ _ h => h) (Or.inl ⟨by rfl, ?_⟩) ?_ ?_
    rotate_left
    · intro w'
      go_simp
      with_reducible rfl
    rotate_left
    · simp only [Act.put, List.setIfInBounds_toArray, List.set_cons_zero, List.set_cons_succ]
      rfl
    refine pure_ (i := 3) (N := some 77) (v := ?_) (a' := ?_) #[true, true, true, true, false, false, false, false, false, false, false, false, false, false, false, false, false, false, false] rfl rfl (by kernel_rfl) (fun _ _ _ h => h) (Or.inl ⟨by rfl, ?_⟩) ?_ ?_
    rotate_left
    · intro w'
      go_simp
      with_reducible rfl
    rotate_left
    · simp only [Act.put, List.setIfInBounds_toArray, List.set_cons_zero, List.set_cons_succ]
      rfl
    refine take_ (i := 4) (N := some 78) (v := ?_) (a' := ?_) #[true, true, true, true, true, false, false, false, false, false, false, false, false, false, false, false, false, false, false] rfl rfl (by kernel_rfl) (fun _ _ _ h => h) (Or.inl ⟨by rfl, ?_⟩) hHeld ?_ ?_
    rotate_left
    · rintro w' ⟨s0, s1, s2, s3⟩
      go_simp
      with_reducible rfl
    rotate_left
    · simp only [Act.put, List.setIfInBounds_toArray, List.set_cons_zero, List.set_cons_succ]
      rfl
    refine pure_ (i := 5) (N := some 79) (v := ?_) (a' := ?_) #[true, true, true, true, true, true, false, false, false, false, false, false, false, false, false, false, false, false, false] rfl rfl (by kernel_rfl) (fun _ _ _ h => h) (Or.inl ⟨by rfl, ?_⟩) ?_ ?_
    rotate_left
    · intro w'
      go_simp
      with_reducible rfl
    rotate_left
    · simp only [Act.put, List.setIfInBounds_toArray, List.set_cons_zero, List.set_cons_succ]
      rfl
    refine pure_ (i := 6) (N := some 80) (v := ?_) (a' := ?_) #[true, true, true, true, true, true, true, false, false, false, false, false, false, false, false, false, false, false, false] rfl rfl (by kernel_rfl) (fun _ _ _ h => h) (Or.inl ⟨by rfl, ?_⟩) ?_ ?_
    rotate_left
    · intro w'
      go_simp
      with_reducible rfl
    rotate_left
    · simp only [Act.put, List.setIfInBounds_toArray, List.set_cons_zero, List.set_cons_succ]
      rfl
    refine pure_ (i := 7) (N := some 81) (v := ?_) (a' := ?_) #[true, true, true, true, true, true, true, true, false, false, false, false, false, false, false, false, false, false, false] rfl rfl (by kernel_rfl) (fun _ _ _ h => h) (Or.inl ⟨by rfl, ?_⟩) ?_ ?_
    rotate_left
    · intro w'
      go_simp
      with_reducible rfl
    rotate_left
    · simp only [Act.put, List.setIfInBounds_toArray, List.set_cons_zero, List.set_cons_succ]
      rfl
    refine take_ (i := 8) (N := some 82) (v := ?_) (a' := ?_) #[true, true, true, true, true, true, true, true, true, false, false, false, false, false, false, false, false, false, false] rfl rfl (by kernel_rfl) (fun _ _ _ h => h) (Or.inl ⟨by rfl, ?_⟩) hHeld ?_ ?_
    rotate_left
    · rintro w' ⟨s0, s1, s2, s3⟩
      go_simp
      with_reducible rfl
    rotate_left
    · simp only [Act.put, List.setIfInBounds_toArray, List.set_cons_zero, List.set_cons_succ]
      rfl
    refine pure_ (i := 9) (N := some 83) (v := ?_) (a' := ?_) #[true, true, true, true, true, true, true, true, true, true, false, false, false, false, false, false, false, false, false] rfl rfl (by kernel_rfl) (fun _ _ _ h => h) (Or.inl ⟨by rfl, ?_⟩) ?_ ?_
    rotate_left
    · intro w'
      go_simp
      with_reducible rfl
    rotate_left
    · simp only [Act.put, List.setIfInBounds_toArray, List.set_cons_zero, List.set_cons_succ]
      rfl
    refine take_ (i := 10) (N := some 84) (v := ?_) (a' := ?_) #[true, true, true, true, true, true, true, true, true, true, true, false, false, false, false, false, false, false, false] rfl rfl (by kernel_rfl) (fun _ _ _ h => h) (Or.inl ⟨by rfl, ?_⟩) hHeld ?_ ?_
    rotate_left
    · rintro w' ⟨s0, s1, s2, s3⟩
      go_simp
      with_reducible rfl
    rotate_left
    · simp only [Act.put, List.setIfInBounds_toArray, List.set_cons_zero, List.set_cons_succ]
      rfl
    refine pure_ (i := 11) (N := some 85) (v := ?_) (a' := ?_) #[true, true, true, true, true, true, true, true, true, true, true, true, false, false, false, false, false, false, false] rfl rfl (by kernel_rfl) (fun _ _ _ h => h) (Or.inl ⟨by rfl, ?_⟩) ?_ ?_
    rotate_left
    · intro w'
      go_simp
      with_reducible rfl
    rotate_left
    · simp only [Act.put, List.setIfInBounds_toArray, List.set_cons_zero, List.set_cons_succ]
      rfl
    refine take_ (i := 12) (N := some 86) (v := ?_) (a' := ?_) #[true, true, true, true, true, true, true, true, true, true, true, true, true, false, false, false, false, false, false] rfl rfl (by kernel_rfl) (fun _ _ _ h => h) (Or.inl ⟨by rfl, ?_⟩) hHeld ?_ ?_
    rotate_left
    · rintro w' ⟨s0, s1, s2, s3⟩
      go_simp
      with_reducible rfl
    rotate_left
    · simp only [Act.put, List.setIfInBounds_toArray, List.set_cons_zero, List.set_cons_succ]
      rfl
    refine pure_ (i := 13) (N := some 87) (v := ?_) (a' := ?_) #[true, true, true, true, true, true, true, true, true, true, true, true, true, true, false, false, false, false, false] rfl rfl (by kernel_rfl) (fun _ _ _ h => h) (Or.inl ⟨by rfl, ?_⟩) ?_ ?_
    rotate_left
    · intro w'
      go_simp
      with_reducible rfl
    rotate_left
    · simp only [Act.put, List.setIfInBounds_toArray, List.set_cons_zero, List.set_cons_succ]
      rfl
    refine one_ (i := 14) (N := some 88) #[true, true, true, true, true, true, true, true, true, true, true, true, true, true, true, false, false, false, false] rfl rfl (by kernel_rfl) (by decide) (fun K hK => ?_)
    refine value_ (v := .slice (some ⟨W5.heap.size, 0, none⟩) 1 1) (w1 := W5.alloc (.cells #[.int .i64 1, .int .i64 reg, .int .i64 s.regs, .int .i64 x.op, .int .i64 x.n, .string x.name] 75)) rfl rfl ?hrun ?_
    case hrun =>
      go_simp
    refine hK.out _ _ ⟨(nd_below ((Below.refl _ _).alloc (Nat.le_refl _) _) hHeld.1), (nd_below ((Below.refl _ _).alloc (Nat.le_refl _) _) hHeld.2.1), (nd_below ((Below.refl _ _).alloc (Nat.le_refl _) _) hHeld.2.2.1), (nd_below ((Below.refl _ _).alloc (Nat.le_refl _) _) hHeld.2.2.2)⟩ (fun hHeld => ?_)
    clear hK K
    refine norm_ (a' := ?_) ?_ ?_
    rotate_left
    · show Act.put _ (some 88) _ = _
      simp only [Act.put, List.setIfInBounds_toArray, List.set_cons_zero, List.set_cons_succ]
      rfl
    refine one_ (i := 15) (N := some 89) #[true, true, true, true, true, true, true, true, true, true, true, true, true, true, true, true, false, false, false] rfl rfl (by kernel_rfl) (by decide) (fun K hK => ?_)
    refine Kd.R_append_step kCm (w0 := w0) w0.heap.size rfl (.tmp 78) (.tmp 88) 61 75 (.agg #[.int .i64 0, .int .i64 0, .int .i64 0, .int .i64 0, .int .i64 0, .string ⟨#[]⟩]) 56 rfl Tryd.underlying61 infoCm rfl (by decide) (by omega) (.slice Av s.list.length cv) s.list (⟨1, reg, s.regs, x.op, x.n, x.name⟩ : Cm) [.int .i64 1, .int .i64 reg, .int .i64 s.regs, .int .i64 x.op, .int .i64 x.n, .string x.name] (fun _ => True) (fun _ => False) rfl rfl ?aP (fun _ h => h.elim) (fun _ _ => trivial) ?aO ?aB ?aS ?aL ?_
    case aP => exact kCm_mkM _ _ _ _
    case aO => exact HM5.out.row
    case aB => exact HM5.out.B
    case aS => exact hs5
    case aL => omega
    intro v1 w6 hR6 hb6 hg6 _
    obtain ⟨A3', c3', rfl, hc3', _⟩ := Kd.R_reads hR6
    have HM6 := Lib.hid (HM5.out.app hR6 hg6 hb6)
    have hblk : w6.heap[g]? = some (.cells #[.slice (some ad) e.length cp, .slice Av s.list.length cv, .int .i64 s.regs, .map (some m), .slice Ah hs.length ch] 125 (0, 0)) := (hg6.block g HM5.out.gw (Kd.R_ne HM5.out.row HM5.out.blk (by decide))).trans HM5.out.blk
    have hnb6 : w6.heap[w.heap.size]? = some (.cells #[.int .i64 x.op, .int .i64 x.n, .string x.name, .slice A3 x.kids.length c3] 96 (0, 0)) := (hg6.block w.heap.size hnw5 hnbne).trans HNB5.out
    clear hR6 hb6 hg6
    refine hK.out _ _ ⟨blk_cell hblk 1, blk_cell hnb6 0, blk_cell hnb6 1, blk_cell hnb6 2⟩ (fun hHeld => ?_)
    clear hK K
    refine norm_ (a' := ?_) ?_ ?_
    rotate_left
    · show Act.put _ (some 89) _ = _
      simp only [Act.put, List.setIfInBounds_toArray, List.set_cons_zero, List.set_cons_succ]
      rfl
    refine pure_ (i := 16) (N := some 90) (v := ?_) (a' := ?_) #[true, true, true, true, true, true, true, true, true, true, true, true, true, true, true, true, true, false, false] rfl rfl (by kernel_rfl) (fun _ _ _ h => h) (Or.inl ⟨by rfl, ?_⟩) ?_ ?_
    rotate_left
    · intro w'
      go_simp
      with_reducible rfl
    rotate_left
    · simp only [Act.put, List.setIfInBounds_toArray, List.set_cons_zero, List.set_cons_succ]
      rfl
    refine pure_ (i := 17) (N := some 91) (v := ?_) (a' := ?_) #[true, true, true, true, true, true, true, true, true, true, true, true, true, true, true, true, true, true, false] rfl rfl (by kernel_rfl) (fun _ _ _ h => h) (Or.inl ⟨by rfl, ?_⟩) ?_ ?_
    rotate_left
    · intro w'
      go_simp
      with_reducible rfl
    rotate_left
    · simp only [Act.put, List.setIfInBounds_toArray, List.set_cons_zero, List.set_cons_succ]
      rfl
    have f1' := blk_frozen hblk 1
    refine last_ (i := 18) (N := none) #[true, true, true, true, true, true, true, true, true, true, true, true, true, true, true, true, true, true, true] rfl rfl (by kernel_rfl) (by decide) (fun K hK => ?_)
    refine skip_ (w1 := w6.setCell ⟨g, 1, none⟩ (.slice A3' (s.list ++ [(⟨1, reg, s.regs, x.op, x.n, x.name⟩ : Cm)]).length c3')) rfl rfl ?hrun ?_
    case hrun =>
      go_simp
    refine hK.out _ _ ?_
    clear hK K
    refine done_ (by kernel_rfl) ?_
    have HNB7 : Hid ((w6.setCell ⟨g, 1, none⟩ (.slice A3' (s.list ++ [(⟨1, reg, s.regs, x.op, x.n, x.name⟩ : Cm)]).length c3')).heap[w.heap.size]? = some (.cells #[.int .i64 x.op, .int .i64 x.n, .string x.name, .slice A3 x.kids.length c3] 96 (0, 0))) := Lib.hid ((Below.heap_setCell w6 ⟨g, 1, none⟩ (.slice A3' (s.list ++ [(⟨1, reg, s.regs, x.op, x.n, x.name⟩ : Cm)]).length c3') w.heap.size (fun he => hgn he.symm)).trans hnb6)
    clear hHeld hblk hnb6 f1' HM5 HNB5 hnw5 hs5
    generalize w6.setCell ⟨g, 1, none⟩ (.slice A3' (s.list ++ [(⟨1, reg, s.regs, x.op, x.n, x.name⟩ : Cm)]).length c3') = W7 at HM6 HNB7 ⊢
    have hlen7 : (s.list ++ [(⟨1, reg, s.regs, x.op, x.n, x.name⟩ : Cm)]).length = s.list.length + 1 := by simp
    have HL7 := Lib.hid hlen7
    clear hlen7
    have hk3 : x.kids.length ≤ 3 := HK33.out
    go_wp2_with fail
    refine start_ (n := 11) (S := fun w' => w'.cell? ⟨g, 2, none⟩ = some (.int .i64 s.regs) ∧ w'.cell? ⟨w.heap.size, 3, none⟩ = some (.slice A3 x.kids.length c3)) (ds := [10]) #[false, false, false, false, false, false, false, false, false, false, false] (by kernel_rfl) rfl rfl ⟨blk_cell HM6.out.drew.blk 2, blk_cell HNB7.out 3⟩ (fun hHeld => ?_)
    have HM8 := Lib.hid HM6.out.drew
    have HNB8 : Hid (W7.drew.heap[w.heap.size]? = some (.cells #[.int .i64 x.op, .int .i64 x.n, .string x.name, .slice A3 x.kids.length c3] 96 (0, 0))) := Lib.hid HNB7.out
    clear HM6 HNB7
    generalize W7.drew = W8 at hHeld HM8 HNB8 ⊢
    have hwr : IntKind.i64.wrap (s.regs + (x.kids.length : Int)) = s.regs + (x.kids.length : Int) := by rw [i64_w]; unfold wrap64; omega
    refine pure_ (i := 0) (N := some 92) (v := ?_) (a' := ?_) #[true, false, false, false, false, false, false, false, false, false, false] rfl rfl (by kernel_rfl) (fun _ _ _ h => h) (Or.inl ⟨by rfl, ?_⟩) ?_ ?_
    rotate_left
    · intro w'
      go_simp
      with_reducible rfl
    rotate_left
    · simp only [Act.put, List.setIfInBounds_toArray, List.set_cons_zero, List.set_cons_succ]
      rfl
    refine pure_ (i := 1) (N := some 93) (v := ?_) (a' := ?_) #[true, true, false, false, false, false, false, false, false, false, false] rfl rfl (by kernel_rfl) (fun _ _ _ h => h) (Or.inl ⟨by rfl, ?_⟩) ?_ ?_
    rotate_left
    · intro w'
      go_simp
      with_reducible rfl
    rotate_left
    · simp only [Act.put, List.setIfInBounds_toArray, List.set_cons_zero, List.set_cons_succ]
      rfl
    refine pure_ (i := 2) (N := some 94) (v := ?_) (a' := ?_) #[true, true, true, false, false, false, false, false, false, false, false] rfl rfl (by kernel_rfl) (fun _ _ _ h => h) (Or.inl ⟨by rfl, ?_⟩) ?_ ?_
    rotate_left
    · intro w'
      go_simp
      with_reducible rfl
    rotate_left
    · simp only [Act.put, List.setIfInBounds_toArray, List.set_cons_zero, List.set_cons_succ]
      rfl
    refine take_ (i := 3) (N := some 95) (v := ?_) (a' := ?_) #[true, true, true, true, false, false, false, false, false, false, false] rfl rfl (by kernel_rfl) (fun _ _ _ h => h) (Or.inl ⟨by rfl, ?_⟩) hHeld ?_ ?_
    rotate_left
    · rintro w' ⟨s0, s1⟩
      go_simp
      with_reducible rfl
    rotate_left
    · simp only [Act.put, List.setIfInBounds_toArray, List.set_cons_zero, List.set_cons_succ]
      rfl
    refine pure_ (i := 4) (N := some 96) (v := ?_) (a' := ?_) #[true, true, true, true, true, false, false, false, false, false, false] rfl rfl (by kernel_rfl) (fun _ _ _ h => h) (Or.inl ⟨by rfl, ?_⟩) ?_ ?_
    rotate_left
    · intro w'
      go_simp
      with_reducible rfl
    rotate_left
    · simp only [Act.put, List.setIfInBounds_toArray, List.set_cons_zero, List.set_cons_succ]
      rfl
    refine take_ (i := 5) (N := some 97) (v := ?_) (a' := ?_) #[true, true, true, true, true, true, false, false, false, false, false] rfl rfl (by kernel_rfl) (fun _ _ _ h => h) (Or.inl ⟨by rfl, ?_⟩) hHeld ?_ ?_
    rotate_left
    · rintro w' ⟨s0, s1⟩
      go_simp
      with_reducible rfl
    rotate_left
    · simp only [Act.put, List.setIfInBounds_toArray, List.set_cons_zero, List.set_cons_succ]
      rfl
    refine pure_ (i := 6) (N := some 98) (v := ?_) (a' := ?_) #[true, true, true, true, true, true, true, false, false, false, false] rfl rfl (by kernel_rfl) (fun _ _ _ h => h) (Or.inl ⟨by rfl, ?_⟩) ?_ ?_
    rotate_left
    · intro w'
      go_simp
      with_reducible rfl
    rotate_left
    · simp only [Act.put, List.setIfInBounds_toArray, List.set_cons_zero, List.set_cons_succ]
      rfl
    refine pure_ (i := 7) (N := some 99) (v := ?_) (a' := ?_) #[true, true, true, true, true, true, true, true, false, false, false] rfl rfl (by kernel_rfl) (fun _ _ _ h => h) (Or.inl ⟨by rfl, ?_⟩) ?_ ?_
    rotate_left
    · intro w'
      go_simp
      with_reducible rfl
    rotate_left
    · simp only [Act.put, List.setIfInBounds_toArray, List.set_cons_zero, List.set_cons_succ]
      rfl
    refine pure_ (i := 8) (N := some 100) (v := ?_) (a' := ?_) #[true, true, true, true, true, true, true, true, true, false, false] rfl rfl (by kernel_rfl) (fun _ _ _ h => h) (Or.inl ⟨by rfl, ?_⟩) ?_ ?_
    rotate_left
    · intro w'
      go_simp
      with_reducible rfl
    rotate_left
    · simp only [Act.put, List.setIfInBounds_toArray, List.set_cons_zero, List.set_cons_succ]
      rfl
    refine pure_ (i := 9) (N := some 101) (v := ?_) (a' := ?_) #[true, true, true, true, true, true, true, true, true, true, false] rfl rfl (by kernel_rfl) (fun _ _ _ h => h) (Or.inl ⟨by rfl, ?_⟩) ?_ ?_
    rotate_left
    · intro w'
      go_simp
      with_reducible rfl
    rotate_left
    · simp only [Act.put, List.setIfInBounds_toArray, List.set_cons_zero, List.set_cons_succ]
      rfl
    have f2' := blk_frozen HM8.out.blk 2
    refine last_ (i := 10) (N := none) #[true, true, true, true, true, true, true, true, true, true, true] rfl rfl (by kernel_rfl) (by decide) (fun K hK => ?_)
    refine skip_ (w1 := W8.setCell ⟨g, 2, none⟩ (.int .i64 (s.regs + (x.kids.length : Int)))) rfl rfl ?hrun ?_
    case hrun =>
      go_simp
    refine hK.out _ _ ?_
    clear hK K
    refine done_ (by kernel_rfl) ?_
    have HM9 := Lib.hid (HM8.out.regs (s.regs + (x.kids.length : Int)))
    have HNB9 : Hid ((W8.setCell ⟨g, 2, none⟩ (.int .i64 (s.regs + (x.kids.length : Int)))).heap[w.heap.size]? = some (.cells #[.int .i64 x.op, .int .i64 x.n, .string x.name, .slice A3 x.kids.length c3] 96 (0, 0))) := Lib.hid ((Below.heap_setCell W8 ⟨g, 2, none⟩ (.int .i64 (s.regs + (x.kids.length : Int))) w.heap.size (fun he => hgn he.symm)).trans HNB8.out)
    clear hHeld f2' HM8 HNB8 hwr
    generalize W8.setCell ⟨g, 2, none⟩ (.int .i64 (s.regs + (x.kids.length : Int))) = W9 at HM9 HNB9 ⊢
    have n3 := blk_cell HNB9.out 3
    have HM9' : Hid (CMem e (some ad) cp w0 g m Ah ch hs (classC x reg s).list.length (classC x reg s) (.slice A3' (s.list ++ [(⟨1, reg, s.regs, x.op, x.n, x.name⟩ : Cm)]).length c3') W9) := Lib.hid (HM9.out.more (by simp only [classC, List.length_append]; omega))
    clear HM9
    obtain ⟨ks, hkk, hsegs⟩ : ∃ ks : List Nat, x.kids = ks.map (fun (k : Nat) => (k : Int)) ∧ Segs e lo ks i := by
      cases HSEG.out with
      | node x' ks hx' hk h =>
        have : x' = x := by have := HX.out; rw [hx'] at this; exact Option.some.inj this
        subst this
        exact ⟨ks, hk, h⟩
    have HKK := Lib.hid hkk
    have HSS := Lib.hid hsegs
    have hkl : ks.length = x.kids.length := by rw [hkk]; simp
    have HKL := Lib.hid hkl
    have hr0 : 0 ≤ s.regs := by omega
    have hr49 : s.regs ≤ 49 := by omega
    clear hkk hsegs hkl
    go_wp2
    simp only [List.length_append, List.length_cons, List.length_nil, Nat.zero_add]
    go_loopw [105] (fun iv wr => ∃ (j : Nat) (v1 : Value), iv = .int .i64 j ∧ j ≤ x.kids.length ∧ Hid (CMem e (some ad) cp w0 g m Ah ch hs (kidsC (comp e hs f) (x.kids.take j) s.regs (classC x reg s)).list.length (kidsC (comp e hs f) (x.kids.take j) s.regs (classC x reg s)) v1 wr)) (fun iv _ => x.kids.length - (intOf iv).toNat)
    case atStart => exact ⟨0, _, rfl, by omega, HM9'⟩
    case round =>
      obtain ⟨j, v1, rfl, hj, hM⟩ := hrel
      by_cases hjl : j < x.kids.length
      · obtain ⟨kn, hkn⟩ : ∃ kn, ks[j]? = some kn := ⟨_, List.getElem?_eq_getElem (by rw [HKL.out]; exact hjl)⟩
        have hxk : x.kids[j]? = some (kn : Int) := by rw [HKK.out, List.getElem?_map, hkn]; rfl
        obtain ⟨mid, hsg, hlm, hmk, hki, hst⟩ := kids_prefix HLAW.out HSS.out (by omega) s.regs (classC x reg s) HCI.out hr0 (by simp only [classC]; rw [HKL.out]; omega) hkn
        rw [← HKK.out] at hst
        obtain ⟨ad3, hA3, hcell⟩ := int_at HK3.out hxk
        subst hA3
        have hcell' := nd_below hM.out.B hcell
        have hnext := kidsC_next (comp e hs f) x.kids j kn s.regs (classC x reg s) hxk
        rw [Int.toNat_natCast] at hnext
        have HNEXT := Lib.hid hnext
        have hcl : (classC x reg s).list.length = s.list.length + 1 := by simp [classC]
        have hcr : (classC x reg s).regs = s.regs + (x.kids.length : Int) := rfl
        have hq1 := hst.mono
        have hq2 := hst.top
        have hq3 := hst.len
        rw [hcr] at hq1 hq2
        rw [hcl] at hq3
        have hif2 : kn < f := by omega
        have HCALL := Lib.hid (HIH.out mid kn hsg hif2 (some ad) cp w0 g m Ah ch _ _ v1 wr (s.regs + (j : Int)) hM.out HP.out hst.inv (by omega) (by omega) (by omega) (Nat.le_refl _) (by omega))
        obtain ⟨wo, rfl⟩ : ∃ wo : World, wo = wr := ⟨_, rfl⟩
        clear hst hq1 hq2 hq3 hcl hcr hnext hcell hxk hkn hsg hM
        go_wp2_with (go_at_call 52; refine HCALL.out.mono ?_; rintro en w2 ⟨rfl, v2, hM2⟩; have HM2 := Lib.hid hM2; clear hM2)
        go_roundw
        case rel => exact ⟨j + 1, v2, by go_num, by omega, by rw [HNEXT.out]; exact HM2⟩
        case measure => simp [intOf]; omega
      · have hje : j = x.kids.length := by omega
        have hMM := hM.out
        rw [hje, List.take_length] at hMM
        have HMM := Lib.hid hMM
        clear hMM hje hM
        go_wp2
        refine bodyPost_ret (v := .tuple #[]) (by simp [results, Tryd.results52, go_sem]) rfl ⟨rfl, v1, ?_⟩
        rw [HC.out]
        exact HMM.out
theorem node_any (e : List Nd) (hs : List ByteArray) (hnd : hs.Nodup) (hfm : ∀ x ∈ e, form (plainN x) = true) (hhs : ∀ x ∈ e, x.op = 18 → x.name ∈ hs) (hn : ∀ x ∈ e, x.name.size ≤ maxLen) (h6 : hs.length ≤ 6) : ∀ (f lo i : Nat), Seg e lo i → i < f → NodeC e hs f lo i
  | 0, _, _, _, h => by omega
  | f + 1, lo, i, hs1, hi => node_step e hs hnd hfm hhs hn h6 f (node_any e hs hnd hfm hhs hn h6 f) lo i hs1 hi
end Go.Proofs.YticaocadeeolkaaDoor
