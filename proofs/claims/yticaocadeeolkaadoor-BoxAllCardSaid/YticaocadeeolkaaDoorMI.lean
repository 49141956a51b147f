/-
  CELLS: what a cell names, and the terms and expressions that cells stand for; in plain Lean.
  THE WALK of the law's head: the operator that a cell names, and its parts.
  CELLS, MORE: the expressions of all cells; none is long; cells in memory.
-/
import Derived.Test.YticaocadeeolkaaDoorMH

namespace Go.Proofs.YticaocadeeolkaaDoor.Plain
open Go

structure Cl where
  kind : Int
  op : Int
  n : Int
  name : ByteArray
  a : Int
  b : Int
  c : Int
def headOp (x : Cl) : Int := if x.kind = 1 then 1 else if x.kind = 2 then 2 else if x.kind = 3 then x.op else if x.kind = 4 then x.op else if x.kind = 5 then 17 else 0
def headKids (x : Cl) : List Int := if x.kind = 1 then [] else if x.kind = 2 then [] else if x.kind = 3 then [x.a] else if x.kind = 4 then [x.a, x.b] else if x.kind = 5 then [x.c, x.a, x.b] else []
theorem headKids_le (x : Cl) : (headKids x).length ≤ 3 := by unfold headKids; (repeat' split) <;> simp
def headN (x : Cl) : Int := if x.kind = 1 then x.n else 0
def headName (x : Cl) : ByteArray := if x.kind = 2 then x.name else ⟨#[]⟩
/-- The value of an earlier cell, or none. -/
def getT (ts : List Tm) (i : Nat) (k : Int) : Tm := if 0 ≤ k ∧ k < (i : Int) then ts.getD k.toNat .nil else .nil
def getE (es : List (List Nd)) (i : Nat) (k : Int) : List Nd := if 0 ≤ k ∧ k < (i : Int) then es.getD k.toNat [] else []
/-- The expression of a cell, out of the earlier ones. -/
def exprOf (es : List (List Nd)) (i : Nat) (x : Cl) : List Nd := makeT (headOp x) (headN x) (headName x) ((headKids x).map (getE es i))
/-- What the value of a cell is, out of the earlier ones. -/
def ValOk (ts : List Tm) (i : Nat) (x : Cl) (t : Tm) : Prop :=
  (x.kind = 1 ∧ t = .lit x.n) ∨ (x.kind = 2 ∧ t = .var x.name) ∨ (x.kind = 3 ∧ t = .un x.op (getT ts i x.a)) ∨ (x.kind = 4 ∧ t = .bin x.op (getT ts i x.a) (getT ts i x.b)) ∨
  (x.kind = 5 ∧ t = .ite (getT ts i x.c) (getT ts i x.a) (getT ts i x.b)) ∨ (x.kind ≠ 1 ∧ x.kind ≠ 2 ∧ x.kind ≠ 3 ∧ x.kind ≠ 4 ∧ x.kind ≠ 5 ∧ (t = .nil ∨ ∃ T v, t = .other T v))
theorem open_get {ts : List Tm} {es : List (List Nd)} {i : Nat} (h : ∀ j, j < i → openT (ts.getD j .nil) = es.getD j []) (k : Int) : openT (getT ts i k) = getE es i k := by
  unfold getT getE
  split
  · rename_i hk
    exact h k.toNat (by omega)
  · exact open_none rfl
/-- What Open makes of a cell's value is the cell's expression. -/
theorem open_val {ts : List Tm} {es : List (List Nd)} {i : Nat} {x : Cl} {t : Tm} (h : ∀ j, j < i → openT (ts.getD j .nil) = es.getD j []) (hv : ValOk ts i x t) : openT t = exprOf es i x := by
  unfold exprOf headOp headKids headN headName
  rcases hv with ⟨hk, rfl⟩ | ⟨hk, rfl⟩ | ⟨hk, rfl⟩ | ⟨hk, rfl⟩ | ⟨hk, rfl⟩ | ⟨h1, h2, h3, h4, h5, ht⟩
  · simp [hk, open_lit]
  · simp [hk, open_var]
  · simp [hk, open_un, open_get h]
  · simp [hk, open_bin, open_get h]
  · simp [hk, open_ite, open_get h]
  · simp only [h1, h2, h3, h4, h5, if_false, make_zero]
    rcases ht with rfl | ⟨T, v, rfl⟩
    · exact open_none rfl
    · exact open_none rfl
end Go.Proofs.YticaocadeeolkaaDoor.Plain

namespace Go.Proofs.YticaocadeeolkaaDoor
open Go.RowKit Plain Go.Proofs.YticaocadeeolkaaDoorW.PrintWords Go.Proofs.YticaocadeeolkaaDoorW.PrintLast Go.Proofs.YticaocadeeolkaaDoorW.PrintMore

def cellV (x : Cl) : Array Value := #[.int .i64 x.kind, .int .i64 x.op, .int .i64 x.n, .string x.name, .int .i64 x.a, .int .i64 x.b, .int .i64 x.c]
theorem R_ints {W : World} {base g : Nat} (xs : List Int) (h : W.heap[g]? = some (.cells (xs.map (Value.int .i64)).toArray 3 (0, 0))) (hb : base ≤ g) (hm : xs.length ≤ maxLen) : Kd.R (Kd.int .i64) 3 W base (fun _ => True) (.slice (some ⟨g, 0, none⟩) xs.length xs.length) xs :=
  R_of_block (Value.int .i64) (fun _ => rfl) h hb hm
def HeadOk (x : Cl) (w : World) (en : Ending) (w' : World) : Prop := ∃ v, en = .returned (.tuple #[.int .i64 (headOp x), v]) ∧ Kd.R (Kd.int .i64) 3 w' w.heap.size (fun _ => True) v (headKids x) ∧ Below w.heap.size w w'
set_option maxHeartbeats 8000000 in
set_option maxRecDepth 100000 in
theorem head_any (x : Cl) (w : World) : Calls Tryd.prog 36 #[.agg (cellV x)] w (HeadOk x w) := by
  obtain ⟨kind, op, n, name, a, b, c⟩ := x
  unfold cellV
  simp only
  have hu := Tryd.underlying84
  by_cases h1 : kind = 1
  · subst h1
    go_enter Tryd.func36, Tryd.ntmps36
    go_wp2
    go_ret2
    exact ⟨_, rfl, Kd.R_nil _ _ _ _ _, by repeat (first | exact Below.refl _ _ | (refine Below.drew ?_) | (refine Below.alloc ?_ (by simp) _))⟩
  have e1 : (kind == 1) = false := beq_eq_false_iff_ne.2 h1
  by_cases h2 : kind = 2
  · subst h2
    go_enter Tryd.func36, Tryd.ntmps36
    go_wp2
    go_ret2
    exact ⟨_, rfl, Kd.R_nil _ _ _ _ _, by repeat (first | exact Below.refl _ _ | (refine Below.drew ?_) | (refine Below.alloc ?_ (by simp) _))⟩
  have e2 : (kind == 2) = false := beq_eq_false_iff_ne.2 h2
  by_cases h3 : kind = 3
  · subst h3
    go_enter Tryd.func36, Tryd.ntmps36
    go_wp2
    go_region
    go_wp2
    go_ret2
    exact ⟨.slice (some ⟨w.heap.size + 1, 0, none⟩) 1 1, rfl, R_ints [a] (heap_two w _ _) (by omega) (by simp [maxLen]), by repeat (first | exact Below.refl _ _ | (refine Below.drew ?_) | (refine Below.alloc ?_ (by simp; try omega) _))⟩
  have e3 : (kind == 3) = false := beq_eq_false_iff_ne.2 h3
  by_cases h4 : kind = 4
  · subst h4
    go_enter Tryd.func36, Tryd.ntmps36
    go_wp2
    go_region
    go_wp2
    go_ret2
    exact ⟨.slice (some ⟨w.heap.size + 1, 0, none⟩) 2 2, rfl, R_ints [a, b] (heap_two w _ _) (by omega) (by simp [maxLen]), by repeat (first | exact Below.refl _ _ | (refine Below.drew ?_) | (refine Below.alloc ?_ (by simp; try omega) _))⟩
  have e4 : (kind == 4) = false := beq_eq_false_iff_ne.2 h4
  by_cases h5 : kind = 5
  · subst h5
    go_enter Tryd.func36, Tryd.ntmps36
    go_wp2
    go_region
    go_wp2
    go_ret2
    exact ⟨.slice (some ⟨w.heap.size + 1, 0, none⟩) 3 3, rfl, R_ints [c, a, b] (heap_two w _ _) (by omega) (by simp [maxLen]), by repeat (first | exact Below.refl _ _ | (refine Below.drew ?_) | (refine Below.alloc ?_ (by simp; try omega) _))⟩
  have e5 : (kind == 5) = false := beq_eq_false_iff_ne.2 h5
  have hop : Hid (headOp ⟨kind, op, n, name, a, b, c⟩ = 0 ∧ headKids ⟨kind, op, n, name, a, b, c⟩ = []) := Lib.hid (by simp [headOp, headKids, h1, h2, h3, h4, h5])
  clear h1 h2 h3 h4 h5
  go_enter Tryd.func36, Tryd.ntmps36
  go_wp2
  go_ret2
  refine ⟨.slice none 0 0, ?_, ?_, by repeat (first | exact Below.refl _ _ | (refine Below.drew ?_) | (refine Below.alloc ?_ (by simp) _))⟩
  · rw [hop.out.1]; rfl
  · rw [hop.out.2]; exact Kd.R_nil _ _ _ _ _
end Go.Proofs.YticaocadeeolkaaDoor

namespace Go.Proofs.YticaocadeeolkaaDoor.Plain
open Go

def exprsGo : List Cl → List (List Nd) → List (List Nd)
  | [], es => es
  | x :: r, es => exprsGo r (es ++ [exprOf es es.length x])
def exprsL (cs : List Cl) : List (List Nd) := exprsGo cs []
theorem exprsGo_append : ∀ (c d : List Cl) (es : List (List Nd)), exprsGo (c ++ d) es = exprsGo d (exprsGo c es)
  | [], _, _ => rfl
  | _ :: c, d, es => by simp only [List.cons_append, exprsGo]; exact exprsGo_append c d _
theorem exprsGo_length : ∀ (c : List Cl) (es : List (List Nd)), (exprsGo c es).length = es.length + c.length
  | [], _ => rfl
  | _ :: c, es => by rw [exprsGo, exprsGo_length c]; simp; omega
theorem exprsL_length (c : List Cl) : (exprsL c).length = c.length := by simp [exprsL, exprsGo_length]
theorem exprsL_next (cs : List Cl) (i : Nat) (x : Cl) (hx : cs[i]? = some x) : exprsL (cs.take (i + 1)) = exprsL (cs.take i) ++ [exprOf (exprsL (cs.take i)) i x] := by
  have hlt := (List.getElem?_eq_some_iff.1 hx).1
  rw [List.take_succ_eq_append_getElem hlt, (List.getElem?_eq_some_iff.1 hx).2]
  unfold exprsL
  rw [exprsGo_append]
  show exprsGo (cs.take i) [] ++ [exprOf _ (exprsGo (cs.take i) []).length x] = _
  have := exprsGo_length (cs.take i) []
  rw [this]
  congr 3
  simp; omega
def short (M : Nat) (p : List Nd) : Prop := p.length ≤ 64 ∧ ∀ x ∈ p, x.name.size ≤ M
theorem shift_names {M : Nat} {b : Int} {p : List Nd} (h : ∀ x ∈ p, x.name.size ≤ M) : ∀ x ∈ shift b p, x.name.size ≤ M := by
  intro x hx
  obtain ⟨y, hy, rfl⟩ := List.mem_map.1 hx
  exact h y hy
theorem joinGo_names {M : Nat} : ∀ (ps : List (List Nd)) (l : List Nd) (ks : List Int), (∀ p ∈ ps, ∀ x ∈ p, x.name.size ≤ M) → (∀ x ∈ l, x.name.size ≤ M) → ∀ x ∈ (joinGo ps l ks).1, x.name.size ≤ M
  | [], _, _, _, hl => hl
  | p :: r, l, ks, hp, hl => by
    refine joinGo_names r _ _ (fun q hq => hp q (List.mem_cons_of_mem _ hq)) (fun x hx => ?_)
    rcases List.mem_append.1 hx with h | h
    · exact hl x h
    · exact shift_names (hp p List.mem_cons_self) x h
theorem joinGo_length : ∀ (ps : List (List Nd)) (l : List Nd) (ks : List Int), (joinGo ps l ks).1.length = l.length + sizes ps
  | [], _, _ => by simp [joinGo, sizes]
  | p :: r, l, ks => by rw [joinGo, joinGo_length r]; simp [sizes, shift_length]; omega
theorem make_short {M : Nat} {op n : Int} {name : ByteArray} {ps : List (List Nd)} (hn : name.size ≤ M) (hp : ∀ p ∈ ps, short M p) : short M (makeT op n name ps) := by
  unfold makeT
  split
  · split
    · split
      · rename_i h64
        refine ⟨?_, fun x hx => ?_⟩
        · unfold joined; rw [List.length_append, joinGo_length]; simp; omega
        · unfold joined at hx
          rcases List.mem_append.1 hx with h | h
          · exact joinGo_names ps [] [] (fun p hpp => (hp p hpp).2) (fun _ h => by cases h) x h
          · rw [List.mem_singleton.1 h]; exact hn
      · exact ⟨by simp, fun _ h => by cases h⟩
    · exact ⟨by simp, fun _ h => by cases h⟩
  · exact ⟨by simp, fun _ h => by cases h⟩
theorem getE_short {M : Nat} {es : List (List Nd)} (h : ∀ p ∈ es, short M p) (i : Nat) (k : Int) : short M (getE es i k) := by
  unfold getE
  split
  · rw [List.getD_eq_getElem?_getD]
    cases hh : es[k.toNat]? with
    | none => exact ⟨by simp, fun _ h => by cases h⟩
    | some p => exact h p (List.mem_of_getElem? hh)
  · exact ⟨by simp, fun _ h => by cases h⟩
theorem exprsGo_short {M : Nat} : ∀ (cs : List Cl) (es : List (List Nd)), (∀ x ∈ cs, x.name.size ≤ M) → (∀ p ∈ es, short M p) → ∀ p ∈ exprsGo cs es, short M p
  | [], _, _, he => he
  | x :: r, es, hc, he => by
    refine exprsGo_short r _ (fun y hy => hc y (List.mem_cons_of_mem _ hy)) (fun p hp => ?_)
    rcases List.mem_append.1 hp with h | h
    · exact he p h
    · rw [List.mem_singleton.1 h]
      refine make_short ?_ (fun q hq => ?_)
      · unfold headName; split
        · exact hc x List.mem_cons_self
        · exact Nat.zero_le _
      · obtain ⟨k, _, rfl⟩ := List.mem_map.1 hq
        exact getE_short he _ _
theorem exprsL_short {M : Nat} {cs : List Cl} (h : ∀ x ∈ cs, x.name.size ≤ M) : ∀ p ∈ exprsL cs, short M p := exprsGo_short cs [] h (fun _ h => by cases h)
end Go.Proofs.YticaocadeeolkaaDoor.Plain
namespace Go.Proofs.YticaocadeeolkaaDoor
open Go.RowKit Plain Go.Proofs.YticaocadeeolkaaDoorW.PrintWords Go.Proofs.YticaocadeeolkaaDoorW.PrintLast Go.Proofs.YticaocadeeolkaaDoorW.PrintMore
def kCl : Kd Cl := Kd.iso (Kd.pair (Kd.int .i64) (Kd.pair (Kd.int .i64) (Kd.pair (Kd.int .i64) (Kd.pair Kd.string (Kd.pair (Kd.int .i64) (Kd.pair (Kd.int .i64) (Kd.int .i64))))))) (fun x : Cl => (x.kind, x.op, x.n, x.name, x.a, x.b, x.c))
theorem kCl_open {w : World} {x : Cl} {cs : List Value} (h : kCl.K w x cs) : cs = [.int .i64 x.kind, .int .i64 x.op, .int .i64 x.n, .string x.name, .int .i64 x.a, .int .i64 x.b, .int .i64 x.c] := by
  obtain ⟨_, _, rfl, rfl, ⟨_, _, rfl, rfl, ⟨_, _, rfl, rfl, ⟨_, _, rfl, rfl, ⟨_, _, rfl, rfl, ⟨_, _, rfl, rfl, rfl⟩⟩⟩⟩⟩⟩ := h
  rfl
theorem kCl_mkK (w : World) (x : Cl) : kCl.K w x [.int .i64 x.kind, .int .i64 x.op, .int .i64 x.n, .string x.name, .int .i64 x.a, .int .i64 x.b, .int .i64 x.c] :=
  ⟨[_], _, rfl, rfl, ⟨[_], _, rfl, rfl, ⟨[_], _, rfl, rfl, ⟨[_], _, rfl, rfl, ⟨[_], _, rfl, rfl, ⟨[_], _, rfl, rfl, rfl⟩⟩⟩⟩⟩⟩
theorem cl_at {w : World} {A : Option Addr} {n : Nat} {cs : List Cl} (h : Kd.C kCl w A n cs) {k : Nat} {x : Cl} (hx : cs[k]? = some x) :
    ∃ ad, A = some ad ∧ w.cell? (ad.add (k * 7)) = some (.int .i64 x.kind) ∧ w.cell? ⟨(ad.add (k * 7)).block, (ad.add (k * 7)).off + 1, none⟩ = some (.int .i64 x.op) ∧
      w.cell? ⟨(ad.add (k * 7)).block, (ad.add (k * 7)).off + 2, none⟩ = some (.int .i64 x.n) ∧ w.cell? ⟨(ad.add (k * 7)).block, (ad.add (k * 7)).off + 3, none⟩ = some (.string x.name) ∧
      w.cell? ⟨(ad.add (k * 7)).block, (ad.add (k * 7)).off + 4, none⟩ = some (.int .i64 x.a) ∧ w.cell? ⟨(ad.add (k * 7)).block, (ad.add (k * 7)).off + 5, none⟩ = some (.int .i64 x.b) ∧
      w.cell? ⟨(ad.add (k * 7)).block, (ad.add (k * 7)).off + 6, none⟩ = some (.int .i64 x.c) := by
  have hlt := (List.getElem?_eq_some_iff.1 hx).1
  have hn : cs.length = n := h.1
  obtain ⟨ad, he, hc⟩ := h.2.2 (by omega)
  obtain ⟨c, hs, hr, hcell⟩ := hc k x hx
  have hr' := kCl_open hr
  subst hr'
  have h7 : kCl.sz = 7 := rfl
  rw [h7] at hcell
  have key : ∀ (j : Nat) (v : Value), 0 < j → [.int .i64 x.kind, .int .i64 x.op, .int .i64 x.n, .string x.name, .int .i64 x.a, .int .i64 x.b, .int .i64 x.c][j]? = some v → w.cell? ⟨(ad.add (k * 7)).block, (ad.add (k * 7)).off + j, none⟩ = some v := by
    intro j v hj hv
    have h1 := hcell j v hv
    have : (ad.add (k * 7 + j)) = ⟨(ad.add (k * 7)).block, (ad.add (k * 7)).off + j, none⟩ := by
      obtain ⟨b, o, s⟩ := ad
      simp only [Addr.add]
      rw [if_neg (by omega)]
      split
      · simp only [Addr.mk.injEq, and_true, true_and]; omega
      · simp only [Addr.mk.injEq, and_true, true_and]; omega
    rw [← this]; exact h1
  exact ⟨ad, he, hcell 0 _ rfl, key 1 _ (by omega) rfl, key 2 _ (by omega) rfl, key 3 _ (by omega) rfl, key 4 _ (by omega) rfl, key 5 _ (by omega) rfl, key 6 _ (by omega) rfl⟩
end Go.Proofs.YticaocadeeolkaaDoor
