/-
  TERMS as values; the walks of box.Lit, box.Op, box.Parts. (Laid by gen_da.py.)
  THE WALKS of box.Parts and box.made.
  THE WALK of Of: the term at a place of a sound expression.
  THE WALK of alike: a term without values of other types is alike itself.
  THE WALK of box.terms: the terms of all nodes of an expression whose parts lie ahead of their nodes.
-/
import Derived.Test.YticaocadeeolkaaDoorMC
import Derived.Test.YticaocadeeolkaaDoorMD
import Derived.Deep.RegionHeld3
import Derived.Laws.StructEq

namespace Go.Proofs.YticaocadeeolkaaDoor
open Go.RowKit Plain Go.Proofs.YticaocadeeolkaaDoorW.PrintWords

def tval : Tm → Value
  | .nil => .nilIface
  | .lit n => .iface 48 (.agg #[.int .i64 n])
  | .var s => .iface 81 (.agg #[.string s])
  | .un op a => .iface 86 (.agg #[.int .i64 op, tval a])
  | .bin op a b => .iface 88 (.agg #[.int .i64 op, tval a, tval b])
  | .ite c a b => .iface 90 (.agg #[tval c, tval a, tval b])
  | .other t v => .iface t v
/-- No value of another type bears one of the five types' numbers. -/
def Ty5 (t : Nat) : Prop := ¬ t = 48 ∧ ¬ t = 81 ∧ ¬ t = 86 ∧ ¬ t = 88 ∧ ¬ t = 90
def tfine : Tm → Prop
  | .un _ a => tfine a | .bin _ a b => tfine a ∧ tfine b | .ite c a b => tfine c ∧ tfine a ∧ tfine b | .other t _ => Ty5 t | _ => True
theorem tval_one (t : Tm) : (tval t).oneCell' = true := by cases t <;> rfl
def kTm : Kd Tm := Kd.scalar tval tval_one

theorem run_store_tval (P : Program) (w : World) (a : Addr) (t : Tm) (m : Mode) : (store a (tval t) m).run P w = stored P w a (tval t) m := run_store P w a _ m (tval_one t)
theorem run_store_ifc (P : Program) (w : World) (a : Addr) (T : Nat) (v : Value) (m : Mode) : (store a (.iface T v) m).run P w = stored P w a (.iface T v) m := run_store P w a _ m rfl
theorem run_store_nilI (P : Program) (w : World) (a : Addr) (m : Mode) : (store a .nilIface m).run P w = stored P w a .nilIface m := run_store P w a _ m rfl
theorem cells_tval (t : Tm) : (tval t).cells = #[tval t] := by cases t <;> rfl
attribute [go_sem] run_store_tval run_store_ifc run_store_nilI
theorem cells_match (a : Tm) (f : Array Value → Array Value) (g : Value → Array Value) : Go.Value.cells.match_1 (fun _ => Array Value) (tval a) f g = g (tval a) := by cases a <;> rfl
attribute [go_sem] cells_tval cells_match

/-! ### type assertions -/
def TypeDesc.plain : TypeDesc → Bool
  | .interface _ => false
  | _ => true
theorem run_ta_hit {P : Program} {S X : Nat} {d : TypeDesc} (hu : P.underlying S = some d) (hd : TypeDesc.plain d = true) (v : Value) (w : World) :
    (Instr.typeAssert (.iface S v) X S true).run P w = .ok (.tuple #[v, .bool true]) w := by
  cases d <;> simp [TypeDesc.plain] at hd <;> simp [Instr.typeAssert, underlying, hu, go_sem]
theorem run_ta_miss {P : Program} {S X T : Nat} {d : TypeDesc} {z : Value} (hu : P.underlying S = some d) (hd : TypeDesc.plain d = true) (v : Value) (w : World) (hz : (zeroValue S).run P w = .ok z w) (hT : ¬ T = S) :
    (Instr.typeAssert (.iface T v) X S true).run P w = .ok (.tuple #[z, .bool false]) w := by
  cases d <;> simp [TypeDesc.plain] at hd <;> simp [Instr.typeAssert, underlying, hu, go_sem, hT, hz]
theorem run_ta_nil {P : Program} {S X : Nat} {d : TypeDesc} {z : Value} (hu : P.underlying S = some d) (hd : TypeDesc.plain d = true) (w : World) (hz : (zeroValue S).run P w = .ok z w) :
    (Instr.typeAssert .nilIface X S true).run P w = .ok (.tuple #[z, .bool false]) w := by
  cases d <;> simp [TypeDesc.plain] at hd <;> simp [Instr.typeAssert, underlying, hu, go_sem, hz]
theorem z_lit (w : World) : (zeroValue 48).run Tryd.prog w = .ok (.agg #[.int .i64 0]) w := by kernel_rfl
theorem ta_lit_hit (v : Value) (w : World) : (Instr.typeAssert (.iface 48 v) 33 48 true).run Tryd.prog w = .ok (.tuple #[v, .bool true]) w := run_ta_hit Tryd.underlying48 rfl v w
theorem ta_lit_miss {T : Nat} (hT : ¬ T = 48) (v : Value) (w : World) : (Instr.typeAssert (.iface T v) 33 48 true).run Tryd.prog w = .ok (.tuple #[(.agg #[.int .i64 0]), .bool false]) w := run_ta_miss Tryd.underlying48 rfl v w (z_lit w) hT
theorem ta_lit_nil (w : World) : (Instr.typeAssert .nilIface 33 48 true).run Tryd.prog w = .ok (.tuple #[(.agg #[.int .i64 0]), .bool false]) w := run_ta_nil Tryd.underlying48 rfl w (z_lit w)
theorem z_var (w : World) : (zeroValue 81).run Tryd.prog w = .ok (.agg #[.string ⟨#[]⟩]) w := by kernel_rfl
theorem ta_var_hit (v : Value) (w : World) : (Instr.typeAssert (.iface 81 v) 33 81 true).run Tryd.prog w = .ok (.tuple #[v, .bool true]) w := run_ta_hit Tryd.underlying81 rfl v w
theorem ta_var_miss {T : Nat} (hT : ¬ T = 81) (v : Value) (w : World) : (Instr.typeAssert (.iface T v) 33 81 true).run Tryd.prog w = .ok (.tuple #[(.agg #[.string ⟨#[]⟩]), .bool false]) w := run_ta_miss Tryd.underlying81 rfl v w (z_var w) hT
theorem ta_var_nil (w : World) : (Instr.typeAssert .nilIface 33 81 true).run Tryd.prog w = .ok (.tuple #[(.agg #[.string ⟨#[]⟩]), .bool false]) w := run_ta_nil Tryd.underlying81 rfl w (z_var w)
theorem z_un (w : World) : (zeroValue 86).run Tryd.prog w = .ok (.agg #[.int .i64 0, .nilIface]) w := by kernel_rfl
theorem ta_un_hit (v : Value) (w : World) : (Instr.typeAssert (.iface 86 v) 33 86 true).run Tryd.prog w = .ok (.tuple #[v, .bool true]) w := run_ta_hit Tryd.underlying86 rfl v w
theorem ta_un_miss {T : Nat} (hT : ¬ T = 86) (v : Value) (w : World) : (Instr.typeAssert (.iface T v) 33 86 true).run Tryd.prog w = .ok (.tuple #[(.agg #[.int .i64 0, .nilIface]), .bool false]) w := run_ta_miss Tryd.underlying86 rfl v w (z_un w) hT
theorem ta_un_nil (w : World) : (Instr.typeAssert .nilIface 33 86 true).run Tryd.prog w = .ok (.tuple #[(.agg #[.int .i64 0, .nilIface]), .bool false]) w := run_ta_nil Tryd.underlying86 rfl w (z_un w)
theorem z_bin (w : World) : (zeroValue 88).run Tryd.prog w = .ok (.agg #[.int .i64 0, .nilIface, .nilIface]) w := by kernel_rfl
theorem ta_bin_hit (v : Value) (w : World) : (Instr.typeAssert (.iface 88 v) 33 88 true).run Tryd.prog w = .ok (.tuple #[v, .bool true]) w := run_ta_hit Tryd.underlying88 rfl v w
theorem ta_bin_miss {T : Nat} (hT : ¬ T = 88) (v : Value) (w : World) : (Instr.typeAssert (.iface T v) 33 88 true).run Tryd.prog w = .ok (.tuple #[(.agg #[.int .i64 0, .nilIface, .nilIface]), .bool false]) w := run_ta_miss Tryd.underlying88 rfl v w (z_bin w) hT
theorem ta_bin_nil (w : World) : (Instr.typeAssert .nilIface 33 88 true).run Tryd.prog w = .ok (.tuple #[(.agg #[.int .i64 0, .nilIface, .nilIface]), .bool false]) w := run_ta_nil Tryd.underlying88 rfl w (z_bin w)
theorem z_ite (w : World) : (zeroValue 90).run Tryd.prog w = .ok (.agg #[.nilIface, .nilIface, .nilIface]) w := by kernel_rfl
theorem ta_ite_hit (v : Value) (w : World) : (Instr.typeAssert (.iface 90 v) 33 90 true).run Tryd.prog w = .ok (.tuple #[v, .bool true]) w := run_ta_hit Tryd.underlying90 rfl v w
theorem ta_ite_miss {T : Nat} (hT : ¬ T = 90) (v : Value) (w : World) : (Instr.typeAssert (.iface T v) 33 90 true).run Tryd.prog w = .ok (.tuple #[(.agg #[.nilIface, .nilIface, .nilIface]), .bool false]) w := run_ta_miss Tryd.underlying90 rfl v w (z_ite w) hT
theorem ta_ite_nil (w : World) : (Instr.typeAssert .nilIface 33 90 true).run Tryd.prog w = .ok (.tuple #[(.agg #[.nilIface, .nilIface, .nilIface]), .bool false]) w := run_ta_nil Tryd.underlying90 rfl w (z_ite w)
attribute [go_sem] ta_lit_hit ta_lit_miss ta_lit_nil ta_var_hit ta_var_miss ta_var_nil ta_un_hit ta_un_miss ta_un_nil ta_bin_hit ta_bin_miss ta_bin_nil ta_ite_hit ta_ite_miss ta_ite_nil

theorem ret_lit {a n : Int} {b c : Bool} (h : a = n) (h' : b = c) : Ending.returned (.tuple #[.int .i64 a, .bool b]) = .returned (.tuple #[.int .i64 n, .bool c]) := by rw [h, h']
def isLit : Tm → Bool
  | .lit _ => true
  | _ => false

set_option maxHeartbeats 2000000 in
theorem lit_any (t : Tm) (ht : tfine t) (w : World) : Calls Tryd.prog 33 #[tval t] w fun e w' => e = .returned (.tuple #[.int .i64 (numOf t), .bool (isLit t)]) ∧ Below w.heap.size w w' := by
  cases t
  case nil =>
    clear ht
    unfold tval
    go_enter Tryd.func33, Tryd.ntmps33
    go_wp2
    go_ret2
    exact ⟨ret_lit rfl rfl, by repeat (first | exact Below.refl _ _ | (refine Below.alloc ?_ (by simp) _))⟩
  case lit =>
    clear ht
    unfold tval
    go_enter Tryd.func33, Tryd.ntmps33
    go_wp2
    go_ret2
    exact ⟨ret_lit rfl rfl, by repeat (first | exact Below.refl _ _ | (refine Below.alloc ?_ (by simp) _))⟩
  case var =>
    clear ht
    unfold tval
    go_enter Tryd.func33, Tryd.ntmps33
    go_wp2
    go_ret2
    exact ⟨ret_lit rfl rfl, by repeat (first | exact Below.refl _ _ | (refine Below.alloc ?_ (by simp) _))⟩
  case un =>
    clear ht
    unfold tval
    go_enter Tryd.func33, Tryd.ntmps33
    go_wp2
    go_ret2
    exact ⟨ret_lit rfl rfl, by repeat (first | exact Below.refl _ _ | (refine Below.alloc ?_ (by simp) _))⟩
  case bin =>
    clear ht
    unfold tval
    go_enter Tryd.func33, Tryd.ntmps33
    go_wp2
    go_ret2
    exact ⟨ret_lit rfl rfl, by repeat (first | exact Below.refl _ _ | (refine Below.alloc ?_ (by simp) _))⟩
  case ite =>
    clear ht
    unfold tval
    go_enter Tryd.func33, Tryd.ntmps33
    go_wp2
    go_ret2
    exact ⟨ret_lit rfl rfl, by repeat (first | exact Below.refl _ _ | (refine Below.alloc ?_ (by simp) _))⟩
  case other =>
    obtain ⟨t1, t2, t3, t4, t5⟩ := ht
    unfold tval
    go_enter Tryd.func33, Tryd.ntmps33
    go_wp2
    go_ret2
    exact ⟨ret_lit rfl rfl, by repeat (first | exact Below.refl _ _ | (refine Below.alloc ?_ (by simp) _))⟩
set_option maxHeartbeats 2000000 in
theorem op_any (t : Tm) (ht : tfine t) (w : World) : Calls Tryd.prog 34 #[tval t] w fun e w' => e = .returned (.int .i64 (opOf t)) ∧ Below w.heap.size w w' := by
  cases t
  case nil =>
    clear ht
    unfold tval
    go_enter Tryd.func34, Tryd.ntmps34
    go_wp2
    go_ret
    exact ⟨ret_int rfl, by repeat (first | exact Below.refl _ _ | (refine Below.alloc ?_ (by simp) _))⟩
  case lit =>
    clear ht
    unfold tval
    go_enter Tryd.func34, Tryd.ntmps34
    go_wp2
    go_ret
    exact ⟨ret_int rfl, by repeat (first | exact Below.refl _ _ | (refine Below.alloc ?_ (by simp) _))⟩
  case var =>
    clear ht
    unfold tval
    go_enter Tryd.func34, Tryd.ntmps34
    go_wp2
    go_ret
    exact ⟨ret_int rfl, by repeat (first | exact Below.refl _ _ | (refine Below.alloc ?_ (by simp) _))⟩
  case un =>
    clear ht
    unfold tval
    go_enter Tryd.func34, Tryd.ntmps34
    go_wp2
    go_ret
    exact ⟨ret_int rfl, by repeat (first | exact Below.refl _ _ | (refine Below.alloc ?_ (by simp) _))⟩
  case bin =>
    clear ht
    unfold tval
    go_enter Tryd.func34, Tryd.ntmps34
    go_wp2
    go_ret
    exact ⟨ret_int rfl, by repeat (first | exact Below.refl _ _ | (refine Below.alloc ?_ (by simp) _))⟩
  case ite =>
    clear ht
    unfold tval
    go_enter Tryd.func34, Tryd.ntmps34
    go_wp2
    go_ret
    exact ⟨ret_int rfl, by repeat (first | exact Below.refl _ _ | (refine Below.alloc ?_ (by simp) _))⟩
  case other =>
    obtain ⟨t1, t2, t3, t4, t5⟩ := ht
    unfold tval
    go_enter Tryd.func34, Tryd.ntmps34
    go_wp2
    go_ret
    exact ⟨ret_int rfl, by repeat (first | exact Below.refl _ _ | (refine Below.alloc ?_ (by simp) _))⟩
end Go.Proofs.YticaocadeeolkaaDoor

namespace Go.Proofs.YticaocadeeolkaaDoor
open Go.RowKit Plain Go.Proofs.YticaocadeeolkaaDoorW.PrintWords

/-- A new block whose cells are a list's: the list is owned. -/
theorem R_of_block {α : Type} (enc : α → Value) (h1 : ∀ x, (enc x).oneCell' = true) {W : World} {base g : Nat} {e : TypeId} {xs : List α} (hh : W.heap[g]? = some (.cells (xs.map enc).toArray e (0, 0))) (hb : base ≤ g) (hm : xs.length ≤ maxLen) :
    (Kd.scalar enc h1).R e W base (fun _ => True) (.slice (some ⟨g, 0, none⟩) xs.length xs.length) xs := by
  refine ⟨fun _ _ => trivial, xs.map enc, ⟨by simp [Kd.scalar], .inr ⟨g, xs.length, (xs.map enc).toArray, rfl, hb, hh, Nat.le_refl _, hm, by simp [Kd.scalar], by simp only [Kd.scalar, Nat.mul_one]; exact List.take_of_length_le (by simp)⟩⟩, by simp [Kd.scalar], fun j p hj => ?_⟩
  have hlt := (List.getElem?_eq_some_iff.1 hj).1
  show ((xs.map enc).drop (j * 1)).take 1 = [enc p]
  rw [Nat.mul_one, List.drop_eq_getElem_cons (by simpa using hlt)]
  simp [(List.getElem?_eq_some_iff.1 hj).2]
theorem tm_at {w : World} {A : Option Addr} {n : Nat} {ts : List Tm} (h : Kd.C kTm w A n ts) {k : Nat} {a : Tm} (hx : ts[k]? = some a) : ∃ ad, A = some ad ∧ w.cell? (ad.add k) = some (tval a) := by
  have hlt := (List.getElem?_eq_some_iff.1 hx).1
  have hn : ts.length = n := h.1
  obtain ⟨ad, he, hc⟩ := h.2.2 (by omega)
  obtain ⟨c, hs, hr, hcell⟩ := hc k a hx
  have hr' : c = [tval a] := hr
  subst hr'
  refine ⟨ad, he, ?_⟩
  have := hcell 0 (tval a) rfl
  simpa [kTm, Kd.scalar] using this

theorem tm_at0 {w : World} {A : Option Addr} {n : Nat} {ts : List Tm} (h : Kd.C kTm w A n ts) {a : Tm} (hx : ts[0]? = some a) : ∃ ad, A = some ad ∧ w.cell? ad = some (tval a) := by
  obtain ⟨ad, e, hc⟩ := tm_at h hx
  exact ⟨ad, e, by simpa [Addr.add_zero'] using hc⟩
theorem tm_atS {w : World} {ad : Addr} {n : Nat} {ts : List Tm} (h : Kd.C kTm w (some ad) n ts) {k : Nat} {a : Tm} (hx : ts[k + 1]? = some a) : w.cell? ⟨ad.block, ad.off + (k + 1), none⟩ = some (tval a) := by
  obtain ⟨ad', e, hc⟩ := tm_at h hx
  cases e
  simpa [Addr.add] using hc
theorem heap_two (w : World) (A B : Obj) : ((w.alloc A).alloc B).heap[w.heap.size + 1]? = some B := heap_alloc2_new w A B
theorem heap_three (w : World) (A B C : Obj) : (((w.alloc A).alloc B).alloc C).heap[w.heap.size + 2]? = some C := by
  have := heap_alloc2_new (w.alloc A) B C
  simpa using this
theorem heap_four (w : World) (A B C D : Obj) : ((((w.alloc A).alloc B).alloc C).alloc D).heap[w.heap.size + 3]? = some D := by
  have := heap_three (w.alloc A) B C D
  have e : (w.alloc A).heap.size + 2 = w.heap.size + 3 := by simp
  rwa [e] at this
/-- What Parts hands back. -/
def PartsOk (t : Tm) (w : World) (en : Ending) (w' : World) : Prop := ∃ v, en = .returned v ∧ Kd.R kTm 33 w' w.heap.size (fun _ => True) v (partsOf t) ∧ Below w.heap.size w w'
set_option maxHeartbeats 2000000 in
theorem parts_any (t : Tm) (ht : tfine t) (w : World) : Calls Tryd.prog 22 #[tval t] w (PartsOk t w) := by
  cases t
  case un op a =>
    clear ht
    unfold tval
    go_enter Tryd.func22, Tryd.ntmps22
    go_wp2
    go_ret
    exact ⟨_, rfl, R_of_block tval tval_one (xs := [a]) (heap_two _ _ _) (by simp) (by simp [maxLen]), by repeat (first | exact Below.refl _ _ | (refine Below.alloc ?_ (by simp) _))⟩
  case bin op a b =>
    clear ht
    unfold tval
    go_enter Tryd.func22, Tryd.ntmps22
    go_wp2
    go_ret
    exact ⟨_, rfl, R_of_block tval tval_one (xs := [a, b]) (heap_two _ _ _) (by simp) (by simp [maxLen]), by repeat (first | exact Below.refl _ _ | (refine Below.alloc ?_ (by simp) _))⟩
  case ite c a b =>
    clear ht
    unfold tval
    go_enter Tryd.func22, Tryd.ntmps22
    go_wp2
    go_ret
    exact ⟨_, rfl, R_of_block tval tval_one (xs := [c, a, b]) (heap_two _ _ _) (by simp) (by simp [maxLen]), by repeat (first | exact Below.refl _ _ | (refine Below.alloc ?_ (by simp) _))⟩
  case nil =>
    clear ht
    unfold tval
    go_enter Tryd.func22, Tryd.ntmps22
    go_wp2
    go_ret
    exact ⟨_, rfl, Kd.R_nil _ _ _ _ _, Below.refl _ _⟩
  case lit =>
    clear ht
    unfold tval
    go_enter Tryd.func22, Tryd.ntmps22
    go_wp2
    go_ret
    exact ⟨_, rfl, Kd.R_nil _ _ _ _ _, Below.refl _ _⟩
  case var =>
    clear ht
    unfold tval
    go_enter Tryd.func22, Tryd.ntmps22
    go_wp2
    go_ret
    exact ⟨_, rfl, Kd.R_nil _ _ _ _ _, Below.refl _ _⟩
  case other =>
    obtain ⟨t1, t2, t3, t4, t5⟩ := ht
    unfold tval
    go_enter Tryd.func22, Tryd.ntmps22
    go_wp2
    go_ret
    exact ⟨_, rfl, Kd.R_nil _ _ _ _ _, Below.refl _ _⟩

/-! ### made -/
set_option maxHeartbeats 4000000 in
set_option maxRecDepth 100000 in
theorem made_any (x : Nd) (ts : List Tm) (A3 A : Option Addr) (c3 c : Nat) (w : World) (hr : Kd.C kTm w A ts.length ts) :
    Calls Tryd.prog 62 #[.agg #[.int .i64 x.op, .int .i64 x.n, .string x.name, .slice A3 x.kids.length c3], .slice A ts.length c] w fun en w' => en = .returned (tval (made x ts)) ∧ Below w.heap.size w w' := by
  match ts, hr with
  | [a], hr =>
    obtain ⟨ad, rfl, h0⟩ := tm_at0 hr rfl
    replace h0 := nd_below ((Below.refl _ _).alloc (Nat.le_refl _) (.cells #[.int .i64 x.op, .int .i64 x.n, .string x.name, .slice A3 x.kids.length c3] 96)) h0
    clear hr
    simp only [List.length_cons, List.length_nil, Nat.zero_add]
    go_enter Tryd.func62, Tryd.ntmps62
    go_wp2
    go_quiet (fail)
    go_wp2
    go_ret
    exact ⟨rfl, pw_below_drewN ((Below.refl _ _).alloc (Nat.le_refl _) _) _⟩
  | [a, b], hr =>
    obtain ⟨ad, rfl, h0⟩ := tm_at0 hr rfl
    replace h0 := nd_below ((Below.refl _ _).alloc (Nat.le_refl _) (.cells #[.int .i64 x.op, .int .i64 x.n, .string x.name, .slice A3 x.kids.length c3] 96)) h0
    have h1 := nd_below ((Below.refl _ _).alloc (Nat.le_refl _) (.cells #[.int .i64 x.op, .int .i64 x.n, .string x.name, .slice A3 x.kids.length c3] 96)) (tm_atS hr (k := 0) rfl)
    clear hr
    simp only [List.length_cons, List.length_nil, Nat.zero_add]
    go_enter Tryd.func62, Tryd.ntmps62
    go_wp2
    go_quiet (fail)
    go_wp2
    go_ret
    exact ⟨rfl, pw_below_drewN ((Below.refl _ _).alloc (Nat.le_refl _) _) _⟩
  | [d, a, b], hr =>
    obtain ⟨ad, rfl, h0⟩ := tm_at0 hr rfl
    replace h0 := nd_below ((Below.refl _ _).alloc (Nat.le_refl _) (.cells #[.int .i64 x.op, .int .i64 x.n, .string x.name, .slice A3 x.kids.length c3] 96)) h0
    have h1 := nd_below ((Below.refl _ _).alloc (Nat.le_refl _) (.cells #[.int .i64 x.op, .int .i64 x.n, .string x.name, .slice A3 x.kids.length c3] 96)) (tm_atS hr (k := 0) rfl)
    have h2 := nd_below ((Below.refl _ _).alloc (Nat.le_refl _) (.cells #[.int .i64 x.op, .int .i64 x.n, .string x.name, .slice A3 x.kids.length c3] 96)) (tm_atS hr (k := 1) rfl)
    clear hr
    simp only [List.length_cons, List.length_nil, Nat.zero_add]
    go_enter Tryd.func62, Tryd.ntmps62
    go_wp2
    go_quiet (fail)
    go_wp2
    go_ret
    exact ⟨rfl, pw_below_drewN ((Below.refl _ _).alloc (Nat.le_refl _) _) _⟩
  | [], hr =>
    clear hr
    simp only [List.length_nil]
    by_cases h2 : x.op = 2
    · have h2' : (x.op == 2) = true := by rw [beq_iff_eq]; exact h2
      have H2 := Lib.hid h2
      clear h2
      go_enter Tryd.func62, Tryd.ntmps62
      go_wp2
      go_ret
      exact ⟨by simp only [made]; rw [if_pos H2.out]; rfl, (Below.refl _ _).alloc (Nat.le_refl _) _⟩
    · have h2' : (x.op == 2) = false := by rw [beq_eq_false_iff_ne]; exact h2
      have H2 := Lib.hid h2
      clear h2
      go_enter Tryd.func62, Tryd.ntmps62
      go_wp2
      go_ret
      exact ⟨by simp only [made]; rw [if_neg H2.out]; rfl, (Below.refl _ _).alloc (Nat.le_refl _) _⟩
  | a :: b :: d :: f :: r, hr =>
    clear hr
    have hl : (a :: b :: d :: f :: r).length = r.length + 4 := by simp
    have n1 : (((r.length + 4 : Nat) : Int) == 1) = false := by rw [beq_eq_false_iff_ne]; omega
    have n2 : (((r.length + 4 : Nat) : Int) == 2) = false := by rw [beq_eq_false_iff_ne]; omega
    have n3 : (((r.length + 4 : Nat) : Int) == 3) = false := by rw [beq_eq_false_iff_ne]; omega
    rw [hl]
    generalize hm : r.length + 4 = m at *
    clear hl hm
    by_cases h2 : x.op = 2
    · have h2' : (x.op == 2) = true := by rw [beq_iff_eq]; exact h2
      have H2 := Lib.hid h2
      clear h2
      go_enter Tryd.func62, Tryd.ntmps62
      go_wp2
      go_ret
      exact ⟨by simp only [made]; rw [if_pos H2.out]; rfl, (Below.refl _ _).alloc (Nat.le_refl _) _⟩
    · have h2' : (x.op == 2) = false := by rw [beq_eq_false_iff_ne]; exact h2
      have H2 := Lib.hid h2
      clear h2
      go_enter Tryd.func62, Tryd.ntmps62
      go_wp2
      go_ret
      exact ⟨by simp only [made]; rw [if_neg H2.out]; rfl, (Below.refl _ _).alloc (Nat.le_refl _) _⟩
end Go.Proofs.YticaocadeeolkaaDoor

namespace Go.Proofs.YticaocadeeolkaaDoor
open Go.RowKit Plain Go.Proofs.YticaocadeeolkaaDoorW.PrintWords

theorem int_at0 {w : World} {A : Option Addr} {n : Nat} {ks : List Int} (h : (Kd.int .i64).C w A n ks) {a : Int} (hx : ks[0]? = some a) : ∃ ad, A = some ad ∧ w.cell? ad = some (.int .i64 a) := by
  have hlt := (List.getElem?_eq_some_iff.1 hx).1
  have hn : ks.length = n := h.1
  obtain ⟨ad, he, hc⟩ := h.2.2 (by omega)
  obtain ⟨c, hs, hr, hcell⟩ := hc 0 a hx
  have hr' : c = [.int .i64 a] := hr
  subst hr'
  refine ⟨ad, he, ?_⟩
  have := hcell 0 (.int .i64 a) rfl
  simpa [Addr.add_zero'] using this
theorem int_atS {w : World} {ad : Addr} {n : Nat} {ks : List Int} (h : (Kd.int .i64).C w (some ad) n ks) {k : Nat} {a : Int} (hx : ks[k + 1]? = some a) : w.cell? ⟨ad.block, ad.off + (k + 1), none⟩ = some (.int .i64 a) := by
  have hlt := (List.getElem?_eq_some_iff.1 hx).1
  have hn : ks.length = n := h.1
  obtain ⟨ad', he, hc⟩ := h.2.2 (by omega)
  cases he
  obtain ⟨c, hs, hr, hcell⟩ := hc (k + 1) a hx
  have hr' : c = [.int .i64 a] := hr
  subst hr'
  have := hcell 0 (.int .i64 a) rfl
  simpa [Kd.int, Kd.scalar, Addr.add] using this
theorem made_one (x : Nd) (a : Tm) : made x [a] = .un x.op a := rfl

theorem kids_lt {ks : List Nat} {a : Nat} (h : ∀ k ∈ ks, k < a) : ∀ j ∈ ks.map (fun (k : Nat) => (k : Int)), 0 ≤ j ∧ j < (a : Int) := by
  intro j hj
  obtain ⟨k, hk, rfl⟩ := List.mem_map.1 hj
  have := h k hk
  omega
/-- What Of answers of a place, in whatever later world. -/
def OfOk (e : List Nd) (A : Option Addr) (c : Nat) (k : Nat) : Prop := ∀ w : World, Kd.C kNd w A e.length e →
  Calls Tryd.prog 18 #[.slice A e.length c, .int .i64 k] w fun en w' => en = .returned (tval (termAt e k)) ∧ Below w.heap.size w w'

set_option maxHeartbeats 4000000 in
set_option maxRecDepth 100000 in
theorem of_one (e : List Nd) (A : Option Addr) (c : Nat) (a k : Nat) (x : Nd) (hx : e[a]? = some x) (hk : x.kids = [(k : Int)]) (hka : ∀ q ∈ [k], q < a) (ih : ∀ q ∈ [k], OfOk e A c q) : OfOk e A c a := by
  intro w hr
  have hm : Hid (termAt e a = Tm.un x.op (termAt e k)) := by
    unfold Hid
    rw [termAt_made e a x hx (by rw [hk]; exact kids_lt (ks := [k]) hka), hk]
    simp [made]
  obtain ⟨ad, A3, c3, hA, q0, q1, q2, q3, hl3, hk3⟩ := nd_at hr hx
  subst hA
  rw [hk] at q3 hl3 hk3
  obtain ⟨ad3, rfl, h0⟩ := int_at0 hk3 rfl
  have HR := Lib.hid hr
  have IH := Lib.hid ih
  have hlt : a < e.length := (List.getElem?_eq_some_iff.1 hx).1
  have hu := Tryd.underlying96
  clear hr ih hx hk hk3 hka
  simp only [List.length_cons, List.length_nil, Nat.zero_add] at q3 hl3
  go_enter Tryd.func18, Tryd.ntmps18
  go_wp2
  obtain ⟨p0, _, _, p3⟩ := cell4 w (.int .i64 x.op) (.int .i64 x.n) (.string x.name) (.slice (some ad3) 1 c3) 96
  have hB0 : Below w.heap.size w (w.alloc (.cells #[.int .i64 x.op, .int .i64 x.n, .string x.name, .slice (some ad3) 1 c3] 96)) := (Below.refl _ _).alloc (Nat.le_refl _) _
  have p4 := nd_below hB0 h0
  have HS := Lib.hid (show w.heap.size ≤ (w.alloc (.cells #[.int .i64 x.op, .int .i64 x.n, .string x.name, .slice (some ad3) 1 c3] 96)).heap.size by simp)
  generalize hW : w.alloc (.cells #[.int .i64 x.op, .int .i64 x.n, .string x.name, .slice (some ad3) 1 c3] 96) = W at *
  have HC := Lib.hid (Kd.C_below HR.out hB0)
  have HB0 := Lib.hid hB0
  clear hW hB0
  go_region_held3 (fun w' => w'.cell? ⟨w.heap.size, 0, none⟩ = some (.int .i64 x.op) ∧ w'.cell? ⟨w.heap.size, 3, none⟩ = some (.slice (some ad3) 1 c3) ∧ w'.cell? ad3 = some (.int .i64 k)) (refine ⟨?_, ?_, ?_⟩ <;> first | assumption | exact nd_below (by assumption) (by assumption) | exact nd_below (by assumption) (nd_below (by assumption) (by assumption)) | exact nd_below (by assumption) (nd_below (by assumption) (nd_below (by assumption) (by assumption)))) (first | (go_at_call 18; refine (IH.out _ (by simp) _ (by with_reducible repeat (first | exact HC.out | refine Kd.C_drew ?_ | refine Kd.C_drewN ?_ _ | refine Kd.C_below ?_ (by assumption)))).mono ?_; rintro en w1 ⟨rfl, hb1⟩))
  go_wp2
  go_ret
  exact ⟨by rw [hm.out]; rfl, below_step (below_drew HB0.out) (by assumption)⟩
set_option maxHeartbeats 4000000 in
set_option maxRecDepth 100000 in
theorem of_two (e : List Nd) (A : Option Addr) (c : Nat) (a k k2 : Nat) (x : Nd) (hx : e[a]? = some x) (hk : x.kids = [(k : Int), (k2 : Int)]) (hka : ∀ q ∈ [k, k2], q < a) (ih : ∀ q ∈ [k, k2], OfOk e A c q) : OfOk e A c a := by
  intro w hr
  have hm : Hid (termAt e a = Tm.bin x.op (termAt e k) (termAt e k2)) := by
    unfold Hid
    rw [termAt_made e a x hx (by rw [hk]; exact kids_lt (ks := [k, k2]) hka), hk]
    simp [made]
  obtain ⟨ad, A3, c3, hA, q0, q1, q2, q3, hl3, hk3⟩ := nd_at hr hx
  subst hA
  rw [hk] at q3 hl3 hk3
  obtain ⟨ad3, rfl, h0⟩ := int_at0 hk3 rfl
  have h1 := int_atS hk3 (k := 0) rfl
  have HR := Lib.hid hr
  have IH := Lib.hid ih
  have hlt : a < e.length := (List.getElem?_eq_some_iff.1 hx).1
  have hu := Tryd.underlying96
  clear hr ih hx hk hk3 hka
  simp only [List.length_cons, List.length_nil, Nat.zero_add, Nat.reduceAdd] at q3 hl3
  go_enter Tryd.func18, Tryd.ntmps18
  go_wp2
  obtain ⟨p0, _, _, p3⟩ := cell4 w (.int .i64 x.op) (.int .i64 x.n) (.string x.name) (.slice (some ad3) 2 c3) 96
  have hB0 : Below w.heap.size w (w.alloc (.cells #[.int .i64 x.op, .int .i64 x.n, .string x.name, .slice (some ad3) 2 c3] 96)) := (Below.refl _ _).alloc (Nat.le_refl _) _
  have p4 := nd_below hB0 h0
  have p5 := nd_below hB0 h1
  have HS := Lib.hid (show w.heap.size ≤ (w.alloc (.cells #[.int .i64 x.op, .int .i64 x.n, .string x.name, .slice (some ad3) 2 c3] 96)).heap.size by simp)
  generalize hW : w.alloc (.cells #[.int .i64 x.op, .int .i64 x.n, .string x.name, .slice (some ad3) 2 c3] 96) = W at *
  have HC := Lib.hid (Kd.C_below HR.out hB0)
  have HB0 := Lib.hid hB0
  clear hW hB0
  go_region_held3 (fun w' => w'.cell? ⟨w.heap.size, 0, none⟩ = some (.int .i64 x.op) ∧ w'.cell? ⟨w.heap.size, 3, none⟩ = some (.slice (some ad3) 2 c3) ∧ w'.cell? ad3 = some (.int .i64 k) ∧ w'.cell? ⟨ad3.block, ad3.off + 1, none⟩ = some (.int .i64 k2)) (refine ⟨?_, ?_, ?_, ?_⟩ <;> first | assumption | exact nd_below (by assumption) (by assumption) | exact nd_below (by assumption) (nd_below (by assumption) (by assumption)) | exact nd_below (by assumption) (nd_below (by assumption) (nd_below (by assumption) (by assumption)))) (first | (go_at_call 18; refine (IH.out _ (by simp) _ (by with_reducible repeat (first | exact HC.out | refine Kd.C_drew ?_ | refine Kd.C_drewN ?_ _ | refine Kd.C_below ?_ (by assumption)))).mono ?_; rintro en w1 ⟨rfl, hb1⟩))
  go_wp2
  go_ret
  exact ⟨by rw [hm.out]; rfl, below_step (below_step (below_drew HB0.out) (by assumption)) (by assumption)⟩
set_option maxHeartbeats 4000000 in
set_option maxRecDepth 100000 in
theorem of_three (e : List Nd) (A : Option Addr) (c : Nat) (a k k2 k3 : Nat) (x : Nd) (hx : e[a]? = some x) (hk : x.kids = [(k : Int), (k2 : Int), (k3 : Int)]) (hka : ∀ q ∈ [k, k2, k3], q < a) (ih : ∀ q ∈ [k, k2, k3], OfOk e A c q) : OfOk e A c a := by
  intro w hr
  have hm : Hid (termAt e a = Tm.ite (termAt e k) (termAt e k2) (termAt e k3)) := by
    unfold Hid
    rw [termAt_made e a x hx (by rw [hk]; exact kids_lt (ks := [k, k2, k3]) hka), hk]
    simp [made]
  obtain ⟨ad, A3, c3, hA, q0, q1, q2, q3, hl3, hk3⟩ := nd_at hr hx
  subst hA
  rw [hk] at q3 hl3 hk3
  obtain ⟨ad3, rfl, h0⟩ := int_at0 hk3 rfl
  have h1 := int_atS hk3 (k := 0) rfl
  have h2 := int_atS hk3 (k := 1) rfl
  have HR := Lib.hid hr
  have IH := Lib.hid ih
  have hlt : a < e.length := (List.getElem?_eq_some_iff.1 hx).1
  have hu := Tryd.underlying96
  clear hr ih hx hk hk3 hka
  simp only [List.length_cons, List.length_nil, Nat.zero_add, Nat.reduceAdd] at q3 hl3
  go_enter Tryd.func18, Tryd.ntmps18
  go_wp2
  obtain ⟨p0, _, _, p3⟩ := cell4 w (.int .i64 x.op) (.int .i64 x.n) (.string x.name) (.slice (some ad3) 3 c3) 96
  have hB0 : Below w.heap.size w (w.alloc (.cells #[.int .i64 x.op, .int .i64 x.n, .string x.name, .slice (some ad3) 3 c3] 96)) := (Below.refl _ _).alloc (Nat.le_refl _) _
  have p4 := nd_below hB0 h0
  have p5 := nd_below hB0 h1
  have p6 := nd_below hB0 h2
  have HS := Lib.hid (show w.heap.size ≤ (w.alloc (.cells #[.int .i64 x.op, .int .i64 x.n, .string x.name, .slice (some ad3) 3 c3] 96)).heap.size by simp)
  generalize hW : w.alloc (.cells #[.int .i64 x.op, .int .i64 x.n, .string x.name, .slice (some ad3) 3 c3] 96) = W at *
  have HC := Lib.hid (Kd.C_below HR.out hB0)
  have HB0 := Lib.hid hB0
  clear hW hB0
  go_region_held3 (fun w' => w'.cell? ⟨w.heap.size, 3, none⟩ = some (.slice (some ad3) 3 c3) ∧ w'.cell? ad3 = some (.int .i64 k) ∧ w'.cell? ⟨ad3.block, ad3.off + 1, none⟩ = some (.int .i64 k2) ∧ w'.cell? ⟨ad3.block, ad3.off + 2, none⟩ = some (.int .i64 k3)) (refine ⟨?_, ?_, ?_, ?_⟩ <;> first | assumption | exact nd_below (by assumption) (by assumption) | exact nd_below (by assumption) (nd_below (by assumption) (by assumption)) | exact nd_below (by assumption) (nd_below (by assumption) (nd_below (by assumption) (by assumption)))) (first | (go_at_call 18; refine (IH.out _ (by simp) _ (by with_reducible repeat (first | exact HC.out | refine Kd.C_drew ?_ | refine Kd.C_drewN ?_ _ | refine Kd.C_below ?_ (by assumption)))).mono ?_; rintro en w1 ⟨rfl, hb1⟩))
  go_wp2
  go_ret
  exact ⟨by rw [hm.out]; rfl, below_step (below_step (below_step (below_drew HB0.out) (by assumption)) (by assumption)) (by assumption)⟩

set_option maxHeartbeats 4000000 in
set_option maxRecDepth 100000 in
theorem of_none (e : List Nd) (A : Option Addr) (c : Nat) (a : Nat) (x : Nd) (hx : e[a]? = some x) (hk : x.kids = []) : OfOk e A c a := by
  intro w hr
  have hm : Hid (termAt e a = if x.op = 2 then .var x.name else .lit x.n) := by
    unfold Hid
    rw [termAt_made e a x hx (by rw [hk]; simp), hk]
    rfl
  obtain ⟨ad, A3, c3, hA, q0, q1, q2, q3, hl3, hk3⟩ := nd_at hr hx
  subst hA
  rw [hk] at q3 hl3
  have hlt : a < e.length := (List.getElem?_eq_some_iff.1 hx).1
  have hu := Tryd.underlying96
  clear hr hx hk hk3
  simp only [List.length_nil] at q3 hl3
  by_cases h2 : x.op = 2
  · have h2' : (x.op == 2) = true := by rw [beq_iff_eq]; exact h2
    have H2 := Lib.hid h2
    clear h2
    go_enter Tryd.func18, Tryd.ntmps18
    go_wp2
    go_ret
    exact ⟨by rw [hm.out, if_pos H2.out]; rfl, (Below.refl _ _).alloc (Nat.le_refl _) _⟩
  · have h2' : (x.op == 2) = false := by rw [beq_eq_false_iff_ne]; exact h2
    have H2 := Lib.hid h2
    clear h2
    go_enter Tryd.func18, Tryd.ntmps18
    go_wp2
    go_ret
    exact ⟨by rw [hm.out, if_neg H2.out]; rfl, (Below.refl _ _).alloc (Nat.le_refl _) _⟩
theorem of_any (e : List Nd) (A : Option Addr) (c : Nat) (hf : ∀ x ∈ e, form x = true) : ∀ (n a lo : Nat), a < n → Seg e lo a → OfOk e A c a := by
  intro n
  induction n with
  | zero => intro a lo h; omega
  | succ n ih =>
    intro a lo hn hs
    have hs0 := hs
    cases hs with
    | node x ks hx hk h =>
      have hkid : ∀ q ∈ ks, q < a ∧ OfOk e A c q := by
        intro q hq
        obtain ⟨_, h2, k, lo', h3, h4⟩ := seg_kids hs0 x hx (q : Int) (by rw [hk]; exact List.mem_map_of_mem hq)
        have : k = q := by omega
        subst this
        exact ⟨by omega, ih k lo' (by omega) h4⟩
      have har := (form_parts (hf x (List.mem_of_getElem? hx))).1
      match ks, hk, hkid with
      | [], hk, _ => exact of_none e A c a x hx (by simpa using hk)
      | [k], hk, hkid => exact of_one e A c a k x hx (by simpa using hk) (fun q hq => (hkid q hq).1) (fun q hq => (hkid q hq).2)
      | [k, k2], hk, hkid => exact of_two e A c a k k2 x hx (by simpa using hk) (fun q hq => (hkid q hq).1) (fun q hq => (hkid q hq).2)
      | [k, k2, k3], hk, hkid => exact of_three e A c a k k2 k3 x hx (by simpa using hk) (fun q hq => (hkid q hq).1) (fun q hq => (hkid q hq).2)
      | _ :: _ :: _ :: _ :: _, hk, _ =>
        rw [hk] at har
        have := arity_le har
        simp at this
end Go.Proofs.YticaocadeeolkaaDoor

namespace Go.Proofs.YticaocadeeolkaaDoor
open Go.RowKit Plain Go.Proofs.YticaocadeeolkaaDoorW.PrintWords

/-- Old cells and marks read as before. -/
theorem bcell {W w1 : World} (hb : Below W.heap.size W w1) : (∀ b o, b < W.heap.size → w1.cell? ⟨b, o, none⟩ = W.cell? ⟨b, o, none⟩) ∧ (∀ b o, b < W.heap.size → w1.frozen? ⟨b, o, none⟩ = W.frozen? ⟨b, o, none⟩) :=
  ⟨fun b o h => hb.cell (p := ⟨b, o, none⟩) h, fun b o h => hb.frozen (p := ⟨b, o, none⟩) h⟩
def tpure : Tm → Prop
  | .un _ a => tpure a | .bin _ a b => tpure a ∧ tpure b | .ite c a b => tpure c ∧ tpure a ∧ tpure b | .other _ _ => False | _ => True
theorem tpure_fine : ∀ (t : Tm), tpure t → tfine t := by
  intro t
  induction t with
  | un _ a ih => exact fun h => ih h
  | bin _ a b iha ihb => exact fun h => ⟨iha h.1, ihb h.2⟩
  | ite c a b ihc iha ihb => exact fun h => ⟨ihc h.1, iha h.2.1, ihb h.2.2⟩
  | other => exact fun h => h.elim
  | _ => exact fun _ => trivial
set_option maxHeartbeats 4000000 in
set_option maxRecDepth 100000 in
theorem alike_self (t : Tm) : tpure t → ∀ w : World, Calls Tryd.prog 17 #[tval t, tval t] w fun en w' => en = .returned (.bool true) ∧ Below w.heap.size w w' := by
  induction t with
  | other => exact fun h => h.elim
  | nil =>
    intro _ w
    unfold tval
    go_enter Tryd.func17, Tryd.ntmps17
    go_wp2
    go_ret
    exact ⟨ret_bool (by first | rfl | simp), (by repeat (first | exact Below.refl _ _ | (refine Below.alloc ?_ (by simp) _)))⟩
  | lit n =>
    intro _ w
    unfold tval
    go_enter Tryd.func17, Tryd.ntmps17
    go_wp2
    go_ret
    exact ⟨ret_bool (by first | rfl | simp), (by repeat (first | exact Below.refl _ _ | (refine Below.alloc ?_ (by simp) _)))⟩
  | var s =>
    intro _ w
    unfold tval
    go_enter Tryd.func17, Tryd.ntmps17
    go_wp2
    go_ret
    exact ⟨ret_bool (by first | rfl | simp), (by repeat (first | exact Below.refl _ _ | (refine Below.alloc ?_ (by simp) _)))⟩
  | un op a ih0 =>
    intro hp w
    have I0 := Lib.hid (ih0 hp)
    clear ih0
    unfold tval
    go_enter Tryd.func17, Tryd.ntmps17
    go_wp2_with (go_at_call 17; first | ((with_reducible refine (I0.out _).mono ?_); rintro en w1 ⟨rfl, hb1⟩; have HB1 := Lib.hid hb1; clear hb1; have g1 := bcell HB1.out; obtain ⟨gc1, gf1⟩ := g1; have gz1 := HB1.out.size; (try simp only [World.size_alloc] at gz1); have gy1 : w.heap.size < w1.heap.size := (by omega); have gx1 : w.heap.size + 1 < w1.heap.size := (by omega)))
    go_ret
    exact ⟨ret_bool (by first | rfl | simp), below_step ((by repeat (first | exact Below.refl _ _ | (refine Below.alloc ?_ (by simp) _)))) (HB1.out)⟩
  | bin op a b ih0 ih1 =>
    intro hp w
    have I0 := Lib.hid (ih0 hp.1)
    have I1 := Lib.hid (ih1 hp.2)
    clear ih0 ih1
    unfold tval
    go_enter Tryd.func17, Tryd.ntmps17
    go_wp2_with (go_at_call 17; first | ((with_reducible refine (I0.out _).mono ?_); rintro en w1 ⟨rfl, hb1⟩; have HB1 := Lib.hid hb1; clear hb1; have g1 := bcell HB1.out; obtain ⟨gc1, gf1⟩ := g1; have gz1 := HB1.out.size; (try simp only [World.size_alloc] at gz1); have gy1 : w.heap.size < w1.heap.size := (by omega); have gx1 : w.heap.size + 1 < w1.heap.size := (by omega)) | ((with_reducible refine (I1.out _).mono ?_); rintro en w2 ⟨rfl, hb2⟩; have HB2 := Lib.hid hb2; clear hb2; have g2 := bcell HB2.out; obtain ⟨gc2, gf2⟩ := g2; have gz2 := HB2.out.size; (try simp only [World.size_alloc] at gz2); have gy2 : w.heap.size < w2.heap.size := (by omega); have gx2 : w.heap.size + 1 < w2.heap.size := (by omega)))
    go_ret
    exact ⟨ret_bool (by first | rfl | simp), below_step (below_step ((by repeat (first | exact Below.refl _ _ | (refine Below.alloc ?_ (by simp) _)))) (HB1.out)) (HB2.out)⟩
  | ite c a b ih0 ih1 ih2 =>
    intro hp w
    have I0 := Lib.hid (ih0 hp.1)
    have I1 := Lib.hid (ih1 hp.2.1)
    have I2 := Lib.hid (ih2 hp.2.2)
    clear ih0 ih1 ih2
    unfold tval
    go_enter Tryd.func17, Tryd.ntmps17
    go_wp2_with (go_at_call 17; first | ((with_reducible refine (I0.out _).mono ?_); rintro en w1 ⟨rfl, hb1⟩; have HB1 := Lib.hid hb1; clear hb1; have g1 := bcell HB1.out; obtain ⟨gc1, gf1⟩ := g1; have gz1 := HB1.out.size; (try simp only [World.size_alloc] at gz1); have gy1 : w.heap.size < w1.heap.size := (by omega); have gx1 : w.heap.size + 1 < w1.heap.size := (by omega)) | ((with_reducible refine (I1.out _).mono ?_); rintro en w2 ⟨rfl, hb2⟩; have HB2 := Lib.hid hb2; clear hb2; have g2 := bcell HB2.out; obtain ⟨gc2, gf2⟩ := g2; have gz2 := HB2.out.size; (try simp only [World.size_alloc] at gz2); have gy2 : w.heap.size < w2.heap.size := (by omega); have gx2 : w.heap.size + 1 < w2.heap.size := (by omega)) | ((with_reducible refine (I2.out _).mono ?_); rintro en w3 ⟨rfl, hb3⟩; have HB3 := Lib.hid hb3; clear hb3; have g3 := bcell HB3.out; obtain ⟨gc3, gf3⟩ := g3; have gz3 := HB3.out.size; (try simp only [World.size_alloc] at gz3); have gy3 : w.heap.size < w3.heap.size := (by omega); have gx3 : w.heap.size + 1 < w3.heap.size := (by omega)))
    go_ret
    exact ⟨ret_bool (by first | rfl | simp), below_step (below_step (below_step ((by repeat (first | exact Below.refl _ _ | (refine Below.alloc ?_ (by simp) _)))) (HB1.out)) (HB2.out)) (HB3.out)⟩
end Go.Proofs.YticaocadeeolkaaDoor

namespace Go.Proofs.YticaocadeeolkaaDoor
open Go.RowKit Plain Go.Proofs.YticaocadeeolkaaDoorW.PrintWords

theorem run_make_rowN {P : Program} (t e : TypeId) (i : TypeInfo) (z : Value) (ht : P.underlying t = some (.slice e)) (hi : P.info? e = some i) (hz : i.zero = some z)
    (kl kc : IntKind) (n c : Nat) (hnc : n ≤ c) (hbytes : i.bytes * c ≤ 281474976710656) (h63 : c ≤ 9223372036854775807) (w : World) :
    (Instr.makeSlice t (.int kl (n : Int)) (.int kc (c : Int))).run P w = .ok (.slice (some ⟨w.heap.size, 0, none⟩) n c) (w.alloc (.cells (madeCells z.cells (c * i.size)) e)) := by
  have hb : (i.bytes : Int) * (c : Int) ≤ 281474976710656 := by
    have h : ((i.bytes * c : Nat) : Int) ≤ 281474976710656 := by omega
    rwa [Int.natCast_mul] at h
  have hr := run_make (P := P) w t e i z ht hi hz kl kc n c (by omega) (by omega) hb (by omega)
  simp only [Int.toNat_natCast] at hr
  exact hr
theorem infoTm : (Tryd.prog.info? 33).map (fun i => (i.zero, i.size, i.bytes)) = some (some .nilIface, 1, 16) := by kernel_rfl
theorem make_terms (c : Nat) (hc : c ≤ 17592186044416) (w : World) :
    (Instr.makeSlice 24 (.int .i64 0) (.int .i64 (c : Int))).run Tryd.prog w = .ok (.slice (some ⟨w.heap.size, 0, none⟩) 0 c) (w.alloc (.cells (madeCells #[.nilIface] c) 33)) := by
  obtain ⟨i, hi, hzz⟩ := Option.map_eq_some_iff.1 infoTm
  simp only [Prod.mk.injEq] at hzz
  obtain ⟨hz0, hz1, hz2⟩ := hzz
  have := run_make_rowN 24 33 i .nilIface Tryd.underlying24 hi hz0 .i64 .i64 0 c (Nat.zero_le _) (by rw [hz2]; omega) (by omega) w
  rw [hz1, Nat.mul_one] at this
  exact this
theorem R_made0 (w : World) (base c : Nat) (hb : base ≤ w.heap.size) (hc : c ≤ 9223372036854775807) :
    Kd.R kTm 33 (w.alloc (.cells (madeCells #[.nilIface] c) 33)) base (fun _ => True) (.slice (some ⟨w.heap.size, 0, none⟩) 0 c) [] :=
  ⟨fun _ _ => trivial, [], ⟨by simp, .inr ⟨w.heap.size, c, madeCells #[.nilIface] c, rfl, hb, heap_alloc_new w _, Nat.zero_le _, hc, by simp [size_madeCells, kTm, Kd.scalar], by simp⟩⟩, Reps.none _ _⟩
/-- Every part lies ahead of its node. -/
def Ahead (e : List Nd) : Prop := ∀ (k : Nat) (x : Nd), e[k]? = some x → x.kids.length ≤ 3 ∧ ∀ j ∈ x.kids, 0 ≤ j ∧ j < (k : Int)
theorem kidTerms_next {l : List Tm} {ks : List Int} {i : Nat} (h : i < ks.length) : kidTerms l (ks.take (i + 1)) = kidTerms l (ks.take i) ++ [l.getD ks[i].toNat .nil] := by
  unfold kidTerms
  rw [List.take_succ_eq_append_getElem h, List.map_append]; rfl
theorem int_at {w : World} {A : Option Addr} {n : Nat} {ks : List Int} (h : (Kd.int .i64).C w A n ks) {k : Nat} {a : Int} (hx : ks[k]? = some a) : ∃ ad, A = some ad ∧ w.cell? (ad.add k) = some (.int .i64 a) := by
  have hlt := (List.getElem?_eq_some_iff.1 hx).1
  have hn : ks.length = n := h.1
  obtain ⟨ad, he, hc⟩ := h.2.2 (by omega)
  obtain ⟨c, hs, hr, hcell⟩ := hc k a hx
  have hr' : c = [.int .i64 a] := hr
  subst hr'
  refine ⟨ad, he, ?_⟩
  have := hcell 0 (.int .i64 a) rfl
  simpa [Kd.int, Kd.scalar] using this
def TermsOk (e : List Nd) (w : World) (en : Ending) (w' : World) : Prop := ∃ v, en = .returned v ∧ Kd.R kTm 33 w' w.heap.size (fun _ => True) v (termsL e) ∧ Below w.heap.size w w'

set_option maxHeartbeats 8000000 in
set_option maxRecDepth 100000 in
theorem terms_any (e : List Nd) (A : Option Addr) (c : Nat) (w : World) (hr : Kd.C kNd w A e.length e) (h64 : e.length ≤ 64) (hah : Ahead e) :
    Calls Tryd.prog 41 #[.slice A e.length c] w (TermsOk e w) := by
  have HR := Lib.hid hr
  have HAH := Lib.hid hah
  have hmk := make_terms e.length (by omega)
  have hu := Tryd.underlying96
  clear hr hah
  go_enter Tryd.func41, Tryd.ntmps41
  go_wp2
  clear hmk
  go_loopw [3, 14] (fun v i wr => ∃ (k : Nat), i = .int .i64 k ∧ k ≤ e.length ∧ Hid (Kd.R kTm 33 wr w.heap.size (fun _ => True) v (termsL (e.take k))) ∧ Hid (Below w.heap.size w wr)) (fun _ i _ => e.length - (intOf i).toNat)
  case atStart => exact ⟨0, rfl, by omega, Lib.hid (R_made0 w w.heap.size e.length (Nat.le_refl _) (by omega)), Lib.hid ((Below.refl _ _).alloc (Nat.le_refl _) _)⟩
  case round =>
    obtain ⟨k, rfl, hk, hO, hB⟩ := hrel
    by_cases hlt : k < e.length
    · obtain ⟨x, hx⟩ : ∃ x, e[k]? = some x := ⟨_, List.getElem?_eq_getElem hlt⟩
      obtain ⟨ad, A3, c3, hA, q0, q1, q2, q3, hl3, hk3⟩ := nd_at HR.out hx
      subst hA
      replace q0 := nd_below hB.out q0
      replace q1 := nd_below hB.out q1
      replace q2 := nd_below hB.out q2
      replace q3 := nd_below hB.out q3
      have HX := Lib.hid hx
      have HK3 := Lib.hid (Kd.C_below hk3 hB.out)
      clear hx hk3
      obtain ⟨Al, cl, rfl, hll, hCl⟩ := Kd.R_reads hO.out
      have htl : (termsL (e.take k)).length = k := by rw [termsL_length]; simp; omega
      have HCL := Lib.hid hCl
      have HTL := Lib.hid htl
      rw [htl] at hO hll ⊢
      clear hCl htl
      have hkl : x.kids.length ≤ 3 := (HAH.out k x HX.out).1
      obtain ⟨wo, rfl⟩ : ∃ wo : World, wo = wr := ⟨_, rfl⟩
      have hwsz := hB.out.size
      have HAX := Lib.hid (HAH.out k x HX.out).2
      go_wp2_with fail
      obtain ⟨p0, p1, p2, p3⟩ := cell4 wo (.int .i64 x.op) (.int .i64 x.n) (.string x.name) (.slice A3 x.kids.length c3) 96
      have P0 := Lib.hid p0
      have P1 := Lib.hid p1
      have P2 := Lib.hid p2
      have P3 := Lib.hid p3
      clear p0 p1 p2 p3
      have HBW := Lib.hid ((Below.refl wo.heap.size wo).alloc (Nat.le_refl _) (.cells #[.int .i64 x.op, .int .i64 x.n, .string x.name, .slice A3 x.kids.length c3] 96))
      have hsz1 : wo.heap.size < (wo.alloc (.cells #[.int .i64 x.op, .int .i64 x.n, .string x.name, .slice A3 x.kids.length c3] 96)).heap.size := by simp
      generalize hW : wo.alloc (.cells #[.int .i64 x.op, .int .i64 x.n, .string x.name, .slice A3 x.kids.length c3] 96) = W1 at *
      clear hW
      go_loopw [6, 21] (fun v i w2 => ∃ (m : Nat), i = .int .i64 m ∧ m ≤ x.kids.length ∧ Hid (Kd.R kTm 33 w2 W1.heap.size (fun _ => True) v (kidTerms (termsL (e.take k)) (x.kids.take m))) ∧ Hid (Below W1.heap.size W1 w2)) (fun _ i _ => x.kids.length - (intOf i).toNat)
      case atStart => exact ⟨0, rfl, by omega, Lib.hid (Kd.R_nil _ _ _ _ _), Lib.hid (Below.refl _ _)⟩
      case round =>
        obtain ⟨m, rfl, hm, hO2, hB2⟩ := hrel
        by_cases hmt : m < x.kids.length
        · have hj : x.kids[m]? = some x.kids[m] := List.getElem?_eq_getElem hmt
          obtain ⟨ad3, e3, h3⟩ := int_at HK3.out hj
          obtain ⟨hj0, hj1⟩ := HAX.out x.kids[m] (List.getElem_mem hmt)
          obtain ⟨j, hjn⟩ := Int.eq_ofNat_of_zero_le hj0
          have HN := Lib.hid (kidTerms_next (l := termsL (e.take k)) hmt)
          have hlen2 : (kidTerms (termsL (e.take k)) (x.kids.take m)).length = m := by unfold kidTerms; simp; omega
          rw [hjn] at h3 hj1
          have hjk : (termsL (e.take k))[j]? = some ((termsL (e.take k)).getD j .nil) := by
            rw [List.getD_eq_getElem?_getD, List.getElem?_eq_getElem (by rw [HTL.out]; omega)]; rfl
          obtain ⟨adl, el, hl⟩ := tm_at HCL.out hjk
          have HJ := Lib.hid hjn
          have HLEN := Lib.hid hlen2
          subst e3
          subst el
          have h3' := nd_below (HBW.out.trans (hB2.out.mono (Nat.le_of_lt hsz1))) h3
          have hl' := nd_below (HBW.out.trans (hB2.out.mono (Nat.le_of_lt hsz1))) hl
          clear hj hj0 hjn hjk h3 hl hlen2
          generalize hT0 : (termsL (e.take k)).getD j .nil = T at *
          have hT := Lib.hid hT0
          clear hT0
          have hjlt : (j : Int) < (k : Int) := by omega
          go_wp2_with (refine Kd.R_append kTm (w0 := W1) W1.heap.size rfl (.tmp 25) (.tmp 30) 24 33 .nilIface 16 rfl Tryd.underlying24 infoTm rfl (by decide) (by omega) _ (kidTerms (termsL (e.take k)) (x.kids.take m)) T [tval T] (fun _ => True) (fun _ => False) rfl rfl ?aP (fun _ h => h.elim) (fun _ _ => trivial) ?aO ?aB ?aS ?aL ?_)
          case aP => exact rfl
          case aO => exact hO2.out
          case aB => exact hB2.out
          case aS => exact hB2.out.size
          case aL => rw [HLEN.out]; omega
          intro v1 w3 ho3 hb3 _ _
          have HO3 := Lib.hid ho3
          have HB3 := Lib.hid hb3
          clear ho3 hb3
          go_wp2
          go_roundw
          case rel =>
            have hn := HN.out
            rw [HJ.out] at hn
            refine ⟨m + 1, by go_num, by omega, ?_, HB3⟩
            show Kd.R kTm _ _ _ _ _ _
            rw [hn]
            have : (termsL (e.take k)).getD ((j : Int)).toNat .nil = T := by rw [Int.toNat_natCast]; exact hT.out
            rw [this]
            exact HO3.out
          case measure => simp [intOf]; omega
        · have hme : m = x.kids.length := by omega
          have hOm := hO2.out
          rw [hme, List.take_length] at hOm
          obtain ⟨Ap, cp, rfl, hlp, hCp⟩ := Kd.R_reads hOm
          have HCP := Lib.hid hCp
          have hparts : Hid (termAt e k = made x (kidTerms (termsL (e.take k)) x.kids)) := by
            unfold Hid
            have h1 := termAt_get e k hlt
            rw [termsL_at e k (k + 1) (by omega) (by omega), termsL_take e k x HX.out, List.getElem?_append_right (by rw [HTL.out]; omega), HTL.out, Nat.sub_self] at h1
            exact (Option.some.inj h1).symm
          have HPL := Lib.hid (show (kidTerms (termsL (e.take k)) x.kids).length = x.kids.length by simp [kidTerms])
          have g0 := nd_below hB2.out P0.out
          have g1 := nd_below hB2.out P1.out
          have g2 := nd_below hB2.out P2.out
          have g3 := nd_below hB2.out P3.out
          have hBB := Lib.hid (hB.out.trans ((HBW.out.trans (hB2.out.mono (Nat.le_of_lt hsz1))).mono hwsz))
          have hOO := Lib.hid (Kd.R_below hO.out (HBW.out.trans (hB2.out.mono (Nat.le_of_lt hsz1))))
          have hszr : wo.heap.size < wr.heap.size := Nat.lt_of_lt_of_le hsz1 hB2.out.size
          clear hOm hCp hme
          rw [HPL.out] at hlp ⊢
          have hma := Lib.hid (made_any x (kidTerms (termsL (e.take k)) x.kids) A3 Ap c3 cp wr HCP.out)
          rw [HPL.out] at hma
          have hkd : Hid (k + 1 ≤ 64) := by unfold Hid; omega
          go_wp2_with (first | (go_at_call 62; refine hma.out.mono ?_; rintro en w4 ⟨rfl, hb4⟩; have HB4 := Lib.hid hb4; clear hb4) | (refine Kd.R_append kTm (w0 := w) w.heap.size rfl (.tmp 33) (.tmp 37) 24 33 .nilIface 16 rfl Tryd.underlying24 infoTm rfl (by decide) (by omega) _ (termsL (e.take k)) (made x (kidTerms (termsL (e.take k)) x.kids)) [tval (made x (kidTerms (termsL (e.take k)) x.kids))] (fun _ => True) (fun _ => False) rfl rfl ?aP (fun _ h => h.elim) (fun _ _ => trivial) ?aO ?aB ?aS ?aL ?_))
          case aP => exact rfl
          case aO => exact Kd.R_below hOO.out HB4.out
          case aB => exact hBB.out.trans (HB4.out.mono hBB.out.size)
          case aS => exact Nat.le_trans hBB.out.size HB4.out.size
          case aL => rw [HTL.out]; have := hkd.out; omega
          intro v1 w5 ho5 hb5 _ _
          have HO5 := Lib.hid ho5
          have HB5 := Lib.hid hb5
          clear ho5 hb5
          go_wp2
          go_roundw
          case rel =>
            refine ⟨k + 1, by go_num, by omega, ?_, HB5⟩
            rw [termsL_take e k x HX.out]
            exact HO5
          case measure => simp [intOf]; omega
    · have hke : k = e.length := by omega
      have hOe := hO.out
      rw [hke, List.take_length] at hOe
      have HOE := Lib.hid hOe
      clear hOe hke
      go_wp2
      go_ret
      exact ⟨_, rfl, HOE.out, hB.out⟩
end Go.Proofs.YticaocadeeolkaaDoor
