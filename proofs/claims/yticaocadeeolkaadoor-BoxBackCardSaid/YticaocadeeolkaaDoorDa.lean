/-
  TERMS as values; the walks of box.Lit, box.Op, box.Parts. (Laid by gen_da.py.)
-/
import Derived.Test.YticaocadeeolkaaDoorBd
import Derived.Test.YticaocadeeolkaaDoorCc
namespace Go.Proofs.YticaocadeeolkaaDoor
open Go.RowKit Plain Go.Proofs.YticaocadeeolkaaDoorW.PrintWords

def tval : Tm → Value
  | .nil => .nilIface
  | .lit n => .iface 48 (.agg #[.int .i64 n])
  | .var s => .iface 81 (.agg #[.string s])
  | .un op a => .iface 86 (.agg #[.int .i64 op, tval a])
  | .bin op a b => .iface 88 (.agg #[.int .i64 op, tval a, tval b])
  | .ite c a b => .iface 90 (.agg #[tval c, tval a, tval b])
  | .other t v => .iface t v
/-- No value of another type bears one of the five types' numbers. -/
def Ty5 (t : Nat) : Prop := ¬ t = 48 ∧ ¬ t = 81 ∧ ¬ t = 86 ∧ ¬ t = 88 ∧ ¬ t = 90
def tfine : Tm → Prop
  | .un _ a => tfine a | .bin _ a b => tfine a ∧ tfine b | .ite c a b => tfine c ∧ tfine a ∧ tfine b | .other t _ => Ty5 t | _ => True
theorem tval_one (t : Tm) : (tval t).oneCell' = true := by cases t <;> rfl
def kTm : Kd Tm := Kd.scalar tval tval_one

theorem run_store_tval (P : Program) (w : World) (a : Addr) (t : Tm) (m : Mode) : (store a (tval t) m).run P w = stored P w a (tval t) m := run_store P w a _ m (tval_one t)
theorem run_store_ifc (P : Program) (w : World) (a : Addr) (T : Nat) (v : Value) (m : Mode) : (store a (.iface T v) m).run P w = stored P w a (.iface T v) m := run_store P w a _ m rfl
theorem run_store_nilI (P : Program) (w : World) (a : Addr) (m : Mode) : (store a .nilIface m).run P w = stored P w a .nilIface m := run_store P w a _ m rfl
theorem cells_tval (t : Tm) : (tval t).cells = #[tval t] := by cases t <;> rfl
attribute [go_sem] run_store_tval run_store_ifc run_store_nilI
theorem cells_match (a : Tm) (f : Array Value → Array Value) (g : Value → Array Value) : Go.Value.cells.match_1 (fun _ => Array Value) (tval a) f g = g (tval a) := by cases a <;> rfl
attribute [go_sem] cells_tval cells_match

/-! ### type assertions -/
def TypeDesc.plain : TypeDesc → Bool
  | .interface _ => false
  | _ => true
theorem run_ta_hit {P : Program} {S X : Nat} {d : TypeDesc} (hu : P.underlying S = some d) (hd : TypeDesc.plain d = true) (v : Value) (w : World) :
    (Instr.typeAssert (.iface S v) X S true).run P w = .ok (.tuple #[v, .bool true]) w := by
  cases d <;> simp [TypeDesc.plain] at hd <;> simp [Instr.typeAssert, underlying, hu, go_sem]
theorem run_ta_miss {P : Program} {S X T : Nat} {d : TypeDesc} {z : Value} (hu : P.underlying S = some d) (hd : TypeDesc.plain d = true) (v : Value) (w : World) (hz : (zeroValue S).run P w = .ok z w) (hT : ¬ T = S) :
    (Instr.typeAssert (.iface T v) X S true).run P w = .ok (.tuple #[z, .bool false]) w := by
  cases d <;> simp [TypeDesc.plain] at hd <;> simp [Instr.typeAssert, underlying, hu, go_sem, hT, hz]
theorem run_ta_nil {P : Program} {S X : Nat} {d : TypeDesc} {z : Value} (hu : P.underlying S = some d) (hd : TypeDesc.plain d = true) (w : World) (hz : (zeroValue S).run P w = .ok z w) :
    (Instr.typeAssert .nilIface X S true).run P w = .ok (.tuple #[z, .bool false]) w := by
  cases d <;> simp [TypeDesc.plain] at hd <;> simp [Instr.typeAssert, underlying, hu, go_sem, hz]
theorem z_lit (w : World) : (zeroValue 48).run Tryd.prog w = .ok (.agg #[.int .i64 0]) w := by kernel_rfl
theorem ta_lit_hit (v : Value) (w : World) : (Instr.typeAssert (.iface 48 v) 33 48 true).run Tryd.prog w = .ok (.tuple #[v, .bool true]) w := run_ta_hit Tryd.underlying48 rfl v w
theorem ta_lit_miss {T : Nat} (hT : ¬ T = 48) (v : Value) (w : World) : (Instr.typeAssert (.iface T v) 33 48 true).run Tryd.prog w = .ok (.tuple #[(.agg #[.int .i64 0]), .bool false]) w := run_ta_miss Tryd.underlying48 rfl v w (z_lit w) hT
theorem ta_lit_nil (w : World) : (Instr.typeAssert .nilIface 33 48 true).run Tryd.prog w = .ok (.tuple #[(.agg #[.int .i64 0]), .bool false]) w := run_ta_nil Tryd.underlying48 rfl w (z_lit w)
theorem z_var (w : World) : (zeroValue 81).run Tryd.prog w = .ok (.agg #[.string ⟨#[]⟩]) w := by kernel_rfl
theorem ta_var_hit (v : Value) (w : World) : (Instr.typeAssert (.iface 81 v) 33 81 true).run Tryd.prog w = .ok (.tuple #[v, .bool true]) w := run_ta_hit Tryd.underlying81 rfl v w
theorem ta_var_miss {T : Nat} (hT : ¬ T = 81) (v : Value) (w : World) : (Instr.typeAssert (.iface T v) 33 81 true).run Tryd.prog w = .ok (.tuple #[(.agg #[.string ⟨#[]⟩]), .bool false]) w := run_ta_miss Tryd.underlying81 rfl v w (z_var w) hT
theorem ta_var_nil (w : World) : (Instr.typeAssert .nilIface 33 81 true).run Tryd.prog w = .ok (.tuple #[(.agg #[.string ⟨#[]⟩]), .bool false]) w := run_ta_nil Tryd.underlying81 rfl w (z_var w)
theorem z_un (w : World) : (zeroValue 86).run Tryd.prog w = .ok (.agg #[.int .i64 0, .nilIface]) w := by kernel_rfl
theorem ta_un_hit (v : Value) (w : World) : (Instr.typeAssert (.iface 86 v) 33 86 true).run Tryd.prog w = .ok (.tuple #[v, .bool true]) w := run_ta_hit Tryd.underlying86 rfl v w
theorem ta_un_miss {T : Nat} (hT : ¬ T = 86) (v : Value) (w : World) : (Instr.typeAssert (.iface T v) 33 86 true).run Tryd.prog w = .ok (.tuple #[(.agg #[.int .i64 0, .nilIface]), .bool false]) w := run_ta_miss Tryd.underlying86 rfl v w (z_un w) hT
theorem ta_un_nil (w : World) : (Instr.typeAssert .nilIface 33 86 true).run Tryd.prog w = .ok (.tuple #[(.agg #[.int .i64 0, .nilIface]), .bool false]) w := run_ta_nil Tryd.underlying86 rfl w (z_un w)
theorem z_bin (w : World) : (zeroValue 88).run Tryd.prog w = .ok (.agg #[.int .i64 0, .nilIface, .nilIface]) w := by kernel_rfl
theorem ta_bin_hit (v : Value) (w : World) : (Instr.typeAssert (.iface 88 v) 33 88 true).run Tryd.prog w = .ok (.tuple #[v, .bool true]) w := run_ta_hit Tryd.underlying88 rfl v w
theorem ta_bin_miss {T : Nat} (hT : ¬ T = 88) (v : Value) (w : World) : (Instr.typeAssert (.iface T v) 33 88 true).run Tryd.prog w = .ok (.tuple #[(.agg #[.int .i64 0, .nilIface, .nilIface]), .bool false]) w := run_ta_miss Tryd.underlying88 rfl v w (z_bin w) hT
theorem ta_bin_nil (w : World) : (Instr.typeAssert .nilIface 33 88 true).run Tryd.prog w = .ok (.tuple #[(.agg #[.int .i64 0, .nilIface, .nilIface]), .bool false]) w := run_ta_nil Tryd.underlying88 rfl w (z_bin w)
theorem z_ite (w : World) : (zeroValue 90).run Tryd.prog w = .ok (.agg #[.nilIface, .nilIface, .nilIface]) w := by kernel_rfl
theorem ta_ite_hit (v : Value) (w : World) : (Instr.typeAssert (.iface 90 v) 33 90 true).run Tryd.prog w = .ok (.tuple #[v, .bool true]) w := run_ta_hit Tryd.underlying90 rfl v w
theorem ta_ite_miss {T : Nat} (hT : ¬ T = 90) (v : Value) (w : World) : (Instr.typeAssert (.iface T v) 33 90 true).run Tryd.prog w = .ok (.tuple #[(.agg #[.nilIface, .nilIface, .nilIface]), .bool false]) w := run_ta_miss Tryd.underlying90 rfl v w (z_ite w) hT
theorem ta_ite_nil (w : World) : (Instr.typeAssert .nilIface 33 90 true).run Tryd.prog w = .ok (.tuple #[(.agg #[.nilIface, .nilIface, .nilIface]), .bool false]) w := run_ta_nil Tryd.underlying90 rfl w (z_ite w)
attribute [go_sem] ta_lit_hit ta_lit_miss ta_lit_nil ta_var_hit ta_var_miss ta_var_nil ta_un_hit ta_un_miss ta_un_nil ta_bin_hit ta_bin_miss ta_bin_nil ta_ite_hit ta_ite_miss ta_ite_nil

theorem ret_lit {a n : Int} {b c : Bool} (h : a = n) (h' : b = c) : Ending.returned (.tuple #[.int .i64 a, .bool b]) = .returned (.tuple #[.int .i64 n, .bool c]) := by rw [h, h']
def isLit : Tm → Bool
  | .lit _ => true
  | _ => false

set_option maxHeartbeats 2000000 in
theorem lit_any (t : Tm) (ht : tfine t) (w : World) : Calls Tryd.prog 33 #[tval t] w fun e w' => e = .returned (.tuple #[.int .i64 (numOf t), .bool (isLit t)]) ∧ Below w.heap.size w w' := by
  cases t
  case nil =>
    clear ht
    unfold tval
    go_enter Tryd.func33, Tryd.ntmps33
    go_wp2
    go_ret2
    exact ⟨ret_lit rfl rfl, by repeat (first | exact Below.refl _ _ | (refine Below.alloc ?_ (by simp) _))⟩
  case lit =>
    clear ht
    unfold tval
    go_enter Tryd.func33, Tryd.ntmps33
    go_wp2
    go_ret2
    exact ⟨ret_lit rfl rfl, by repeat (first | exact Below.refl _ _ | (refine Below.alloc ?_ (by simp) _))⟩
  case var =>
    clear ht
    unfold tval
    go_enter Tryd.func33, Tryd.ntmps33
    go_wp2
    go_ret2
    exact ⟨ret_lit rfl rfl, by repeat (first | exact Below.refl _ _ | (refine Below.alloc ?_ (by simp) _))⟩
  case un =>
    clear ht
    unfold tval
    go_enter Tryd.func33, Tryd.ntmps33
    go_wp2
    go_ret2
    exact ⟨ret_lit rfl rfl, by repeat (first | exact Below.refl _ _ | (refine Below.alloc ?_ (by simp) _))⟩
  case bin =>
    clear ht
    unfold tval
    go_enter Tryd.func33, Tryd.ntmps33
    go_wp2
    go_ret2
    exact ⟨ret_lit rfl rfl, by repeat (first | exact Below.refl _ _ | (refine Below.alloc ?_ (by simp) _))⟩
  case ite =>
    clear ht
    unfold tval
    go_enter Tryd.func33, Tryd.ntmps33
    go_wp2
    go_ret2
    exact ⟨ret_lit rfl rfl, by repeat (first | exact Below.refl _ _ | (refine Below.alloc ?_ (by simp) _))⟩
  case other =>
    obtain ⟨t1, t2, t3, t4, t5⟩ := ht
    unfold tval
    go_enter Tryd.func33, Tryd.ntmps33
    go_wp2
    go_ret2
    exact ⟨ret_lit rfl rfl, by repeat (first | exact Below.refl _ _ | (refine Below.alloc ?_ (by simp) _))⟩
set_option maxHeartbeats 2000000 in
theorem op_any (t : Tm) (ht : tfine t) (w : World) : Calls Tryd.prog 34 #[tval t] w fun e w' => e = .returned (.int .i64 (opOf t)) ∧ Below w.heap.size w w' := by
  cases t
  case nil =>
    clear ht
    unfold tval
    go_enter Tryd.func34, Tryd.ntmps34
    go_wp2
    go_ret
    exact ⟨ret_int rfl, by repeat (first | exact Below.refl _ _ | (refine Below.alloc ?_ (by simp) _))⟩
  case lit =>
    clear ht
    unfold tval
    go_enter Tryd.func34, Tryd.ntmps34
    go_wp2
    go_ret
    exact ⟨ret_int rfl, by repeat (first | exact Below.refl _ _ | (refine Below.alloc ?_ (by simp) _))⟩
  case var =>
    clear ht
    unfold tval
    go_enter Tryd.func34, Tryd.ntmps34
    go_wp2
    go_ret
    exact ⟨ret_int rfl, by repeat (first | exact Below.refl _ _ | (refine Below.alloc ?_ (by simp) _))⟩
  case un =>
    clear ht
    unfold tval
    go_enter Tryd.func34, Tryd.ntmps34
    go_wp2
    go_ret
    exact ⟨ret_int rfl, by repeat (first | exact Below.refl _ _ | (refine Below.alloc ?_ (by simp) _))⟩
  case bin =>
    clear ht
    unfold tval
    go_enter Tryd.func34, Tryd.ntmps34
    go_wp2
    go_ret
    exact ⟨ret_int rfl, by repeat (first | exact Below.refl _ _ | (refine Below.alloc ?_ (by simp) _))⟩
  case ite =>
    clear ht
    unfold tval
    go_enter Tryd.func34, Tryd.ntmps34
    go_wp2
    go_ret
    exact ⟨ret_int rfl, by repeat (first | exact Below.refl _ _ | (refine Below.alloc ?_ (by simp) _))⟩
  case other =>
    obtain ⟨t1, t2, t3, t4, t5⟩ := ht
    unfold tval
    go_enter Tryd.func34, Tryd.ntmps34
    go_wp2
    go_ret
    exact ⟨ret_int rfl, by repeat (first | exact Below.refl _ _ | (refine Below.alloc ?_ (by simp) _))⟩
end Go.Proofs.YticaocadeeolkaaDoor
