/-
  THE WALKS of box.Parts and box.made.
-/
import Derived.Test.YticaocadeeolkaaDoorDa
namespace Go.Proofs.YticaocadeeolkaaDoor
open Go.RowKit Plain Go.Proofs.YticaocadeeolkaaDoorW.PrintWords

/-- A new block whose cells are a list's: the list is owned. -/
theorem R_of_block {α : Type} (enc : α → Value) (h1 : ∀ x, (enc x).oneCell' = true) {W : World} {base g : Nat} {e : TypeId} {xs : List α} (hh : W.heap[g]? = some (.cells (xs.map enc).toArray e (0, 0))) (hb : base ≤ g) (hm : xs.length ≤ maxLen) :
    (Kd.scalar enc h1).R e W base (fun _ => True) (.slice (some ⟨g, 0, none⟩) xs.length xs.length) xs := by
  refine ⟨fun _ _ => trivial, xs.map enc, ⟨by simp [Kd.scalar], .inr ⟨g, xs.length, (xs.map enc).toArray, rfl, hb, hh, Nat.le_refl _, hm, by simp [Kd.scalar], by simp only [Kd.scalar, Nat.mul_one]; exact List.take_of_length_le (by simp)⟩⟩, by simp [Kd.scalar], fun j p hj => ?_⟩
  have hlt := (List.getElem?_eq_some_iff.1 hj).1
  show ((xs.map enc).drop (j * 1)).take 1 = [enc p]
  rw [Nat.mul_one, List.drop_eq_getElem_cons (by simpa using hlt)]
  simp [(List.getElem?_eq_some_iff.1 hj).2]
theorem tm_at {w : World} {A : Option Addr} {n : Nat} {ts : List Tm} (h : Kd.C kTm w A n ts) {k : Nat} {a : Tm} (hx : ts[k]? = some a) : ∃ ad, A = some ad ∧ w.cell? (ad.add k) = some (tval a) := by
  have hlt := (List.getElem?_eq_some_iff.1 hx).1
  have hn : ts.length = n := h.1
  obtain ⟨ad, he, hc⟩ := h.2.2 (by omega)
  obtain ⟨c, hs, hr, hcell⟩ := hc k a hx
  have hr' : c = [tval a] := hr
  subst hr'
  refine ⟨ad, he, ?_⟩
  have := hcell 0 (tval a) rfl
  simpa [kTm, Kd.scalar] using this

theorem tm_at0 {w : World} {A : Option Addr} {n : Nat} {ts : List Tm} (h : Kd.C kTm w A n ts) {a : Tm} (hx : ts[0]? = some a) : ∃ ad, A = some ad ∧ w.cell? ad = some (tval a) := by
  obtain ⟨ad, e, hc⟩ := tm_at h hx
  exact ⟨ad, e, by simpa [Addr.add_zero'] using hc⟩
theorem tm_atS {w : World} {ad : Addr} {n : Nat} {ts : List Tm} (h : Kd.C kTm w (some ad) n ts) {k : Nat} {a : Tm} (hx : ts[k + 1]? = some a) : w.cell? ⟨ad.block, ad.off + (k + 1), none⟩ = some (tval a) := by
  obtain ⟨ad', e, hc⟩ := tm_at h hx
  cases e
  simpa [Addr.add] using hc
theorem heap_two (w : World) (A B : Obj) : ((w.alloc A).alloc B).heap[w.heap.size + 1]? = some B := heap_alloc2_new w A B
theorem heap_three (w : World) (A B C : Obj) : (((w.alloc A).alloc B).alloc C).heap[w.heap.size + 2]? = some C := by
  have := heap_alloc2_new (w.alloc A) B C
  simpa using this
theorem heap_four (w : World) (A B C D : Obj) : ((((w.alloc A).alloc B).alloc C).alloc D).heap[w.heap.size + 3]? = some D := by
  have := heap_three (w.alloc A) B C D
  have e : (w.alloc A).heap.size + 2 = w.heap.size + 3 := by simp
  rwa [e] at this
/-- What Parts hands back. -/
def PartsOk (t : Tm) (w : World) (en : Ending) (w' : World) : Prop := ∃ v, en = .returned v ∧ Kd.R kTm 33 w' w.heap.size (fun _ => True) v (partsOf t) ∧ Below w.heap.size w w'
set_option maxHeartbeats 2000000 in
theorem parts_any (t : Tm) (ht : tfine t) (w : World) : Calls Tryd.prog 22 #[tval t] w (PartsOk t w) := by
  cases t
  case un op a =>
    clear ht
    unfold tval
    go_enter Tryd.func22, Tryd.ntmps22
    go_wp2
    go_ret
    exact ⟨_, rfl, R_of_block tval tval_one (xs := [a]) (heap_two _ _ _) (by simp) (by simp [maxLen]), by repeat (first | exact Below.refl _ _ | (refine Below.alloc ?_ (by simp) _))⟩
  case bin op a b =>
    clear ht
    unfold tval
    go_enter Tryd.func22, Tryd.ntmps22
    go_wp2
    go_ret
    exact ⟨_, rfl, R_of_block tval tval_one (xs := [a, b]) (heap_two _ _ _) (by simp) (by simp [maxLen]), by repeat (first | exact Below.refl _ _ | (refine Below.alloc ?_ (by simp) _))⟩
  case ite c a b =>
    clear ht
    unfold tval
    go_enter Tryd.func22, Tryd.ntmps22
    go_wp2
    go_ret
    exact ⟨_, rfl, R_of_block tval tval_one (xs := [c, a, b]) (heap_two _ _ _) (by simp) (by simp [maxLen]), by repeat (first | exact Below.refl _ _ | (refine Below.alloc ?_ (by simp) _))⟩
  case nil =>
    clear ht
    unfold tval
    go_enter Tryd.func22, Tryd.ntmps22
    go_wp2
    go_ret
    exact ⟨_, rfl, Kd.R_nil _ _ _ _ _, Below.refl _ _⟩
  case lit =>
    clear ht
    unfold tval
    go_enter Tryd.func22, Tryd.ntmps22
    go_wp2
    go_ret
    exact ⟨_, rfl, Kd.R_nil _ _ _ _ _, Below.refl _ _⟩
  case var =>
    clear ht
    unfold tval
    go_enter Tryd.func22, Tryd.ntmps22
    go_wp2
    go_ret
    exact ⟨_, rfl, Kd.R_nil _ _ _ _ _, Below.refl _ _⟩
  case other =>
    obtain ⟨t1, t2, t3, t4, t5⟩ := ht
    unfold tval
    go_enter Tryd.func22, Tryd.ntmps22
    go_wp2
    go_ret
    exact ⟨_, rfl, Kd.R_nil _ _ _ _ _, Below.refl _ _⟩

/-! ### made -/
set_option maxHeartbeats 4000000 in
set_option maxRecDepth 100000 in
theorem made_any (x : Nd) (ts : List Tm) (A3 A : Option Addr) (c3 c : Nat) (w : World) (hr : Kd.C kTm w A ts.length ts) :
    Calls Tryd.prog 62 #[.agg #[.int .i64 x.op, .int .i64 x.n, .string x.name, .slice A3 x.kids.length c3], .slice A ts.length c] w fun en w' => en = .returned (tval (made x ts)) ∧ Below w.heap.size w w' := by
  match ts, hr with
  | [a], hr =>
    obtain ⟨ad, rfl, h0⟩ := tm_at0 hr rfl
    replace h0 := nd_below ((Below.refl _ _).alloc (Nat.le_refl _) (.cells #[.int .i64 x.op, .int .i64 x.n, .string x.name, .slice A3 x.kids.length c3] 96)) h0
    clear hr
    simp only [List.length_cons, List.length_nil, Nat.zero_add]
    go_enter Tryd.func62, Tryd.ntmps62
    go_wp2
    go_quiet (fail)
    go_wp2
    go_ret
    exact ⟨rfl, pw_below_drewN ((Below.refl _ _).alloc (Nat.le_refl _) _) _⟩
  | [a, b], hr =>
    obtain ⟨ad, rfl, h0⟩ := tm_at0 hr rfl
    replace h0 := nd_below ((Below.refl _ _).alloc (Nat.le_refl _) (.cells #[.int .i64 x.op, .int .i64 x.n, .string x.name, .slice A3 x.kids.length c3] 96)) h0
    have h1 := nd_below ((Below.refl _ _).alloc (Nat.le_refl _) (.cells #[.int .i64 x.op, .int .i64 x.n, .string x.name, .slice A3 x.kids.length c3] 96)) (tm_atS hr (k := 0) rfl)
    clear hr
    simp only [List.length_cons, List.length_nil, Nat.zero_add]
    go_enter Tryd.func62, Tryd.ntmps62
    go_wp2
    go_quiet (fail)
    go_wp2
    go_ret
    exact ⟨rfl, pw_below_drewN ((Below.refl _ _).alloc (Nat.le_refl _) _) _⟩
  | [d, a, b], hr =>
    obtain ⟨ad, rfl, h0⟩ := tm_at0 hr rfl
    replace h0 := nd_below ((Below.refl _ _).alloc (Nat.le_refl _) (.cells #[.int .i64 x.op, .int .i64 x.n, .string x.name, .slice A3 x.kids.length c3] 96)) h0
    have h1 := nd_below ((Below.refl _ _).alloc (Nat.le_refl _) (.cells #[.int .i64 x.op, .int .i64 x.n, .string x.name, .slice A3 x.kids.length c3] 96)) (tm_atS hr (k := 0) rfl)
    have h2 := nd_below ((Below.refl _ _).alloc (Nat.le_refl _) (.cells #[.int .i64 x.op, .int .i64 x.n, .string x.name, .slice A3 x.kids.length c3] 96)) (tm_atS hr (k := 1) rfl)
    clear hr
    simp only [List.length_cons, List.length_nil, Nat.zero_add]
    go_enter Tryd.func62, Tryd.ntmps62
    go_wp2
    go_quiet (fail)
    go_wp2
    go_ret
    exact ⟨rfl, pw_below_drewN ((Below.refl _ _).alloc (Nat.le_refl _) _) _⟩
  | [], hr =>
    clear hr
    simp only [List.length_nil]
    by_cases h2 : x.op = 2
    · have h2' : (x.op == 2) = true := by rw [beq_iff_eq]; exact h2
      have H2 := Lib.hid h2
      clear h2
      go_enter Tryd.func62, Tryd.ntmps62
      go_wp2
      go_ret
      exact ⟨by simp only [made]; rw [if_pos H2.out]; rfl, (Below.refl _ _).alloc (Nat.le_refl _) _⟩
    · have h2' : (x.op == 2) = false := by rw [beq_eq_false_iff_ne]; exact h2
      have H2 := Lib.hid h2
      clear h2
      go_enter Tryd.func62, Tryd.ntmps62
      go_wp2
      go_ret
      exact ⟨by simp only [made]; rw [if_neg H2.out]; rfl, (Below.refl _ _).alloc (Nat.le_refl _) _⟩
  | a :: b :: d :: f :: r, hr =>
    clear hr
    have hl : (a :: b :: d :: f :: r).length = r.length + 4 := by simp
    have n1 : (((r.length + 4 : Nat) : Int) == 1) = false := by rw [beq_eq_false_iff_ne]; omega
    have n2 : (((r.length + 4 : Nat) : Int) == 2) = false := by rw [beq_eq_false_iff_ne]; omega
    have n3 : (((r.length + 4 : Nat) : Int) == 3) = false := by rw [beq_eq_false_iff_ne]; omega
    rw [hl]
    generalize hm : r.length + 4 = m at *
    clear hl hm
    by_cases h2 : x.op = 2
    · have h2' : (x.op == 2) = true := by rw [beq_iff_eq]; exact h2
      have H2 := Lib.hid h2
      clear h2
      go_enter Tryd.func62, Tryd.ntmps62
      go_wp2
      go_ret
      exact ⟨by simp only [made]; rw [if_pos H2.out]; rfl, (Below.refl _ _).alloc (Nat.le_refl _) _⟩
    · have h2' : (x.op == 2) = false := by rw [beq_eq_false_iff_ne]; exact h2
      have H2 := Lib.hid h2
      clear h2
      go_enter Tryd.func62, Tryd.ntmps62
      go_wp2
      go_ret
      exact ⟨by simp only [made]; rw [if_neg H2.out]; rfl, (Below.refl _ _).alloc (Nat.le_refl _) _⟩
end Go.Proofs.YticaocadeeolkaaDoor
