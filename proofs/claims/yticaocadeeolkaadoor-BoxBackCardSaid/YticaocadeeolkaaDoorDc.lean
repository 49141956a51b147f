/-
  THE WALK of Of: the term at a place of a sound expression.
-/
import Derived.Test.YticaocadeeolkaaDoorDb
import Derived.Deep.RegionHeld3
namespace Go.Proofs.YticaocadeeolkaaDoor
open Go.RowKit Plain Go.Proofs.YticaocadeeolkaaDoorW.PrintWords

theorem int_at0 {w : World} {A : Option Addr} {n : Nat} {ks : List Int} (h : (Kd.int .i64).C w A n ks) {a : Int} (hx : ks[0]? = some a) : ∃ ad, A = some ad ∧ w.cell? ad = some (.int .i64 a) := by
  have hlt := (List.getElem?_eq_some_iff.1 hx).1
  have hn : ks.length = n := h.1
  obtain ⟨ad, he, hc⟩ := h.2.2 (by omega)
  obtain ⟨c, hs, hr, hcell⟩ := hc 0 a hx
  have hr' : c = [.int .i64 a] := hr
  subst hr'
  refine ⟨ad, he, ?_⟩
  have := hcell 0 (.int .i64 a) rfl
  simpa [Addr.add_zero'] using this
theorem int_atS {w : World} {ad : Addr} {n : Nat} {ks : List Int} (h : (Kd.int .i64).C w (some ad) n ks) {k : Nat} {a : Int} (hx : ks[k + 1]? = some a) : w.cell? ⟨ad.block, ad.off + (k + 1), none⟩ = some (.int .i64 a) := by
  have hlt := (List.getElem?_eq_some_iff.1 hx).1
  have hn : ks.length = n := h.1
  obtain ⟨ad', he, hc⟩ := h.2.2 (by omega)
  cases he
  obtain ⟨c, hs, hr, hcell⟩ := hc (k + 1) a hx
  have hr' : c = [.int .i64 a] := hr
  subst hr'
  have := hcell 0 (.int .i64 a) rfl
  simpa [Kd.int, Kd.scalar, Addr.add] using this
theorem made_one (x : Nd) (a : Tm) : made x [a] = .un x.op a := rfl

theorem kids_lt {ks : List Nat} {a : Nat} (h : ∀ k ∈ ks, k < a) : ∀ j ∈ ks.map (fun (k : Nat) => (k : Int)), 0 ≤ j ∧ j < (a : Int) := by
  intro j hj
  obtain ⟨k, hk, rfl⟩ := List.mem_map.1 hj
  have := h k hk
  omega
/-- What Of answers of a place, in whatever later world. -/
def OfOk (e : List Nd) (A : Option Addr) (c : Nat) (k : Nat) : Prop := ∀ w : World, Kd.C kNd w A e.length e →
  Calls Tryd.prog 18 #[.slice A e.length c, .int .i64 k] w fun en w' => en = .returned (tval (termAt e k)) ∧ Below w.heap.size w w'

set_option maxHeartbeats 4000000 in
set_option maxRecDepth 100000 in
theorem of_one (e : List Nd) (A : Option Addr) (c : Nat) (a k : Nat) (x : Nd) (hx : e[a]? = some x) (hk : x.kids = [(k : Int)]) (hka : ∀ q ∈ [k], q < a) (ih : ∀ q ∈ [k], OfOk e A c q) : OfOk e A c a := by
  intro w hr
  have hm : Hid (termAt e a = Tm.un x.op (termAt e k)) := by
    unfold Hid
    rw [termAt_made e a x hx (by rw [hk]; exact kids_lt (ks := [k]) hka), hk]
    simp [made]
  obtain ⟨ad, A3, c3, hA, q0, q1, q2, q3, hl3, hk3⟩ := nd_at hr hx
  subst hA
  rw [hk] at q3 hl3 hk3
  obtain ⟨ad3, rfl, h0⟩ := int_at0 hk3 rfl
  have HR := Lib.hid hr
  have IH := Lib.hid ih
  have hlt : a < e.length := (List.getElem?_eq_some_iff.1 hx).1
  have hu := Tryd.underlying96
  clear hr ih hx hk hk3 hka
  simp only [List.length_cons, List.length_nil, Nat.zero_add] at q3 hl3
  go_enter Tryd.func18, Tryd.ntmps18
  go_wp2
  obtain ⟨p0, _, _, p3⟩ := cell4 w (.int .i64 x.op) (.int .i64 x.n) (.string x.name) (.slice (some ad3) 1 c3) 96
  have hB0 : Below w.heap.size w (w.alloc (.cells #[.int .i64 x.op, .int .i64 x.n, .string x.name, .slice (some ad3) 1 c3] 96)) := (Below.refl _ _).alloc (Nat.le_refl _) _
  have p4 := nd_below hB0 h0
  have HS := Lib.hid (show w.heap.size ≤ (w.alloc (.cells #[.int .i64 x.op, .int .i64 x.n, .string x.name, .slice (some ad3) 1 c3] 96)).heap.size by simp)
  generalize hW : w.alloc (.cells #[.int .i64 x.op, .int .i64 x.n, .string x.name, .slice (some ad3) 1 c3] 96) = W at *
  have HC := Lib.hid (Kd.C_below HR.out hB0)
  have HB0 := Lib.hid hB0
  clear hW hB0
  go_region_held3 (fun w' => w'.cell? ⟨w.heap.size, 0, none⟩ = some (.int .i64 x.op) ∧ w'.cell? ⟨w.heap.size, 3, none⟩ = some (.slice (some ad3) 1 c3) ∧ w'.cell? ad3 = some (.int .i64 k)) (refine ⟨?_, ?_, ?_⟩ <;> first | assumption | exact nd_below (by assumption) (by assumption) | exact nd_below (by assumption) (nd_below (by assumption) (by assumption)) | exact nd_below (by assumption) (nd_below (by assumption) (nd_below (by assumption) (by assumption)))) (first | (go_at_call 18; refine (IH.out _ (by simp) _ (by with_reducible repeat (first | exact HC.out | refine Kd.C_drew ?_ | refine Kd.C_drewN ?_ _ | refine Kd.C_below ?_ (by assumption)))).mono ?_; rintro en w1 ⟨rfl, hb1⟩))
  go_wp2
  go_ret
  exact ⟨by rw [hm.out]; rfl, below_step (below_drew HB0.out) (by assumption)⟩
set_option maxHeartbeats 4000000 in
set_option maxRecDepth 100000 in
theorem of_two (e : List Nd) (A : Option Addr) (c : Nat) (a k k2 : Nat) (x : Nd) (hx : e[a]? = some x) (hk : x.kids = [(k : Int), (k2 : Int)]) (hka : ∀ q ∈ [k, k2], q < a) (ih : ∀ q ∈ [k, k2], OfOk e A c q) : OfOk e A c a := by
  intro w hr
  have hm : Hid (termAt e a = Tm.bin x.op (termAt e k) (termAt e k2)) := by
    unfold Hid
    rw [termAt_made e a x hx (by rw [hk]; exact kids_lt (ks := [k, k2]) hka), hk]
    simp [made]
  obtain ⟨ad, A3, c3, hA, q0, q1, q2, q3, hl3, hk3⟩ := nd_at hr hx
  subst hA
  rw [hk] at q3 hl3 hk3
  obtain ⟨ad3, rfl, h0⟩ := int_at0 hk3 rfl
  have h1 := int_atS hk3 (k := 0) rfl
  have HR := Lib.hid hr
  have IH := Lib.hid ih
  have hlt : a < e.length := (List.getElem?_eq_some_iff.1 hx).1
  have hu := Tryd.underlying96
  clear hr ih hx hk hk3 hka
  simp only [List.length_cons, List.length_nil, Nat.zero_add, Nat.reduceAdd] at q3 hl3
  go_enter Tryd.func18, Tryd.ntmps18
  go_wp2
  obtain ⟨p0, _, _, p3⟩ := cell4 w (.int .i64 x.op) (.int .i64 x.n) (.string x.name) (.slice (some ad3) 2 c3) 96
  have hB0 : Below w.heap.size w (w.alloc (.cells #[.int .i64 x.op, .int .i64 x.n, .string x.name, .slice (some ad3) 2 c3] 96)) := (Below.refl _ _).alloc (Nat.le_refl _) _
  have p4 := nd_below hB0 h0
  have p5 := nd_below hB0 h1
  have HS := Lib.hid (show w.heap.size ≤ (w.alloc (.cells #[.int .i64 x.op, .int .i64 x.n, .string x.name, .slice (some ad3) 2 c3] 96)).heap.size by simp)
  generalize hW : w.alloc (.cells #[.int .i64 x.op, .int .i64 x.n, .string x.name, .slice (some ad3) 2 c3] 96) = W at *
  have HC := Lib.hid (Kd.C_below HR.out hB0)
  have HB0 := Lib.hid hB0
  clear hW hB0
  go_region_held3 (fun w' => w'.cell? ⟨w.heap.size, 0, none⟩ = some (.int .i64 x.op) ∧ w'.cell? ⟨w.heap.size, 3, none⟩ = some (.slice (some ad3) 2 c3) ∧ w'.cell? ad3 = some (.int .i64 k) ∧ w'.cell? ⟨ad3.block, ad3.off + 1, none⟩ = some (.int .i64 k2)) (refine ⟨?_, ?_, ?_, ?_⟩ <;> first | assumption | exact nd_below (by assumption) (by assumption) | exact nd_below (by assumption) (nd_below (by assumption) (by assumption)) | exact nd_below (by assumption) (nd_below (by assumption) (nd_below (by assumption) (by assumption)))) (first | (go_at_call 18; refine (IH.out _ (by simp) _ (by with_reducible repeat (first | exact HC.out | refine Kd.C_drew ?_ | refine Kd.C_drewN ?_ _ | refine Kd.C_below ?_ (by assumption)))).mono ?_; rintro en w1 ⟨rfl, hb1⟩))
  go_wp2
  go_ret
  exact ⟨by rw [hm.out]; rfl, below_step (below_step (below_drew HB0.out) (by assumption)) (by assumption)⟩
set_option maxHeartbeats 4000000 in
set_option maxRecDepth 100000 in
theorem of_three (e : List Nd) (A : Option Addr) (c : Nat) (a k k2 k3 : Nat) (x : Nd) (hx : e[a]? = some x) (hk : x.kids = [(k : Int), (k2 : Int), (k3 : Int)]) (hka : ∀ q ∈ [k, k2, k3], q < a) (ih : ∀ q ∈ [k, k2, k3], OfOk e A c q) : OfOk e A c a := by
  intro w hr
  have hm : Hid (termAt e a = Tm.ite (termAt e k) (termAt e k2) (termAt e k3)) := by
    unfold Hid
    rw [termAt_made e a x hx (by rw [hk]; exact kids_lt (ks := [k, k2, k3]) hka), hk]
    simp [made]
  obtain ⟨ad, A3, c3, hA, q0, q1, q2, q3, hl3, hk3⟩ := nd_at hr hx
  subst hA
  rw [hk] at q3 hl3 hk3
  obtain ⟨ad3, rfl, h0⟩ := int_at0 hk3 rfl
  have h1 := int_atS hk3 (k := 0) rfl
  have h2 := int_atS hk3 (k := 1) rfl
  have HR := Lib.hid hr
  have IH := Lib.hid ih
  have hlt : a < e.length := (List.getElem?_eq_some_iff.1 hx).1
  have hu := Tryd.underlying96
  clear hr ih hx hk hk3 hka
  simp only [List.length_cons, List.length_nil, Nat.zero_add, Nat.reduceAdd] at q3 hl3
  go_enter Tryd.func18, Tryd.ntmps18
  go_wp2
  obtain ⟨p0, _, _, p3⟩ := cell4 w (.int .i64 x.op) (.int .i64 x.n) (.string x.name) (.slice (some ad3) 3 c3) 96
  have hB0 : Below w.heap.size w (w.alloc (.cells #[.int .i64 x.op, .int .i64 x.n, .string x.name, .slice (some ad3) 3 c3] 96)) := (Below.refl _ _).alloc (Nat.le_refl _) _
  have p4 := nd_below hB0 h0
  have p5 := nd_below hB0 h1
  have p6 := nd_below hB0 h2
  have HS := Lib.hid (show w.heap.size ≤ (w.alloc (.cells #[.int .i64 x.op, .int .i64 x.n, .string x.name, .slice (some ad3) 3 c3] 96)).heap.size by simp)
  generalize hW : w.alloc (.cells #[.int .i64 x.op, .int .i64 x.n, .string x.name, .slice (some ad3) 3 c3] 96) = W at *
  have HC := Lib.hid (Kd.C_below HR.out hB0)
  have HB0 := Lib.hid hB0
  clear hW hB0
  go_region_held3 (fun w' => w'.cell? ⟨w.heap.size, 3, none⟩ = some (.slice (some ad3) 3 c3) ∧ w'.cell? ad3 = some (.int .i64 k) ∧ w'.cell? ⟨ad3.block, ad3.off + 1, none⟩ = some (.int .i64 k2) ∧ w'.cell? ⟨ad3.block, ad3.off + 2, none⟩ = some (.int .i64 k3)) (refine ⟨?_, ?_, ?_, ?_⟩ <;> first | assumption | exact nd_below (by assumption) (by assumption) | exact nd_below (by assumption) (nd_below (by assumption) (by assumption)) | exact nd_below (by assumption) (nd_below (by assumption) (nd_below (by assumption) (by assumption)))) (first | (go_at_call 18; refine (IH.out _ (by simp) _ (by with_reducible repeat (first | exact HC.out | refine Kd.C_drew ?_ | refine Kd.C_drewN ?_ _ | refine Kd.C_below ?_ (by assumption)))).mono ?_; rintro en w1 ⟨rfl, hb1⟩))
  go_wp2
  go_ret
  exact ⟨by rw [hm.out]; rfl, below_step (below_step (below_step (below_drew HB0.out) (by assumption)) (by assumption)) (by assumption)⟩

set_option maxHeartbeats 4000000 in
set_option maxRecDepth 100000 in
theorem of_none (e : List Nd) (A : Option Addr) (c : Nat) (a : Nat) (x : Nd) (hx : e[a]? = some x) (hk : x.kids = []) : OfOk e A c a := by
  intro w hr
  have hm : Hid (termAt e a = if x.op = 2 then .var x.name else .lit x.n) := by
    unfold Hid
    rw [termAt_made e a x hx (by rw [hk]; simp), hk]
    rfl
  obtain ⟨ad, A3, c3, hA, q0, q1, q2, q3, hl3, hk3⟩ := nd_at hr hx
  subst hA
  rw [hk] at q3 hl3
  have hlt : a < e.length := (List.getElem?_eq_some_iff.1 hx).1
  have hu := Tryd.underlying96
  clear hr hx hk hk3
  simp only [List.length_nil] at q3 hl3
  by_cases h2 : x.op = 2
  · have h2' : (x.op == 2) = true := by rw [beq_iff_eq]; exact h2
    have H2 := Lib.hid h2
    clear h2
    go_enter Tryd.func18, Tryd.ntmps18
    go_wp2
    go_ret
    exact ⟨by rw [hm.out, if_pos H2.out]; rfl, (Below.refl _ _).alloc (Nat.le_refl _) _⟩
  · have h2' : (x.op == 2) = false := by rw [beq_eq_false_iff_ne]; exact h2
    have H2 := Lib.hid h2
    clear h2
    go_enter Tryd.func18, Tryd.ntmps18
    go_wp2
    go_ret
    exact ⟨by rw [hm.out, if_neg H2.out]; rfl, (Below.refl _ _).alloc (Nat.le_refl _) _⟩
theorem of_any (e : List Nd) (A : Option Addr) (c : Nat) (hf : ∀ x ∈ e, form x = true) : ∀ (n a lo : Nat), a < n → Seg e lo a → OfOk e A c a := by
  intro n
  induction n with
  | zero => intro a lo h; omega
  | succ n ih =>
    intro a lo hn hs
    have hs0 := hs
    cases hs with
    | node x ks hx hk h =>
      have hkid : ∀ q ∈ ks, q < a ∧ OfOk e A c q := by
        intro q hq
        obtain ⟨_, h2, k, lo', h3, h4⟩ := seg_kids hs0 x hx (q : Int) (by rw [hk]; exact List.mem_map_of_mem hq)
        have : k = q := by omega
        subst this
        exact ⟨by omega, ih k lo' (by omega) h4⟩
      have har := (form_parts (hf x (List.mem_of_getElem? hx))).1
      match ks, hk, hkid with
      | [], hk, _ => exact of_none e A c a x hx (by simpa using hk)
      | [k], hk, hkid => exact of_one e A c a k x hx (by simpa using hk) (fun q hq => (hkid q hq).1) (fun q hq => (hkid q hq).2)
      | [k, k2], hk, hkid => exact of_two e A c a k k2 x hx (by simpa using hk) (fun q hq => (hkid q hq).1) (fun q hq => (hkid q hq).2)
      | [k, k2, k3], hk, hkid => exact of_three e A c a k k2 k3 x hx (by simpa using hk) (fun q hq => (hkid q hq).1) (fun q hq => (hkid q hq).2)
      | _ :: _ :: _ :: _ :: _, hk, _ =>
        rw [hk] at har
        have := arity_le har
        simp at this
end Go.Proofs.YticaocadeeolkaaDoor
