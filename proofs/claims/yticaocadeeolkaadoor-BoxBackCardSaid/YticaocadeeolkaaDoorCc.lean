/-
  PLAIN: the terms of a sound expression, node by node; Open of the last is the expression.
-/
import Derived.Test.YticaocadeeolkaaDoorCb
import Derived.Laws.Closers25b
namespace Go.Proofs.YticaocadeeolkaaDoor.Plain
open Go

def made (x : Nd) : List Tm → Tm
  | [a] => .un x.op a
  | [a, b] => .bin x.op a b
  | [c, a, b] => .ite c a b
  | _ => if x.op = 2 then .var x.name else .lit x.n
def kidTerms (l : List Tm) (ks : List Int) : List Tm := ks.map fun k => l.getD k.toNat .nil
def termsGo : List Nd → List Tm → List Tm
  | [], l => l
  | x :: r, l => termsGo r (l ++ [made x (kidTerms l x.kids)])
def termsL (e : List Nd) : List Tm := termsGo e []
theorem termsGo_append : ∀ (e f : List Nd) (l : List Tm), termsGo (e ++ f) l = termsGo f (termsGo e l)
  | [], _, _ => rfl
  | x :: e, f, l => by simp only [List.cons_append, termsGo]; exact termsGo_append e f _
theorem termsGo_length : ∀ (e : List Nd) (l : List Tm), (termsGo e l).length = l.length + e.length
  | [], _ => rfl
  | x :: e, l => by rw [termsGo, termsGo_length e]; simp; omega
theorem termsL_length (e : List Nd) : (termsL e).length = e.length := by simp [termsL, termsGo_length]
theorem termsGo_pre : ∀ (e : List Nd) (l : List Tm) (k : Nat), k < l.length → (termsGo e l)[k]? = l[k]?
  | [], _, _, _ => rfl
  | x :: e, l, k, h => by
    rw [termsGo, termsGo_pre e _ k (by simp; omega), List.getElem?_append_left h]
theorem termsL_take (e : List Nd) (k : Nat) (x : Nd) (hx : e[k]? = some x) : termsL (e.take (k + 1)) = termsL (e.take k) ++ [made x (kidTerms (termsL (e.take k)) x.kids)] := by
  have : e.take (k + 1) = e.take k ++ [x] := by
    have hlt := (List.getElem?_eq_some_iff.1 hx).1
    rw [List.take_succ_eq_append_getElem hlt, (List.getElem?_eq_some_iff.1 hx).2]
  rw [this, termsL, termsGo_append]
  rfl
theorem termsL_at (e : List Nd) (k m : Nat) (h : k < m) (hm : m ≤ e.length) : (termsL e)[k]? = (termsL (e.take m))[k]? := by
  have : termsL e = termsGo (e.drop m) (termsL (e.take m)) := by
    conv => lhs; rw [← List.take_append_drop m e]
    rw [termsL, termsGo_append]; rfl
  rw [this, termsGo_pre _ _ _ (by rw [termsL_length]; simp; omega)]
/-- The term at a place. -/
def termAt (e : List Nd) (k : Nat) : Tm := (termsL e).getD k .nil
theorem termAt_get (e : List Nd) (k : Nat) (h : k < e.length) : (termsL e)[k]? = some (termAt e k) := by
  unfold termAt
  rw [List.getD_eq_getElem?_getD, List.getElem?_eq_getElem (by rw [termsL_length]; exact h)]; rfl
/-- .. out of the terms of its parts, which lie ahead. -/
theorem termAt_made (e : List Nd) (k : Nat) (x : Nd) (hx : e[k]? = some x) (hk : ∀ j ∈ x.kids, 0 ≤ j ∧ j < k) : termAt e k = made x (x.kids.map fun j => termAt e j.toNat) := by
  have hlt := (List.getElem?_eq_some_iff.1 hx).1
  have h1 := termAt_get e k hlt
  rw [termsL_at e k (k + 1) (by omega) (by omega), termsL_take e k x hx, List.getElem?_append_right (by rw [termsL_length]; simp; omega)] at h1
  have hl : (termsL (e.take k)).length = k := by rw [termsL_length]; simp; omega
  rw [hl, Nat.sub_self] at h1
  have h2 := Option.some.inj h1
  rw [← h2]
  congr 1
  unfold kidTerms
  apply List.map_congr_left
  intro j hj
  obtain ⟨j0, j1⟩ := hk j hj
  rw [List.getD_eq_getElem?_getD, ← termsL_at e j.toNat k (by omega) (by omega), termAt_get e j.toNat (by omega)]
  rfl

theorem name_empty {s : ByteArray} (h : s.toList.isEmpty = true) : s = ⟨#[]⟩ := by
  rw [List.isEmpty_iff, toList_nil_iff_emptyBytes] at h
  rw [h]; rfl
theorem take_len {e : List Nd} {k : Nat} (h : k ≤ e.length) : (e.take k).length = k := by simp; omega
theorem take_next {e : List Nd} {k : Nat} {x : Nd} (hx : e[k]? = some x) : e.take (k + 1) = e.take k ++ [x] := by
  have hlt := (List.getElem?_eq_some_iff.1 hx).1
  rw [List.take_succ_eq_append_getElem hlt, (List.getElem?_eq_some_iff.1 hx).2]
theorem layPart_ok {f : List Nd → Option (List Nd)} {l l' : List Nd} (hl : l.length < 64) (h : f l = some l') : layPart f l = some l' := by unfold layPart; rw [if_neg (by omega), h]
theorem last_take {e : List Nd} {k : Nat} (h : k < e.length) : last (e.take (k + 1)) = (k : Int) := by unfold last; rw [take_len (by omega)]; omega
theorem form_parts {x : Nd} (h : form x = true) : arity x.op = some x.kids.length ∧ (x.op ≠ 1 → x.n = 0) ∧ (x.op ≠ 2 → x.name = ⟨#[]⟩) := by
  unfold form formB at h
  cases ha : arity x.op with
  | none => rw [ha] at h; cases h
  | some k =>
    rw [ha] at h
    simp only [Bool.and_eq_true, beq_iff_eq, Bool.or_eq_true] at h
    obtain ⟨⟨h1, h2⟩, h3⟩ := h
    refine ⟨by rw [h1], fun h => ?_, fun h => ?_⟩
    · rcases h2 with h2 | h2
      · exact absurd h2 h
      · exact h2
    · rw [if_neg h] at h3
      exact name_empty h3
theorem arity_zero {op : Int} (h : arity op = some 0) : op = 1 ∨ op = 2 := by
  unfold arity at h
  repeat' split at h
  all_goals first | assumption | (cases h; done)
theorem arity_pos {op : Int} {k : Nat} (h : arity op = some (k + 1)) : op ≠ 1 ∧ op ≠ 2 := by
  constructor
  · rintro rfl; simp [arity] at h
  · rintro rfl; simp [arity] at h
theorem arity_three {op : Int} (h : arity op = some 3) : op = 17 := by
  unfold arity at h
  repeat' split at h
  all_goals first | assumption | (cases h; done)

theorem nd_mk {x : Nd} {n : Int} {name : ByteArray} {kids : List Int} (h1 : x.n = n) (h2 : x.name = name) (h3 : x.kids = kids) : x = ⟨x.op, n, name, kids⟩ := by
  cases x; simp_all
theorem lay_seg (e : List Nd) (hf : ∀ x ∈ e, form x = true) (h64 : e.length ≤ 64) : ∀ (n at_ lo : Nat), at_ < n → Seg e lo at_ → lay (termAt e at_) (e.take lo) = some (e.take (at_ + 1)) := by
  intro n
  induction n with
  | zero => intro at_ lo h; omega
  | succ n ih =>
    intro at_ lo hn hs
    cases hs with
    | node x ks hx hk h =>
      have hlt : at_ < e.length := (List.getElem?_eq_some_iff.1 hx).1
      have hfx := hf x (List.mem_of_getElem? hx)
      obtain ⟨har, hnum, hname⟩ := form_parts hfx
      have hle := h.le
      rw [take_next hx]
      match ks, hk, h with
      | [], hk, h =>
        cases h
        have hk0 : x.kids = [] := by simpa using hk
        rw [termAt_made e at_ x hx (by rw [hk0]; simp), hk0]
        rw [hk0] at har
        simp only [List.map_nil, made]
        have hd : (e.take at_).length + 1 ≤ 64 := by rw [take_len (by omega)]; omega
        by_cases h2 : x.op = 2
        · rw [if_pos h2]
          simp only [lay, layEnd]
          rw [if_pos hd]
          have hq := nd_mk (hnum (by omega)) rfl hk0
          rw [h2] at hq
          rw [← hq]
        · rw [if_neg h2]
          have h1 : x.op = 1 := by rcases arity_zero har with h | h; exact h; exact absurd h h2
          simp only [lay, layEnd]
          rw [if_pos hd]
          have hq := nd_mk rfl (hname h2) hk0
          rw [h1] at hq
          rw [← hq]
      | [k], hk, h =>
        obtain ⟨e1, h1⟩ := h.one
        subst e1
        have hk1 : x.kids = [(k : Int)] := by simpa using hk
        have hl1 := h1.le
        rw [hk1] at har
        obtain ⟨n1, n2⟩ := arity_pos har
        rw [termAt_made e (k + 1) x hx (by rw [hk1]; simp; omega), hk1]
        simp only [List.map_cons, List.map_nil, made, Int.toNat_natCast]
        simp only [List.length_singleton] at har
        simp only [lay, har, if_true]
        rw [layPart_ok (by rw [take_len (by omega)]; omega) (ih k lo (by omega) h1)]
        simp only [Option.bind_some, layEnd, last_take (show k < e.length by omega)]
        rw [if_pos (by rw [take_len (by omega)]; omega)]
        rw [← nd_mk (hnum n1) (hname n2) hk1]
      | [k, k2], hk, h =>
        obtain ⟨m, g1, g2⟩ := Segs.split (ks := [k]) (ls := [k2]) h
        obtain ⟨e1, h1⟩ := g1.one
        subst e1
        obtain ⟨e2, h2⟩ := g2.one
        subst e2
        have hl1 := h1.le
        have hl2 := h2.le
        have hk1 : x.kids = [(k : Int), (k2 : Int)] := by simpa using hk
        rw [hk1] at har
        obtain ⟨n1, n2⟩ := arity_pos har
        rw [termAt_made e (k2 + 1) x hx (by rw [hk1]; simp; omega), hk1]
        simp only [List.map_cons, List.map_nil, made, Int.toNat_natCast]
        simp only [List.length_cons, List.length_nil] at har
        simp only [lay, har, if_true]
        rw [layPart_ok (by rw [take_len (by omega)]; omega) (ih k lo (by omega) h1)]
        simp only [Option.bind_some]
        rw [layPart_ok (by rw [take_len (by omega)]; omega) (ih k2 (k + 1) (by omega) h2)]
        simp only [Option.bind_some, layEnd, last_take (show k < e.length by omega), last_take (show k2 < e.length by omega)]
        rw [if_pos (by rw [take_len (by omega)]; omega)]
        rw [← nd_mk (hnum n1) (hname n2) hk1]
      | [k, k2, k3], hk, h =>
        obtain ⟨m, g1, g2⟩ := Segs.split (ks := [k]) (ls := [k2, k3]) h
        obtain ⟨e1, h1⟩ := g1.one
        subst e1
        obtain ⟨m, g3, g4⟩ := Segs.split (ks := [k2]) (ls := [k3]) g2
        obtain ⟨e2, h2⟩ := g3.one
        subst e2
        obtain ⟨e3, h3⟩ := g4.one
        subst e3
        have hl1 := h1.le
        have hl2 := h2.le
        have hl3 := h3.le
        have hk1 : x.kids = [(k : Int), (k2 : Int), (k3 : Int)] := by simpa using hk
        rw [hk1] at har
        obtain ⟨n1, n2⟩ := arity_pos har
        have h17 := arity_three (by simpa using har)
        rw [termAt_made e (k3 + 1) x hx (by rw [hk1]; simp; omega), hk1]
        simp only [List.map_cons, List.map_nil, made, Int.toNat_natCast]
        simp only [lay]
        rw [layPart_ok (by rw [take_len (by omega)]; omega) (ih k lo (by omega) h1)]
        simp only [Option.bind_some]
        rw [layPart_ok (by rw [take_len (by omega)]; omega) (ih k2 (k + 1) (by omega) h2)]
        simp only [Option.bind_some]
        rw [layPart_ok (by rw [take_len (by omega)]; omega) (ih k3 (k2 + 1) (by omega) h3)]
        simp only [Option.bind_some, layEnd, last_take (show k < e.length by omega), last_take (show k2 < e.length by omega), last_take (show k3 < e.length by omega)]
        rw [if_pos (by rw [take_len (by omega)]; omega)]
        have hq := nd_mk (hnum n1) (hname n2) hk1
        rw [h17] at hq
        rw [← hq]
      | a :: b :: c :: d :: r, hk, h =>
        rw [hk] at har
        have := arity_le har
        simp at this
theorem open_term {e : List Nd} (h : Sound e) : lay (termAt e (e.length - 1)) [] = some e ∧ openT (termAt e (e.length - 1)) = e := by
  have h1 := lay_seg e h.forms h.hi e.length (e.length - 1) 0 (by have := h.lo; omega) h.seg
  have h2 : e.length - 1 + 1 = e.length := by have := h.lo; omega
  rw [h2, List.take_length, List.take_zero] at h1
  refine ⟨h1, ?_⟩
  unfold openT
  rw [h1]
  dsimp only
  rw [if_pos ((check_iff e).2 h)]
/-- Where the parts of a sound expression's node lie: ahead of it. -/
theorem seg_kids {e : List Nd} : ∀ {lo at_ : Nat}, Seg e lo at_ → ∀ x, e[at_]? = some x → ∀ j ∈ x.kids, 0 ≤ j ∧ j < (at_ : Int) ∧ ∃ (k lo' : Nat), j = (k : Int) ∧ Seg e lo' k := by
  intro lo at_ hs x hx j hj
  cases hs with
  | node x' ks hx' hk h =>
    rw [hx] at hx'
    cases hx'
    rw [hk] at hj
    obtain ⟨k, hk1, rfl⟩ := List.mem_map.1 hj
    obtain ⟨as, bs, rfl⟩ := List.append_of_mem hk1
    obtain ⟨m, h1, h2⟩ := h.split
    cases h2 with
    | cons h3 h4 =>
      have := h4.le
      have := h3.le
      exact ⟨by omega, by omega, k, _, rfl, h3⟩
end Go.Proofs.YticaocadeeolkaaDoor.Plain
