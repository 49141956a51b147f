/-
  PLAIN: terms; what lay, terms, Of say of them; an expression that is sound is opened again as it was.
  PLAIN: Open is Make of the parts' Open; Open of a sound expression's term is the expression.
  PLAIN: the terms of a sound expression, node by node; Open of the last is the expression.
-/
import Derived.Test.YticaocadeeolkaaDoorMC
import Derived.Laws.Closers25b

namespace Go.Proofs.YticaocadeeolkaaDoor.Plain
open Go

inductive Tm where
  | nil
  | lit (n : Int)
  | var (s : ByteArray)
  | un (op : Int) (a : Tm)
  | bin (op : Int) (a b : Tm)
  | ite (c a b : Tm)
  | other (T : Nat) (v : Value)

def opOf : Tm → Int
  | .lit _ => 1 | .var _ => 2 | .un op _ => op | .bin op _ _ => op | .ite _ _ _ => 17 | _ => 0
def numOf : Tm → Int
  | .lit n => n | _ => 0
def nameOf : Tm → ByteArray
  | .var s => s | _ => ⟨#[]⟩
def partsOf : Tm → List Tm
  | .un _ a => [a] | .bin _ a b => [a, b] | .ite c a b => [c, a, b] | _ => []

def shift (b : Int) (e : List Nd) : List Nd := e.map fun x => { x with kids := x.kids.map (· + b) }
theorem shift_length (b : Int) (e : List Nd) : (shift b e).length = e.length := by simp [shift]
theorem shift_append (b : Int) (e f : List Nd) : shift b (e ++ f) = shift b e ++ shift b f := by simp [shift]
theorem shift_shift (b c : Int) (e : List Nd) : shift b (shift c e) = shift (c + b) e := by
  simp only [shift, List.map_map]
  congr 1
  funext x
  simp only [Function.comp_apply, List.map_map]
  congr 1
  apply List.map_congr_left
  intro a _
  simp only [Function.comp_apply]
  omega
theorem shift_zero (e : List Nd) : shift 0 e = e := by
  simp [shift]

/-! ### lay -/
def layPart (f : List Nd → Option (List Nd)) (l : List Nd) : Option (List Nd) := if 64 ≤ l.length then none else f l
def layEnd (op n : Int) (name : ByteArray) (kids : List Int) (l : List Nd) : Option (List Nd) := if l.length + 1 ≤ 64 then some (l ++ [⟨op, n, name, kids⟩]) else none
def last (l : List Nd) : Int := (l.length : Int) - 1
def lay : Tm → List Nd → Option (List Nd)
  | .lit n, l => layEnd 1 n ⟨#[]⟩ [] l
  | .var s, l => layEnd 2 0 s [] l
  | .un op a, l => if arity op = some 1 then (layPart (lay a) l).bind fun l1 => layEnd op 0 ⟨#[]⟩ [last l1] l1 else none
  | .bin op a b, l => if arity op = some 2 then (layPart (lay a) l).bind fun l1 => (layPart (lay b) l1).bind fun l2 => layEnd op 0 ⟨#[]⟩ [last l1, last l2] l2 else none
  | .ite c a b, l => (layPart (lay c) l).bind fun l1 => (layPart (lay a) l1).bind fun l2 => (layPart (lay b) l2).bind fun l3 => layEnd 17 0 ⟨#[]⟩ [last l1, last l2, last l3] l3
  | _, _ => none
/-- The parts one after the other. -/
def layKids : List Tm → List Nd → List Int → Option (List Nd × List Int)
  | [], l, ks => some (l, ks)
  | p :: r, l, ks => (layPart (lay p) l).bind fun l1 => layKids r l1 (ks ++ [last l1])
theorem lay_kids (t : Tm) (l : List Nd) : lay t l = if arity (opOf t) = some (partsOf t).length then (layKids (partsOf t) l []).bind fun p => layEnd (opOf t) (numOf t) (nameOf t) p.2 p.1 else none := by
  cases t with
  | nil => simp [lay, opOf, arity]
  | other => simp [lay, opOf, arity]
  | lit n => simp [lay, opOf, arity, partsOf, layKids, numOf, nameOf]
  | var s => simp [lay, opOf, arity, partsOf, layKids, numOf, nameOf]
  | un op a => simp [lay, opOf, partsOf, layKids, numOf, nameOf, Option.bind_assoc]
  | bin op a b => simp [lay, opOf, partsOf, layKids, numOf, nameOf, Option.bind_assoc]
  | ite c a b =>
    have : arity 17 = some 3 := rfl
    simp [lay, opOf, partsOf, layKids, numOf, nameOf, Option.bind_assoc, this]
def openT (t : Tm) : List Nd := match lay t [] with | some e => if check e then e else [] | none => []

theorem lay_end_le {op n : Int} {name : ByteArray} {kids : List Int} {l l' : List Nd} (h : layEnd op n name kids l = some l') : l' = l ++ [⟨op, n, name, kids⟩] ∧ l'.length ≤ 64 := by
  unfold layEnd at h
  split at h
  · cases h; exact ⟨rfl, by simp; omega⟩
  · cases h
theorem lay_part {f : List Nd → Option (List Nd)} {l l' : List Nd} (h : layPart f l = some l') : f l = some l' ∧ l.length < 64 := by
  unfold layPart at h
  split at h
  · cases h
  · exact ⟨h, by omega⟩

/-- Behind other nodes the same is laid, moved on. -/
theorem lay_shift : ∀ (t : Tm) (l : List Nd), lay t l = (lay t []).bind fun e => if l.length + e.length ≤ 64 then some (l ++ shift l.length e) else none := by
  have hend : ∀ (op n : Int) (name : ByteArray) (kids : List Int) (l e : List Nd), e.length ≤ 64 →
      (if l.length + e.length ≤ 64 then layEnd op n name (kids.map (· + (l.length : Int))) (l ++ shift l.length e) else none) = (layEnd op n name kids e).bind fun e' => if l.length + e'.length ≤ 64 then some (l ++ shift l.length e') else none := by
    intro op n name kids l e he
    unfold layEnd
    by_cases h1 : e.length + 1 ≤ 64
    · rw [if_pos h1]
      simp only [Option.bind_some, List.length_append, List.length_singleton, shift_length]
      by_cases h2 : l.length + (e.length + 1) ≤ 64
      · rw [if_pos (by omega), if_pos (by omega), if_pos h2, shift_append]
        simp [shift]
      · rw [if_neg h2]
        by_cases h3 : l.length + e.length ≤ 64
        · rw [if_pos h3, if_neg (by omega)]
        · rw [if_neg h3]
    · rw [if_neg h1]
      simp only [Option.bind_none, List.length_append, shift_length]
      by_cases h3 : l.length + e.length ≤ 64
      · rw [if_pos h3, if_neg (by omega)]
      · rw [if_neg h3]
  have hlen : ∀ (t : Tm) (l e : List Nd), lay t l = some e → e.length ≤ 64 ∧ 1 ≤ e.length := by
    intro t l e h
    cases t with
    | nil => cases h
    | other => cases h
    | lit n => obtain ⟨h1, h2⟩ := lay_end_le h; exact ⟨h2, by rw [h1]; simp⟩
    | var s => obtain ⟨h1, h2⟩ := lay_end_le h; exact ⟨h2, by rw [h1]; simp⟩
    | un op a =>
      simp only [lay] at h
      split at h
      · obtain ⟨l1, _, h⟩ := Option.bind_eq_some_iff.1 h
        obtain ⟨h1, h2⟩ := lay_end_le h; exact ⟨h2, by rw [h1]; simp⟩
      · cases h
    | bin op a b =>
      simp only [lay] at h
      split at h
      · obtain ⟨l1, _, h⟩ := Option.bind_eq_some_iff.1 h
        obtain ⟨l2, _, h⟩ := Option.bind_eq_some_iff.1 h
        obtain ⟨h1, h2⟩ := lay_end_le h; exact ⟨h2, by rw [h1]; simp⟩
      · cases h
    | ite c a b =>
      simp only [lay] at h
      obtain ⟨l1, _, h⟩ := Option.bind_eq_some_iff.1 h
      obtain ⟨l2, _, h⟩ := Option.bind_eq_some_iff.1 h
      obtain ⟨l3, _, h⟩ := Option.bind_eq_some_iff.1 h
      obtain ⟨h1, h2⟩ := lay_end_le h; exact ⟨h2, by rw [h1]; simp⟩
  -- a part behind l ++ shift e, out of the same behind e
  have hpart : ∀ (t : Tm), (∀ l, lay t l = (lay t []).bind fun e => if l.length + e.length ≤ 64 then some (l ++ shift l.length e) else none) → ∀ (l e : List Nd), e.length ≤ 64 → ∀ (k k' : List Nd → Option (List Nd)),
      (∀ e', e'.length ≤ 64 → (if l.length + e'.length ≤ 64 then k' (l ++ shift l.length e') else none) = (k e').bind fun e'' => if l.length + e''.length ≤ 64 then some (l ++ shift l.length e'') else none) →
      (if l.length + e.length ≤ 64 then (layPart (lay t) (l ++ shift l.length e)).bind k' else none) = ((layPart (lay t) e).bind k).bind fun e'' => if l.length + e''.length ≤ 64 then some (l ++ shift l.length e'') else none := by
    intro t ih l e he k k' hk
    unfold layPart
    by_cases h1 : 64 ≤ e.length
    · rw [if_pos h1]
      simp only [Option.bind_none, List.length_append, shift_length]
      by_cases h2 : l.length + e.length ≤ 64
      · rw [if_pos h2, if_pos (by omega)]; rfl
      · rw [if_neg h2]
    · rw [if_neg h1, ih e]
      cases hp : lay t [] with
      | none =>
        simp only [Option.bind_none, List.length_append, shift_length]
        by_cases h2 : l.length + e.length ≤ 64
        · rw [if_pos h2]
          by_cases h3 : 64 ≤ l.length + e.length
          · rw [if_pos h3]; rfl
          · rw [if_neg h3, ih, hp]; rfl
        · rw [if_neg h2]
      | some p =>
        obtain ⟨hp64, hp1⟩ := hlen t [] p hp
        simp only [Option.bind_some, List.length_append, shift_length]
        by_cases h4 : e.length + p.length ≤ 64
        · rw [if_pos h4]
          simp only [Option.bind_some]
          rw [← hk (e ++ shift e.length p) (by simp [shift_length]; omega)]
          simp only [List.length_append, shift_length]
          by_cases h2 : l.length + e.length ≤ 64
          · rw [if_pos h2]
            by_cases h3 : 64 ≤ l.length + e.length
            · rw [if_pos h3, if_neg (by omega)]; rfl
            · rw [if_neg h3, ih, hp]
              simp only [Option.bind_some, List.length_append, shift_length]
              by_cases h5 : l.length + e.length + p.length ≤ 64
              · rw [if_pos h5, if_pos (by omega)]
                simp only [Option.bind_some, shift_append, shift_shift, List.append_assoc]
                have hc : ((e.length : Int) + (l.length : Int)) = ((l.length + e.length : Nat) : Int) := by omega
                rw [hc]
              · rw [if_neg h5, if_neg (by omega)]; rfl
          · rw [if_neg h2, if_neg (by omega)]
        · rw [if_neg h4]
          simp only [Option.bind_none]
          by_cases h2 : l.length + e.length ≤ 64
          · rw [if_pos h2]
            by_cases h3 : 64 ≤ l.length + e.length
            · rw [if_pos h3]; rfl
            · rw [if_neg h3, ih, hp]
              simp only [Option.bind_some, List.length_append, shift_length]
              rw [if_neg (by omega)]; rfl
          · rw [if_neg h2]
  have hlast : ∀ (l e : List Nd), last (l ++ shift l.length e) = last e + (l.length : Int) := by
    intro l e; unfold last; simp [shift_length]; omega
  intro t
  induction t with
  | nil => intro l; rfl
  | other => intro l; rfl
  | lit n =>
    intro l
    have := hend 1 n ⟨#[]⟩ [] l [] (by simp)
    simp only [List.length_nil, Nat.add_zero, List.map_nil] at this
    simp only [lay]
    rw [← this]
    by_cases h : l.length ≤ 64
    · rw [if_pos h]; simp [shift]
    · rw [if_neg h]; unfold layEnd; rw [if_neg (by omega)]
  | var s =>
    intro l
    have := hend 2 0 s [] l [] (by simp)
    simp only [List.length_nil, Nat.add_zero, List.map_nil] at this
    simp only [lay]
    rw [← this]
    by_cases h : l.length ≤ 64
    · rw [if_pos h]; simp [shift]
    · rw [if_neg h]; unfold layEnd; rw [if_neg (by omega)]
  | un op a iha =>
    intro l
    simp only [lay]
    split
    · have h := hpart a iha l [] (by simp) (fun l1 => layEnd op 0 ⟨#[]⟩ [last l1] l1) (fun l1 => layEnd op 0 ⟨#[]⟩ [last l1] l1) (fun e' he' => by
        rw [hlast, ← hend op 0 ⟨#[]⟩ [last e'] l e' he']; rfl)
      rw [← h]
      by_cases h : l.length ≤ 64
      · simp [h, shift]
      · simp [h, layPart]; omega
    · rfl
  | bin op a b iha ihb =>
    intro l
    simp only [lay]
    split
    · have h := hpart a iha l [] (by simp) (fun l1 => (layPart (lay b) l1).bind fun l2 => layEnd op 0 ⟨#[]⟩ [last l1, last l2] l2) (fun l1 => (layPart (lay b) l1).bind fun l2 => layEnd op 0 ⟨#[]⟩ [last l1, last l2] l2) (fun e' he' => by
        exact hpart b ihb l e' he' (fun l2 => layEnd op 0 ⟨#[]⟩ [last e', last l2] l2) (fun l2 => layEnd op 0 ⟨#[]⟩ [last (l ++ shift l.length e'), last l2] l2) (fun e2 he2 => by
          rw [hlast, hlast, ← hend op 0 ⟨#[]⟩ [last e', last e2] l e2 he2]; rfl))
      rw [← h]
      by_cases h : l.length ≤ 64
      · simp [h, shift]
      · simp [h, layPart]; omega
    · rfl
  | ite c a b ihc iha ihb =>
    intro l
    simp only [lay]
    have h := hpart c ihc l [] (by simp) (fun l1 => (layPart (lay a) l1).bind fun l2 => (layPart (lay b) l2).bind fun l3 => layEnd 17 0 ⟨#[]⟩ [last l1, last l2, last l3] l3) (fun l1 => (layPart (lay a) l1).bind fun l2 => (layPart (lay b) l2).bind fun l3 => layEnd 17 0 ⟨#[]⟩ [last l1, last l2, last l3] l3) (fun e' he' => by
      exact hpart a iha l e' he' (fun l2 => (layPart (lay b) l2).bind fun l3 => layEnd 17 0 ⟨#[]⟩ [last e', last l2, last l3] l3) (fun l2 => (layPart (lay b) l2).bind fun l3 => layEnd 17 0 ⟨#[]⟩ [last (l ++ shift l.length e'), last l2, last l3] l3) (fun e2 he2 => by
        exact hpart b ihb l e2 he2 (fun l3 => layEnd 17 0 ⟨#[]⟩ [last e', last e2, last l3] l3) (fun l3 => layEnd 17 0 ⟨#[]⟩ [last (l ++ shift l.length e'), last (l ++ shift l.length e2), last l3] l3) (fun e3 he3 => by
          rw [hlast, hlast, hlast, ← hend 17 0 ⟨#[]⟩ [last e', last e2, last e3] l e3 he3]; rfl)))
    rw [← h]
    by_cases h : l.length ≤ 64
    · simp [h, shift]
    · simp [h, layPart]; omega
end Go.Proofs.YticaocadeeolkaaDoor.Plain

namespace Go.Proofs.YticaocadeeolkaaDoor.Plain
open Go

def namesOk : Tm → Bool
  | .var s => isName s | .un _ a => namesOk a | .bin _ a b => namesOk a && namesOk b | .ite c a b => namesOk c && namesOk a && namesOk b | _ => true

/-! ### a segment inside a longer list -/
theorem shift_get {b : Int} {e : List Nd} {k : Nat} {x : Nd} (h : e[k]? = some x) : (shift b e)[k]? = some { x with kids := x.kids.map (· + b) } := by
  unfold shift; rw [List.getElem?_map, h]; rfl
mutual
theorem Seg.inside {e pre post : List Nd} : ∀ {lo at_ : Nat}, Seg e lo at_ → Seg (pre ++ shift pre.length e ++ post) (pre.length + lo) (pre.length + at_)
  | _, at_, .node x ks hx hk h => by
    refine .node { x with kids := x.kids.map (· + (pre.length : Int)) } (ks.map (pre.length + ·)) ?_ ?_ (Segs.inside h)
    · rw [List.append_assoc, List.getElem?_append_right (by omega), List.getElem?_append_left (by
        rw [shift_length]; have := (List.getElem?_eq_some_iff.1 hx).1; omega)]
      rw [show pre.length + at_ - pre.length = at_ by omega]
      exact shift_get hx
    · simp only [hk, List.map_map]
      apply List.map_congr_left
      intro a _
      simp only [Function.comp_apply]
      omega
theorem Segs.inside {e pre post : List Nd} : ∀ {lo hi : Nat} {ks : List Nat}, Segs e lo ks hi → Segs (pre ++ shift pre.length e ++ post) (pre.length + lo) (ks.map (pre.length + ·)) (pre.length + hi)
  | _, _, _, .nil => .nil
  | _, _, _, .cons h h' => .cons (Seg.inside h) (by have := Segs.inside (pre := pre) (post := post) h'; rwa [← Nat.add_assoc] at this)
end
theorem form_shift {b : Int} {x : Nd} : form { x with kids := x.kids.map (· + b) } = form x := by simp [form]
theorem all_shift (b : Int) (e : List Nd) : (shift b e).all form = e.all form := by
  unfold shift
  rw [List.all_map]
  congr 1
  funext x
  exact form_shift

/-- One expression: its nodes one segment. -/
def One (e : List Nd) : Prop := 1 ≤ e.length ∧ Seg e 0 (e.length - 1)
theorem One.check {e : List Nd} (h : One e) (h64 : e.length ≤ 64) : check e = e.all form := by
  rw [Bool.eq_iff_iff, check_iff, List.all_eq_true]
  exact ⟨fun s => s.forms, fun hf => ⟨h.1, h64, hf, h.2⟩⟩
theorem Seg.grow {e post : List Nd} {lo at_ : Nat} (h : Seg e lo at_) : Seg (e ++ post) lo at_ := by
  have := Seg.inside (pre := []) (post := post) h
  simpa [shift_zero] using this
theorem one_in {e pre post : List Nd} (h : One e) : Seg (pre ++ shift pre.length e ++ post) pre.length (pre.length + e.length - 1) := by
  have := Seg.inside (pre := pre) (post := post) h.2
  rwa [Nat.add_zero, show pre.length + (e.length - 1) = pre.length + e.length - 1 by have := h.1; omega] at this
theorem form_leaf (op n : Int) (name : ByteArray) (kids : List Int) : form ⟨op, n, name, kids⟩ = formB op n name kids.length := rfl
theorem toList_nil : (⟨#[]⟩ : ByteArray).toList = [] := by decide +kernel
theorem formB_op {op : Int} {k : Nat} (h : arity op = some k) (hk : 1 ≤ k) : formB op 0 ⟨#[]⟩ k = true := by
  have h2 : op ≠ 2 := by rintro rfl; simp [arity] at h; omega
  simp [formB, h, h2]
theorem formB_bad {op n : Int} {name : ByteArray} {k : Nat} (h : arity op ≠ some k) : formB op n name k = false := by
  unfold formB
  cases ha : arity op with
  | none => rfl
  | some j =>
    have : (k == j) = false := by rw [beq_eq_false_iff_ne]; rintro rfl; exact h ha
    simp [this]

theorem last_len {l : List Nd} (h : 1 ≤ l.length) : last l = ((l.length - 1 : Nat) : Int) := by unfold last; omega
theorem one_un {e : List Nd} {op : Int} (h : One e) : One (e ++ [⟨op, 0, ⟨#[]⟩, [last e]⟩]) := by
  refine ⟨by simp, ?_⟩
  have h1 := h.1
  have hs : Seg (e ++ [⟨op, 0, ⟨#[]⟩, [last e]⟩]) 0 (e.length - 1) := h.2.grow
  rw [show (e ++ [(⟨op, 0, ⟨#[]⟩, [last e]⟩ : Nd)]).length - 1 = e.length by simp]
  refine .node ⟨op, 0, ⟨#[]⟩, [last e]⟩ [e.length - 1] (by simp) (by simp [last_len h1]) (.cons hs ?_)
  rw [show e.length - 1 + 1 = e.length by omega]
  exact .nil
theorem one_bin {e f : List Nd} {op : Int} (h : One e) (g : One f) : One (e ++ shift e.length f ++ [⟨op, 0, ⟨#[]⟩, [last e, last (e ++ shift e.length f)]⟩]) := by
  refine ⟨by simp; omega, ?_⟩
  have h1 := h.1
  have g1 := g.1
  generalize hx : (⟨op, 0, ⟨#[]⟩, [last e, last (e ++ shift e.length f)]⟩ : Nd) = x
  have hs : Seg (e ++ shift e.length f ++ [x]) 0 (e.length - 1) := by rw [List.append_assoc]; exact h.2.grow
  have gs : Seg (e ++ shift e.length f ++ [x]) e.length (e.length + f.length - 1) := one_in g
  rw [show (e ++ shift e.length f ++ [x]).length - 1 = e.length + f.length by simp [shift_length]]
  refine .node x [e.length - 1, e.length + f.length - 1] (by rw [List.getElem?_append_right (by simp [shift_length])]; simp [shift_length]) ?_ (.cons hs ?_)
  · rw [← hx]
    simp only [List.map_cons, List.map_nil]
    rw [last_len h1, last_len (by simp; omega)]
    simp [shift_length]
  · rw [show e.length - 1 + 1 = e.length by omega]
    refine .cons gs ?_
    rw [show e.length + f.length - 1 + 1 = e.length + f.length by omega]
    exact .nil
theorem one_ite {e f g : List Nd} {op : Int} (he : One e) (hf : One f) (hg : One g) :
    One (e ++ shift e.length f ++ shift (e.length + f.length : Nat) g ++ [⟨op, 0, ⟨#[]⟩, [last e, last (e ++ shift e.length f), last (e ++ shift e.length f ++ shift (e.length + f.length : Nat) g)]⟩]) := by
  refine ⟨by simp; omega, ?_⟩
  have e1 := he.1
  have f1 := hf.1
  have g1 := hg.1
  generalize hx : (⟨op, 0, ⟨#[]⟩, [last e, last (e ++ shift e.length f), last (e ++ shift e.length f ++ shift (e.length + f.length : Nat) g)]⟩ : Nd) = x
  have hs : Seg (e ++ shift e.length f ++ shift (e.length + f.length : Nat) g ++ [x]) 0 (e.length - 1) := by rw [List.append_assoc, List.append_assoc]; exact he.2.grow
  have fs : Seg (e ++ shift e.length f ++ shift (e.length + f.length : Nat) g ++ [x]) e.length (e.length + f.length - 1) := by rw [List.append_assoc _ _ [x]]; exact one_in hf
  have gs : Seg (e ++ shift e.length f ++ shift (e.length + f.length : Nat) g ++ [x]) (e.length + f.length) (e.length + f.length + g.length - 1) := by
    have hl : (e ++ shift e.length f).length = e.length + f.length := by simp [shift_length]
    have := one_in (pre := e ++ shift e.length f) (post := [x]) hg
    rw [hl] at this
    exact this
  have hl2 : (e ++ shift e.length f ++ shift (e.length + f.length : Nat) g).length = e.length + f.length + g.length := by simp [shift_length]; omega
  rw [show (e ++ shift e.length f ++ shift (e.length + f.length : Nat) g ++ [x]).length - 1 = e.length + f.length + g.length by rw [List.length_append, hl2]; simp]
  refine .node x [e.length - 1, e.length + f.length - 1, e.length + f.length + g.length - 1] (by rw [List.getElem?_append_right (by omega), hl2]; simp) ?_ (.cons hs ?_)
  · rw [← hx]
    simp only [List.map_cons, List.map_nil]
    rw [last_len e1, last_len (by simp; omega), last_len (by omega), hl2]
    simp [shift_length]
  · rw [show e.length - 1 + 1 = e.length by omega]
    refine .cons fs ?_
    rw [show e.length + f.length - 1 + 1 = e.length + f.length by omega]
    refine .cons gs ?_
    rw [show e.length + f.length + g.length - 1 + 1 = e.length + f.length + g.length by omega]
    exact .nil

/-- A part that is laid: it is laid from nothing too, and moved on. -/
theorem part_some {t : Tm} {l l' : List Nd} (h : layPart (lay t) l = some l') : ∃ e, lay t [] = some e ∧ l' = l ++ shift l.length e ∧ l.length < 64 ∧ l'.length ≤ 64 := by
  obtain ⟨h1, h2⟩ := lay_part h
  rw [lay_shift] at h1
  obtain ⟨e, he, h3⟩ := Option.bind_eq_some_iff.1 h1
  split at h3
  · cases h3; exact ⟨e, he, rfl, h2, by simp [shift_length]; omega⟩
  · cases h3
theorem laid_one : ∀ (t : Tm) (e : List Nd), lay t [] = some e → One e ∧ e.length ≤ 64 ∧ e.all form = namesOk t := by
  intro t
  induction t with
  | nil => intro e h; cases h
  | other => intro e h; cases h
  | lit n =>
    intro e h
    obtain ⟨h1, h2⟩ := lay_end_le h
    rw [List.nil_append] at h1
    subst h1
    exact ⟨⟨by simp, .node _ [] rfl rfl .nil⟩, h2, by simp [form, formB, namesOk, arity]⟩
  | var s =>
    intro e h
    obtain ⟨h1, h2⟩ := lay_end_le h
    rw [List.nil_append] at h1
    subst h1
    refine ⟨⟨by simp, .node _ [] rfl rfl .nil⟩, h2, ?_⟩
    simp [form, formB, namesOk, arity]
  | un op a iha =>
    intro e h
    simp only [lay] at h
    split at h
    · rename_i ha
      obtain ⟨l1, h1, h⟩ := Option.bind_eq_some_iff.1 h
      obtain ⟨e1, he1, rfl, _, _⟩ := part_some h1
      simp only [List.nil_append, List.length_nil, Int.ofNat_zero, shift_zero] at *
      obtain ⟨o1, _, n1⟩ := iha e1 he1
      obtain ⟨h2, h3⟩ := lay_end_le h
      subst h2
      refine ⟨one_un o1, h3, ?_⟩
      rw [List.all_append, n1]
      simp [form_leaf, formB_op ha, namesOk]
    · cases h
  | bin op a b iha ihb =>
    intro e h
    simp only [lay] at h
    split at h
    · rename_i ha
      obtain ⟨l1, h1, h⟩ := Option.bind_eq_some_iff.1 h
      obtain ⟨e1, he1, rfl, _, _⟩ := part_some h1
      simp only [List.nil_append, List.length_nil, Int.ofNat_zero, shift_zero] at *
      obtain ⟨l2, h2, h⟩ := Option.bind_eq_some_iff.1 h
      obtain ⟨e2, he2, rfl, _, _⟩ := part_some h2
      obtain ⟨o1, _, n1⟩ := iha e1 he1
      obtain ⟨o2, _, n2⟩ := ihb e2 he2
      obtain ⟨h3, h4⟩ := lay_end_le h
      subst h3
      refine ⟨one_bin o1 o2, h4, ?_⟩
      rw [List.all_append, List.all_append, n1, all_shift, n2]
      simp [form_leaf, formB_op ha, namesOk]
    · cases h
  | ite c a b ihc iha ihb =>
    intro e h
    simp only [lay] at h
    obtain ⟨l1, h1, h⟩ := Option.bind_eq_some_iff.1 h
    obtain ⟨e1, he1, rfl, _, _⟩ := part_some h1
    simp only [List.nil_append, List.length_nil, Int.ofNat_zero, shift_zero] at *
    obtain ⟨l2, h2, h⟩ := Option.bind_eq_some_iff.1 h
    obtain ⟨e2, he2, rfl, _, _⟩ := part_some h2
    obtain ⟨l3, h3, h⟩ := Option.bind_eq_some_iff.1 h
    obtain ⟨e3, he3, rfl, _, _⟩ := part_some h3
    obtain ⟨o1, _, n1⟩ := ihc e1 he1
    obtain ⟨o2, _, n2⟩ := iha e2 he2
    obtain ⟨o3, _, n3⟩ := ihb e3 he3
    obtain ⟨h4, h5⟩ := lay_end_le h
    have hl : (e1 ++ shift e1.length e2).length = e1.length + e2.length := by simp [shift_length]
    rw [hl] at h4
    subst h4
    refine ⟨one_ite o1 o2 o3, h5, ?_⟩
    rw [List.all_append, List.all_append, List.all_append, n1, all_shift, n2, all_shift, n3]
    have : arity 17 = some 3 := rfl
    simp [form_leaf, formB_op this, namesOk, Bool.and_assoc]
theorem open_some {t : Tm} {e : List Nd} (h : lay t [] = some e) : openT t = if namesOk t then e else [] := by
  obtain ⟨o, h64, hn⟩ := laid_one t e h
  unfold openT
  rw [h]
  dsimp only
  rw [o.check h64, hn]
theorem open_none {t : Tm} (h : lay t [] = none) : openT t = [] := by unfold openT; rw [h]
theorem check_nil : check [] = false := rfl
theorem check_open (t : Tm) : check (openT t) = !(openT t).isEmpty := by
  cases h : lay t [] with
  | none => rw [open_none h]; rfl
  | some e =>
    obtain ⟨o, h64, hn⟩ := laid_one t e h
    rw [open_some h]
    cases hk : namesOk t
    · rfl
    · simp only [if_true]
      rw [o.check h64, hn, hk]
      have := o.1
      cases e with
      | nil => simp at this
      | cons => rfl

/-! ### Make -/
def joinGo : List (List Nd) → List Nd → List Int → List Nd × List Int
  | [], l, ks => (l, ks)
  | p :: r, l, ks => joinGo r (l ++ shift l.length p) (ks ++ [last (l ++ shift l.length p)])
def joined (op n : Int) (name : ByteArray) (parts : List (List Nd)) : List Nd := (joinGo parts [] []).1 ++ [⟨op, n, name, (joinGo parts [] []).2⟩]
def sizes (parts : List (List Nd)) : Nat := (parts.map List.length).sum
def makeT (op n : Int) (name : ByteArray) (parts : List (List Nd)) : List Nd :=
  if parts.all check then if formB op n name parts.length then if 1 + sizes parts ≤ 64 then joined op n name parts else [] else [] else []
theorem make_bad {op n : Int} {name : ByteArray} {parts : List (List Nd)} (h : parts.all check = false) : makeT op n name parts = [] := by simp [makeT, h]

theorem open_un (op : Int) (a : Tm) : openT (.un op a) = makeT op 0 ⟨#[]⟩ [openT a] := by
  cases ha : lay a [] with
  | none =>
    rw [make_bad (by simp [open_none ha, check_nil])]
    apply open_none
    simp only [lay]
    split
    · simp [layPart, ha]
    · rfl
  | some e =>
    obtain ⟨o, h64, hn⟩ := laid_one a e ha
    by_cases hop : arity op = some 1
    · have hl : lay (.un op a) [] = layEnd op 0 ⟨#[]⟩ [last e] e := by simp [lay, hop, layPart, ha]
      cases hk : namesOk a
      · rw [make_bad (by rw [open_some ha, hk]; rfl)]
        cases hx : layEnd op 0 ⟨#[]⟩ [last e] e with
        | none => exact open_none (hl.trans hx)
        | some e' => rw [open_some (hl.trans hx)]; simp [namesOk, hk]
      · have hoa : openT a = e := by rw [open_some ha, hk]; rfl
        rw [hoa]
        unfold makeT
        simp only [List.all_cons, List.all_nil, o.check h64, hn, hk, Bool.and_true, if_true, List.length_singleton, formB_op hop (Nat.le_refl _), sizes, List.map_cons, List.map_nil, List.sum_cons, List.sum_nil]
        by_cases hs : e.length + 1 ≤ 64
        · rw [if_pos (by omega)]
          have hx : layEnd op 0 ⟨#[]⟩ [last e] e = some (e ++ [⟨op, 0, ⟨#[]⟩, [last e]⟩]) := by unfold layEnd; rw [if_pos hs]
          rw [open_some (hl.trans hx)]
          simp [namesOk, hk, joined, joinGo, shift_zero]
        · rw [if_neg (by omega)]
          have hx : layEnd op 0 ⟨#[]⟩ [last e] e = none := by unfold layEnd; rw [if_neg hs]
          exact open_none (hl.trans hx)
    · have hl : lay (.un op a) [] = none := by simp [lay, hop]
      rw [open_none hl]
      unfold makeT
      simp [formB_bad hop]

theorem laid_le {t : Tm} {e : List Nd} (h : lay t [] = some e) : 1 ≤ e.length ∧ e.length ≤ 64 := ⟨(laid_one t e h).1.1, (laid_one t e h).2.1⟩
theorem part_first {t : Tm} {e : List Nd} (h : lay t [] = some e) : layPart (lay t) [] = some e := by simp [layPart, h]
theorem part_none {t : Tm} (h : lay t [] = none) (l : List Nd) : layPart (lay t) l = none := by
  unfold layPart
  split
  · rfl
  · rw [lay_shift, h]; rfl
theorem part_next {t : Tm} {e : List Nd} (h : lay t [] = some e) (l : List Nd) : layPart (lay t) l = if l.length + e.length ≤ 64 then some (l ++ shift l.length e) else none := by
  have he := laid_le h
  unfold layPart
  by_cases hl : 64 ≤ l.length
  · rw [if_pos hl, if_neg (by omega)]
  · rw [if_neg hl, lay_shift, h]; rfl
theorem open_bad {t : Tm} (h : namesOk t = false) : openT t = [] := by
  cases ht : lay t [] with
  | none => exact open_none ht
  | some e => rw [open_some ht, h]; rfl
theorem open_bin (op : Int) (a b : Tm) : openT (.bin op a b) = makeT op 0 ⟨#[]⟩ [openT a, openT b] := by
  by_cases hop : arity op = some 2
  · cases ha : lay a [] with
    | none =>
      rw [make_bad (by simp [open_none ha, check_nil])]
      exact open_none (by simp [lay, hop, part_none ha])
    | some e =>
      cases hb : lay b [] with
      | none =>
        rw [make_bad (by simp [open_none hb, check_nil])]
        exact open_none (by simp [lay, hop, part_none hb, part_first ha])
      | some f =>
        cases hka : namesOk a
        · rw [make_bad (by simp [open_bad hka, check_nil])]
          exact open_bad (by simp [namesOk, hka])
        · cases hkb : namesOk b
          · rw [make_bad (by simp [open_bad hkb, check_nil])]
            exact open_bad (by simp [namesOk, hkb])
          · obtain ⟨o, h64, hn⟩ := laid_one a e ha
            obtain ⟨o', h64', hn'⟩ := laid_one b f hb
            have hoa : openT a = e := by rw [open_some ha, hka]; rfl
            have hob : openT b = f := by rw [open_some hb, hkb]; rfl
            rw [hoa, hob]
            unfold makeT
            simp only [List.all_cons, List.all_nil, o.check h64, o'.check h64', hn, hn', hka, hkb, Bool.and_true, if_true, List.length_cons, List.length_nil, formB_op hop (by omega), sizes, List.map_cons, List.map_nil, List.sum_cons, List.sum_nil]
            by_cases hs : 1 + (e.length + (f.length + 0)) ≤ 64
            · rw [if_pos hs]
              have hl : lay (.bin op a b) [] = some (e ++ shift e.length f ++ [⟨op, 0, ⟨#[]⟩, [last e, last (e ++ shift e.length f)]⟩]) := by
                simp only [lay, hop, if_true, part_first ha, Option.bind_some, part_next hb]
                rw [if_pos (by omega)]
                simp only [Option.bind_some, layEnd, List.length_append, shift_length]
                rw [if_pos (by omega)]
              rw [open_some hl]
              simp [namesOk, hka, hkb, joined, joinGo, shift_zero]
            · rw [if_neg hs]
              apply open_none
              simp only [lay, hop, if_true, part_first ha, Option.bind_some, part_next hb]
              by_cases h2 : e.length + f.length ≤ 64
              · rw [if_pos h2]
                simp only [Option.bind_some, layEnd, List.length_append, shift_length]
                rw [if_neg (by omega)]
              · rw [if_neg h2]; rfl
  · rw [open_none (by simp [lay, hop])]
    unfold makeT
    simp [formB_bad hop]
theorem open_ite (c a b : Tm) : openT (.ite c a b) = makeT 17 0 ⟨#[]⟩ [openT c, openT a, openT b] := by
  have hop : arity 17 = some 3 := rfl
  cases hc : lay c [] with
  | none =>
    rw [make_bad (by simp [open_none hc, check_nil])]
    exact open_none (by simp [lay, part_none hc])
  | some d =>
    cases ha : lay a [] with
    | none =>
      rw [make_bad (by simp [open_none ha, check_nil])]
      exact open_none (by simp [lay, part_none ha, part_first hc])
    | some e =>
      cases hb : lay b [] with
      | none =>
        rw [make_bad (by simp [open_none hb, check_nil])]
        apply open_none
        simp only [lay, part_first hc, Option.bind_some, part_next ha]
        split
        · simp [part_none hb]
        · rfl
      | some f =>
        cases hkc : namesOk c
        · rw [make_bad (by simp [open_bad hkc, check_nil])]
          exact open_bad (by simp [namesOk, hkc])
        · cases hka : namesOk a
          · rw [make_bad (by simp [open_bad hka, check_nil])]
            exact open_bad (by simp [namesOk, hka])
          · cases hkb : namesOk b
            · rw [make_bad (by simp [open_bad hkb, check_nil])]
              exact open_bad (by simp [namesOk, hkb])
            · obtain ⟨oc, h64c, hnc⟩ := laid_one c d hc
              obtain ⟨o, h64, hn⟩ := laid_one a e ha
              obtain ⟨o', h64', hn'⟩ := laid_one b f hb
              have hoc : openT c = d := by rw [open_some hc, hkc]; rfl
              have hoa : openT a = e := by rw [open_some ha, hka]; rfl
              have hob : openT b = f := by rw [open_some hb, hkb]; rfl
              rw [hoc, hoa, hob]
              unfold makeT
              simp only [List.all_cons, List.all_nil, oc.check h64c, o.check h64, o'.check h64', hn, hn', hnc, hka, hkb, hkc, Bool.and_true, if_true, List.length_cons, List.length_nil, formB_op hop (by omega), sizes, List.map_cons, List.map_nil, List.sum_cons, List.sum_nil]
              have hl2 : (d ++ shift d.length e).length = d.length + e.length := by simp [shift_length]
              by_cases hs : 1 + (d.length + (e.length + (f.length + 0))) ≤ 64
              · rw [if_pos hs]
                have hl : lay (.ite c a b) [] = some (d ++ shift d.length e ++ shift (d.length + e.length : Nat) f ++ [⟨17, 0, ⟨#[]⟩, [last d, last (d ++ shift d.length e), last (d ++ shift d.length e ++ shift (d.length + e.length : Nat) f)]⟩]) := by
                  simp only [lay, part_first hc, Option.bind_some, part_next ha]
                  rw [if_pos (by omega)]
                  simp only [Option.bind_some, part_next hb, hl2]
                  rw [if_pos (by omega)]
                  simp only [Option.bind_some, layEnd]
                  rw [if_pos (by simp [shift_length]; omega)]
                rw [open_some hl]
                simp only [namesOk, hka, hkb, hkc, Bool.and_self, if_true, joined, joinGo, List.nil_append, List.length_nil, Int.ofNat_zero, shift_zero, hl2, List.cons_append]
              · rw [if_neg hs]
                apply open_none
                simp only [lay, part_first hc, Option.bind_some, part_next ha]
                by_cases h2 : d.length + e.length ≤ 64
                · rw [if_pos h2]
                  simp only [Option.bind_some, part_next hb, hl2]
                  by_cases h3 : d.length + e.length + f.length ≤ 64
                  · rw [if_pos h3]
                    simp only [Option.bind_some, layEnd]
                    rw [if_neg (by simp [shift_length]; omega)]
                  · rw [if_neg h3]; rfl
                · rw [if_neg h2]; rfl
theorem open_lit (n : Int) : openT (.lit n) = makeT 1 n ⟨#[]⟩ [] := by
  have hl : lay (.lit n) [] = some [⟨1, n, ⟨#[]⟩, []⟩] := rfl
  rw [open_some hl]
  have hf : formB 1 n ⟨#[]⟩ 0 = true := by simp [formB, arity]
  simp [makeT, namesOk, hf, sizes, joined, joinGo]
theorem open_var (s : ByteArray) : openT (.var s) = makeT 2 0 s [] := by
  have hl : lay (.var s) [] = some [⟨2, 0, s, []⟩] := rfl
  rw [open_some hl]
  have hf : formB 2 0 s 0 = isName s := by simp [formB, arity]
  cases hs : isName s <;> simp [makeT, namesOk, hf, hs, sizes, joined, joinGo]
theorem make_zero (n : Int) (s : ByteArray) (parts : List (List Nd)) : makeT 0 n s parts = [] := by
  have hf : ∀ k, formB 0 n s k = false := fun k => by simp [formB, arity]
  simp [makeT, hf]
end Go.Proofs.YticaocadeeolkaaDoor.Plain

namespace Go.Proofs.YticaocadeeolkaaDoor.Plain
open Go

def made (x : Nd) : List Tm → Tm
  | [a] => .un x.op a
  | [a, b] => .bin x.op a b
  | [c, a, b] => .ite c a b
  | _ => if x.op = 2 then .var x.name else .lit x.n
def kidTerms (l : List Tm) (ks : List Int) : List Tm := ks.map fun k => l.getD k.toNat .nil
def termsGo : List Nd → List Tm → List Tm
  | [], l => l
  | x :: r, l => termsGo r (l ++ [made x (kidTerms l x.kids)])
def termsL (e : List Nd) : List Tm := termsGo e []
theorem termsGo_append : ∀ (e f : List Nd) (l : List Tm), termsGo (e ++ f) l = termsGo f (termsGo e l)
  | [], _, _ => rfl
  | x :: e, f, l => by simp only [List.cons_append, termsGo]; exact termsGo_append e f _
theorem termsGo_length : ∀ (e : List Nd) (l : List Tm), (termsGo e l).length = l.length + e.length
  | [], _ => rfl
  | x :: e, l => by rw [termsGo, termsGo_length e]; simp; omega
theorem termsL_length (e : List Nd) : (termsL e).length = e.length := by simp [termsL, termsGo_length]
theorem termsGo_pre : ∀ (e : List Nd) (l : List Tm) (k : Nat), k < l.length → (termsGo e l)[k]? = l[k]?
  | [], _, _, _ => rfl
  | x :: e, l, k, h => by
    rw [termsGo, termsGo_pre e _ k (by simp; omega), List.getElem?_append_left h]
theorem termsL_take (e : List Nd) (k : Nat) (x : Nd) (hx : e[k]? = some x) : termsL (e.take (k + 1)) = termsL (e.take k) ++ [made x (kidTerms (termsL (e.take k)) x.kids)] := by
  have : e.take (k + 1) = e.take k ++ [x] := by
    have hlt := (List.getElem?_eq_some_iff.1 hx).1
    rw [List.take_succ_eq_append_getElem hlt, (List.getElem?_eq_some_iff.1 hx).2]
  rw [this, termsL, termsGo_append]
  rfl
theorem termsL_at (e : List Nd) (k m : Nat) (h : k < m) (hm : m ≤ e.length) : (termsL e)[k]? = (termsL (e.take m))[k]? := by
  have : termsL e = termsGo (e.drop m) (termsL (e.take m)) := by
    conv => lhs; rw [← List.take_append_drop m e]
    rw [termsL, termsGo_append]; rfl
  rw [this, termsGo_pre _ _ _ (by rw [termsL_length]; simp; omega)]
/-- The term at a place. -/
def termAt (e : List Nd) (k : Nat) : Tm := (termsL e).getD k .nil
theorem termAt_get (e : List Nd) (k : Nat) (h : k < e.length) : (termsL e)[k]? = some (termAt e k) := by
  unfold termAt
  rw [List.getD_eq_getElem?_getD, List.getElem?_eq_getElem (by rw [termsL_length]; exact h)]; rfl
/-- .. out of the terms of its parts, which lie ahead. -/
theorem termAt_made (e : List Nd) (k : Nat) (x : Nd) (hx : e[k]? = some x) (hk : ∀ j ∈ x.kids, 0 ≤ j ∧ j < k) : termAt e k = made x (x.kids.map fun j => termAt e j.toNat) := by
  have hlt := (List.getElem?_eq_some_iff.1 hx).1
  have h1 := termAt_get e k hlt
  rw [termsL_at e k (k + 1) (by omega) (by omega), termsL_take e k x hx, List.getElem?_append_right (by rw [termsL_length]; simp; omega)] at h1
  have hl : (termsL (e.take k)).length = k := by rw [termsL_length]; simp; omega
  rw [hl, Nat.sub_self] at h1
  have h2 := Option.some.inj h1
  rw [← h2]
  congr 1
  unfold kidTerms
  apply List.map_congr_left
  intro j hj
  obtain ⟨j0, j1⟩ := hk j hj
  rw [List.getD_eq_getElem?_getD, ← termsL_at e j.toNat k (by omega) (by omega), termAt_get e j.toNat (by omega)]
  rfl

theorem name_empty {s : ByteArray} (h : s.toList.isEmpty = true) : s = ⟨#[]⟩ := by
  rw [List.isEmpty_iff, toList_nil_iff_emptyBytes] at h
  rw [h]; rfl
theorem take_len {e : List Nd} {k : Nat} (h : k ≤ e.length) : (e.take k).length = k := by simp; omega
theorem take_next {e : List Nd} {k : Nat} {x : Nd} (hx : e[k]? = some x) : e.take (k + 1) = e.take k ++ [x] := by
  have hlt := (List.getElem?_eq_some_iff.1 hx).1
  rw [List.take_succ_eq_append_getElem hlt, (List.getElem?_eq_some_iff.1 hx).2]
theorem layPart_ok {f : List Nd → Option (List Nd)} {l l' : List Nd} (hl : l.length < 64) (h : f l = some l') : layPart f l = some l' := by unfold layPart; rw [if_neg (by omega), h]
theorem last_take {e : List Nd} {k : Nat} (h : k < e.length) : last (e.take (k + 1)) = (k : Int) := by unfold last; rw [take_len (by omega)]; omega
theorem form_parts {x : Nd} (h : form x = true) : arity x.op = some x.kids.length ∧ (x.op ≠ 1 → x.n = 0) ∧ (x.op ≠ 2 → x.name = ⟨#[]⟩) := by
  unfold form formB at h
  cases ha : arity x.op with
  | none => rw [ha] at h; cases h
  | some k =>
    rw [ha] at h
    simp only [Bool.and_eq_true, beq_iff_eq, Bool.or_eq_true] at h
    obtain ⟨⟨h1, h2⟩, h3⟩ := h
    refine ⟨by rw [h1], fun h => ?_, fun h => ?_⟩
    · rcases h2 with h2 | h2
      · exact absurd h2 h
      · exact h2
    · rw [if_neg h] at h3
      exact name_empty h3
theorem arity_zero {op : Int} (h : arity op = some 0) : op = 1 ∨ op = 2 := by
  unfold arity at h
  repeat' split at h
  all_goals first | assumption | (cases h; done)
theorem arity_pos {op : Int} {k : Nat} (h : arity op = some (k + 1)) : op ≠ 1 ∧ op ≠ 2 := by
  constructor
  · rintro rfl; simp [arity] at h
  · rintro rfl; simp [arity] at h
theorem arity_three {op : Int} (h : arity op = some 3) : op = 17 := by
  unfold arity at h
  repeat' split at h
  all_goals first | assumption | (cases h; done)

theorem nd_mk {x : Nd} {n : Int} {name : ByteArray} {kids : List Int} (h1 : x.n = n) (h2 : x.name = name) (h3 : x.kids = kids) : x = ⟨x.op, n, name, kids⟩ := by
  cases x; simp_all
theorem lay_seg (e : List Nd) (hf : ∀ x ∈ e, form x = true) (h64 : e.length ≤ 64) : ∀ (n at_ lo : Nat), at_ < n → Seg e lo at_ → lay (termAt e at_) (e.take lo) = some (e.take (at_ + 1)) := by
  intro n
  induction n with
  | zero => intro at_ lo h; omega
  | succ n ih =>
    intro at_ lo hn hs
    cases hs with
    | node x ks hx hk h =>
      have hlt : at_ < e.length := (List.getElem?_eq_some_iff.1 hx).1
      have hfx := hf x (List.mem_of_getElem? hx)
      obtain ⟨har, hnum, hname⟩ := form_parts hfx
      have hle := h.le
      rw [take_next hx]
      match ks, hk, h with
      | [], hk, h =>
        cases h
        have hk0 : x.kids = [] := by simpa using hk
        rw [termAt_made e at_ x hx (by rw [hk0]; simp), hk0]
        rw [hk0] at har
        simp only [List.map_nil, made]
        have hd : (e.take at_).length + 1 ≤ 64 := by rw [take_len (by omega)]; omega
        by_cases h2 : x.op = 2
        · rw [if_pos h2]
          simp only [lay, layEnd]
          rw [if_pos hd]
          have hq := nd_mk (hnum (by omega)) rfl hk0
          rw [h2] at hq
          rw [← hq]
        · rw [if_neg h2]
          have h1 : x.op = 1 := by rcases arity_zero har with h | h; exact h; exact absurd h h2
          simp only [lay, layEnd]
          rw [if_pos hd]
          have hq := nd_mk rfl (hname h2) hk0
          rw [h1] at hq
          rw [← hq]
      | [k], hk, h =>
        obtain ⟨e1, h1⟩ := h.one
        subst e1
        have hk1 : x.kids = [(k : Int)] := by simpa using hk
        have hl1 := h1.le
        rw [hk1] at har
        obtain ⟨n1, n2⟩ := arity_pos har
        rw [termAt_made e (k + 1) x hx (by rw [hk1]; simp; omega), hk1]
        simp only [List.map_cons, List.map_nil, made, Int.toNat_natCast]
        simp only [List.length_singleton] at har
        simp only [lay, har, if_true]
        rw [layPart_ok (by rw [take_len (by omega)]; omega) (ih k lo (by omega) h1)]
        simp only [Option.bind_some, layEnd, last_take (show k < e.length by omega)]
        rw [if_pos (by rw [take_len (by omega)]; omega)]
        rw [← nd_mk (hnum n1) (hname n2) hk1]
      | [k, k2], hk, h =>
        obtain ⟨m, g1, g2⟩ := Segs.split (ks := [k]) (ls := [k2]) h
        obtain ⟨e1, h1⟩ := g1.one
        subst e1
        obtain ⟨e2, h2⟩ := g2.one
        subst e2
        have hl1 := h1.le
        have hl2 := h2.le
        have hk1 : x.kids = [(k : Int), (k2 : Int)] := by simpa using hk
        rw [hk1] at har
        obtain ⟨n1, n2⟩ := arity_pos har
        rw [termAt_made e (k2 + 1) x hx (by rw [hk1]; simp; omega), hk1]
        simp only [List.map_cons, List.map_nil, made, Int.toNat_natCast]
        simp only [List.length_cons, List.length_nil] at har
        simp only [lay, har, if_true]
        rw [layPart_ok (by rw [take_len (by omega)]; omega) (ih k lo (by omega) h1)]
        simp only [Option.bind_some]
        rw [layPart_ok (by rw [take_len (by omega)]; omega) (ih k2 (k + 1) (by omega) h2)]
        simp only [Option.bind_some, layEnd, last_take (show k < e.length by omega), last_take (show k2 < e.length by omega)]
        rw [if_pos (by rw [take_len (by omega)]; omega)]
        rw [← nd_mk (hnum n1) (hname n2) hk1]
      | [k, k2, k3], hk, h =>
        obtain ⟨m, g1, g2⟩ := Segs.split (ks := [k]) (ls := [k2, k3]) h
        obtain ⟨e1, h1⟩ := g1.one
        subst e1
        obtain ⟨m, g3, g4⟩ := Segs.split (ks := [k2]) (ls := [k3]) g2
        obtain ⟨e2, h2⟩ := g3.one
        subst e2
        obtain ⟨e3, h3⟩ := g4.one
        subst e3
        have hl1 := h1.le
        have hl2 := h2.le
        have hl3 := h3.le
        have hk1 : x.kids = [(k : Int), (k2 : Int), (k3 : Int)] := by simpa using hk
        rw [hk1] at har
        obtain ⟨n1, n2⟩ := arity_pos har
        have h17 := arity_three (by simpa using har)
        rw [termAt_made e (k3 + 1) x hx (by rw [hk1]; simp; omega), hk1]
        simp only [List.map_cons, List.map_nil, made, Int.toNat_natCast]
        simp only [lay]
        rw [layPart_ok (by rw [take_len (by omega)]; omega) (ih k lo (by omega) h1)]
        simp only [Option.bind_some]
        rw [layPart_ok (by rw [take_len (by omega)]; omega) (ih k2 (k + 1) (by omega) h2)]
        simp only [Option.bind_some]
        rw [layPart_ok (by rw [take_len (by omega)]; omega) (ih k3 (k2 + 1) (by omega) h3)]
        simp only [Option.bind_some, layEnd, last_take (show k < e.length by omega), last_take (show k2 < e.length by omega), last_take (show k3 < e.length by omega)]
        rw [if_pos (by rw [take_len (by omega)]; omega)]
        have hq := nd_mk (hnum n1) (hname n2) hk1
        rw [h17] at hq
        rw [← hq]
      | a :: b :: c :: d :: r, hk, h =>
        rw [hk] at har
        have := arity_le har
        simp at this
theorem open_term {e : List Nd} (h : Sound e) : lay (termAt e (e.length - 1)) [] = some e ∧ openT (termAt e (e.length - 1)) = e := by
  have h1 := lay_seg e h.forms h.hi e.length (e.length - 1) 0 (by have := h.lo; omega) h.seg
  have h2 : e.length - 1 + 1 = e.length := by have := h.lo; omega
  rw [h2, List.take_length, List.take_zero] at h1
  refine ⟨h1, ?_⟩
  unfold openT
  rw [h1]
  dsimp only
  rw [if_pos ((check_iff e).2 h)]
/-- Where the parts of a sound expression's node lie: ahead of it. -/
theorem seg_kids {e : List Nd} : ∀ {lo at_ : Nat}, Seg e lo at_ → ∀ x, e[at_]? = some x → ∀ j ∈ x.kids, 0 ≤ j ∧ j < (at_ : Int) ∧ ∃ (k lo' : Nat), j = (k : Int) ∧ Seg e lo' k := by
  intro lo at_ hs x hx j hj
  cases hs with
  | node x' ks hx' hk h =>
    rw [hx] at hx'
    cases hx'
    rw [hk] at hj
    obtain ⟨k, hk1, rfl⟩ := List.mem_map.1 hj
    obtain ⟨la, lb, rfl⟩ := List.append_of_mem hk1
    obtain ⟨m, h1, h2⟩ := h.split
    cases h2 with
    | cons h3 h4 =>
      have := h4.le
      have := h3.le
      exact ⟨by omega, by omega, k, _, rfl, h3⟩
end Go.Proofs.YticaocadeeolkaaDoor.Plain
