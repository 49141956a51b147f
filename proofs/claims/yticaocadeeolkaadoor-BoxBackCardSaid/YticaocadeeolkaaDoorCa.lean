/-
  PLAIN: terms; what lay, terms, Of say of them; an expression that is sound is opened again as it was.
-/
import Derived.Test.YticaocadeeolkaaDoorBa
namespace Go.Proofs.YticaocadeeolkaaDoor.Plain
open Go

inductive Tm where
  | nil
  | lit (n : Int)
  | var (s : ByteArray)
  | un (op : Int) (a : Tm)
  | bin (op : Int) (a b : Tm)
  | ite (c a b : Tm)
  | other (T : Nat) (v : Value)

def opOf : Tm → Int
  | .lit _ => 1 | .var _ => 2 | .un op _ => op | .bin op _ _ => op | .ite _ _ _ => 17 | _ => 0
def numOf : Tm → Int
  | .lit n => n | _ => 0
def nameOf : Tm → ByteArray
  | .var s => s | _ => ⟨#[]⟩
def partsOf : Tm → List Tm
  | .un _ a => [a] | .bin _ a b => [a, b] | .ite c a b => [c, a, b] | _ => []

def shift (b : Int) (e : List Nd) : List Nd := e.map fun x => { x with kids := x.kids.map (· + b) }
theorem shift_length (b : Int) (e : List Nd) : (shift b e).length = e.length := by simp [shift]
theorem shift_append (b : Int) (e f : List Nd) : shift b (e ++ f) = shift b e ++ shift b f := by simp [shift]
theorem shift_shift (b c : Int) (e : List Nd) : shift b (shift c e) = shift (c + b) e := by
  simp only [shift, List.map_map]
  congr 1
  funext x
  simp only [Function.comp_apply, List.map_map]
  congr 1
  apply List.map_congr_left
  intro a _
  simp only [Function.comp_apply]
  omega
theorem shift_zero (e : List Nd) : shift 0 e = e := by
  simp [shift]

/-! ### lay -/
def layPart (f : List Nd → Option (List Nd)) (l : List Nd) : Option (List Nd) := if 64 ≤ l.length then none else f l
def layEnd (op n : Int) (name : ByteArray) (kids : List Int) (l : List Nd) : Option (List Nd) := if l.length + 1 ≤ 64 then some (l ++ [⟨op, n, name, kids⟩]) else none
def last (l : List Nd) : Int := (l.length : Int) - 1
def lay : Tm → List Nd → Option (List Nd)
  | .lit n, l => layEnd 1 n ⟨#[]⟩ [] l
  | .var s, l => layEnd 2 0 s [] l
  | .un op a, l => if arity op = some 1 then (layPart (lay a) l).bind fun l1 => layEnd op 0 ⟨#[]⟩ [last l1] l1 else none
  | .bin op a b, l => if arity op = some 2 then (layPart (lay a) l).bind fun l1 => (layPart (lay b) l1).bind fun l2 => layEnd op 0 ⟨#[]⟩ [last l1, last l2] l2 else none
  | .ite c a b, l => (layPart (lay c) l).bind fun l1 => (layPart (lay a) l1).bind fun l2 => (layPart (lay b) l2).bind fun l3 => layEnd 17 0 ⟨#[]⟩ [last l1, last l2, last l3] l3
  | _, _ => none
/-- The parts one after the other. -/
def layKids : List Tm → List Nd → List Int → Option (List Nd × List Int)
  | [], l, ks => some (l, ks)
  | p :: r, l, ks => (layPart (lay p) l).bind fun l1 => layKids r l1 (ks ++ [last l1])
theorem lay_kids (t : Tm) (l : List Nd) : lay t l = if arity (opOf t) = some (partsOf t).length then (layKids (partsOf t) l []).bind fun p => layEnd (opOf t) (numOf t) (nameOf t) p.2 p.1 else none := by
  cases t with
  | nil => simp [lay, opOf, arity]
  | other => simp [lay, opOf, arity]
  | lit n => simp [lay, opOf, arity, partsOf, layKids, numOf, nameOf]
  | var s => simp [lay, opOf, arity, partsOf, layKids, numOf, nameOf]
  | un op a => simp [lay, opOf, partsOf, layKids, numOf, nameOf, Option.bind_assoc]
  | bin op a b => simp [lay, opOf, partsOf, layKids, numOf, nameOf, Option.bind_assoc]
  | ite c a b =>
    have : arity 17 = some 3 := rfl
    simp [lay, opOf, partsOf, layKids, numOf, nameOf, Option.bind_assoc, this]
def openT (t : Tm) : List Nd := match lay t [] with | some e => if check e then e else [] | none => []

theorem lay_end_le {op n : Int} {name : ByteArray} {kids : List Int} {l l' : List Nd} (h : layEnd op n name kids l = some l') : l' = l ++ [⟨op, n, name, kids⟩] ∧ l'.length ≤ 64 := by
  unfold layEnd at h
  split at h
  · cases h; exact ⟨rfl, by simp; omega⟩
  · cases h
theorem lay_part {f : List Nd → Option (List Nd)} {l l' : List Nd} (h : layPart f l = some l') : f l = some l' ∧ l.length < 64 := by
  unfold layPart at h
  split at h
  · cases h
  · exact ⟨h, by omega⟩

/-- Behind other nodes the same is laid, moved on. -/
theorem lay_shift : ∀ (t : Tm) (l : List Nd), lay t l = (lay t []).bind fun e => if l.length + e.length ≤ 64 then some (l ++ shift l.length e) else none := by
  have hend : ∀ (op n : Int) (name : ByteArray) (kids : List Int) (l e : List Nd), e.length ≤ 64 →
      (if l.length + e.length ≤ 64 then layEnd op n name (kids.map (· + (l.length : Int))) (l ++ shift l.length e) else none) = (layEnd op n name kids e).bind fun e' => if l.length + e'.length ≤ 64 then some (l ++ shift l.length e') else none := by
    intro op n name kids l e he
    unfold layEnd
    by_cases h1 : e.length + 1 ≤ 64
    · rw [if_pos h1]
      simp only [Option.bind_some, List.length_append, List.length_singleton, shift_length]
      by_cases h2 : l.length + (e.length + 1) ≤ 64
      · rw [if_pos (by omega), if_pos (by omega), if_pos h2, shift_append]
        simp [shift]
      · rw [if_neg h2]
        by_cases h3 : l.length + e.length ≤ 64
        · rw [if_pos h3, if_neg (by omega)]
        · rw [if_neg h3]
    · rw [if_neg h1]
      simp only [Option.bind_none, List.length_append, shift_length]
      by_cases h3 : l.length + e.length ≤ 64
      · rw [if_pos h3, if_neg (by omega)]
      · rw [if_neg h3]
  have hlen : ∀ (t : Tm) (l e : List Nd), lay t l = some e → e.length ≤ 64 ∧ 1 ≤ e.length := by
    intro t l e h
    cases t with
    | nil => cases h
    | other => cases h
    | lit n => obtain ⟨h1, h2⟩ := lay_end_le h; exact ⟨h2, by rw [h1]; simp⟩
    | var s => obtain ⟨h1, h2⟩ := lay_end_le h; exact ⟨h2, by rw [h1]; simp⟩
    | un op a =>
      simp only [lay] at h
      split at h
      · obtain ⟨l1, _, h⟩ := Option.bind_eq_some_iff.1 h
        obtain ⟨h1, h2⟩ := lay_end_le h; exact ⟨h2, by rw [h1]; simp⟩
      · cases h
    | bin op a b =>
      simp only [lay] at h
      split at h
      · obtain ⟨l1, _, h⟩ := Option.bind_eq_some_iff.1 h
        obtain ⟨l2, _, h⟩ := Option.bind_eq_some_iff.1 h
        obtain ⟨h1, h2⟩ := lay_end_le h; exact ⟨h2, by rw [h1]; simp⟩
      · cases h
    | ite c a b =>
      simp only [lay] at h
      obtain ⟨l1, _, h⟩ := Option.bind_eq_some_iff.1 h
      obtain ⟨l2, _, h⟩ := Option.bind_eq_some_iff.1 h
      obtain ⟨l3, _, h⟩ := Option.bind_eq_some_iff.1 h
      obtain ⟨h1, h2⟩ := lay_end_le h; exact ⟨h2, by rw [h1]; simp⟩
  -- a part behind l ++ shift e, out of the same behind e
  have hpart : ∀ (t : Tm), (∀ l, lay t l = (lay t []).bind fun e => if l.length + e.length ≤ 64 then some (l ++ shift l.length e) else none) → ∀ (l e : List Nd), e.length ≤ 64 → ∀ (k k' : List Nd → Option (List Nd)),
      (∀ e', e'.length ≤ 64 → (if l.length + e'.length ≤ 64 then k' (l ++ shift l.length e') else none) = (k e').bind fun e'' => if l.length + e''.length ≤ 64 then some (l ++ shift l.length e'') else none) →
      (if l.length + e.length ≤ 64 then (layPart (lay t) (l ++ shift l.length e)).bind k' else none) = ((layPart (lay t) e).bind k).bind fun e'' => if l.length + e''.length ≤ 64 then some (l ++ shift l.length e'') else none := by
    intro t ih l e he k k' hk
    unfold layPart
    by_cases h1 : 64 ≤ e.length
    · rw [if_pos h1]
      simp only [Option.bind_none, List.length_append, shift_length]
      by_cases h2 : l.length + e.length ≤ 64
      · rw [if_pos h2, if_pos (by omega)]; rfl
      · rw [if_neg h2]
    · rw [if_neg h1, ih e]
      cases hp : lay t [] with
      | none =>
        simp only [Option.bind_none, List.length_append, shift_length]
        by_cases h2 : l.length + e.length ≤ 64
        · rw [if_pos h2]
          by_cases h3 : 64 ≤ l.length + e.length
          · rw [if_pos h3]; rfl
          · rw [if_neg h3, ih, hp]; rfl
        · rw [if_neg h2]
      | some p =>
        obtain ⟨hp64, hp1⟩ := hlen t [] p hp
        simp only [Option.bind_some, List.length_append, shift_length]
        by_cases h4 : e.length + p.length ≤ 64
        · rw [if_pos h4]
          simp only [Option.bind_some]
          rw [← hk (e ++ shift e.length p) (by simp [shift_length]; omega)]
          simp only [List.length_append, shift_length]
          by_cases h2 : l.length + e.length ≤ 64
          · rw [if_pos h2]
            by_cases h3 : 64 ≤ l.length + e.length
            · rw [if_pos h3, if_neg (by omega)]; rfl
            · rw [if_neg h3, ih, hp]
              simp only [Option.bind_some, List.length_append, shift_length]
              by_cases h5 : l.length + e.length + p.length ≤ 64
              · rw [if_pos h5, if_pos (by omega)]
                simp only [Option.bind_some, shift_append, shift_shift, List.append_assoc]
                have hc : ((e.length : Int) + (l.length : Int)) = ((l.length + e.length : Nat) : Int) := by omega
                rw [hc]
              · rw [if_neg h5, if_neg (by omega)]; rfl
          · rw [if_neg h2, if_neg (by omega)]
        · rw [if_neg h4]
          simp only [Option.bind_none]
          by_cases h2 : l.length + e.length ≤ 64
          · rw [if_pos h2]
            by_cases h3 : 64 ≤ l.length + e.length
            · rw [if_pos h3]; rfl
            · rw [if_neg h3, ih, hp]
              simp only [Option.bind_some, List.length_append, shift_length]
              rw [if_neg (by omega)]; rfl
          · rw [if_neg h2]
  have hlast : ∀ (l e : List Nd), last (l ++ shift l.length e) = last e + (l.length : Int) := by
    intro l e; unfold last; simp [shift_length]; omega
  intro t
  induction t with
  | nil => intro l; rfl
  | other => intro l; rfl
  | lit n =>
    intro l
    have := hend 1 n ⟨#[]⟩ [] l [] (by simp)
    simp only [List.length_nil, Nat.add_zero, List.map_nil] at this
    simp only [lay]
    rw [← this]
    by_cases h : l.length ≤ 64
    · rw [if_pos h]; simp [shift]
    · rw [if_neg h]; unfold layEnd; rw [if_neg (by omega)]
  | var s =>
    intro l
    have := hend 2 0 s [] l [] (by simp)
    simp only [List.length_nil, Nat.add_zero, List.map_nil] at this
    simp only [lay]
    rw [← this]
    by_cases h : l.length ≤ 64
    · rw [if_pos h]; simp [shift]
    · rw [if_neg h]; unfold layEnd; rw [if_neg (by omega)]
  | un op a iha =>
    intro l
    simp only [lay]
    split
    · have h := hpart a iha l [] (by simp) (fun l1 => layEnd op 0 ⟨#[]⟩ [last l1] l1) (fun l1 => layEnd op 0 ⟨#[]⟩ [last l1] l1) (fun e' he' => by
        rw [hlast, ← hend op 0 ⟨#[]⟩ [last e'] l e' he']; rfl)
      rw [← h]
      by_cases h : l.length ≤ 64
      · simp [h, shift]
      · simp [h, layPart]; omega
    · rfl
  | bin op a b iha ihb =>
    intro l
    simp only [lay]
    split
    · have h := hpart a iha l [] (by simp) (fun l1 => (layPart (lay b) l1).bind fun l2 => layEnd op 0 ⟨#[]⟩ [last l1, last l2] l2) (fun l1 => (layPart (lay b) l1).bind fun l2 => layEnd op 0 ⟨#[]⟩ [last l1, last l2] l2) (fun e' he' => by
        exact hpart b ihb l e' he' (fun l2 => layEnd op 0 ⟨#[]⟩ [last e', last l2] l2) (fun l2 => layEnd op 0 ⟨#[]⟩ [last (l ++ shift l.length e'), last l2] l2) (fun e2 he2 => by
          rw [hlast, hlast, ← hend op 0 ⟨#[]⟩ [last e', last e2] l e2 he2]; rfl))
      rw [← h]
      by_cases h : l.length ≤ 64
      · simp [h, shift]
      · simp [h, layPart]; omega
    · rfl
  | ite c a b ihc iha ihb =>
    intro l
    simp only [lay]
    have h := hpart c ihc l [] (by simp) (fun l1 => (layPart (lay a) l1).bind fun l2 => (layPart (lay b) l2).bind fun l3 => layEnd 17 0 ⟨#[]⟩ [last l1, last l2, last l3] l3) (fun l1 => (layPart (lay a) l1).bind fun l2 => (layPart (lay b) l2).bind fun l3 => layEnd 17 0 ⟨#[]⟩ [last l1, last l2, last l3] l3) (fun e' he' => by
      exact hpart a iha l e' he' (fun l2 => (layPart (lay b) l2).bind fun l3 => layEnd 17 0 ⟨#[]⟩ [last e', last l2, last l3] l3) (fun l2 => (layPart (lay b) l2).bind fun l3 => layEnd 17 0 ⟨#[]⟩ [last (l ++ shift l.length e'), last l2, last l3] l3) (fun e2 he2 => by
        exact hpart b ihb l e2 he2 (fun l3 => layEnd 17 0 ⟨#[]⟩ [last e', last e2, last l3] l3) (fun l3 => layEnd 17 0 ⟨#[]⟩ [last (l ++ shift l.length e'), last (l ++ shift l.length e2), last l3] l3) (fun e3 he3 => by
          rw [hlast, hlast, hlast, ← hend 17 0 ⟨#[]⟩ [last e', last e2, last e3] l e3 he3]; rfl)))
    rw [← h]
    by_cases h : l.length ≤ 64
    · simp [h, shift]
    · simp [h, layPart]; omega
end Go.Proofs.YticaocadeeolkaaDoor.Plain
