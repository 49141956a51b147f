/-
  PLAIN: Open is Make of the parts' Open; Open of a sound expression's term is the expression.
-/
import Derived.Test.YticaocadeeolkaaDoorCa
namespace Go.Proofs.YticaocadeeolkaaDoor.Plain
open Go

def namesOk : Tm → Bool
  | .var s => isName s | .un _ a => namesOk a | .bin _ a b => namesOk a && namesOk b | .ite c a b => namesOk c && namesOk a && namesOk b | _ => true

/-! ### a segment inside a longer list -/
theorem shift_get {b : Int} {e : List Nd} {k : Nat} {x : Nd} (h : e[k]? = some x) : (shift b e)[k]? = some { x with kids := x.kids.map (· + b) } := by
  unfold shift; rw [List.getElem?_map, h]; rfl
mutual
theorem Seg.inside {e pre post : List Nd} : ∀ {lo at_ : Nat}, Seg e lo at_ → Seg (pre ++ shift pre.length e ++ post) (pre.length + lo) (pre.length + at_)
  | _, at_, .node x ks hx hk h => by
    refine .node { x with kids := x.kids.map (· + (pre.length : Int)) } (ks.map (pre.length + ·)) ?_ ?_ (Segs.inside h)
    · rw [List.append_assoc, List.getElem?_append_right (by omega), List.getElem?_append_left (by
        rw [shift_length]; have := (List.getElem?_eq_some_iff.1 hx).1; omega)]
      rw [show pre.length + at_ - pre.length = at_ by omega]
      exact shift_get hx
    · simp only [hk, List.map_map]
      apply List.map_congr_left
      intro a _
      simp only [Function.comp_apply]
      omega
theorem Segs.inside {e pre post : List Nd} : ∀ {lo hi : Nat} {ks : List Nat}, Segs e lo ks hi → Segs (pre ++ shift pre.length e ++ post) (pre.length + lo) (ks.map (pre.length + ·)) (pre.length + hi)
  | _, _, _, .nil => .nil
  | _, _, _, .cons h h' => .cons (Seg.inside h) (by have := Segs.inside (pre := pre) (post := post) h'; rwa [← Nat.add_assoc] at this)
end
theorem form_shift {b : Int} {x : Nd} : form { x with kids := x.kids.map (· + b) } = form x := by simp [form]
theorem all_shift (b : Int) (e : List Nd) : (shift b e).all form = e.all form := by
  unfold shift
  rw [List.all_map]
  congr 1
  funext x
  exact form_shift

/-- One expression: its nodes one segment. -/
def One (e : List Nd) : Prop := 1 ≤ e.length ∧ Seg e 0 (e.length - 1)
theorem One.check {e : List Nd} (h : One e) (h64 : e.length ≤ 64) : check e = e.all form := by
  rw [Bool.eq_iff_iff, check_iff, List.all_eq_true]
  exact ⟨fun s => s.forms, fun hf => ⟨h.1, h64, hf, h.2⟩⟩
theorem Seg.grow {e post : List Nd} {lo at_ : Nat} (h : Seg e lo at_) : Seg (e ++ post) lo at_ := by
  have := Seg.inside (pre := []) (post := post) h
  simpa [shift_zero] using this
theorem one_in {e pre post : List Nd} (h : One e) : Seg (pre ++ shift pre.length e ++ post) pre.length (pre.length + e.length - 1) := by
  have := Seg.inside (pre := pre) (post := post) h.2
  rwa [Nat.add_zero, show pre.length + (e.length - 1) = pre.length + e.length - 1 by have := h.1; omega] at this
theorem form_leaf (op n : Int) (name : ByteArray) (kids : List Int) : form ⟨op, n, name, kids⟩ = formB op n name kids.length := rfl
theorem toList_nil : (⟨#[]⟩ : ByteArray).toList = [] := by decide +kernel
theorem formB_op {op : Int} {k : Nat} (h : arity op = some k) (hk : 1 ≤ k) : formB op 0 ⟨#[]⟩ k = true := by
  have h2 : op ≠ 2 := by rintro rfl; simp [arity] at h; omega
  simp [formB, h, h2, toList_nil]
theorem formB_bad {op n : Int} {name : ByteArray} {k : Nat} (h : arity op ≠ some k) : formB op n name k = false := by
  unfold formB
  cases ha : arity op with
  | none => rfl
  | some j =>
    have : (k == j) = false := by rw [beq_eq_false_iff_ne]; rintro rfl; exact h ha
    simp [this]

theorem last_len {l : List Nd} (h : 1 ≤ l.length) : last l = ((l.length - 1 : Nat) : Int) := by unfold last; omega
theorem one_un {e : List Nd} {op : Int} (h : One e) : One (e ++ [⟨op, 0, ⟨#[]⟩, [last e]⟩]) := by
  refine ⟨by simp, ?_⟩
  have h1 := h.1
  have hs : Seg (e ++ [⟨op, 0, ⟨#[]⟩, [last e]⟩]) 0 (e.length - 1) := h.2.grow
  rw [show (e ++ [(⟨op, 0, ⟨#[]⟩, [last e]⟩ : Nd)]).length - 1 = e.length by simp]
  refine .node ⟨op, 0, ⟨#[]⟩, [last e]⟩ [e.length - 1] (by simp) (by simp [last_len h1]) (.cons hs ?_)
  rw [show e.length - 1 + 1 = e.length by omega]
  exact .nil
theorem one_bin {e f : List Nd} {op : Int} (h : One e) (g : One f) : One (e ++ shift e.length f ++ [⟨op, 0, ⟨#[]⟩, [last e, last (e ++ shift e.length f)]⟩]) := by
  refine ⟨by simp; omega, ?_⟩
  have h1 := h.1
  have g1 := g.1
  generalize hx : (⟨op, 0, ⟨#[]⟩, [last e, last (e ++ shift e.length f)]⟩ : Nd) = x
  have hs : Seg (e ++ shift e.length f ++ [x]) 0 (e.length - 1) := by rw [List.append_assoc]; exact h.2.grow
  have gs : Seg (e ++ shift e.length f ++ [x]) e.length (e.length + f.length - 1) := one_in g
  rw [show (e ++ shift e.length f ++ [x]).length - 1 = e.length + f.length by simp [shift_length]]
  refine .node x [e.length - 1, e.length + f.length - 1] (by rw [List.getElem?_append_right (by simp [shift_length])]; simp [shift_length]) ?_ (.cons hs ?_)
  · rw [← hx]
    simp only [List.map_cons, List.map_nil]
    rw [last_len h1, last_len (by simp; omega)]
    simp [shift_length]
  · rw [show e.length - 1 + 1 = e.length by omega]
    refine .cons gs ?_
    rw [show e.length + f.length - 1 + 1 = e.length + f.length by omega]
    exact .nil
theorem one_ite {e f g : List Nd} {op : Int} (he : One e) (hf : One f) (hg : One g) :
    One (e ++ shift e.length f ++ shift (e.length + f.length : Nat) g ++ [⟨op, 0, ⟨#[]⟩, [last e, last (e ++ shift e.length f), last (e ++ shift e.length f ++ shift (e.length + f.length : Nat) g)]⟩]) := by
  refine ⟨by simp; omega, ?_⟩
  have e1 := he.1
  have f1 := hf.1
  have g1 := hg.1
  generalize hx : (⟨op, 0, ⟨#[]⟩, [last e, last (e ++ shift e.length f), last (e ++ shift e.length f ++ shift (e.length + f.length : Nat) g)]⟩ : Nd) = x
  have hs : Seg (e ++ shift e.length f ++ shift (e.length + f.length : Nat) g ++ [x]) 0 (e.length - 1) := by rw [List.append_assoc, List.append_assoc]; exact he.2.grow
  have fs : Seg (e ++ shift e.length f ++ shift (e.length + f.length : Nat) g ++ [x]) e.length (e.length + f.length - 1) := by rw [List.append_assoc _ _ [x]]; exact one_in hf
  have gs : Seg (e ++ shift e.length f ++ shift (e.length + f.length : Nat) g ++ [x]) (e.length + f.length) (e.length + f.length + g.length - 1) := by
    have hl : (e ++ shift e.length f).length = e.length + f.length := by simp [shift_length]
    have := one_in (pre := e ++ shift e.length f) (post := [x]) hg
    rw [hl] at this
    exact this
  have hl2 : (e ++ shift e.length f ++ shift (e.length + f.length : Nat) g).length = e.length + f.length + g.length := by simp [shift_length]; omega
  rw [show (e ++ shift e.length f ++ shift (e.length + f.length : Nat) g ++ [x]).length - 1 = e.length + f.length + g.length by rw [List.length_append, hl2]; simp]
  refine .node x [e.length - 1, e.length + f.length - 1, e.length + f.length + g.length - 1] (by rw [List.getElem?_append_right (by omega), hl2]; simp) ?_ (.cons hs ?_)
  · rw [← hx]
    simp only [List.map_cons, List.map_nil]
    rw [last_len e1, last_len (by simp; omega), last_len (by omega), hl2]
    simp [shift_length]
  · rw [show e.length - 1 + 1 = e.length by omega]
    refine .cons fs ?_
    rw [show e.length + f.length - 1 + 1 = e.length + f.length by omega]
    refine .cons gs ?_
    rw [show e.length + f.length + g.length - 1 + 1 = e.length + f.length + g.length by omega]
    exact .nil

/-- A part that is laid: it is laid from nothing too, and moved on. -/
theorem part_some {t : Tm} {l l' : List Nd} (h : layPart (lay t) l = some l') : ∃ e, lay t [] = some e ∧ l' = l ++ shift l.length e ∧ l.length < 64 ∧ l'.length ≤ 64 := by
  obtain ⟨h1, h2⟩ := lay_part h
  rw [lay_shift] at h1
  obtain ⟨e, he, h3⟩ := Option.bind_eq_some_iff.1 h1
  split at h3
  · cases h3; exact ⟨e, he, rfl, h2, by simp [shift_length]; omega⟩
  · cases h3
theorem laid_one : ∀ (t : Tm) (e : List Nd), lay t [] = some e → One e ∧ e.length ≤ 64 ∧ e.all form = namesOk t := by
  intro t
  induction t with
  | nil => intro e h; cases h
  | other => intro e h; cases h
  | lit n =>
    intro e h
    obtain ⟨h1, h2⟩ := lay_end_le h
    rw [List.nil_append] at h1
    subst h1
    exact ⟨⟨by simp, .node _ [] rfl rfl .nil⟩, h2, by simp [form, formB, namesOk, arity, toList_nil]⟩
  | var s =>
    intro e h
    obtain ⟨h1, h2⟩ := lay_end_le h
    rw [List.nil_append] at h1
    subst h1
    refine ⟨⟨by simp, .node _ [] rfl rfl .nil⟩, h2, ?_⟩
    simp [form, formB, namesOk, arity]
  | un op a iha =>
    intro e h
    simp only [lay] at h
    split at h
    · rename_i ha
      obtain ⟨l1, h1, h⟩ := Option.bind_eq_some_iff.1 h
      obtain ⟨e1, he1, rfl, _, _⟩ := part_some h1
      simp only [List.nil_append, List.length_nil, Int.ofNat_zero, shift_zero] at *
      obtain ⟨o1, _, n1⟩ := iha e1 he1
      obtain ⟨h2, h3⟩ := lay_end_le h
      subst h2
      refine ⟨one_un o1, h3, ?_⟩
      rw [List.all_append, n1]
      simp [form_leaf, formB_op ha, namesOk]
    · cases h
  | bin op a b iha ihb =>
    intro e h
    simp only [lay] at h
    split at h
    · rename_i ha
      obtain ⟨l1, h1, h⟩ := Option.bind_eq_some_iff.1 h
      obtain ⟨e1, he1, rfl, _, _⟩ := part_some h1
      simp only [List.nil_append, List.length_nil, Int.ofNat_zero, shift_zero] at *
      obtain ⟨l2, h2, h⟩ := Option.bind_eq_some_iff.1 h
      obtain ⟨e2, he2, rfl, _, _⟩ := part_some h2
      obtain ⟨o1, _, n1⟩ := iha e1 he1
      obtain ⟨o2, _, n2⟩ := ihb e2 he2
      obtain ⟨h3, h4⟩ := lay_end_le h
      subst h3
      refine ⟨one_bin o1 o2, h4, ?_⟩
      rw [List.all_append, List.all_append, n1, all_shift, n2]
      simp [form_leaf, formB_op ha, namesOk]
    · cases h
  | ite c a b ihc iha ihb =>
    intro e h
    simp only [lay] at h
    obtain ⟨l1, h1, h⟩ := Option.bind_eq_some_iff.1 h
    obtain ⟨e1, he1, rfl, _, _⟩ := part_some h1
    simp only [List.nil_append, List.length_nil, Int.ofNat_zero, shift_zero] at *
    obtain ⟨l2, h2, h⟩ := Option.bind_eq_some_iff.1 h
    obtain ⟨e2, he2, rfl, _, _⟩ := part_some h2
    obtain ⟨l3, h3, h⟩ := Option.bind_eq_some_iff.1 h
    obtain ⟨e3, he3, rfl, _, _⟩ := part_some h3
    obtain ⟨o1, _, n1⟩ := ihc e1 he1
    obtain ⟨o2, _, n2⟩ := iha e2 he2
    obtain ⟨o3, _, n3⟩ := ihb e3 he3
    obtain ⟨h4, h5⟩ := lay_end_le h
    have hl : (e1 ++ shift e1.length e2).length = e1.length + e2.length := by simp [shift_length]
    rw [hl] at h4
    subst h4
    refine ⟨one_ite o1 o2 o3, h5, ?_⟩
    rw [List.all_append, List.all_append, List.all_append, n1, all_shift, n2, all_shift, n3]
    have : arity 17 = some 3 := rfl
    simp [form_leaf, formB_op this, namesOk, Bool.and_assoc]
theorem open_some {t : Tm} {e : List Nd} (h : lay t [] = some e) : openT t = if namesOk t then e else [] := by
  obtain ⟨o, h64, hn⟩ := laid_one t e h
  unfold openT
  rw [h]
  dsimp only
  rw [o.check h64, hn]
theorem open_none {t : Tm} (h : lay t [] = none) : openT t = [] := by unfold openT; rw [h]
theorem check_nil : check [] = false := rfl
theorem check_open (t : Tm) : check (openT t) = !(openT t).isEmpty := by
  cases h : lay t [] with
  | none => rw [open_none h]; rfl
  | some e =>
    obtain ⟨o, h64, hn⟩ := laid_one t e h
    rw [open_some h]
    cases hk : namesOk t
    · rfl
    · simp only [if_true]
      rw [o.check h64, hn, hk]
      have := o.1
      cases e with
      | nil => simp at this
      | cons => rfl

/-! ### Make -/
def joinGo : List (List Nd) → List Nd → List Int → List Nd × List Int
  | [], l, ks => (l, ks)
  | p :: r, l, ks => joinGo r (l ++ shift l.length p) (ks ++ [last (l ++ shift l.length p)])
def joined (op n : Int) (name : ByteArray) (parts : List (List Nd)) : List Nd := (joinGo parts [] []).1 ++ [⟨op, n, name, (joinGo parts [] []).2⟩]
def sizes (parts : List (List Nd)) : Nat := (parts.map List.length).sum
def makeT (op n : Int) (name : ByteArray) (parts : List (List Nd)) : List Nd :=
  if parts.all check then if formB op n name parts.length then if 1 + sizes parts ≤ 64 then joined op n name parts else [] else [] else []
theorem make_bad {op n : Int} {name : ByteArray} {parts : List (List Nd)} (h : parts.all check = false) : makeT op n name parts = [] := by simp [makeT, h]

theorem open_un (op : Int) (a : Tm) : openT (.un op a) = makeT op 0 ⟨#[]⟩ [openT a] := by
  cases ha : lay a [] with
  | none =>
    rw [make_bad (by simp [open_none ha, check_nil])]
    apply open_none
    simp only [lay]
    split
    · simp [layPart, ha]
    · rfl
  | some e =>
    obtain ⟨o, h64, hn⟩ := laid_one a e ha
    by_cases hop : arity op = some 1
    · have hl : lay (.un op a) [] = layEnd op 0 ⟨#[]⟩ [last e] e := by simp [lay, hop, layPart, ha]
      cases hk : namesOk a
      · rw [make_bad (by rw [open_some ha, hk]; rfl)]
        cases hx : layEnd op 0 ⟨#[]⟩ [last e] e with
        | none => exact open_none (hl.trans hx)
        | some e' => rw [open_some (hl.trans hx)]; simp [namesOk, hk]
      · have hoa : openT a = e := by rw [open_some ha, hk]; rfl
        rw [hoa]
        unfold makeT
        simp only [List.all_cons, List.all_nil, o.check h64, hn, hk, Bool.and_true, if_true, List.length_singleton, formB_op hop (Nat.le_refl _), sizes, List.map_cons, List.map_nil, List.sum_cons, List.sum_nil]
        by_cases hs : e.length + 1 ≤ 64
        · rw [if_pos (by omega)]
          have hx : layEnd op 0 ⟨#[]⟩ [last e] e = some (e ++ [⟨op, 0, ⟨#[]⟩, [last e]⟩]) := by unfold layEnd; rw [if_pos hs]
          rw [open_some (hl.trans hx)]
          simp [namesOk, hk, joined, joinGo, shift_zero]
        · rw [if_neg (by omega)]
          have hx : layEnd op 0 ⟨#[]⟩ [last e] e = none := by unfold layEnd; rw [if_neg hs]
          exact open_none (hl.trans hx)
    · have hl : lay (.un op a) [] = none := by simp [lay, hop]
      rw [open_none hl]
      unfold makeT
      simp [formB_bad hop]

theorem laid_le {t : Tm} {e : List Nd} (h : lay t [] = some e) : 1 ≤ e.length ∧ e.length ≤ 64 := ⟨(laid_one t e h).1.1, (laid_one t e h).2.1⟩
theorem part_first {t : Tm} {e : List Nd} (h : lay t [] = some e) : layPart (lay t) [] = some e := by simp [layPart, h]
theorem part_none {t : Tm} (h : lay t [] = none) (l : List Nd) : layPart (lay t) l = none := by
  unfold layPart
  split
  · rfl
  · rw [lay_shift, h]; rfl
theorem part_next {t : Tm} {e : List Nd} (h : lay t [] = some e) (l : List Nd) : layPart (lay t) l = if l.length + e.length ≤ 64 then some (l ++ shift l.length e) else none := by
  have he := laid_le h
  unfold layPart
  by_cases hl : 64 ≤ l.length
  · rw [if_pos hl, if_neg (by omega)]
  · rw [if_neg hl, lay_shift, h]; rfl
theorem open_bad {t : Tm} (h : namesOk t = false) : openT t = [] := by
  cases ht : lay t [] with
  | none => exact open_none ht
  | some e => rw [open_some ht, h]; rfl
theorem open_bin (op : Int) (a b : Tm) : openT (.bin op a b) = makeT op 0 ⟨#[]⟩ [openT a, openT b] := by
  by_cases hop : arity op = some 2
  · cases ha : lay a [] with
    | none =>
      rw [make_bad (by simp [open_none ha, check_nil])]
      exact open_none (by simp [lay, hop, part_none ha])
    | some e =>
      cases hb : lay b [] with
      | none =>
        rw [make_bad (by simp [open_none hb, check_nil])]
        exact open_none (by simp [lay, hop, part_none hb, part_first ha])
      | some f =>
        cases hka : namesOk a
        · rw [make_bad (by simp [open_bad hka, check_nil])]
          exact open_bad (by simp [namesOk, hka])
        · cases hkb : namesOk b
          · rw [make_bad (by simp [open_bad hkb, check_nil])]
            exact open_bad (by simp [namesOk, hkb])
          · obtain ⟨o, h64, hn⟩ := laid_one a e ha
            obtain ⟨o', h64', hn'⟩ := laid_one b f hb
            have hoa : openT a = e := by rw [open_some ha, hka]; rfl
            have hob : openT b = f := by rw [open_some hb, hkb]; rfl
            rw [hoa, hob]
            unfold makeT
            simp only [List.all_cons, List.all_nil, o.check h64, o'.check h64', hn, hn', hka, hkb, Bool.and_true, if_true, List.length_cons, List.length_nil, formB_op hop (by omega), sizes, List.map_cons, List.map_nil, List.sum_cons, List.sum_nil]
            by_cases hs : 1 + (e.length + (f.length + 0)) ≤ 64
            · rw [if_pos hs]
              have hl : lay (.bin op a b) [] = some (e ++ shift e.length f ++ [⟨op, 0, ⟨#[]⟩, [last e, last (e ++ shift e.length f)]⟩]) := by
                simp only [lay, hop, if_true, part_first ha, Option.bind_some, part_next hb]
                rw [if_pos (by omega)]
                simp only [Option.bind_some, layEnd, List.length_append, shift_length]
                rw [if_pos (by omega)]
              rw [open_some hl]
              simp [namesOk, hka, hkb, joined, joinGo, shift_zero]
            · rw [if_neg hs]
              apply open_none
              simp only [lay, hop, if_true, part_first ha, Option.bind_some, part_next hb]
              by_cases h2 : e.length + f.length ≤ 64
              · rw [if_pos h2]
                simp only [Option.bind_some, layEnd, List.length_append, shift_length]
                rw [if_neg (by omega)]
              · rw [if_neg h2]; rfl
  · rw [open_none (by simp [lay, hop])]
    unfold makeT
    simp [formB_bad hop]
theorem open_ite (c a b : Tm) : openT (.ite c a b) = makeT 17 0 ⟨#[]⟩ [openT c, openT a, openT b] := by
  have hop : arity 17 = some 3 := rfl
  cases hc : lay c [] with
  | none =>
    rw [make_bad (by simp [open_none hc, check_nil])]
    exact open_none (by simp [lay, part_none hc])
  | some d =>
    cases ha : lay a [] with
    | none =>
      rw [make_bad (by simp [open_none ha, check_nil])]
      exact open_none (by simp [lay, part_none ha, part_first hc])
    | some e =>
      cases hb : lay b [] with
      | none =>
        rw [make_bad (by simp [open_none hb, check_nil])]
        apply open_none
        simp only [lay, part_first hc, Option.bind_some, part_next ha]
        split
        · simp [part_none hb]
        · rfl
      | some f =>
        cases hkc : namesOk c
        · rw [make_bad (by simp [open_bad hkc, check_nil])]
          exact open_bad (by simp [namesOk, hkc])
        · cases hka : namesOk a
          · rw [make_bad (by simp [open_bad hka, check_nil])]
            exact open_bad (by simp [namesOk, hka])
          · cases hkb : namesOk b
            · rw [make_bad (by simp [open_bad hkb, check_nil])]
              exact open_bad (by simp [namesOk, hkb])
            · obtain ⟨oc, h64c, hnc⟩ := laid_one c d hc
              obtain ⟨o, h64, hn⟩ := laid_one a e ha
              obtain ⟨o', h64', hn'⟩ := laid_one b f hb
              have hoc : openT c = d := by rw [open_some hc, hkc]; rfl
              have hoa : openT a = e := by rw [open_some ha, hka]; rfl
              have hob : openT b = f := by rw [open_some hb, hkb]; rfl
              rw [hoc, hoa, hob]
              unfold makeT
              simp only [List.all_cons, List.all_nil, oc.check h64c, o.check h64, o'.check h64', hn, hn', hnc, hka, hkb, hkc, Bool.and_true, if_true, List.length_cons, List.length_nil, formB_op hop (by omega), sizes, List.map_cons, List.map_nil, List.sum_cons, List.sum_nil]
              have hl2 : (d ++ shift d.length e).length = d.length + e.length := by simp [shift_length]
              by_cases hs : 1 + (d.length + (e.length + (f.length + 0))) ≤ 64
              · rw [if_pos hs]
                have hl : lay (.ite c a b) [] = some (d ++ shift d.length e ++ shift (d.length + e.length : Nat) f ++ [⟨17, 0, ⟨#[]⟩, [last d, last (d ++ shift d.length e), last (d ++ shift d.length e ++ shift (d.length + e.length : Nat) f)]⟩]) := by
                  simp only [lay, part_first hc, Option.bind_some, part_next ha]
                  rw [if_pos (by omega)]
                  simp only [Option.bind_some, part_next hb, hl2]
                  rw [if_pos (by omega)]
                  simp only [Option.bind_some, layEnd]
                  rw [if_pos (by simp [shift_length]; omega)]
                rw [open_some hl]
                simp only [namesOk, hka, hkb, hkc, Bool.and_self, if_true, joined, joinGo, List.nil_append, List.length_nil, Int.ofNat_zero, shift_zero, hl2, List.cons_append]
              · rw [if_neg hs]
                apply open_none
                simp only [lay, part_first hc, Option.bind_some, part_next ha]
                by_cases h2 : d.length + e.length ≤ 64
                · rw [if_pos h2]
                  simp only [Option.bind_some, part_next hb, hl2]
                  by_cases h3 : d.length + e.length + f.length ≤ 64
                  · rw [if_pos h3]
                    simp only [Option.bind_some, layEnd]
                    rw [if_neg (by simp [shift_length]; omega)]
                  · rw [if_neg h3]; rfl
                · rw [if_neg h2]; rfl
theorem open_lit (n : Int) : openT (.lit n) = makeT 1 n ⟨#[]⟩ [] := by
  have hl : lay (.lit n) [] = some [⟨1, n, ⟨#[]⟩, []⟩] := rfl
  rw [open_some hl]
  have hf : formB 1 n ⟨#[]⟩ 0 = true := by simp [formB, arity, toList_nil]
  simp [makeT, namesOk, hf, sizes, joined, joinGo]
theorem open_var (s : ByteArray) : openT (.var s) = makeT 2 0 s [] := by
  have hl : lay (.var s) [] = some [⟨2, 0, s, []⟩] := rfl
  rw [open_some hl]
  have hf : formB 2 0 s 0 = isName s := by simp [formB, arity]
  cases hs : isName s <;> simp [makeT, namesOk, hf, hs, sizes, joined, joinGo]
theorem make_zero (n : Int) (s : ByteArray) (parts : List (List Nd)) : makeT 0 n s parts = [] := by
  have hf : ∀ k, formB 0 n s k = false := fun k => by simp [formB, arity]
  simp [makeT, hf]
end Go.Proofs.YticaocadeeolkaaDoor.Plain
