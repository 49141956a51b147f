/-
  PLAIN: nodes, forms; an expression's segments; the program's check (by a stack) and the reference's (by a walk from the end) are one.
-/
import Derived.Test.YticaocadeeolkaaDoorAa
namespace Go.Proofs.YticaocadeeolkaaDoor.Plain
open Go

/-- A node: operator, number, name, places of the parts. -/
structure Nd where
  op : Int
  n : Int
  name : ByteArray
  kids : List Int

def arity (op : Int) : Option Nat :=
  if op = 1 ∨ op = 2 then some 0 else if op = 3 ∨ op = 4 then some 1 else if op = 17 then some 3 else if 5 ≤ op ∧ op ≤ 16 then some 2 else none
theorem arity_le {op : Int} {k : Nat} (h : arity op = some k) : k ≤ 3 := by
  unfold arity at h
  repeat' split at h
  all_goals first | (cases h; omega) | cases h
def formB (op n : Int) (name : ByteArray) (nk : Nat) : Bool :=
  match arity op with
  | none => false
  | some k => (nk == k) && (op == 1 || n == 0) && (if op = 2 then isName name else name.toList.isEmpty)
def form (x : Nd) : Bool := formB x.op x.n x.name x.kids.length

/-! ### segments: the nodes from lo to at are one expression whose own node stands at 'at' -/
mutual
inductive Seg (e : List Nd) : Nat → Nat → Prop
  | node {lo at_ : Nat} (x : Nd) (ks : List Nat) (hx : e[at_]? = some x) (hk : x.kids = ks.map (fun (k : Nat) => (k : Int))) (h : Segs e lo ks at_) : Seg e lo at_
/-- Parts one behind the other, from lo on, up to (not with) hi; their own nodes' places. -/
inductive Segs (e : List Nd) : Nat → List Nat → Nat → Prop
  | nil {lo : Nat} : Segs e lo [] lo
  | cons {lo k hi : Nat} {ks : List Nat} (h : Seg e lo k) (h' : Segs e (k + 1) ks hi) : Segs e lo (k :: ks) hi
end
mutual
theorem Seg.le {e : List Nd} : ∀ {lo at_ : Nat}, Seg e lo at_ → lo ≤ at_
  | _, _, .node _ _ _ _ h => Segs.le h
theorem Segs.le {e : List Nd} : ∀ {lo hi : Nat} {ks : List Nat}, Segs e lo ks hi → lo ≤ hi
  | _, _, _, .nil => Nat.le_refl _
  | _, _, _, .cons h h' => by have := Seg.le h; have := Segs.le h'; omega
end
theorem Segs.append {e : List Nd} : ∀ {lo mid hi : Nat} {ks ls : List Nat}, Segs e lo ks mid → Segs e mid ls hi → Segs e lo (ks ++ ls) hi
  | _, _, _, _, _, .nil, h => h
  | _, _, _, _, _, .cons h h', k => .cons h (h'.append k)
theorem Segs.split {e : List Nd} : ∀ {lo hi : Nat} {ks ls : List Nat}, Segs e lo (ks ++ ls) hi → ∃ mid, Segs e lo ks mid ∧ Segs e mid ls hi
  | lo, _, [], _, h => ⟨lo, .nil, h⟩
  | _, _, _ :: _, _, .cons h h' => by obtain ⟨m, h1, h2⟩ := Segs.split h'; exact ⟨m, .cons h h1, h2⟩
theorem Segs.one {e : List Nd} {lo k hi : Nat} (h : Segs e lo [k] hi) : hi = k + 1 ∧ Seg e lo k := by
  cases h with
  | cons h h' =>
    cases h' with
    | nil => exact ⟨rfl, h⟩
theorem Seg.lt {e : List Nd} {lo at_ : Nat} (h : Seg e lo at_) : at_ < e.length := by
  cases h with
  | node x ks hx hk h => exact (List.getElem?_eq_some_iff.1 hx).1

/-! ### the program's check: a stack -/
def stackStep (x : Nd) (i : Nat) (op : List Int) : Option (List Int) :=
  if form x && decide (x.kids.length ≤ op.length) && (op.drop (op.length - x.kids.length) == x.kids) then some (op.take (op.length - x.kids.length) ++ [(i : Int)]) else none
def stackGo : List Nd → Nat → List Int → Bool
  | [], _, op => op.length == 1
  | x :: r, i, op => match stackStep x i op with
    | none => false
    | some op' => stackGo r (i + 1) op'
def check (e : List Nd) : Bool := decide (1 ≤ e.length) && decide (e.length ≤ 64) && stackGo e 0 []

/-- What a check stands for: every node has its form, and the whole is one expression. -/
structure Sound (e : List Nd) : Prop where
  lo : 1 ≤ e.length
  hi : e.length ≤ 64
  forms : ∀ x ∈ e, form x = true
  seg : Seg e 0 (e.length - 1)

theorem map_cast_inj : ∀ {a b : List Nat}, a.map (fun (k : Nat) => (k : Int)) = b.map (fun (k : Nat) => (k : Int)) → a = b
  | [], [], _ => rfl
  | [], _ :: _, h => by cases h
  | _ :: _, [], h => by cases h
  | x :: a, y :: b, h => by
    simp only [List.map_cons, List.cons.injEq] at h
    obtain ⟨h1, h2⟩ := h
    rw [map_cast_inj h2]
    congr 1
    omega

theorem stack_sound (e : List Nd) : ∀ (r : List Nd) (i : Nat) (ks : List Nat), e.drop i = r → Segs e 0 ks i → i ≤ e.length → stackGo r i (ks.map (fun (k : Nat) => (k : Int))) = true →
    (∀ x ∈ r, form x = true) ∧ ∃ k, Segs e 0 [k] e.length := by
  intro r
  induction r with
  | nil =>
    intro i ks hd hs hi h
    have hie : i = e.length := by
      have := congrArg List.length hd
      simp at this
      omega
    subst hie
    simp [stackGo] at h
    match ks, h with
    | [k], _ => exact ⟨by simp, k, hs⟩
  | cons x r ih =>
    intro i ks hd hs hi h
    have hlt : i < e.length := by
      have := congrArg List.length hd
      simp at this
      omega
    have hx : e[i]? = some x := by
      have := congrArg (·[0]?) hd
      simpa using this
    have hd' : e.drop (i + 1) = r := by
      have := congrArg List.tail hd
      simpa using this
    unfold stackGo at h
    cases hst : stackStep x i (ks.map (fun (k : Nat) => (k : Int))) with
    | none => rw [hst] at h; cases h
    | some op' =>
      rw [hst] at h
      unfold stackStep at hst
      split at hst
      · rename_i hc
        simp only [Bool.and_eq_true, decide_eq_true_eq, List.length_map, beq_iff_eq] at hc
        obtain ⟨⟨hf, hlen⟩, hk⟩ := hc
        simp only [List.length_map] at hst
        have hop := Option.some.inj hst
        rw [← List.map_take] at hop
        rw [← List.map_drop] at hk
        generalize hm : ks.length - x.kids.length = m at *
        have hsp : Segs e 0 (ks.take m ++ ks.drop m) i := by rw [List.take_append_drop]; exact hs
        obtain ⟨mid, h1, h2⟩ := hsp.split
        have hseg : Seg e mid i := .node x (ks.drop m) hx hk.symm h2
        have hs' : Segs e 0 (ks.take m ++ [i]) (i + 1) := h1.append (.cons hseg .nil)
        have hop' : op' = (ks.take m ++ [i]).map (fun (k : Nat) => (k : Int)) := by rw [← hop]; simp
        rw [hop'] at h
        obtain ⟨hfr, k, hk'⟩ := ih (i + 1) _ hd' hs' (by omega) h
        refine ⟨fun y hy => ?_, k, hk'⟩
        rcases List.mem_cons.1 hy with e1 | hy
        · rw [e1]; exact hf
        · exact hfr y hy
      · cases hst

mutual
theorem stack_seg (e : List Nd) (hf : ∀ x ∈ e, form x = true) : ∀ {lo at_ : Nat}, Seg e lo at_ → ∀ (op : List Int), stackGo (e.drop lo) lo op = stackGo (e.drop (at_ + 1)) (at_ + 1) (op ++ [(at_ : Int)])
  | lo, at_, .node x ks hx hk h, op => by
    rw [stack_segs e hf h op]
    have hlt : at_ < e.length := (List.getElem?_eq_some_iff.1 hx).1
    have hd : e.drop at_ = x :: e.drop (at_ + 1) := by
      rw [List.drop_eq_getElem_cons hlt]
      congr 1
      exact (List.getElem?_eq_some_iff.1 hx).2
    rw [hd]
    have hx' : form x = true := hf x (List.mem_of_getElem? hx)
    have hs : stackStep x at_ (op ++ ks.map (fun (k : Nat) => (k : Int))) = some (op ++ [(at_ : Int)]) := by
      unfold stackStep
      have hl : (op ++ ks.map (fun (k : Nat) => (k : Int))).length - x.kids.length = op.length := by rw [hk]; simp
      rw [hl, hk]
      simp [hx']
    conv => lhs; unfold stackGo
    rw [hs]
theorem stack_segs (e : List Nd) (hf : ∀ x ∈ e, form x = true) : ∀ {lo hi : Nat} {ks : List Nat}, Segs e lo ks hi → ∀ (op : List Int), stackGo (e.drop lo) lo op = stackGo (e.drop hi) hi (op ++ ks.map (fun (k : Nat) => (k : Int)))
  | _, _, _, .nil, op => by simp
  | _, _, _, .cons (k := k) h h', op => by
    rw [stack_seg e hf h op, stack_segs e hf h' (op ++ [(k : Int)])]
    simp
end

theorem check_iff (e : List Nd) : check e = true ↔ Sound e := by
  unfold check
  simp only [Bool.and_eq_true, decide_eq_true_eq]
  constructor
  · rintro ⟨⟨h1, h2⟩, h3⟩
    obtain ⟨hf, k, hk⟩ := stack_sound e e 0 [] rfl .nil (by omega) h3
    refine ⟨h1, h2, hf, ?_⟩
    obtain ⟨h4, h5⟩ := hk.one
    have : e.length - 1 = k := by omega
    rw [this]
    exact h5
  · rintro ⟨h1, h2, hf, hs⟩
    refine ⟨⟨h1, h2⟩, ?_⟩
    have := stack_seg e hf hs []
    simp only [List.drop_zero, List.nil_append] at this
    rw [this]
    have : e.length - 1 + 1 = e.length := by omega
    rw [this, List.drop_length]
    rfl

/-! ### a segment's begin is settled by its end -/
mutual
theorem Seg.unique {e : List Nd} : ∀ {lo lo' at_ : Nat}, Seg e lo at_ → Seg e lo' at_ → lo = lo'
  | _, _, _, .node x ks hx hk h, .node x' ks' hx' hk' h' => by
    have exx : x = x' := by rw [hx] at hx'; exact Option.some.inj hx'
    subst exx
    have ekk : ks = ks' := map_cast_inj (hk.symm.trans hk')
    subst ekk
    exact Segs.unique h h'
theorem Segs.unique {e : List Nd} : ∀ {lo lo' hi : Nat} {ks : List Nat}, Segs e lo ks hi → Segs e lo' ks hi → lo = lo'
  | _, _, _, _, .nil, .nil => rfl
  | _, _, _, _, .cons h _, .cons k _ => Seg.unique h k
end
/-- Of parts one behind the other: where the last ones begin, the one ahead of them ends. -/
theorem Segs.ahead {e : List Nd} {lo hi a k : Nat} {ks ls : List Nat} (h : Segs e lo (ks ++ k :: ls) hi) (h' : Segs e a ls hi) : a = k + 1 ∧ ∃ b, Seg e b k := by
  obtain ⟨m, _, h2⟩ := h.split
  cases h2 with
  | cons h3 h4 => exact ⟨h'.unique h4, m, h3⟩
end Go.Proofs.YticaocadeeolkaaDoor.Plain
