/-
  PLAIN: nodes, forms; an expression's segments; the program's check (by a stack) and the reference's (by a walk from the end) are one.
  NODES in memory (as the print's kinds say it), and the reference's walk from the end: it answers where the segment begins.
  THE WALKS of Arity (both sides), expr.sound and the reference's Form. (Laid by gen_bc.py.)
  THE WALKS of both Checks: each answers OK just where 'check' does.
-/
import Derived.Test.YticaocadeeolkaaDoorMA
import Derived.Test.YticaocadeeolkaaDoorPBoxKeepsx
import Derived.Test.YticaocadeeolkaaDoorMB
import Derived.Deep.QuietTactic
import Derived.BigQuiet

namespace Go.Proofs.YticaocadeeolkaaDoor.Plain
open Go

/-- A node: operator, number, name, places of the parts. -/
structure Nd where
  op : Int
  n : Int
  name : ByteArray
  kids : List Int

def arity (op : Int) : Option Nat :=
  if op = 1 ∨ op = 2 then some 0 else if op = 3 ∨ op = 4 then some 1 else if op = 17 then some 3 else if 5 ≤ op ∧ op ≤ 16 then some 2 else none
theorem arity_le {op : Int} {k : Nat} (h : arity op = some k) : k ≤ 3 := by
  unfold arity at h
  repeat' split at h
  all_goals first | (cases h; omega) | cases h
def formB (op n : Int) (name : ByteArray) (nk : Nat) : Bool :=
  match arity op with
  | none => false
  | some k => (nk == k) && (op == 1 || n == 0) && (if op = 2 then isName name else name.toList.isEmpty)
def form (x : Nd) : Bool := formB x.op x.n x.name x.kids.length

/-! ### segments: the nodes from lo to at are one expression whose own node stands at 'at' -/
mutual
inductive Seg (e : List Nd) : Nat → Nat → Prop
  | node {lo at_ : Nat} (x : Nd) (ks : List Nat) (hx : e[at_]? = some x) (hk : x.kids = ks.map (fun (k : Nat) => (k : Int))) (h : Segs e lo ks at_) : Seg e lo at_
/-- Parts one behind the other, from lo on, up to (not with) hi; their own nodes' places. -/
inductive Segs (e : List Nd) : Nat → List Nat → Nat → Prop
  | nil {lo : Nat} : Segs e lo [] lo
  | cons {lo k hi : Nat} {ks : List Nat} (h : Seg e lo k) (h' : Segs e (k + 1) ks hi) : Segs e lo (k :: ks) hi
end
mutual
theorem Seg.le {e : List Nd} : ∀ {lo at_ : Nat}, Seg e lo at_ → lo ≤ at_
  | _, _, .node _ _ _ _ h => Segs.le h
theorem Segs.le {e : List Nd} : ∀ {lo hi : Nat} {ks : List Nat}, Segs e lo ks hi → lo ≤ hi
  | _, _, _, .nil => Nat.le_refl _
  | _, _, _, .cons h h' => by have := Seg.le h; have := Segs.le h'; omega
end
theorem Segs.append {e : List Nd} : ∀ {lo mid hi : Nat} {ks ls : List Nat}, Segs e lo ks mid → Segs e mid ls hi → Segs e lo (ks ++ ls) hi
  | _, _, _, _, _, .nil, h => h
  | _, _, _, _, _, .cons h h', k => .cons h (h'.append k)
theorem Segs.split {e : List Nd} : ∀ {lo hi : Nat} {ks ls : List Nat}, Segs e lo (ks ++ ls) hi → ∃ mid, Segs e lo ks mid ∧ Segs e mid ls hi
  | lo, _, [], _, h => ⟨lo, .nil, h⟩
  | _, _, _ :: _, _, .cons h h' => by obtain ⟨m, h1, h2⟩ := Segs.split h'; exact ⟨m, .cons h h1, h2⟩
theorem Segs.one {e : List Nd} {lo k hi : Nat} (h : Segs e lo [k] hi) : hi = k + 1 ∧ Seg e lo k := by
  cases h with
  | cons h h' =>
    cases h' with
    | nil => exact ⟨rfl, h⟩
theorem Seg.lt {e : List Nd} {lo at_ : Nat} (h : Seg e lo at_) : at_ < e.length := by
  cases h with
  | node x ks hx hk h => exact (List.getElem?_eq_some_iff.1 hx).1

/-! ### the program's check: a stack -/
def stackStep (x : Nd) (i : Nat) (op : List Int) : Option (List Int) :=
  if form x && decide (x.kids.length ≤ op.length) && (op.drop (op.length - x.kids.length) == x.kids) then some (op.take (op.length - x.kids.length) ++ [(i : Int)]) else none
def stackGo : List Nd → Nat → List Int → Bool
  | [], _, op => op.length == 1
  | x :: r, i, op => match stackStep x i op with
    | none => false
    | some op' => stackGo r (i + 1) op'
def check (e : List Nd) : Bool := decide (1 ≤ e.length) && decide (e.length ≤ 64) && stackGo e 0 []

/-- What a check stands for: every node has its form, and the whole is one expression. -/
structure Sound (e : List Nd) : Prop where
  lo : 1 ≤ e.length
  hi : e.length ≤ 64
  forms : ∀ x ∈ e, form x = true
  seg : Seg e 0 (e.length - 1)

theorem map_cast_inj : ∀ {a b : List Nat}, a.map (fun (k : Nat) => (k : Int)) = b.map (fun (k : Nat) => (k : Int)) → a = b
  | [], [], _ => rfl
  | [], _ :: _, h => by cases h
  | _ :: _, [], h => by cases h
  | x :: a, y :: b, h => by
    simp only [List.map_cons, List.cons.injEq] at h
    obtain ⟨h1, h2⟩ := h
    rw [map_cast_inj h2]
    congr 1
    omega

theorem stack_sound (e : List Nd) : ∀ (r : List Nd) (i : Nat) (ks : List Nat), e.drop i = r → Segs e 0 ks i → i ≤ e.length → stackGo r i (ks.map (fun (k : Nat) => (k : Int))) = true →
    (∀ x ∈ r, form x = true) ∧ ∃ k, Segs e 0 [k] e.length := by
  intro r
  induction r with
  | nil =>
    intro i ks hd hs hi h
    have hie : i = e.length := by
      have := congrArg List.length hd
      simp at this
      omega
    subst hie
    simp [stackGo] at h
    match ks, h with
    | [k], _ => exact ⟨by simp, k, hs⟩
  | cons x r ih =>
    intro i ks hd hs hi h
    have hlt : i < e.length := by
      have := congrArg List.length hd
      simp at this
      omega
    have hx : e[i]? = some x := by
      have := congrArg (·[0]?) hd
      simpa using this
    have hd' : e.drop (i + 1) = r := by
      have := congrArg List.tail hd
      simpa using this
    unfold stackGo at h
    cases hst : stackStep x i (ks.map (fun (k : Nat) => (k : Int))) with
    | none => rw [hst] at h; cases h
    | some op' =>
      rw [hst] at h
      unfold stackStep at hst
      split at hst
      · rename_i hc
        simp only [Bool.and_eq_true, decide_eq_true_eq, List.length_map, beq_iff_eq] at hc
        obtain ⟨⟨hf, hlen⟩, hk⟩ := hc
        simp only [List.length_map] at hst
        have hop := Option.some.inj hst
        rw [← List.map_take] at hop
        rw [← List.map_drop] at hk
        generalize hm : ks.length - x.kids.length = m at *
        have hsp : Segs e 0 (ks.take m ++ ks.drop m) i := by rw [List.take_append_drop]; exact hs
        obtain ⟨mid, h1, h2⟩ := hsp.split
        have hseg : Seg e mid i := .node x (ks.drop m) hx hk.symm h2
        have hs' : Segs e 0 (ks.take m ++ [i]) (i + 1) := h1.append (.cons hseg .nil)
        have hop' : op' = (ks.take m ++ [i]).map (fun (k : Nat) => (k : Int)) := by rw [← hop]; simp
        rw [hop'] at h
        obtain ⟨hfr, k, hk'⟩ := ih (i + 1) _ hd' hs' (by omega) h
        refine ⟨fun y hy => ?_, k, hk'⟩
        rcases List.mem_cons.1 hy with e1 | hy
        · rw [e1]; exact hf
        · exact hfr y hy
      · cases hst

mutual
theorem stack_seg (e : List Nd) (hf : ∀ x ∈ e, form x = true) : ∀ {lo at_ : Nat}, Seg e lo at_ → ∀ (op : List Int), stackGo (e.drop lo) lo op = stackGo (e.drop (at_ + 1)) (at_ + 1) (op ++ [(at_ : Int)])
  | lo, at_, .node x ks hx hk h, op => by
    rw [stack_segs e hf h op]
    have hlt : at_ < e.length := (List.getElem?_eq_some_iff.1 hx).1
    have hd : e.drop at_ = x :: e.drop (at_ + 1) := by
      rw [List.drop_eq_getElem_cons hlt]
      congr 1
      exact (List.getElem?_eq_some_iff.1 hx).2
    rw [hd]
    have hx' : form x = true := hf x (List.mem_of_getElem? hx)
    have hs : stackStep x at_ (op ++ ks.map (fun (k : Nat) => (k : Int))) = some (op ++ [(at_ : Int)]) := by
      unfold stackStep
      have hl : (op ++ ks.map (fun (k : Nat) => (k : Int))).length - x.kids.length = op.length := by rw [hk]; simp
      rw [hl, hk]
      simp [hx']
    conv => lhs; unfold stackGo
    rw [hs]
theorem stack_segs (e : List Nd) (hf : ∀ x ∈ e, form x = true) : ∀ {lo hi : Nat} {ks : List Nat}, Segs e lo ks hi → ∀ (op : List Int), stackGo (e.drop lo) lo op = stackGo (e.drop hi) hi (op ++ ks.map (fun (k : Nat) => (k : Int)))
  | _, _, _, .nil, op => by simp
  | _, _, _, .cons (k := k) h h', op => by
    rw [stack_seg e hf h op, stack_segs e hf h' (op ++ [(k : Int)])]
    simp
end

theorem check_iff (e : List Nd) : check e = true ↔ Sound e := by
  unfold check
  simp only [Bool.and_eq_true, decide_eq_true_eq]
  constructor
  · rintro ⟨⟨h1, h2⟩, h3⟩
    obtain ⟨hf, k, hk⟩ := stack_sound e e 0 [] rfl .nil (by omega) h3
    refine ⟨h1, h2, hf, ?_⟩
    obtain ⟨h4, h5⟩ := hk.one
    have : e.length - 1 = k := by omega
    rw [this]
    exact h5
  · rintro ⟨h1, h2, hf, hs⟩
    refine ⟨⟨h1, h2⟩, ?_⟩
    have := stack_seg e hf hs []
    simp only [List.drop_zero, List.nil_append] at this
    rw [this]
    have : e.length - 1 + 1 = e.length := by omega
    rw [this, List.drop_length]
    rfl

/-! ### a segment's begin is settled by its end -/
mutual
theorem Seg.unique {e : List Nd} : ∀ {lo lo' at_ : Nat}, Seg e lo at_ → Seg e lo' at_ → lo = lo'
  | _, _, _, .node x ks hx hk h, .node x' ks' hx' hk' h' => by
    have exx : x = x' := by rw [hx] at hx'; exact Option.some.inj hx'
    subst exx
    have ekk : ks = ks' := map_cast_inj (hk.symm.trans hk')
    subst ekk
    exact Segs.unique h h'
theorem Segs.unique {e : List Nd} : ∀ {lo lo' hi : Nat} {ks : List Nat}, Segs e lo ks hi → Segs e lo' ks hi → lo = lo'
  | _, _, _, _, .nil, .nil => rfl
  | _, _, _, _, .cons h _, .cons k _ => Seg.unique h k
end
/-- Of parts one behind the other: where the last ones begin, the one ahead of them ends. -/
theorem Segs.ahead {e : List Nd} {lo hi a k : Nat} {ks ls : List Nat} (h : Segs e lo (ks ++ k :: ls) hi) (h' : Segs e a ls hi) : a = k + 1 ∧ ∃ b, Seg e b k := by
  obtain ⟨m, _, h2⟩ := h.split
  cases h2 with
  | cons h3 h4 => exact ⟨h'.unique h4, m, h3⟩
end Go.Proofs.YticaocadeeolkaaDoor.Plain

namespace Go.Proofs.YticaocadeeolkaaDoor
open Go.RowKit Plain Go.Proofs.YticaocadeeolkaaDoorW.PrintWords Go.Proofs.YticaocadeeolkaaDoorW.PrintLast Go.Proofs.YticaocadeeolkaaDoorW.PrintMore

def kNd : Kd Nd := Kd.iso (Kd.pair (Kd.int .i64) (Kd.pair (Kd.int .i64) (Kd.pair Kd.string (Kd.slice 3 (Kd.int .i64))))) (fun x : Nd => (x.op, x.n, x.name, x.kids))
def toS (x : Nd) : PBoxKeeps.S96 := ⟨x.op, x.n, x.name, x.kids⟩
theorem kNd_toS {w : World} {x : Nd} {cs : List Value} : kNd.K w x cs = PBoxKeeps.k96.K w (toS x) cs := rfl
theorem C_toS {w : World} {A : Option Addr} {n : Nat} {e : List Nd} (h : Kd.C kNd w A n e) : Kd.C PBoxKeeps.k96 w A n (e.map toS) := by
  obtain ⟨h1, h2, h3⟩ := h
  refine ⟨by simpa using h1, h2, fun hn => ?_⟩
  obtain ⟨ad, he, hc⟩ := h3 hn
  refine ⟨ad, he, fun j p hj => ?_⟩
  rw [List.getElem?_map] at hj
  cases hx : e[j]? with
  | none => rw [hx] at hj; cases hj
  | some x => rw [hx] at hj; cases hj; exact hc j x hx
theorem C_ofS {w : World} {A : Option Addr} {n : Nat} {e : List Nd} (h : Kd.C PBoxKeeps.k96 w A n (e.map toS)) : Kd.C kNd w A n e := by
  obtain ⟨h1, h2, h3⟩ := h
  refine ⟨by simpa using h1, h2, fun hn => ?_⟩
  obtain ⟨ad, he, hc⟩ := h3 hn
  refine ⟨ad, he, fun j p hj => hc j (toS p) ?_⟩
  rw [List.getElem?_map, hj]; rfl
theorem kNd_open {w : World} {x : Nd} {cs : List Value} (h : kNd.K w x cs) : ∃ A c, cs = [.int .i64 x.op, .int .i64 x.n, .string x.name, .slice A x.kids.length c] ∧ x.kids.length ≤ c ∧ (Kd.int .i64).C w A x.kids.length x.kids := by
  obtain ⟨_, _, rfl, rfl, ⟨_, _, rfl, rfl, ⟨_, _, rfl, rfl, ⟨A3, c3, rfl, l3, g3⟩⟩⟩⟩ := h
  exact ⟨A3, c3, rfl, l3, g3⟩

/-! ### the walk from the end -/
theorem rd_cast {xs : List Int} {i : Nat} (h : i < xs.length) : rd xs (i : Int) = xs[i] := by
  unfold rd
  rw [Int.toNat_natCast, List.getD_eq_getElem?_getD, List.getElem?_eq_getElem h]; rfl
/-- What the walk answers of a place. -/
def WalkOk (e : List Nd) (at_ : Int) (r : Int) : Prop := (r = -2 ∧ ∀ (a lo : Nat), (a : Int) = at_ → ¬ Seg e lo a) ∨ ∃ (a lo : Nat), (a : Int) = at_ ∧ r = (lo : Int) - 1 ∧ Seg e lo a
theorem wrap_dec {n : Int} (h : 0 ≤ n) (h' : n ≤ 9223372036854775807) : wrap64 (n - 1) = n - 1 := by unfold wrap64; omega

theorem walk_loop (e : List Nd) (_hl : e.length ≤ 9223372036854775807) (a : Nat) (x : Nd) (hx : e[a]? = some x) (hk : x.kids.length ≤ 9223372036854775807)
    (ih : ∀ (b : Int), b < a → ∃ K r, (∀ k, K ≤ k → PBoxKeeps.sorrelref02_walk.f k (e.map toS) b = some r) ∧ WalkOk e b r) :
    ∀ (i : Nat), i ≤ x.kids.length → ∀ (next : Int), -1 ≤ next → next < a → (∃ (m : Nat) (ls : List Nat), (m : Int) = next + 1 ∧ x.kids.drop i = ls.map (fun (k : Nat) => (k : Int)) ∧ Segs e m ls a) →
    ∃ K r, (∀ k, K ≤ k → PBoxKeeps.sorrelref02_walk.l0 k (e.map toS) next x.kids ((i : Int) - 1) = some r) ∧ WalkOk e a r := by
  intro i
  induction i with
  | zero =>
    intro _ next h1 h2 ⟨m, ls, hm, hd, hs⟩
    refine ⟨1, next, fun k hk1 => ?_, .inr ⟨a, m, rfl, by omega, .node x ls hx (by simpa using hd) hs⟩⟩
    obtain ⟨k, rfl⟩ : ∃ m, k = m + 1 := ⟨k - 1, by omega⟩
    simp only [PBoxKeeps.sorrelref02_walk.l0]
    rw [if_neg (by omega)]
  | succ i ihi =>
    intro hi next h1 h2 ⟨m, ls, hm, hd, hs⟩
    have hrd : rd x.kids ((i : Int)) = x.kids[i] := rd_cast (by omega)
    have hlen : (((i + 1 : Nat) : Int) - 1) = (i : Int) := by omega
    have hdrop : x.kids.drop i = x.kids[i] :: x.kids.drop (i + 1) := List.drop_eq_getElem_cons (by omega)
    -- what a segment at a would say
    have hno : ∀ (lo : Nat), Seg e lo a → ∃ b : Nat, (b : Int) = next ∧ x.kids[i] = next ∧ ∃ c, Seg e c b := by
      intro lo hseg
      cases hseg with
      | node x' ks hx' hk' h' =>
        rw [hx] at hx'
        cases hx'
        have h3 : x.kids.take i ++ (x.kids[i] :: ls.map (fun (k : Nat) => (k : Int))) = ks.map (fun (k : Nat) => (k : Int)) := by
          rw [← hd, ← hdrop, List.take_append_drop, hk']
        have h4 : ks = ks.take i ++ ks.drop i := (List.take_append_drop i ks).symm
        have hkl : ks.length = x.kids.length := by rw [hk']; simp
        have hkd : ks.drop i = ks[i]'(by omega) :: ks.drop (i + 1) := List.drop_eq_getElem_cons (by omega)
        have h5 : ks.drop (i + 1) = ls := by
          apply map_cast_inj
          rw [List.map_drop, ← hk', hd]
        rw [h4, hkd, h5] at h'
        obtain ⟨h6, c, h7⟩ := h'.ahead hs
        have h8 : x.kids[i] = ((ks[i]'(by omega) : Nat) : Int) := by
          have : x.kids[i]? = (ks.map (fun (k : Nat) => (k : Int)))[i]? := by rw [hk']
          rw [List.getElem?_eq_getElem (by omega), List.getElem?_map, List.getElem?_eq_getElem (by omega)] at this
          exact Option.some.inj this
        exact ⟨ks[i]'(by omega), by omega, by omega, c, h7⟩
    by_cases hk1 : x.kids[i] = next
    · obtain ⟨K, r, hr, hok⟩ := ih next h2
      rcases hok with ⟨rfl, hbad⟩ | ⟨b, lo, hb, rfl, hseg⟩
      · refine ⟨K + 1, -2, fun k hkk => ?_, .inl ⟨rfl, fun a' lo ha' hseg => ?_⟩⟩
        · obtain ⟨k, rfl⟩ : ∃ m, k = m + 1 := ⟨k - 1, by omega⟩
          simp only [PBoxKeeps.sorrelref02_walk.l0]
          rw [hlen, if_pos (by omega), if_pos (by omega), if_pos (by omega), hrd, if_pos hk1, hr k (by omega)]
          rfl
        · have : a' = a := by omega
          subst this
          obtain ⟨b, hb, _, c, hc⟩ := hno lo hseg
          exact hbad b c hb hc
      · have hlo := hseg.le
        have hmb : m = b + 1 := by omega
        subst hmb
        obtain ⟨K2, r2, hr2, hok2⟩ := ihi (by omega) ((lo : Int) - 1) (by omega) (by omega) ⟨lo, b :: ls, by omega, by rw [hdrop, hd, hk1, ← hb]; rfl, .cons hseg hs⟩
        refine ⟨K + K2 + 1, r2, fun k hkk => ?_, hok2⟩
        obtain ⟨k, rfl⟩ : ∃ m, k = m + 1 := ⟨k - 1, by omega⟩
        simp only [PBoxKeeps.sorrelref02_walk.l0]
        rw [hlen, if_pos (by omega), if_pos (by omega), if_pos (by omega), hrd, if_pos hk1, hr k (by omega)]
        simp only [Option.bind_some]
        rw [if_neg (by omega), wrap_dec (by omega) (by omega)]
        exact hr2 k (by omega)
    · refine ⟨1, -2, fun k hkk => ?_, .inl ⟨rfl, fun a' lo ha' hseg => ?_⟩⟩
      · obtain ⟨k, rfl⟩ : ∃ m, k = m + 1 := ⟨k - 1, by omega⟩
        simp only [PBoxKeeps.sorrelref02_walk.l0]
        rw [hlen, if_pos (by omega), if_pos (by omega), if_pos (by omega), hrd, if_neg hk1]
      · have : a' = a := by omega
        subst this
        obtain ⟨b, hb, h9, _⟩ := hno lo hseg
        exact hk1 h9

theorem rd_node {e : List Nd} {a : Nat} {x : Nd} (hx : e[a]? = some x) : PBoxKeeps.rd_T96 (e.map toS) (a : Int) = toS x := by
  unfold PBoxKeeps.rd_T96
  rw [Int.toNat_natCast, List.getD_eq_getElem?_getD, List.getElem?_map, hx]; rfl
theorem walk_ok (e : List Nd) (hl : e.length ≤ 9223372036854775807) (hk : ∀ x ∈ e, x.kids.length ≤ 9223372036854775807) : ∀ (n : Nat) (at_ : Int), at_ < n → at_ < e.length →
    ∃ K r, (∀ k, K ≤ k → PBoxKeeps.sorrelref02_walk.f k (e.map toS) at_ = some r) ∧ WalkOk e at_ r := by
  intro n
  induction n with
  | zero =>
    intro at_ h _
    refine ⟨1, -2, fun k hk1 => ?_, .inl ⟨rfl, fun a lo ha _ => by omega⟩⟩
    obtain ⟨k, rfl⟩ : ∃ m, k = m + 1 := ⟨k - 1, by omega⟩
    simp only [PBoxKeeps.sorrelref02_walk.f]
    rw [if_pos (by omega)]
  | succ n ih =>
    intro at_ h hlt
    by_cases h0 : at_ < 0
    · refine ⟨1, -2, fun k hk1 => ?_, .inl ⟨rfl, fun a lo ha _ => by omega⟩⟩
      obtain ⟨k, rfl⟩ : ∃ m, k = m + 1 := ⟨k - 1, by omega⟩
      simp only [PBoxKeeps.sorrelref02_walk.f]
      rw [if_pos (by omega)]
    · obtain ⟨a, rfl⟩ := Int.eq_ofNat_of_zero_le (by omega : 0 ≤ at_)
      have hae : a < e.length := by omega
      have hx : e[a]? = some e[a] := List.getElem?_eq_getElem hae
      have hkk := hk e[a] (List.getElem_mem hae)
      obtain ⟨K, r, hr, hok⟩ := walk_loop e hl a e[a] hx hkk (fun b hb => ih b (by omega) (by omega)) e[a].kids.length (Nat.le_refl _) ((a : Int) - 1) (by omega) (by omega) ⟨a, [], by omega, by simp, .nil⟩
      refine ⟨K + 1, r, fun k hk1 => ?_, hok⟩
      obtain ⟨k, rfl⟩ : ∃ m, k = m + 1 := ⟨k - 1, by omega⟩
      simp only [PBoxKeeps.sorrelref02_walk.f]
      rw [if_neg h0, if_pos (by omega), if_pos (by simpa using hae), rd_node hx, wrap_dec (by omega) (by omega)]
      have : wrap64 (((toS e[a]).f3.length : Int) - 1) = ((e[a].kids.length : Nat) : Int) - 1 := by
        show wrap64 ((e[a].kids.length : Int) - 1) = _
        unfold wrap64; omega
      rw [this]
      exact hr k (by omega)
end Go.Proofs.YticaocadeeolkaaDoor

namespace Go.Proofs.YticaocadeeolkaaDoor
open Go.RowKit Plain Go.Proofs.YticaocadeeolkaaDoorW.PrintWords

def arityI (op : Int) : Int := match arity op with | some k => k | none => 0
def arityE (op : Int) : Int := if (arity op).isSome then 0 else 2
def arityR (op : Int) : Int := match arity op with | some k => k | none => -1
theorem ret_arity {op a b : Int} (h : arityI op = a) (h' : arityE op = b) : Ending.returned (.tuple #[.int .i64 a, .int .i64 b]) = .returned (.tuple #[.int .i64 (arityI op), .int .i64 (arityE op)]) := by rw [h, h']
theorem arity_two {op : Int} (h : 5 ≤ op) (h' : op ≤ 16) : arity op = some 2 := by
  unfold arity; rw [if_neg (by omega), if_neg (by omega), if_neg (by omega), if_pos ⟨h, h'⟩]
theorem arity_none {op : Int} (h1 : (op == 1) = false) (h2 : (op == 2) = false) (h3 : (op == 3) = false) (h4 : (op == 4) = false) (h17 : (op == 17) = false) (h : op < 5 ∨ 16 < op) : arity op = none := by
  simp at h1 h2 h3 h4 h17
  unfold arity; rw [if_neg (by omega), if_neg (by omega), if_neg (by omega), if_neg (by omega)]

set_option maxHeartbeats 2000000 in
theorem arity_any (op : Int) (w : World) : Calls Tryd.prog 55 #[.int .i64 op] w fun e w' => e = .returned (.tuple #[.int .i64 (arityI op), .int .i64 (arityE op)]) ∧ w = w' := by
  cases h1 : (op == 1)
  · skip
    cases h2 : (op == 2)
    · skip
      cases h3 : (op == 3)
      · skip
        cases h4 : (op == 4)
        · skip
          cases h17 : (op == 17)
          · skip
            by_cases ha : 5 ≤ op
            · by_cases hb : op ≤ 16
              · have HA := Lib.hid (arity_two ha hb)
                go_enter Tryd.func55, Tryd.ntmps55
                go_wp2
                go_ret2
                exact ⟨ret_arity (by rw [arityI, HA.out]; rfl) (by rw [arityE, HA.out]; rfl), rfl⟩
              · have HA := Lib.hid (arity_none h1 h2 h3 h4 h17 (by omega))
                have hd : decide (op ≤ 16) = false := decide_eq_false hb
                go_enter Tryd.func55, Tryd.ntmps55
                go_wp2
                go_ret2
                exact ⟨ret_arity (by rw [arityI, HA.out]) (by rw [arityE, HA.out]; rfl), rfl⟩
            · have HA := Lib.hid (arity_none h1 h2 h3 h4 h17 (by omega))
              have hd : decide (5 ≤ op) = false := decide_eq_false ha
              have hd' : decide (op ≥ 5) = false := decide_eq_false ha
              go_enter Tryd.func55, Tryd.ntmps55
              go_wp2
              go_ret2
              exact ⟨ret_arity (by rw [arityI, HA.out]) (by rw [arityE, HA.out]; rfl), rfl⟩
          · have HA := Lib.hid (show arity op = some 3 by rw [beq_iff_eq] at h17; rw [h17]; rfl)
            go_enter Tryd.func55, Tryd.ntmps55
            go_wp2
            go_ret2
            exact ⟨ret_arity (by rw [arityI, HA.out]; rfl) (by rw [arityE, HA.out]; rfl), rfl⟩
        · have HA := Lib.hid (show arity op = some 1 by rw [beq_iff_eq] at h4; rw [h4]; rfl)
          go_enter Tryd.func55, Tryd.ntmps55
          go_wp2
          go_ret2
          exact ⟨ret_arity (by rw [arityI, HA.out]; rfl) (by rw [arityE, HA.out]; rfl), rfl⟩
      · have HA := Lib.hid (show arity op = some 1 by rw [beq_iff_eq] at h3; rw [h3]; rfl)
        go_enter Tryd.func55, Tryd.ntmps55
        go_wp2
        go_ret2
        exact ⟨ret_arity (by rw [arityI, HA.out]; rfl) (by rw [arityE, HA.out]; rfl), rfl⟩
    · have HA := Lib.hid (show arity op = some 0 by rw [beq_iff_eq] at h2; rw [h2]; rfl)
      go_enter Tryd.func55, Tryd.ntmps55
      go_wp2
      go_ret2
      exact ⟨ret_arity (by rw [arityI, HA.out]; rfl) (by rw [arityE, HA.out]; rfl), rfl⟩
  · have HA := Lib.hid (show arity op = some 0 by rw [beq_iff_eq] at h1; rw [h1]; rfl)
    go_enter Tryd.func55, Tryd.ntmps55
    go_wp2
    go_ret2
    exact ⟨ret_arity (by rw [arityI, HA.out]; rfl) (by rw [arityE, HA.out]; rfl), rfl⟩
set_option maxHeartbeats 2000000 in
theorem rarity_any (op : Int) (w : World) : Calls Tryd.prog 53 #[.int .i64 op] w fun e w' => e = .returned (.int .i64 (arityR op)) ∧ w = w' := by
  cases h1 : (op == 1)
  · skip
    cases h2 : (op == 2)
    · skip
      cases h3 : (op == 3)
      · skip
        cases h4 : (op == 4)
        · skip
          cases h17 : (op == 17)
          · skip
            by_cases ha : 5 ≤ op
            · by_cases hb : op ≤ 16
              · have HA := Lib.hid (arity_two ha hb)
                go_enter Tryd.func53, Tryd.ntmps53
                go_wp2
                go_ret
                exact ⟨ret_int (by rw [arityR, HA.out]; rfl), rfl⟩
              · have HA := Lib.hid (arity_none h1 h2 h3 h4 h17 (by omega))
                have hd : decide (op ≤ 16) = false := decide_eq_false hb
                go_enter Tryd.func53, Tryd.ntmps53
                go_wp2
                go_ret
                exact ⟨ret_int (by rw [arityR, HA.out]), rfl⟩
            · have HA := Lib.hid (arity_none h1 h2 h3 h4 h17 (by omega))
              have hd : decide (5 ≤ op) = false := decide_eq_false ha
              have hd' : decide (op ≥ 5) = false := decide_eq_false ha
              go_enter Tryd.func53, Tryd.ntmps53
              go_wp2
              go_ret
              exact ⟨ret_int (by rw [arityR, HA.out]), rfl⟩
          · have HA := Lib.hid (show arity op = some 3 by rw [beq_iff_eq] at h17; rw [h17]; rfl)
            go_enter Tryd.func53, Tryd.ntmps53
            go_wp2
            go_ret
            exact ⟨ret_int (by rw [arityR, HA.out]; rfl), rfl⟩
        · have HA := Lib.hid (show arity op = some 1 by rw [beq_iff_eq] at h4; rw [h4]; rfl)
          go_enter Tryd.func53, Tryd.ntmps53
          go_wp2
          go_ret
          exact ⟨ret_int (by rw [arityR, HA.out]; rfl), rfl⟩
      · have HA := Lib.hid (show arity op = some 1 by rw [beq_iff_eq] at h3; rw [h3]; rfl)
        go_enter Tryd.func53, Tryd.ntmps53
        go_wp2
        go_ret
        exact ⟨ret_int (by rw [arityR, HA.out]; rfl), rfl⟩
    · have HA := Lib.hid (show arity op = some 0 by rw [beq_iff_eq] at h2; rw [h2]; rfl)
      go_enter Tryd.func53, Tryd.ntmps53
      go_wp2
      go_ret
      exact ⟨ret_int (by rw [arityR, HA.out]; rfl), rfl⟩
  · have HA := Lib.hid (show arity op = some 0 by rw [beq_iff_eq] at h1; rw [h1]; rfl)
    go_enter Tryd.func53, Tryd.ntmps53
    go_wp2
    go_ret
    exact ⟨ret_int (by rw [arityR, HA.out]; rfl), rfl⟩

/-! ### sound, Form -/
theorem form_none {op n : Int} {name : ByteArray} {k : Nat} (h : arity op = none) : false = formB op n name k := by simp [formB, h]
theorem form_len {op n : Int} {name : ByteArray} {k j : Nat} (h : arity op = some j) (hk : (k == j) = false) : false = formB op n name k := by simp [formB, h, hk]
theorem form_num {op n : Int} {name : ByteArray} {k : Nat} (h : (op == 1) = false) (hn : (n == 0) = false) : false = formB op n name k := by
  unfold formB; split <;> simp [h, hn]
theorem form_name {op n : Int} {name : ByteArray} {k : Nat} {j : Nat} (h : arity op = some j) (hk : (k == j) = true) (hn : (op == 1 || n == 0) = true) : formB op n name k = if op = 2 then isName name else name.toList.isEmpty := by
  simp [formB, h, hk, hn]
set_option maxHeartbeats 2000000 in
theorem sound_any (op n : Int) (name : ByteArray) (A : Option Addr) (nk c : Nat) (w : World) (ht : Tabs w) (hs : name.size ≤ maxLen) :
    Calls Tryd.prog 59 #[.agg #[.int .i64 op, .int .i64 n, .string name, .slice A nk c]] w fun e w' => e = .returned (.bool (formB op n name nk)) ∧ Below w.heap.size w w' := by
  have HT : Hid (Tabs (w.alloc (.cells #[.int .i64 op, .int .i64 n, .string name, .slice A nk c] 96))) := ht.below ((Below.refl _ _).alloc (Nat.le_refl _) _)
  cases ha : arity op with
  | none =>
    have HA := Lib.hid ha
    have he : (arityE op != 0) = true := by rw [arityE, ha]; rfl
    clear ha
    go_enter Tryd.func59, Tryd.ntmps59
    go_wp2_with (first | (go_at_call 55; refine (arity_any op _).mono ?_; rintro e w' ⟨rfl, rfl⟩))
    go_ret
    exact ⟨ret_bool (form_none HA.out), (Below.refl _ _).alloc (Nat.le_refl _) _⟩
  | some j =>
    have HA := Lib.hid ha
    have he : (arityE op != 0) = false := by rw [arityE, ha]; rfl
    have hj : arityI op = (j : Int) := by rw [arityI, ha]
    clear ha
    by_cases hk : nk = j
    · have HK := Lib.hid (show (nk == j) = true by rw [beq_iff_eq]; exact hk)
      have hk' : ((nk : Int) != (j : Int)) = false := by rw [bne_eq_false_iff_eq]; omega
      clear hk
      cases h1 : (op == 1)
      · have h1' : (op != 1) = true := by rw [bne, h1]; rfl
        have H1 := Lib.hid h1
        clear h1
        cases hn : (n == 0)
        · have hn' : (n != 0) = true := by rw [bne, hn]; rfl
          have HN := Lib.hid hn
          clear hn
          go_enter Tryd.func59, Tryd.ntmps59
          go_wp2_with (first | (go_at_call 55; refine (arity_any op _).mono ?_; rintro e w' ⟨rfl, rfl⟩))
          go_ret
          exact ⟨ret_bool (form_num H1.out HN.out), (Below.refl _ _).alloc (Nat.le_refl _) _⟩
        · have hn' : (n != 0) = false := by rw [bne, hn]; rfl
          have HN := Lib.hid (show (op == 1 || n == 0) = true by rw [hn]; simp)
          clear hn
          cases h2 : (op == 2)
          · have H2 := Lib.hid (show ¬ op = 2 by rw [beq_eq_false_iff_ne] at h2; exact h2)
            go_enter Tryd.func59, Tryd.ntmps59
            go_wp2_with (first | (go_at_call 55; refine (arity_any op _).mono ?_; rintro e w' ⟨rfl, rfl⟩))
            go_ret
            exact ⟨ret_bool (by rw [form_name HA.out HK.out HN.out, if_neg H2.out]), (Below.refl _ _).alloc (Nat.le_refl _) _⟩
          · have H2 := Lib.hid (show op = 2 by rw [beq_iff_eq] at h2; exact h2)
            go_enter Tryd.func59, Tryd.ntmps59
            go_wp2_with (first | (go_at_call 55; refine (arity_any op _).mono ?_; rintro e w' ⟨rfl, rfl⟩) | (go_at_call 56; refine (name_any name _ HT.out hs).mono ?_; rintro e w1 ⟨rfl, hb1⟩; have HB1 := Lib.hid hb1; clear hb1))
            go_ret
            exact ⟨ret_bool (by rw [form_name HA.out HK.out HN.out, if_pos H2.out]), ((Below.refl _ _).alloc (Nat.le_refl _) _).trans (HB1.out.mono (by simp))⟩
      · have h1' : (op != 1) = false := by rw [bne, h1]; rfl
        have h2 : (op == 2) = false := by rw [beq_iff_eq] at h1; rw [h1]; rfl
        have HN := Lib.hid (show (op == 1 || n == 0) = true by rw [h1]; rfl)
        have H2 := Lib.hid (show ¬ op = 2 by rw [beq_eq_false_iff_ne] at h2; exact h2)
        clear h1
        go_enter Tryd.func59, Tryd.ntmps59
        go_wp2_with (first | (go_at_call 55; refine (arity_any op _).mono ?_; rintro e w' ⟨rfl, rfl⟩))
        go_ret
        exact ⟨ret_bool (by rw [form_name HA.out HK.out HN.out, if_neg H2.out]), (Below.refl _ _).alloc (Nat.le_refl _) _⟩
    · have HK := Lib.hid (show (nk == j) = false by rw [beq_eq_false_iff_ne]; exact hk)
      have hk' : ((nk : Int) != (j : Int)) = true := by rw [bne_iff_ne]; omega
      clear hk
      go_enter Tryd.func59, Tryd.ntmps59
      go_wp2_with (first | (go_at_call 55; refine (arity_any op _).mono ?_; rintro e w' ⟨rfl, rfl⟩))
      go_ret
      exact ⟨ret_bool (form_len HA.out HK.out), (Below.refl _ _).alloc (Nat.le_refl _) _⟩

theorem quiet_add_left {P : Program} {f : FuncId} {args : Array Value} {w : World} {a n : Nat} {v : Value}
    (h : Calls P f args (w.drewN (a + n)) fun e w' => e = .returned v ∧ w.drewN (a + n) = w') : Calls P f args (w.drewN (a + n)) fun e w'' => e = .returned v ∧ ∃ m, w'' = w.drewN (a + m) :=
  h.mono fun _ _ ⟨he, hm⟩ => ⟨he, n, hm.symm⟩
theorem quiet_left {P : Program} {f : FuncId} {args : Array Value} {w : World} {n : Nat} {v : Value}
    (h : Calls P f args (w.drewN n) fun e w' => e = .returned v ∧ w.drewN n = w') : Calls P f args (w.drewN n) fun e w'' => e = .returned v ∧ ∃ m, w'' = w.drewN m :=
  h.mono fun _ _ ⟨he, hm⟩ => ⟨he, n, hm.symm⟩
set_option maxHeartbeats 2000000 in
theorem rform_any (op n : Int) (name : ByteArray) (A : Option Addr) (nk c : Nat) (w : World) (hs : name.size ≤ 9223372036854775807) :
    Calls Tryd.prog 42 #[.agg #[.int .i64 op, .int .i64 n, .string name, .slice A nk c]] w fun e w' => e = .returned (.bool (formB op n name nk)) ∧ Below w.heap.size w w' := by
  cases ha : arity op with
  | none =>
    have HA := Lib.hid ha
    have he : decide (arityR op < 0) = true := by rw [arityR, ha]; rfl
    clear ha
    go_enter Tryd.func42, Tryd.ntmps42
    go_wp2
    go_quiet ((first | (go_at_call 53; exact quiet_add_left (rarity_any op _)) | (go_at_call 53; exact quiet_left (rarity_any op _)) | (go_at_call 53; exact Calls.quiet_of_same ((rarity_any op _).mono fun _ _ h => ⟨h.1, h.2.symm⟩))))
    go_wp2
    go_ret
    exact ⟨ret_bool (form_none HA.out), pw_below_drewN ((Below.refl _ _).alloc (Nat.le_refl _) _) _⟩
  | some j =>
    have HA := Lib.hid ha
    have he : decide (arityR op < 0) = false := by rw [arityR, ha]; exact decide_eq_false (by dsimp only; omega)
    have hj : arityR op = (j : Int) := by rw [arityR, ha]
    by_cases hk : nk = j
    · have HK := Lib.hid (show (nk == j) = true by rw [beq_iff_eq]; exact hk)
      have hk' : (arityR op != (nk : Int)) = false := by rw [bne_eq_false_iff_eq]; omega
      clear hk hj ha
      cases h1 : (op == 1)
      · have h1' : (op != 1) = true := by rw [bne, h1]; rfl
        have H1 := Lib.hid h1
        clear h1
        cases hn : (n == 0)
        · have hn' : (n != 0) = true := by rw [bne, hn]; rfl
          have HN := Lib.hid hn
          clear hn
          go_enter Tryd.func42, Tryd.ntmps42
          go_wp2
          go_quiet ((first | (go_at_call 53; exact quiet_add_left (rarity_any op _)) | (go_at_call 53; exact quiet_left (rarity_any op _)) | (go_at_call 53; exact Calls.quiet_of_same ((rarity_any op _).mono fun _ _ h => ⟨h.1, h.2.symm⟩))))
          go_wp2
          go_ret
          exact ⟨ret_bool (form_num H1.out HN.out), pw_below_drewN ((Below.refl _ _).alloc (Nat.le_refl _) _) _⟩
        · have hn' : (n != 0) = false := by rw [bne, hn]; rfl
          have HN := Lib.hid (show (op == 1 || n == 0) = true by rw [hn]; simp)
          clear hn
          cases h2 : (op == 2)
          · have H2 := Lib.hid (show ¬ op = 2 by rw [beq_eq_false_iff_ne] at h2; exact h2)
            go_enter Tryd.func42, Tryd.ntmps42
            go_wp2
            go_quiet ((first | (go_at_call 53; exact quiet_add_left (rarity_any op _)) | (go_at_call 53; exact quiet_left (rarity_any op _)) | (go_at_call 53; exact Calls.quiet_of_same ((rarity_any op _).mono fun _ _ h => ⟨h.1, h.2.symm⟩))))
            go_wp2
            go_ret
            exact ⟨ret_bool (by rw [form_name HA.out HK.out HN.out, if_neg H2.out]), pw_below_drewN ((Below.refl _ _).alloc (Nat.le_refl _) _) _⟩
          · have H2 := Lib.hid (show op = 2 by rw [beq_iff_eq] at h2; exact h2)
            go_enter Tryd.func42, Tryd.ntmps42
            go_wp2
            go_quiet ((first | (go_at_call 53; exact quiet_add_left (rarity_any op _)) | (go_at_call 53; exact quiet_left (rarity_any op _)) | (go_at_call 53; exact Calls.quiet_of_same ((rarity_any op _).mono fun _ _ h => ⟨h.1, h.2.symm⟩))))
            go_wp2_with ((go_at_call 63; refine (rname_any name _ hs).mono ?_; rintro e w1 ⟨rfl, hb1⟩; have HB1 := Lib.hid hb1; clear hb1))
            go_ret
            exact ⟨ret_bool (by rw [form_name HA.out HK.out HN.out, if_pos H2.out]), (pw_below_drewN ((Below.refl _ _).alloc (Nat.le_refl _) _) _).trans (HB1.out.mono (by simp))⟩
      · have h1' : (op != 1) = false := by rw [bne, h1]; rfl
        have h2 : (op == 2) = false := by rw [beq_iff_eq] at h1; rw [h1]; rfl
        have HN := Lib.hid (show (op == 1 || n == 0) = true by rw [h1]; rfl)
        have H2 := Lib.hid (show ¬ op = 2 by rw [beq_eq_false_iff_ne] at h2; exact h2)
        clear h1
        go_enter Tryd.func42, Tryd.ntmps42
        go_wp2
        go_quiet ((first | (go_at_call 53; exact quiet_add_left (rarity_any op _)) | (go_at_call 53; exact quiet_left (rarity_any op _)) | (go_at_call 53; exact Calls.quiet_of_same ((rarity_any op _).mono fun _ _ h => ⟨h.1, h.2.symm⟩))))
        go_wp2
        go_ret
        exact ⟨ret_bool (by rw [form_name HA.out HK.out HN.out, if_neg H2.out]), pw_below_drewN ((Below.refl _ _).alloc (Nat.le_refl _) _) _⟩
    · have HK := Lib.hid (show (nk == j) = false by rw [beq_eq_false_iff_ne]; exact hk)
      have hk' : (arityR op != (nk : Int)) = true := by rw [bne_iff_ne]; omega
      clear hk hj ha
      go_enter Tryd.func42, Tryd.ntmps42
      go_wp2
      go_quiet ((first | (go_at_call 53; exact quiet_add_left (rarity_any op _)) | (go_at_call 53; exact quiet_left (rarity_any op _)) | (go_at_call 53; exact Calls.quiet_of_same ((rarity_any op _).mono fun _ _ h => ⟨h.1, h.2.symm⟩))))
      go_wp2
      go_ret
      exact ⟨ret_bool (form_len HA.out HK.out), pw_below_drewN ((Below.refl _ _).alloc (Nat.le_refl _) _) _⟩

end Go.Proofs.YticaocadeeolkaaDoor

namespace Go.Proofs.YticaocadeeolkaaDoor
open Go.RowKit Plain Go.Proofs.YticaocadeeolkaaDoorW.PrintWords

/-- The cells of a node in a list that is read. -/
theorem nd_at {w : World} {A : Option Addr} {n : Nat} {e : List Nd} (h : Kd.C kNd w A n e) {k : Nat} {x : Nd} (hx : e[k]? = some x) :
    ∃ ad A3 c3, A = some ad ∧ w.cell? (ad.add (k * 4)) = some (.int .i64 x.op) ∧ w.cell? ⟨(ad.add (k * 4)).block, (ad.add (k * 4)).off + 1, none⟩ = some (.int .i64 x.n) ∧
      w.cell? ⟨(ad.add (k * 4)).block, (ad.add (k * 4)).off + 2, none⟩ = some (.string x.name) ∧ w.cell? ⟨(ad.add (k * 4)).block, (ad.add (k * 4)).off + 3, none⟩ = some (.slice A3 x.kids.length c3) ∧
      x.kids.length ≤ c3 ∧ (Kd.int .i64).C w A3 x.kids.length x.kids := by
  have hlt : k < e.length := (List.getElem?_eq_some_iff.1 hx).1
  have hn : e.length = n := h.1
  obtain ⟨ad, A3, c3, h1, h2, h3, h4, h5, h6, h7⟩ := PBoxKeeps.at_T96 (C_toS h) (k : Int) (by omega) (by omega)
  rw [rd_node hx, Int.toNat_natCast] at *
  exact ⟨ad, A3, c3, h1, h2, h3, h4, h5, h6, h7⟩
theorem nd_below {w w' : World} (hb : Below w.heap.size w w') {a : Addr} {v : Value} (h : w.cell? a = some v) : w'.cell? a = some v := (hb.cell (World.block_lt_of_cell? w a h)).trans h

/-- slices.Equal of two lists of numbers. -/
theorem equal_loop (a b : List Int) (hl : a.length = b.length) (hm : a.length ≤ 9223372036854775807) : ∀ (d : Nat) (i : Nat), a.length - i = d → i ≤ a.length → (∀ j, j < i → a[j]? = b[j]?) →
    ∀ k, d < k → PBoxKeeps.slices_Equal_int_int.l0 k a b (a.length : Int) (i : Int) = some (a == b) := by
  intro d
  induction d with
  | zero =>
    intro i hd hi hj k hk
    obtain ⟨k, rfl⟩ : ∃ m, k = m + 1 := ⟨k - 1, by omega⟩
    simp only [PBoxKeeps.slices_Equal_int_int.l0]
    rw [if_neg (by omega)]
    have : a = b := List.ext_getElem? fun j => by
      by_cases h : j < i
      · exact hj j h
      · rw [List.getElem?_eq_none (by omega), List.getElem?_eq_none (by omega)]
    rw [this]; simp
  | succ d ih =>
    intro i hd hi hj k hk
    obtain ⟨k, rfl⟩ : ∃ m, k = m + 1 := ⟨k - 1, by omega⟩
    simp only [PBoxKeeps.slices_Equal_int_int.l0]
    rw [if_pos (by omega), if_pos (by omega), if_pos (by omega), if_pos (by omega), rd_cast (by omega), rd_cast (by omega)]
    by_cases h : a[i] = b[i]
    · rw [if_pos h]
      have hw : wrap64 ((i : Int) + 1) = ((i + 1 : Nat) : Int) := by unfold wrap64; omega
      rw [hw]
      exact ih (i + 1) (by omega) (by omega) (fun j hj' => by
        by_cases e : j = i
        · subst e; rw [List.getElem?_eq_getElem (by omega), List.getElem?_eq_getElem (by omega), h]
        · exact hj j (by omega)) k (by omega)
    · rw [if_neg h]
      have : (a == b) = false := by
        rw [beq_eq_false_iff_ne]
        intro e
        subst e
        exact h rfl
      rw [this]
theorem equal_f (a b : List Int) (hm : a.length ≤ 9223372036854775807) : PBoxKeeps.slices_Equal_int_int.f (a.length + 1) a b = some (a == b) := by
  unfold PBoxKeeps.slices_Equal_int_int.f
  by_cases h : a.length = b.length
  · rw [if_pos (by omega)]
    exact equal_loop a b h hm a.length 0 (by omega) (by omega) (fun j hj => by omega) _ (by omega)
  · rw [if_neg (by omega)]
    have : (a == b) = false := by
      rw [beq_eq_false_iff_ne]
      intro e
      exact h (by rw [e])
    rw [this]
theorem equal_any (a b : List Int) (A B : Option Addr) (c d : Nat) (w : World) (ha : (Kd.int .i64).C w A a.length a) (hc : a.length ≤ c) (hb : (Kd.int .i64).C w B b.length b) (hd : b.length ≤ d) :
    Calls Tryd.prog 60 #[.slice A a.length c, .slice B b.length d] w fun e w' => e = .returned (.bool (a == b)) ∧ ∃ n, w' = w.drewN n :=
  (PBoxKeeps.slices_Equal_int_int.calls (a.length + 1) A c a B d b (a == b) w ha hc hb hd (equal_f a b ha.2.1)).mono fun _ _ ⟨he, hw⟩ => ⟨he, hw.out⟩

theorem equal_len (a b : List Int) (A B : Option Addr) (n m c d : Nat) (w : World) (hn : a.length = n) (hm : b.length = m) (ha : (Kd.int .i64).C w A a.length a) (hc : n ≤ c) (hb : (Kd.int .i64).C w B b.length b) (hd : m ≤ d) (q : Bool) (hq : (a == b) = q) :
    Calls Tryd.prog 60 #[.slice A n c, .slice B m d] w fun e w' => e = .returned (.bool q) ∧ ∃ n, w' = w.drewN n := by
  subst hn; subst hm; subst hq
  exact equal_any a b A B c d w ha hc hb hd
theorem check_short {e : List Nd} (h : ¬ (1 ≤ e.length ∧ e.length ≤ 64)) : check e = false := by
  unfold check
  by_cases h1 : 1 ≤ e.length
  · have : decide (e.length ≤ 64) = false := decide_eq_false (by omega)
    simp [this]
  · simp [h1]
theorem cut_from {P : Program} {α : Type} (d : Kd α) (t e : TypeId) {i : TypeInfo} (ht : P.underlying t = some (.slice e)) (hi : P.info? e = some i) (hsz : i.size = d.sz) (A : Option Addr) (c n m : Nat) (hm : m ≤ n) :
    ∃ A' : Option Addr, (∀ W : World, (Instr.slice t (.slice A n c) (some (.int .i64 (m : Int))) none none).run P W = .ok (.slice A' (n - m) (c - m)) W) ∧
      ∀ (w : World) (xs : List α), xs.length = n → n ≤ c → d.C w A xs.length xs → d.C w A' (xs.drop m).length (xs.drop m) := by
  refine ⟨if c = m then A else A.map (·.add (m * d.sz)), fun W => ?_, fun w xs hx hc h => Kd.C_drop h (by omega) (by omega)⟩
  have hel : P.elem t = e := by simp [Program.elem, ht]
  have hu : P.underlying t = some (.slice (P.elem t)) := by rw [hel]; exact ht
  rw [run_slice_l W t A n c hu .i64 (m : Int) (Int.natCast_nonneg _) (by omega), hel]
  simp [sizeOf, typeInfo, hi, hsz, sliced, Result.andThen]
theorem cell4 (w : World) (a b c d : Value) (T : TypeId) : (w.alloc (.cells #[a, b, c, d] T)).cell? ⟨w.heap.size, 0, none⟩ = some a ∧ (w.alloc (.cells #[a, b, c, d] T)).cell? ⟨w.heap.size, 1, none⟩ = some b ∧
    (w.alloc (.cells #[a, b, c, d] T)).cell? ⟨w.heap.size, 2, none⟩ = some c ∧ (w.alloc (.cells #[a, b, c, d] T)).cell? ⟨w.heap.size, 3, none⟩ = some d := by
  have h := heap_alloc_new w (.cells #[a, b, c, d] T)
  exact ⟨cell_of_row _ _ 0 _ _ _ h, cell_of_row _ _ 1 _ _ _ h, cell_of_row _ _ 2 _ _ _ h, cell_of_row _ _ 3 _ _ _ h⟩
def errOf (b : Bool) : Int := if b then 0 else 1
theorem ret_err {b : Bool} {n : Int} (h : n = errOf b) : Ending.returned (.int .i64 n) = .returned (.int .i64 (errOf b)) := by rw [h]
theorem node_drop {e : List Nd} {k : Nat} {x : Nd} (hx : e[k]? = some x) : e.drop k = x :: e.drop (k + 1) := by
  have hlt := (List.getElem?_eq_some_iff.1 hx).1
  rw [List.drop_eq_getElem_cons hlt, (List.getElem?_eq_some_iff.1 hx).2]

set_option maxHeartbeats 4000000 in
set_option maxRecDepth 100000 in
theorem check_any (e : List Nd) (A : Option Addr) (c : Nat) (w : World) (ht : Tabs w) (hr : Kd.C kNd w A e.length e) (hn : ∀ x ∈ e, x.name.size ≤ maxLen) :
    Calls Tryd.prog 39 #[.slice A e.length c] w fun en w' => en = .returned (.int .i64 (errOf (check e))) ∧ Below w.heap.size w w' := by
  by_cases h1 : 1 ≤ e.length
  · by_cases h2 : e.length ≤ 64
    · have h1d : decide ((e.length : Int) < 1) = false := decide_eq_false (by omega)
      have h2d : decide ((e.length : Int) > 64) = false := decide_eq_false (by omega)
      have h2e : decide ((64 : Int) < (e.length : Int)) = false := decide_eq_false (by omega)
      have HT := Lib.hid ht
      have HR := Lib.hid hr
      have HN := Lib.hid hn
      have HC : Hid (check e = stackGo e 0 []) := Lib.hid (by simp [check, h1, h2])
      have hu := Tryd.underlying96
      clear ht hr hn
      go_enter Tryd.func39, Tryd.ntmps39
      go_wp2
      go_loopw [3, 17] (fun v i wr => ∃ (k : Nat) (op : List Int), i = .int .i64 k ∧ k ≤ e.length ∧ op.length ≤ k ∧ Hid (stackGo (e.drop k) k op = check e) ∧ Hid ((Kd.int .i64).R 3 wr w.heap.size (fun _ => True) v op) ∧ Hid (Below w.heap.size w wr)) (fun _ i _ => e.length - (intOf i).toNat)
      case atStart => exact ⟨0, [], rfl, by omega, by simp, HC.out.symm, Kd.R_nil _ _ _ _ _, Below.refl _ _⟩
      case round =>
        obtain ⟨k, op, rfl, hk, hop, hst, hO, hB⟩ := hrel
        by_cases hlt : k < e.length
        · obtain ⟨x, hx⟩ : ∃ x, e[k]? = some x := ⟨_, List.getElem?_eq_getElem hlt⟩
          obtain ⟨ad, A3, c3, hA, q0, q1, q2, q3, hl3, hk3⟩ := nd_at HR.out hx
          subst hA
          replace q0 := nd_below hB.out q0
          replace q1 := nd_below hB.out q1
          replace q2 := nd_below hB.out q2
          replace q3 := nd_below hB.out q3
          have HX := Lib.hid hx
          have HD := Lib.hid (node_drop hx)
          have hnm : Hid (x.name.size ≤ maxLen) := HN.out x (List.mem_of_getElem? hx)
          clear hx
          obtain ⟨Ao, co, rfl, hlo, hCo⟩ := Kd.R_reads hO.out
          have HCo := Lib.hid hCo
          have HK3 := Lib.hid hk3
          clear hCo hk3
          obtain ⟨_, _, _, r3⟩ := cell4 wr (.int .i64 x.op) (.int .i64 x.n) (.string x.name) (.slice A3 x.kids.length c3) 96
          have R3 := Lib.hid r3
          have hwsz := hB.out.size
          have HTW : Hid (Tabs (wr.alloc (.cells #[.int .i64 x.op, .int .i64 x.n, .string x.name, .slice A3 x.kids.length c3] 96))) := HT.out.below (hB.out.alloc hwsz _)
          clear r3
          cases hf : formB x.op x.n x.name x.kids.length
          · have HF := Lib.hid hf
            clear hf
            go_wp2_with (go_at_call 59; refine (sound_any _ _ _ _ _ _ _ HTW.out hnm.out).mono ?_; rintro en w1 ⟨rfl, hb1⟩; rw [HF.out]; have HB1 := Lib.hid hb1; clear hb1)
            go_ret
            refine ⟨ret_err ?_, (hB.out.alloc hwsz _).trans (HB1.out.mono (by simp; omega))⟩
            have := hst.out
            rw [HD.out] at this
            rw [← this]
            simp [stackGo, stackStep, form, HF.out, errOf]
          · have HF := Lib.hid hf
            clear hf
            by_cases hkl : x.kids.length ≤ op.length
            · have hgt : decide ((x.kids.length : Int) > (op.length : Int)) = false := decide_eq_false (by omega)
              have hgt' : decide ((op.length : Int) < (x.kids.length : Int)) = false := decide_eq_false (by omega)
              obtain ⟨m, hm⟩ : ∃ m, m + x.kids.length = op.length := ⟨op.length - x.kids.length, by omega⟩
              have hmm : ((op.length : Int) - (x.kids.length : Int)) = (m : Int) := by omega
              have HM := Lib.hid hm
              clear hm
              obtain ⟨A', hcut, hC'⟩ := cut_from (P := Tryd.prog) (Kd.int .i64) 68 3 Tryd.underlying68 rfl rfl Ao co op.length m (by have := HM.out; omega)
              have HC' := Lib.hid hC'
              clear hC'
              have hm0 : (m : Int) ≤ (op.length : Int) := by have := HM.out; omega
              go_wp2_with (go_at_call 59; refine (sound_any _ _ _ _ _ _ _ HTW.out hnm.out).mono ?_; rintro en w1 ⟨rfl, hb1⟩; rw [HF.out]; have HB1 := Lib.hid hb1; clear hb1; have g3 := nd_below HB1.out R3.out)
              have HE := hide (fun (W : World) (hW : Below wr.heap.size wr W) => equal_len (op.drop m) x.kids A' A3 (op.length - m) x.kids.length (co - m) c3 W (by simp) rfl (HC'.out W op rfl hlo (Kd.C_below HCo.out hW)) (by omega) (Kd.C_below (Kd.C_below HK3.out hB.out) hW) hl3)
              have hdl : Hid (op.length - x.kids.length = m) := by have := HM.out; unfold Hid; omega
              cases heq : (op.drop m == x.kids)
              · have HEQ := Lib.hid heq
                clear heq
                go_quiet ((go_at_call 60; exact Calls.quiet_of (HE.out _ (pw_below_drewN (((Below.refl _ _).alloc (Nat.le_refl _) _).trans (HB1.out.mono (by simp))) _) _ HEQ.out)))
                go_wp2
                go_ret
                refine ⟨ret_err ?_, (hB.out.trans ((pw_below_drewN (((Below.refl _ _).alloc (Nat.le_refl _) _).trans (HB1.out.mono (by simp))) _).mono hwsz))⟩
                have := hst.out
                rw [HD.out] at this
                rw [← this]
                simp [stackGo, stackStep, hdl.out, HEQ.out, errOf]
              · have HEQ := Lib.hid heq
                clear heq
                go_quiet ((go_at_call 60; exact Calls.quiet_of (HE.out _ (pw_below_drewN (((Below.refl _ _).alloc (Nat.le_refl _) _).trans (HB1.out.mono (by simp))) _) _ HEQ.out)))
                go_wp2_with (refine Kd.R_append (Kd.int .i64) (w0 := w) w.heap.size rfl (.tmp 48) (.tmp 50) 68 3 (.int .i64 0) 8 rfl Tryd.underlying68 PBoxKeeps.info3 rfl (by decide) (by omega) (.slice Ao m co) (op.take m) (k : Int) [.int .i64 k] (fun _ => True) (fun _ => False) rfl rfl ?aP (fun _ h => h.elim) (fun _ _ => trivial) ?aO ?aB ?aS ?aL ?_)
                case aP => exact rfl
                case aO => exact Kd.R_take (Kd.R_below hO.out (pw_below_drewN (((Below.refl _ _).alloc (Nat.le_refl _) _).trans (HB1.out.mono (by simp))) _)) (by have := hdl.out; omega)
                case aB => exact hB.out.trans ((pw_below_drewN (((Below.refl _ _).alloc (Nat.le_refl _) _).trans (HB1.out.mono (by simp))) _).mono hwsz)
                case aS => exact Nat.le_trans hwsz ((((Below.refl _ _).alloc (Nat.le_refl _) _).trans (HB1.out.mono (by simp))) : Below wr.heap.size wr w1).size
                case aL => rw [List.length_take]; omega
                intro v1 w2 ho2 hb2 _ _
                have HO2 := Lib.hid ho2
                have HB2 := Lib.hid hb2
                clear ho2 hb2
                go_wp2
                go_roundw
                case rel =>
                  refine ⟨k + 1, op.take m ++ [(k : Int)], by go_num, by omega, by simp; omega, ?_, HO2.out, HB2.out⟩
                  have hs' := hst.out
                  rw [HD.out] at hs'
                  have hstep : stackStep x k op = some (op.take m ++ [(k : Int)]) := by
                    unfold stackStep
                    rw [hdl.out]
                    simp only [form, HF.out, decide_eq_true hkl, HEQ.out, Bool.and_self, if_true]
                  unfold stackGo at hs'
                  rw [hstep] at hs'
                  exact hs'
                case measure => simp [intOf]; omega
            · have hgt : decide ((x.kids.length : Int) > (op.length : Int)) = true := decide_eq_true (by omega)
              go_wp2_with (go_at_call 59; refine (sound_any _ _ _ _ _ _ _ HTW.out hnm.out).mono ?_; rintro en w1 ⟨rfl, hb1⟩; rw [HF.out]; have HB1 := Lib.hid hb1; clear hb1; have g3 := nd_below HB1.out R3.out)
              go_ret
              refine ⟨ret_err ?_, (hB.out.alloc hwsz _).trans (HB1.out.mono (by simp; omega))⟩
              have := hst.out
              rw [HD.out] at this
              rw [← this]
              simp [stackGo, stackStep, hkl, errOf]
        · have hke : k = e.length := by omega
          have hs' := hst.out
          rw [hke, List.drop_length] at hs'
          obtain ⟨Ao, co, rfl, hlo, _⟩ := Kd.R_reads hO.out
          by_cases h1l : op.length = 1
          · have hne : ((op.length : Int) != 1) = false := by rw [bne_eq_false_iff_eq]; omega
            have HL := Lib.hid h1l
            have HS := Lib.hid hs'
            clear h1l hs' hst hke
            go_wp2
            go_ret
            exact ⟨ret_err (by rw [← HS.out]; simp [stackGo, HL.out, errOf]), hB.out⟩
          · have hne : ((op.length : Int) != 1) = true := by rw [bne_iff_ne]; omega
            have HS := Lib.hid hs'
            have HL := Lib.hid h1l
            clear hs' hst hke h1l
            go_wp2
            go_ret
            exact ⟨ret_err (by rw [← HS.out]; simp [stackGo, HL.out, errOf]), hB.out⟩
    · have hd1 : decide ((e.length : Int) < 1) = false := decide_eq_false (by omega)
      have hd2 : (64 : Int) < (e.length : Int) := by omega
      have HCF := Lib.hid (check_short (e := e) (by omega))
      go_enter Tryd.func39, Tryd.ntmps39
      go_wp2
      go_ret
      exact ⟨ret_err (by rw [HCF.out]; rfl), Below.refl _ _⟩
  · have hd1 : (e.length : Int) < 1 := by omega
    have HCF := Lib.hid (check_short (e := e) (by omega))
    go_enter Tryd.func39, Tryd.ntmps39
    go_wp2
    go_ret
    exact ⟨ret_err (by rw [HCF.out]; rfl), Below.refl _ _⟩

/-! ### the reference's Check -/
theorem kids_le {w : World} {A : Option Addr} {n : Nat} {e : List Nd} (h : Kd.C kNd w A n e) : ∀ x ∈ e, x.kids.length ≤ 9223372036854775807 := by
  intro x hx
  obtain ⟨k, hk⟩ := List.mem_iff_getElem?.1 hx
  obtain ⟨_, _, _, _, _, _, _, _, _, h7⟩ := nd_at h hk
  exact h7.2.1
theorem walk_any (e : List Nd) (A : Option Addr) (c : Nat) (w : World) (hr : Kd.C kNd w A e.length e) (hc : e.length ≤ c) (at_ : Int) (hlt : at_ < e.length) :
    Calls Tryd.prog 43 #[.slice A e.length c, .int .i64 at_] w fun en w' => (∃ r, en = .returned (.int .i64 r) ∧ WalkOk e at_ r) ∧ Below w.heap.size w w' := by
  obtain ⟨K, r, hK, hok⟩ := walk_ok e hr.2.1 (kids_le hr) (at_.toNat + 1) at_ (by omega) hlt
  have hm : (e.map toS).length = e.length := by simp
  have h := PBoxKeeps.sorrelref02_walk.calls K A c (e.map toS) at_ r w (by rw [hm]; exact C_toS hr) (by rw [hm]; exact hc) (hK K (Nat.le_refl _))
  rw [hm] at h
  exact h.mono fun en w' ⟨he, hw⟩ => ⟨⟨r, he, hok⟩, hw.below⟩

theorem sound_whole {e : List Nd} (h1 : 1 ≤ e.length) (h2 : e.length ≤ 64) (hf : ∀ x ∈ e, form x = true) {r : Int} (h : WalkOk e ((e.length : Int) - 1) r) : (r == -1) = check e := by
  rw [Bool.eq_iff_iff, check_iff, beq_iff_eq]
  rcases h with ⟨rfl, hno⟩ | ⟨a, lo, ha, rfl, hs⟩
  · constructor
    · intro h; omega
    · intro h; exact absurd h.seg (hno (e.length - 1) 0 (by omega))
  · have hae : a = e.length - 1 := by omega
    subst hae
    constructor
    · intro h
      have : lo = 0 := by omega
      subst this
      exact ⟨h1, h2, hf, hs⟩
    · intro h
      have := hs.unique h.seg
      omega
theorem check_form {e : List Nd} {x : Nd} (hx : x ∈ e) (h : form x = false) : check e = false := by
  cases hc : check e
  · rfl
  · rw [check_iff] at hc
    rw [hc.forms x hx] at h
    cases h

set_option maxHeartbeats 4000000 in
set_option maxRecDepth 100000 in
theorem rcheck_any (e : List Nd) (A : Option Addr) (c : Nat) (w : World) (hr : Kd.C kNd w A e.length e) (hc : e.length ≤ c) (hn : ∀ x ∈ e, x.name.size ≤ 9223372036854775807) :
    Calls Tryd.prog 16 #[.slice A e.length c] w fun en w' => en = .returned (.int .i64 (errOf (check e))) ∧ Below w.heap.size w w' := by
  by_cases h1 : 1 ≤ e.length
  · by_cases h2 : e.length ≤ 64
    · have h1d : ((e.length : Int) == 0) = false := by rw [beq_eq_false_iff_ne]; omega
      have h2d : decide ((e.length : Int) > 64) = false := decide_eq_false (by omega)
      have h2e : decide ((64 : Int) < (e.length : Int)) = false := decide_eq_false (by omega)
      have HR := Lib.hid hr
      have HN := Lib.hid hn
      have hu := Tryd.underlying96
      clear hr hn
      go_enter Tryd.func16, Tryd.ntmps16
      go_wp2
      go_loopw [3] (fun i wr => ∃ (k : Nat), i = .int .i64 k ∧ k ≤ e.length ∧ Hid (∀ j x, j < k → e[j]? = some x → form x = true) ∧ Hid (Below w.heap.size w wr)) (fun i _ => e.length - (intOf i).toNat)
      case atStart => exact ⟨0, rfl, by omega, fun j x hj _ => by omega, Below.refl _ _⟩
      case round =>
        obtain ⟨k, rfl, hk, hfs, hB⟩ := hrel
        have hwsz := hB.out.size
        by_cases hlt : k < e.length
        · obtain ⟨x, hx⟩ : ∃ x, e[k]? = some x := ⟨_, List.getElem?_eq_getElem hlt⟩
          obtain ⟨ad, A3, c3, hA, q0, q1, q2, q3, hl3, hk3⟩ := nd_at HR.out hx
          subst hA
          replace q0 := nd_below hB.out q0
          replace q1 := nd_below hB.out q1
          replace q2 := nd_below hB.out q2
          replace q3 := nd_below hB.out q3
          have HX := Lib.hid hx
          have hnm : Hid (x.name.size ≤ 9223372036854775807) := HN.out x (List.mem_of_getElem? hx)
          clear hx hk3
          cases hf : formB x.op x.n x.name x.kids.length
          · have HF := Lib.hid hf
            clear hf
            go_wp2_with (go_at_call 42; refine (rform_any _ _ _ _ _ _ _ hnm.out).mono ?_; rintro en w1 ⟨rfl, hb1⟩; rw [HF.out]; have HB1 := Lib.hid hb1; clear hb1)
            go_ret
            exact ⟨ret_err (by rw [check_form (List.mem_of_getElem? HX.out) HF.out]; rfl), hB.out.trans (HB1.out.mono hwsz)⟩
          · have HF := Lib.hid hf
            clear hf
            go_wp2_with (go_at_call 42; refine (rform_any _ _ _ _ _ _ _ hnm.out).mono ?_; rintro en w1 ⟨rfl, hb1⟩; rw [HF.out]; have HB1 := Lib.hid hb1; clear hb1)
            go_roundw
            case rel =>
              refine ⟨k + 1, by go_num, by omega, fun j y hj hy => ?_, hB.out.trans (HB1.out.mono hwsz)⟩
              by_cases ejk : j = k
              · subst ejk
                have := HX.out.symm.trans hy
                cases this
                exact HF.out
              · exact hfs.out j y (by omega) hy
            case measure => simp [intOf]; omega
        · have hall : ∀ x ∈ e, form x = true := fun x hx => by
            obtain ⟨j, hj⟩ := List.mem_iff_getElem?.1 hx
            have := (List.getElem?_eq_some_iff.1 hj).1
            exact hfs.out j x (by omega) hj
          have HALL := Lib.hid hall
          clear hall hfs
          have HW := hide (fun (W : World) (hW : Below w.heap.size w W) (r : Int) (hr : WalkOk e ((e.length : Int) - 1) r) => sound_whole h1 h2 HALL.out hr)
          have hw1 : -9223372036854775808 ≤ (e.length : Int) - 1 := by omega
          cases hch : check e
          · have HCH := Lib.hid hch
            clear hch
            go_wp2_with (go_at_call 43; refine (walk_any e A c _ (Kd.C_below HR.out hB.out) hc _ (by omega)).mono ?_; rintro en w1 ⟨⟨r, rfl, hok⟩, hb1⟩; have HB1 := Lib.hid hb1; clear hb1; have hr1 := sound_whole h1 h2 HALL.out hok; have hr2 : (r != -1) = true := (by rw [bne, hr1, HCH.out]; rfl); clear hr1 hok)
            go_ret
            exact ⟨ret_err (by rw [HCH.out]; rfl), hB.out.trans (HB1.out.mono hwsz)⟩
          · have HCH := Lib.hid hch
            clear hch
            go_wp2_with (go_at_call 43; refine (walk_any e A c _ (Kd.C_below HR.out hB.out) hc _ (by omega)).mono ?_; rintro en w1 ⟨⟨r, rfl, hok⟩, hb1⟩; have HB1 := Lib.hid hb1; clear hb1; have hr1 := sound_whole h1 h2 HALL.out hok; have hr2 : (r != -1) = false := (by rw [bne, hr1, HCH.out]; rfl); clear hr1 hok)
            go_ret
            exact ⟨ret_err (by rw [HCH.out]; rfl), hB.out.trans (HB1.out.mono hwsz)⟩
    · have hd1 : ((e.length : Int) == 0) = false := by rw [beq_eq_false_iff_ne]; omega
      have hd2 : (64 : Int) < (e.length : Int) := by omega
      have HCF := Lib.hid (check_short (e := e) (by omega))
      go_enter Tryd.func16, Tryd.ntmps16
      go_wp2
      go_ret
      exact ⟨ret_err (by rw [HCF.out]; rfl), Below.refl _ _⟩
  · have hd1 : ((e.length : Int) == 0) = true := by rw [beq_iff_eq]; omega
    have HCF := Lib.hid (check_short (e := e) (by omega))
    go_enter Tryd.func16, Tryd.ntmps16
    go_wp2
    go_ret
    exact ⟨ret_err (by rw [HCF.out]; rfl), Below.refl _ _⟩
end Go.Proofs.YticaocadeeolkaaDoor
