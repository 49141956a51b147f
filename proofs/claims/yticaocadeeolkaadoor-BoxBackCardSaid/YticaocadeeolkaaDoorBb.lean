/-
  NODES in memory (as the print's kinds say it), and the reference's walk from the end: it answers where the segment begins.
-/
import Derived.Test.YticaocadeeolkaaDoorPBoxKeepsx
import Derived.Test.YticaocadeeolkaaDoorBa
import Derived.Test.YticaocadeeolkaaDoorAg
namespace Go.Proofs.YticaocadeeolkaaDoor
open Go.RowKit Plain Go.Proofs.YticaocadeeolkaaDoorW.PrintWords Go.Proofs.YticaocadeeolkaaDoorW.PrintLast Go.Proofs.YticaocadeeolkaaDoorW.PrintMore

def kNd : Kd Nd := Kd.iso (Kd.pair (Kd.int .i64) (Kd.pair (Kd.int .i64) (Kd.pair Kd.string (Kd.slice 3 (Kd.int .i64))))) (fun x : Nd => (x.op, x.n, x.name, x.kids))
def toS (x : Nd) : PBoxKeeps.S96 := ⟨x.op, x.n, x.name, x.kids⟩
theorem kNd_toS {w : World} {x : Nd} {cs : List Value} : kNd.K w x cs = PBoxKeeps.k96.K w (toS x) cs := rfl
theorem C_toS {w : World} {A : Option Addr} {n : Nat} {e : List Nd} (h : Kd.C kNd w A n e) : Kd.C PBoxKeeps.k96 w A n (e.map toS) := by
  obtain ⟨h1, h2, h3⟩ := h
  refine ⟨by simpa using h1, h2, fun hn => ?_⟩
  obtain ⟨ad, he, hc⟩ := h3 hn
  refine ⟨ad, he, fun j p hj => ?_⟩
  rw [List.getElem?_map] at hj
  cases hx : e[j]? with
  | none => rw [hx] at hj; cases hj
  | some x => rw [hx] at hj; cases hj; exact hc j x hx
theorem C_ofS {w : World} {A : Option Addr} {n : Nat} {e : List Nd} (h : Kd.C PBoxKeeps.k96 w A n (e.map toS)) : Kd.C kNd w A n e := by
  obtain ⟨h1, h2, h3⟩ := h
  refine ⟨by simpa using h1, h2, fun hn => ?_⟩
  obtain ⟨ad, he, hc⟩ := h3 hn
  refine ⟨ad, he, fun j p hj => hc j (toS p) ?_⟩
  rw [List.getElem?_map, hj]; rfl
theorem kNd_open {w : World} {x : Nd} {cs : List Value} (h : kNd.K w x cs) : ∃ A c, cs = [.int .i64 x.op, .int .i64 x.n, .string x.name, .slice A x.kids.length c] ∧ x.kids.length ≤ c ∧ (Kd.int .i64).C w A x.kids.length x.kids := by
  obtain ⟨_, _, rfl, rfl, ⟨_, _, rfl, rfl, ⟨_, _, rfl, rfl, ⟨A3, c3, rfl, l3, g3⟩⟩⟩⟩ := h
  exact ⟨A3, c3, rfl, l3, g3⟩

/-! ### the walk from the end -/
theorem rd_cast {xs : List Int} {i : Nat} (h : i < xs.length) : rd xs (i : Int) = xs[i] := by
  unfold rd
  rw [Int.toNat_natCast, List.getD_eq_getElem?_getD, List.getElem?_eq_getElem h]; rfl
/-- What the walk answers of a place. -/
def WalkOk (e : List Nd) (at_ : Int) (r : Int) : Prop := (r = -2 ∧ ∀ (a lo : Nat), (a : Int) = at_ → ¬ Seg e lo a) ∨ ∃ (a lo : Nat), (a : Int) = at_ ∧ r = (lo : Int) - 1 ∧ Seg e lo a
theorem wrap_dec {n : Int} (h : 0 ≤ n) (h' : n ≤ 9223372036854775807) : wrap64 (n - 1) = n - 1 := by unfold wrap64; omega

theorem walk_loop (e : List Nd) (_hl : e.length ≤ 9223372036854775807) (a : Nat) (x : Nd) (hx : e[a]? = some x) (hk : x.kids.length ≤ 9223372036854775807)
    (ih : ∀ (b : Int), b < a → ∃ K r, (∀ k, K ≤ k → PBoxKeeps.sorrelref02_walk.f k (e.map toS) b = some r) ∧ WalkOk e b r) :
    ∀ (i : Nat), i ≤ x.kids.length → ∀ (next : Int), -1 ≤ next → next < a → (∃ (m : Nat) (ls : List Nat), (m : Int) = next + 1 ∧ x.kids.drop i = ls.map (fun (k : Nat) => (k : Int)) ∧ Segs e m ls a) →
    ∃ K r, (∀ k, K ≤ k → PBoxKeeps.sorrelref02_walk.l0 k (e.map toS) next x.kids ((i : Int) - 1) = some r) ∧ WalkOk e a r := by
  intro i
  induction i with
  | zero =>
    intro _ next h1 h2 ⟨m, ls, hm, hd, hs⟩
    refine ⟨1, next, fun k hk1 => ?_, .inr ⟨a, m, rfl, by omega, .node x ls hx (by simpa using hd) hs⟩⟩
    obtain ⟨k, rfl⟩ : ∃ m, k = m + 1 := ⟨k - 1, by omega⟩
    simp only [PBoxKeeps.sorrelref02_walk.l0]
    rw [if_neg (by omega)]
  | succ i ihi =>
    intro hi next h1 h2 ⟨m, ls, hm, hd, hs⟩
    have hrd : rd x.kids ((i : Int)) = x.kids[i] := rd_cast (by omega)
    have hlen : (((i + 1 : Nat) : Int) - 1) = (i : Int) := by omega
    have hdrop : x.kids.drop i = x.kids[i] :: x.kids.drop (i + 1) := List.drop_eq_getElem_cons (by omega)
    -- what a segment at a would say
    have hno : ∀ (lo : Nat), Seg e lo a → ∃ b : Nat, (b : Int) = next ∧ x.kids[i] = next ∧ ∃ c, Seg e c b := by
      intro lo hseg
      cases hseg with
      | node x' ks hx' hk' h' =>
        rw [hx] at hx'
        cases hx'
        have h3 : x.kids.take i ++ (x.kids[i] :: ls.map (fun (k : Nat) => (k : Int))) = ks.map (fun (k : Nat) => (k : Int)) := by
          rw [← hd, ← hdrop, List.take_append_drop, hk']
        have h4 : ks = ks.take i ++ ks.drop i := (List.take_append_drop i ks).symm
        have hkl : ks.length = x.kids.length := by rw [hk']; simp
        have hkd : ks.drop i = ks[i]'(by omega) :: ks.drop (i + 1) := List.drop_eq_getElem_cons (by omega)
        have h5 : ks.drop (i + 1) = ls := by
          apply map_cast_inj
          rw [List.map_drop, ← hk', hd]
        rw [h4, hkd, h5] at h'
        obtain ⟨h6, c, h7⟩ := h'.ahead hs
        have h8 : x.kids[i] = ((ks[i]'(by omega) : Nat) : Int) := by
          have : x.kids[i]? = (ks.map (fun (k : Nat) => (k : Int)))[i]? := by rw [hk']
          rw [List.getElem?_eq_getElem (by omega), List.getElem?_map, List.getElem?_eq_getElem (by omega)] at this
          exact Option.some.inj this
        exact ⟨ks[i]'(by omega), by omega, by omega, c, h7⟩
    by_cases hk1 : x.kids[i] = next
    · obtain ⟨K, r, hr, hok⟩ := ih next h2
      rcases hok with ⟨rfl, hbad⟩ | ⟨b, lo, hb, rfl, hseg⟩
      · refine ⟨K + 1, -2, fun k hkk => ?_, .inl ⟨rfl, fun a' lo ha' hseg => ?_⟩⟩
        · obtain ⟨k, rfl⟩ : ∃ m, k = m + 1 := ⟨k - 1, by omega⟩
          simp only [PBoxKeeps.sorrelref02_walk.l0]
          rw [hlen, if_pos (by omega), if_pos (by omega), if_pos (by omega), hrd, if_pos hk1, hr k (by omega)]
          rfl
        · have : a' = a := by omega
          subst this
          obtain ⟨b, hb, _, c, hc⟩ := hno lo hseg
          exact hbad b c hb hc
      · have hlo := hseg.le
        have hmb : m = b + 1 := by omega
        subst hmb
        obtain ⟨K2, r2, hr2, hok2⟩ := ihi (by omega) ((lo : Int) - 1) (by omega) (by omega) ⟨lo, b :: ls, by omega, by rw [hdrop, hd, hk1, ← hb]; rfl, .cons hseg hs⟩
        refine ⟨K + K2 + 1, r2, fun k hkk => ?_, hok2⟩
        obtain ⟨k, rfl⟩ : ∃ m, k = m + 1 := ⟨k - 1, by omega⟩
        simp only [PBoxKeeps.sorrelref02_walk.l0]
        rw [hlen, if_pos (by omega), if_pos (by omega), if_pos (by omega), hrd, if_pos hk1, hr k (by omega)]
        simp only [Option.bind_some]
        rw [if_neg (by omega), wrap_dec (by omega) (by omega)]
        exact hr2 k (by omega)
    · refine ⟨1, -2, fun k hkk => ?_, .inl ⟨rfl, fun a' lo ha' hseg => ?_⟩⟩
      · obtain ⟨k, rfl⟩ : ∃ m, k = m + 1 := ⟨k - 1, by omega⟩
        simp only [PBoxKeeps.sorrelref02_walk.l0]
        rw [hlen, if_pos (by omega), if_pos (by omega), if_pos (by omega), hrd, if_neg hk1]
      · have : a' = a := by omega
        subst this
        obtain ⟨b, hb, h9, _⟩ := hno lo hseg
        exact hk1 h9

theorem rd_node {e : List Nd} {a : Nat} {x : Nd} (hx : e[a]? = some x) : PBoxKeeps.rd_T96 (e.map toS) (a : Int) = toS x := by
  unfold PBoxKeeps.rd_T96
  rw [Int.toNat_natCast, List.getD_eq_getElem?_getD, List.getElem?_map, hx]; rfl
theorem walk_ok (e : List Nd) (hl : e.length ≤ 9223372036854775807) (hk : ∀ x ∈ e, x.kids.length ≤ 9223372036854775807) : ∀ (n : Nat) (at_ : Int), at_ < n → at_ < e.length →
    ∃ K r, (∀ k, K ≤ k → PBoxKeeps.sorrelref02_walk.f k (e.map toS) at_ = some r) ∧ WalkOk e at_ r := by
  intro n
  induction n with
  | zero =>
    intro at_ h _
    refine ⟨1, -2, fun k hk1 => ?_, .inl ⟨rfl, fun a lo ha _ => by omega⟩⟩
    obtain ⟨k, rfl⟩ : ∃ m, k = m + 1 := ⟨k - 1, by omega⟩
    simp only [PBoxKeeps.sorrelref02_walk.f]
    rw [if_pos (by omega)]
  | succ n ih =>
    intro at_ h hlt
    by_cases h0 : at_ < 0
    · refine ⟨1, -2, fun k hk1 => ?_, .inl ⟨rfl, fun a lo ha _ => by omega⟩⟩
      obtain ⟨k, rfl⟩ : ∃ m, k = m + 1 := ⟨k - 1, by omega⟩
      simp only [PBoxKeeps.sorrelref02_walk.f]
      rw [if_pos (by omega)]
    · obtain ⟨a, rfl⟩ := Int.eq_ofNat_of_zero_le (by omega : 0 ≤ at_)
      have hae : a < e.length := by omega
      have hx : e[a]? = some e[a] := List.getElem?_eq_getElem hae
      have hkk := hk e[a] (List.getElem_mem hae)
      obtain ⟨K, r, hr, hok⟩ := walk_loop e hl a e[a] hx hkk (fun b hb => ih b (by omega) (by omega)) e[a].kids.length (Nat.le_refl _) ((a : Int) - 1) (by omega) (by omega) ⟨a, [], by omega, by simp, .nil⟩
      refine ⟨K + 1, r, fun k hk1 => ?_, hok⟩
      obtain ⟨k, rfl⟩ : ∃ m, k = m + 1 := ⟨k - 1, by omega⟩
      simp only [PBoxKeeps.sorrelref02_walk.f]
      rw [if_neg h0, if_pos (by omega), if_pos (by simpa using hae), rd_node hx, wrap_dec (by omega) (by omega)]
      have : wrap64 (((toS e[a]).f3.length : Int) - 1) = ((e[a].kids.length : Nat) : Int) - 1 := by
        show wrap64 ((e[a].kids.length : Int) - 1) = _
        unfold wrap64; omega
      rw [this]
      exact hr k (by omega)
end Go.Proofs.YticaocadeeolkaaDoor
