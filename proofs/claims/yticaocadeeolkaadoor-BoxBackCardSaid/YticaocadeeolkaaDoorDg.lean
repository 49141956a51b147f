/-
  THE PLAIN LAW: what the terms of a sound expression are like; Same of a list and itself; Copy of a list.
-/
import Derived.Test.YticaocadeeolkaaDoorDf
namespace Go.Proofs.YticaocadeeolkaaDoor
open Go.RowKit Plain Go.Proofs.YticaocadeeolkaaDoorW.PrintWords

/-! ### a sound expression's nodes -/
mutual
theorem seg_all {e : List Nd} : ∀ {lo at_ : Nat}, Seg e lo at_ → ∀ k, lo ≤ k → k ≤ at_ → ∃ lo', Seg e lo' k
  | lo, at_, .node x ks hx hk h, k, h1, h2 => by
    by_cases hlt : k < at_
    · exact segs_all h k h1 hlt
    · have : k = at_ := by omega
      exact ⟨lo, this ▸ .node x ks hx hk h⟩
theorem segs_all {e : List Nd} : ∀ {lo hi : Nat} {ks : List Nat}, Segs e lo ks hi → ∀ k, lo ≤ k → k < hi → ∃ lo', Seg e lo' k
  | _, _, _, .nil, k, h1, h2 => by omega
  | _, _, _, .cons (k := m) h h', k, h1, h2 => by
    by_cases hm : k ≤ m
    · exact seg_all h k h1 hm
    · exact segs_all h' k (by omega) h2
end
theorem sound_seg {e : List Nd} (h : Sound e) {k : Nat} (hk : k < e.length) : ∃ lo, Seg e lo k := seg_all h.seg k (Nat.zero_le _) (by omega)
theorem sound_ahead {e : List Nd} (h : Sound e) : Ahead e := fun k x hx => by
  have hlt := (List.getElem?_eq_some_iff.1 hx).1
  obtain ⟨lo, hs⟩ := sound_seg h hlt
  refine ⟨arity_le (form_parts (h.forms x (List.mem_of_getElem? hx))).1, fun j hj => ?_⟩
  obtain ⟨h1, h2, _⟩ := seg_kids hs x hx j hj
  exact ⟨h1, h2⟩

/-- No name within is longer. -/
def tn (M : Nat) : Tm → Prop
  | .var s => s.size ≤ M | .un _ a => tn M a | .bin _ a b => tn M a ∧ tn M b | .ite c a b => tn M c ∧ tn M a ∧ tn M b | _ => True
def good (M : Nat) (t : Tm) : Prop := tpure t ∧ tn M t
theorem made_good {M : Nat} {x : Nd} {l : List Tm} (hx : x.name.size ≤ M) (hl : ∀ t ∈ l, good M t) : good M (made x l) := by
  unfold made
  split
  · have := hl _ List.mem_cons_self; exact ⟨this.1, this.2⟩
  · have h1 := hl _ List.mem_cons_self
    have h2 := hl _ (List.mem_cons_of_mem _ List.mem_cons_self)
    exact ⟨⟨h1.1, h2.1⟩, ⟨h1.2, h2.2⟩⟩
  · have h1 := hl _ List.mem_cons_self
    have h2 := hl _ (List.mem_cons_of_mem _ List.mem_cons_self)
    have h3 := hl _ (List.mem_cons_of_mem _ (List.mem_cons_of_mem _ List.mem_cons_self))
    exact ⟨⟨h1.1, h2.1, h3.1⟩, ⟨h1.2, h2.2, h3.2⟩⟩
  · split
    · exact ⟨trivial, hx⟩
    · exact ⟨trivial, trivial⟩
theorem getD_good {M : Nat} {l : List Tm} (hl : ∀ t ∈ l, good M t) (k : Nat) : good M (l.getD k .nil) := by
  rw [List.getD_eq_getElem?_getD]
  cases h : l[k]? with
  | none => exact ⟨trivial, trivial⟩
  | some t => exact hl t (List.mem_of_getElem? h)
theorem termsGo_good {M : Nat} : ∀ (e : List Nd) (l : List Tm), (∀ x ∈ e, x.name.size ≤ M) → (∀ t ∈ l, good M t) → ∀ t ∈ termsGo e l, good M t
  | [], _, _, hl => hl
  | x :: e, l, he, hl => by
    refine termsGo_good e _ (fun y hy => he y (List.mem_cons_of_mem _ hy)) (fun t ht => ?_)
    rcases List.mem_append.1 ht with h | h
    · exact hl t h
    · rw [List.mem_singleton.1 h]
      refine made_good (he x List.mem_cons_self) (fun u hu => ?_)
      obtain ⟨k, _, rfl⟩ := List.mem_map.1 hu
      exact getD_good hl _
theorem termAt_good {M : Nat} {e : List Nd} (he : ∀ x ∈ e, x.name.size ≤ M) (k : Nat) : good M (termAt e k) := getD_good (termsGo_good e [] he (fun _ h => by cases h)) k

theorem layEnd_names {M : Nat} {op n : Int} {name : ByteArray} {ks : List Int} {l l' : List Nd} (h : layEnd op n name ks l = some l') (hl : ∀ x ∈ l, x.name.size ≤ M) (hn : name.size ≤ M) : ∀ x ∈ l', x.name.size ≤ M := by
  obtain ⟨h1, _⟩ := lay_end_le h
  intro x hx
  rw [h1] at hx
  rcases List.mem_append.1 hx with h | h
  · exact hl x h
  · rw [List.mem_singleton.1 h]; exact hn
theorem lay_names {M : Nat} : ∀ (t : Tm) (l l' : List Nd), tn M t → (∀ x ∈ l, x.name.size ≤ M) → lay t l = some l' → ∀ x ∈ l', x.name.size ≤ M
  | .nil, _, _, _, _, h => by simp [lay] at h
  | .other _ _, _, _, _, _, h => by simp [lay] at h
  | .lit _, _, _, _, hl, h => layEnd_names h hl (Nat.zero_le M)
  | .var _, _, _, ht, hl, h => layEnd_names h hl ht
  | .un op a, l, l', ht, hl, h => by
    simp only [lay] at h
    split at h
    · obtain ⟨l1, h1, h2⟩ := Option.bind_eq_some_iff.1 h
      exact layEnd_names h2 (lay_names a _ _ ht hl (lay_part h1).1) (Nat.zero_le M)
    · cases h
  | .bin op a b, l, l', ht, hl, h => by
    simp only [lay] at h
    split at h
    · obtain ⟨l1, h1, h2⟩ := Option.bind_eq_some_iff.1 h
      obtain ⟨l2, h3, h4⟩ := Option.bind_eq_some_iff.1 h2
      exact layEnd_names h4 (lay_names b _ _ ht.2 (lay_names a _ _ ht.1 hl (lay_part h1).1) (lay_part h3).1) (Nat.zero_le M)
    · cases h
  | .ite c a b, l, l', ht, hl, h => by
    simp only [lay] at h
    obtain ⟨l1, h1, h2⟩ := Option.bind_eq_some_iff.1 h
    obtain ⟨l2, h3, h4⟩ := Option.bind_eq_some_iff.1 h2
    obtain ⟨l3, h5, h6⟩ := Option.bind_eq_some_iff.1 h4
    exact layEnd_names h6 (lay_names b _ _ ht.2.2 (lay_names a _ _ ht.2.1 (lay_names c _ _ ht.1 hl (lay_part h1).1) (lay_part h3).1) (lay_part h5).1) (Nat.zero_le M)

/-! ### Same and Copy -/
/-- No list is longer. -/
structure Short (e : List Nd) : Prop where
  len : e.length ≤ 2513169434843
  kids : ∀ x ∈ e, x.kids.length ≤ 17592186043904
theorem sameInts_refl (l : List Int) (hl : l.length ≤ 17592186043904) : ∀ (d i : Nat), l.length - i = d → i ≤ l.length → ∀ k, d < k → PBoxKeeps.sorrelref02_SameInts.l0 k l l (i : Int) = some true := by
  intro d
  induction d with
  | zero =>
    intro i hd hi k hk
    obtain ⟨k, rfl⟩ : ∃ m, k = m + 1 := ⟨k - 1, by omega⟩
    simp only [PBoxKeeps.sorrelref02_SameInts.l0]
    rw [if_neg (by omega)]
  | succ d ih =>
    intro i hd hi k hk
    obtain ⟨k, rfl⟩ : ∃ m, k = m + 1 := ⟨k - 1, by omega⟩
    simp only [PBoxKeeps.sorrelref02_SameInts.l0]
    have hw : wrap64 ((i : Int) + 1) = ((i + 1 : Nat) : Int) := by unfold wrap64; omega
    rw [if_pos (by omega), if_pos (by omega), if_pos (by omega), if_pos trivial, hw]
    exact ih (i + 1) (by omega) (by omega) k (by omega)
theorem sameNode_refl (x : Nd) (hx : x.kids.length ≤ 17592186043904) (k : Nat) (hk : 17592186043905 ≤ k) : PBoxKeeps.sorrelref02_SameNode.f k x.op x.n x.name x.kids x.op x.n x.name x.kids = some true := by
  unfold PBoxKeeps.sorrelref02_SameNode.f PBoxKeeps.sorrelref02_SameInts.f
  rw [if_pos rfl, if_pos rfl, if_pos rfl, if_pos rfl]
  have := sameInts_refl x.kids hx x.kids.length 0 (by omega) (by omega) k (by omega)
  rw [show ((0 : Nat) : Int) = 0 from rfl] at this
  rw [this]; rfl
theorem same_refl_go (e : List Nd) (h : Short e) : ∀ (d i : Nat), e.length - i = d → i ≤ e.length → ∀ k, d + 17592186043905 < k → PBoxKeeps.sorrelref02_Same.l0 k (e.map toS) (e.map toS) (i : Int) = some true := by
  intro d
  induction d with
  | zero =>
    intro i hd hi k hk
    obtain ⟨k, rfl⟩ : ∃ m, k = m + 1 := ⟨k - 1, by omega⟩
    simp only [PBoxKeeps.sorrelref02_Same.l0]
    rw [List.length_map, if_neg (by omega)]
  | succ d ih =>
    intro i hd hi k hk
    obtain ⟨k, rfl⟩ : ∃ m, k = m + 1 := ⟨k - 1, by omega⟩
    obtain ⟨x, hx⟩ : ∃ x, e[i]? = some x := ⟨_, List.getElem?_eq_getElem (by omega)⟩
    simp only [PBoxKeeps.sorrelref02_Same.l0]
    have hl := h.len
    have hw : wrap64 ((i : Int) + 1) = ((i + 1 : Nat) : Int) := by unfold wrap64; omega
    rw [List.length_map, if_pos (by omega), if_pos (by omega), if_pos (by omega), rd_node hx, hw]
    have := sameNode_refl x (h.kids x (List.mem_of_getElem? hx)) k (by omega)
    simp only [toS]
    rw [this]
    simp only [Option.bind_some, if_true]
    exact ih (i + 1) (by omega) (by omega) k (by omega)
theorem same_any (e : List Nd) (h : Short e) (A B : Option Addr) (c d : Nat) (w : World) (ha : Kd.C kNd w A e.length e) (hc : e.length ≤ c) (hb : Kd.C kNd w B e.length e) (hd : e.length ≤ d) :
    Calls Tryd.prog 13 #[.slice A e.length c, .slice B e.length d] w fun en w' => en = .returned (.bool true) ∧ Below w.heap.size w w' := by
  have h1 : PBoxKeeps.sorrelref02_Same.f (e.length + 17592186043906) (e.map toS) (e.map toS) = some true := by
    unfold PBoxKeeps.sorrelref02_Same.f
    rw [if_pos rfl]
    exact same_refl_go e h e.length 0 (by omega) (by omega) _ (by omega)
  have := PBoxKeeps.sorrelref02_Same.calls (e.length + 17592186043906) A c (e.map toS) B d (e.map toS) true w (by rw [List.length_map]; exact C_toS ha) (by rw [List.length_map]; exact hc) (by rw [List.length_map]; exact C_toS hb) (by rw [List.length_map]; exact hd) h1
  rw [List.length_map] at this
  exact this
theorem copy_go (e : List Nd) (h : Short e) : ∀ (d i : Nat), e.length - i = d → i ≤ e.length → ∀ k, d < k → PBoxKeeps.sorrelref02_Copy.l0 k (e.map toS) ((e.take i).map toS) (i : Int) = some (e.map toS) := by
  intro d
  induction d with
  | zero =>
    intro i hd hi k hk
    obtain ⟨k, rfl⟩ : ∃ m, k = m + 1 := ⟨k - 1, by omega⟩
    simp only [PBoxKeeps.sorrelref02_Copy.l0]
    rw [List.length_map, if_neg (by omega), List.take_of_length_le (by omega)]
  | succ d ih =>
    intro i hd hi k hk
    obtain ⟨k, rfl⟩ : ∃ m, k = m + 1 := ⟨k - 1, by omega⟩
    obtain ⟨x, hx⟩ : ∃ x, e[i]? = some x := ⟨_, List.getElem?_eq_getElem (by omega)⟩
    simp only [PBoxKeeps.sorrelref02_Copy.l0]
    have hl := h.len
    have hk2 := h.kids x (List.mem_of_getElem? hx)
    have hw : wrap64 ((i : Int) + 1) = ((i + 1 : Nat) : Int) := by unfold wrap64; omega
    rw [List.length_map, if_pos (by omega), if_pos (by omega), rd_node hx, hw]
    simp only [toS, Option.bind_some, List.length_nil, Nat.zero_add, List.nil_append]
    rw [if_pos (by omega), if_pos (by simp; omega)]
    have := ih (i + 1) (by omega) (by omega) k (by omega)
    rw [take_next hx, List.map_append] at this
    exact this
theorem S_ofS {e : Nat} {w : World} {base : Nat} {ok : Nat → Prop} {v : Value} {l : List Nd} (h : Kd.S PBoxKeeps.k96 e w base ok v (l.map toS)) : Kd.S kNd e w base ok v l := by
  obtain ⟨f, h1, inner, ho, hr⟩ := h
  refine ⟨f, h1, inner, ?_, ?_, ?_⟩
  · rw [List.length_zipIdx, List.length_map] at ho
    rw [List.length_zipIdx]; exact ho
  · have := hr.1
    rw [List.length_zipIdx, List.length_map] at this
    rw [List.length_zipIdx]; exact this
  · intro j p hp
    rw [List.getElem?_zipIdx] at hp
    obtain ⟨x, hx, rfl⟩ := Option.map_eq_some_iff.1 hp
    have := hr.2 j (toS x, 0 + j) (by rw [List.getElem?_zipIdx, List.getElem?_map, hx]; rfl)
    exact this
theorem copy_any (e : List Nd) (h : Short e) (A : Option Addr) (c : Nat) (w : World) (ha : Kd.C kNd w A e.length e) (hc : e.length ≤ c) :
    Calls Tryd.prog 15 #[.slice A e.length c] w fun en w' => ∃ v, en = .returned v ∧ Kd.S kNd 96 w' w.heap.size (fun _ => True) v e ∧ Below w.heap.size w w' := by
  have h1 : PBoxKeeps.sorrelref02_Copy.f (e.length + 1) (e.map toS) = some (e.map toS) := copy_go e h e.length 0 (by omega) (by omega) _ (by omega)
  have := PBoxKeeps.sorrelref02_Copy.calls (e.length + 1) A c (e.map toS) (e.map toS) w (by rw [List.length_map]; exact C_toS ha) (by rw [List.length_map]; exact hc) h1
  rw [List.length_map] at this
  refine this.mono ?_
  rintro en w' ⟨v, rfl, hS, hB⟩
  exact ⟨v, rfl, S_ofS hS, hB⟩
end Go.Proofs.YticaocadeeolkaaDoor
