/-
  THE PLAIN LAW: what the terms of a sound expression are like; Same of a list and itself; Copy of a list.
  THE WALK of box.Box, box.Open and the law's awake.
  THE LAW BoxBack, walked.
-/
import Derived.Test.YticaocadeeolkaaDoorMF

namespace Go.Proofs.YticaocadeeolkaaDoor
open Go.RowKit Plain Go.Proofs.YticaocadeeolkaaDoorW.PrintWords

/-! ### a sound expression's nodes -/
mutual
theorem seg_all {e : List Nd} : ∀ {lo at_ : Nat}, Seg e lo at_ → ∀ k, lo ≤ k → k ≤ at_ → ∃ lo', Seg e lo' k
  | lo, at_, .node x ks hx hk h, k, h1, h2 => by
    by_cases hlt : k < at_
    · exact segs_all h k h1 hlt
    · have : k = at_ := by omega
      exact ⟨lo, this ▸ .node x ks hx hk h⟩
theorem segs_all {e : List Nd} : ∀ {lo hi : Nat} {ks : List Nat}, Segs e lo ks hi → ∀ k, lo ≤ k → k < hi → ∃ lo', Seg e lo' k
  | _, _, _, .nil, k, h1, h2 => by omega
  | _, _, _, .cons (k := m) h h', k, h1, h2 => by
    by_cases hm : k ≤ m
    · exact seg_all h k h1 hm
    · exact segs_all h' k (by omega) h2
end
theorem sound_seg {e : List Nd} (h : Sound e) {k : Nat} (hk : k < e.length) : ∃ lo, Seg e lo k := seg_all h.seg k (Nat.zero_le _) (by omega)
theorem sound_ahead {e : List Nd} (h : Sound e) : Ahead e := fun k x hx => by
  have hlt := (List.getElem?_eq_some_iff.1 hx).1
  obtain ⟨lo, hs⟩ := sound_seg h hlt
  refine ⟨arity_le (form_parts (h.forms x (List.mem_of_getElem? hx))).1, fun j hj => ?_⟩
  obtain ⟨h1, h2, _⟩ := seg_kids hs x hx j hj
  exact ⟨h1, h2⟩

/-- No name within is longer. -/
def tn (M : Nat) : Tm → Prop
  | .var s => s.size ≤ M | .un _ a => tn M a | .bin _ a b => tn M a ∧ tn M b | .ite c a b => tn M c ∧ tn M a ∧ tn M b | _ => True
def good (M : Nat) (t : Tm) : Prop := tpure t ∧ tn M t
theorem made_good {M : Nat} {x : Nd} {l : List Tm} (hx : x.name.size ≤ M) (hl : ∀ t ∈ l, good M t) : good M (made x l) := by
  unfold made
  split
  · have := hl _ List.mem_cons_self; exact ⟨this.1, this.2⟩
  · have h1 := hl _ List.mem_cons_self
    have h2 := hl _ (List.mem_cons_of_mem _ List.mem_cons_self)
    exact ⟨⟨h1.1, h2.1⟩, ⟨h1.2, h2.2⟩⟩
  · have h1 := hl _ List.mem_cons_self
    have h2 := hl _ (List.mem_cons_of_mem _ List.mem_cons_self)
    have h3 := hl _ (List.mem_cons_of_mem _ (List.mem_cons_of_mem _ List.mem_cons_self))
    exact ⟨⟨h1.1, h2.1, h3.1⟩, ⟨h1.2, h2.2, h3.2⟩⟩
  · split
    · exact ⟨trivial, hx⟩
    · exact ⟨trivial, trivial⟩
theorem getD_good {M : Nat} {l : List Tm} (hl : ∀ t ∈ l, good M t) (k : Nat) : good M (l.getD k .nil) := by
  rw [List.getD_eq_getElem?_getD]
  cases h : l[k]? with
  | none => exact ⟨trivial, trivial⟩
  | some t => exact hl t (List.mem_of_getElem? h)
theorem termsGo_good {M : Nat} : ∀ (e : List Nd) (l : List Tm), (∀ x ∈ e, x.name.size ≤ M) → (∀ t ∈ l, good M t) → ∀ t ∈ termsGo e l, good M t
  | [], _, _, hl => hl
  | x :: e, l, he, hl => by
    refine termsGo_good e _ (fun y hy => he y (List.mem_cons_of_mem _ hy)) (fun t ht => ?_)
    rcases List.mem_append.1 ht with h | h
    · exact hl t h
    · rw [List.mem_singleton.1 h]
      refine made_good (he x List.mem_cons_self) (fun u hu => ?_)
      obtain ⟨k, _, rfl⟩ := List.mem_map.1 hu
      exact getD_good hl _
theorem termAt_good {M : Nat} {e : List Nd} (he : ∀ x ∈ e, x.name.size ≤ M) (k : Nat) : good M (termAt e k) := getD_good (termsGo_good e [] he (fun _ h => by cases h)) k

theorem layEnd_names {M : Nat} {op n : Int} {name : ByteArray} {ks : List Int} {l l' : List Nd} (h : layEnd op n name ks l = some l') (hl : ∀ x ∈ l, x.name.size ≤ M) (hn : name.size ≤ M) : ∀ x ∈ l', x.name.size ≤ M := by
  obtain ⟨h1, _⟩ := lay_end_le h
  intro x hx
  rw [h1] at hx
  rcases List.mem_append.1 hx with h | h
  · exact hl x h
  · rw [List.mem_singleton.1 h]; exact hn
theorem lay_names {M : Nat} : ∀ (t : Tm) (l l' : List Nd), tn M t → (∀ x ∈ l, x.name.size ≤ M) → lay t l = some l' → ∀ x ∈ l', x.name.size ≤ M
  | .nil, _, _, _, _, h => by simp [lay] at h
  | .other _ _, _, _, _, _, h => by simp [lay] at h
  | .lit _, _, _, _, hl, h => layEnd_names h hl (Nat.zero_le M)
  | .var _, _, _, ht, hl, h => layEnd_names h hl ht
  | .un op a, l, l', ht, hl, h => by
    simp only [lay] at h
    split at h
    · obtain ⟨l1, h1, h2⟩ := Option.bind_eq_some_iff.1 h
      exact layEnd_names h2 (lay_names a _ _ ht hl (lay_part h1).1) (Nat.zero_le M)
    · cases h
  | .bin op a b, l, l', ht, hl, h => by
    simp only [lay] at h
    split at h
    · obtain ⟨l1, h1, h2⟩ := Option.bind_eq_some_iff.1 h
      obtain ⟨l2, h3, h4⟩ := Option.bind_eq_some_iff.1 h2
      exact layEnd_names h4 (lay_names b _ _ ht.2 (lay_names a _ _ ht.1 hl (lay_part h1).1) (lay_part h3).1) (Nat.zero_le M)
    · cases h
  | .ite c a b, l, l', ht, hl, h => by
    simp only [lay] at h
    obtain ⟨l1, h1, h2⟩ := Option.bind_eq_some_iff.1 h
    obtain ⟨l2, h3, h4⟩ := Option.bind_eq_some_iff.1 h2
    obtain ⟨l3, h5, h6⟩ := Option.bind_eq_some_iff.1 h4
    exact layEnd_names h6 (lay_names b _ _ ht.2.2 (lay_names a _ _ ht.2.1 (lay_names c _ _ ht.1 hl (lay_part h1).1) (lay_part h3).1) (lay_part h5).1) (Nat.zero_le M)

/-! ### Same and Copy -/
/-- No list is longer. -/
structure Short (e : List Nd) : Prop where
  len : e.length ≤ 2513169434843
  kids : ∀ x ∈ e, x.kids.length ≤ 17592186043904
theorem sameInts_refl (l : List Int) (hl : l.length ≤ 17592186043904) : ∀ (d i : Nat), l.length - i = d → i ≤ l.length → ∀ k, d < k → PBoxKeeps.sorrelref02_SameInts.l0 k l l (i : Int) = some true := by
  intro d
  induction d with
  | zero =>
    intro i hd hi k hk
    obtain ⟨k, rfl⟩ : ∃ m, k = m + 1 := ⟨k - 1, by omega⟩
    simp only [PBoxKeeps.sorrelref02_SameInts.l0]
    rw [if_neg (by omega)]
  | succ d ih =>
    intro i hd hi k hk
    obtain ⟨k, rfl⟩ : ∃ m, k = m + 1 := ⟨k - 1, by omega⟩
    simp only [PBoxKeeps.sorrelref02_SameInts.l0]
    have hw : wrap64 ((i : Int) + 1) = ((i + 1 : Nat) : Int) := by unfold wrap64; omega
    rw [if_pos (by omega), if_pos (by omega), if_pos (by omega), if_pos trivial, hw]
    exact ih (i + 1) (by omega) (by omega) k (by omega)
theorem sameNode_refl (x : Nd) (hx : x.kids.length ≤ 17592186043904) (k : Nat) (hk : 17592186043905 ≤ k) : PBoxKeeps.sorrelref02_SameNode.f k x.op x.n x.name x.kids x.op x.n x.name x.kids = some true := by
  unfold PBoxKeeps.sorrelref02_SameNode.f PBoxKeeps.sorrelref02_SameInts.f
  rw [if_pos rfl, if_pos rfl, if_pos rfl, if_pos rfl]
  have := sameInts_refl x.kids hx x.kids.length 0 (by omega) (by omega) k (by omega)
  rw [show ((0 : Nat) : Int) = 0 from rfl] at this
  rw [this]; rfl
theorem same_refl_go (e : List Nd) (h : Short e) : ∀ (d i : Nat), e.length - i = d → i ≤ e.length → ∀ k, d + 17592186043905 < k → PBoxKeeps.sorrelref02_Same.l0 k (e.map toS) (e.map toS) (i : Int) = some true := by
  intro d
  induction d with
  | zero =>
    intro i hd hi k hk
    obtain ⟨k, rfl⟩ : ∃ m, k = m + 1 := ⟨k - 1, by omega⟩
    simp only [PBoxKeeps.sorrelref02_Same.l0]
    rw [List.length_map, if_neg (by omega)]
  | succ d ih =>
    intro i hd hi k hk
    obtain ⟨k, rfl⟩ : ∃ m, k = m + 1 := ⟨k - 1, by omega⟩
    obtain ⟨x, hx⟩ : ∃ x, e[i]? = some x := ⟨_, List.getElem?_eq_getElem (by omega)⟩
    simp only [PBoxKeeps.sorrelref02_Same.l0]
    have hl := h.len
    have hw : wrap64 ((i : Int) + 1) = ((i + 1 : Nat) : Int) := by unfold wrap64; omega
    rw [List.length_map, if_pos (by omega), if_pos (by omega), if_pos (by omega), rd_node hx, hw]
    have := sameNode_refl x (h.kids x (List.mem_of_getElem? hx)) k (by omega)
    simp only [toS]
    rw [this]
    simp only [Option.bind_some, if_true]
    exact ih (i + 1) (by omega) (by omega) k (by omega)
theorem same_any (e : List Nd) (h : Short e) (A B : Option Addr) (c d : Nat) (w : World) (ha : Kd.C kNd w A e.length e) (hc : e.length ≤ c) (hb : Kd.C kNd w B e.length e) (hd : e.length ≤ d) :
    Calls Tryd.prog 13 #[.slice A e.length c, .slice B e.length d] w fun en w' => en = .returned (.bool true) ∧ Below w.heap.size w w' := by
  have h1 : PBoxKeeps.sorrelref02_Same.f (e.length + 17592186043906) (e.map toS) (e.map toS) = some true := by
    unfold PBoxKeeps.sorrelref02_Same.f
    rw [if_pos rfl]
    exact same_refl_go e h e.length 0 (by omega) (by omega) _ (by omega)
  have := PBoxKeeps.sorrelref02_Same.calls (e.length + 17592186043906) A c (e.map toS) B d (e.map toS) true w (by rw [List.length_map]; exact C_toS ha) (by rw [List.length_map]; exact hc) (by rw [List.length_map]; exact C_toS hb) (by rw [List.length_map]; exact hd) h1
  rw [List.length_map] at this
  exact this
theorem copy_go (e : List Nd) (h : Short e) : ∀ (d i : Nat), e.length - i = d → i ≤ e.length → ∀ k, d < k → PBoxKeeps.sorrelref02_Copy.l0 k (e.map toS) ((e.take i).map toS) (i : Int) = some (e.map toS) := by
  intro d
  induction d with
  | zero =>
    intro i hd hi k hk
    obtain ⟨k, rfl⟩ : ∃ m, k = m + 1 := ⟨k - 1, by omega⟩
    simp only [PBoxKeeps.sorrelref02_Copy.l0]
    rw [List.length_map, if_neg (by omega), List.take_of_length_le (by omega)]
  | succ d ih =>
    intro i hd hi k hk
    obtain ⟨k, rfl⟩ : ∃ m, k = m + 1 := ⟨k - 1, by omega⟩
    obtain ⟨x, hx⟩ : ∃ x, e[i]? = some x := ⟨_, List.getElem?_eq_getElem (by omega)⟩
    simp only [PBoxKeeps.sorrelref02_Copy.l0]
    have hl := h.len
    have hk2 := h.kids x (List.mem_of_getElem? hx)
    have hw : wrap64 ((i : Int) + 1) = ((i + 1 : Nat) : Int) := by unfold wrap64; omega
    rw [List.length_map, if_pos (by omega), if_pos (by omega), rd_node hx, hw]
    simp only [toS, Option.bind_some, List.length_nil, Nat.zero_add, List.nil_append]
    rw [if_pos (by omega), if_pos (by simp; omega)]
    have := ih (i + 1) (by omega) (by omega) k (by omega)
    rw [take_next hx, List.map_append] at this
    exact this
theorem S_ofS {e : Nat} {w : World} {base : Nat} {ok : Nat → Prop} {v : Value} {l : List Nd} (h : Kd.S PBoxKeeps.k96 e w base ok v (l.map toS)) : Kd.S kNd e w base ok v l := by
  obtain ⟨f, h1, inner, ho, hr⟩ := h
  refine ⟨f, h1, inner, ?_, ?_, ?_⟩
  · rw [List.length_zipIdx, List.length_map] at ho
    rw [List.length_zipIdx]; exact ho
  · have := hr.1
    rw [List.length_zipIdx, List.length_map] at this
    rw [List.length_zipIdx]; exact this
  · intro j p hp
    rw [List.getElem?_zipIdx] at hp
    obtain ⟨x, hx, rfl⟩ := Option.map_eq_some_iff.1 hp
    have := hr.2 j (toS x, 0 + j) (by rw [List.getElem?_zipIdx, List.getElem?_map, hx]; rfl)
    exact this
theorem copy_any (e : List Nd) (h : Short e) (A : Option Addr) (c : Nat) (w : World) (ha : Kd.C kNd w A e.length e) (hc : e.length ≤ c) :
    Calls Tryd.prog 15 #[.slice A e.length c] w fun en w' => ∃ v, en = .returned v ∧ Kd.S kNd 96 w' w.heap.size (fun _ => True) v e ∧ Below w.heap.size w w' := by
  have h1 : PBoxKeeps.sorrelref02_Copy.f (e.length + 1) (e.map toS) = some (e.map toS) := copy_go e h e.length 0 (by omega) (by omega) _ (by omega)
  have := PBoxKeeps.sorrelref02_Copy.calls (e.length + 1) A c (e.map toS) (e.map toS) w (by rw [List.length_map]; exact C_toS ha) (by rw [List.length_map]; exact hc) h1
  rw [List.length_map] at this
  refine this.mono ?_
  rintro en w' ⟨v, rfl, hS, hB⟩
  exact ⟨v, rfl, S_ofS hS, hB⟩
end Go.Proofs.YticaocadeeolkaaDoor

namespace Go.Proofs.YticaocadeeolkaaDoor
open Go.RowKit Plain Go.Proofs.YticaocadeeolkaaDoorW.PrintWords Go.Proofs.YticaocadeeolkaaDoorW.PrintLast Go.Proofs.YticaocadeeolkaaDoorW.PrintMore

theorem ret_two {a b c d : Value} (h : a = c) (h' : b = d) : Ending.returned (.tuple #[a, b]) = .returned (.tuple #[c, d]) := by rw [h, h']
def BoxOk (e : List Nd) (w : World) (en : Ending) (w' : World) : Prop := Below w.heap.size w w' ∧
  ((check e = true ∧ en = .returned (.tuple #[tval (termAt e (e.length - 1)), .int .i64 0])) ∨ (check e = false ∧ en = .returned (.tuple #[.nilIface, .int .i64 1])))
set_option maxHeartbeats 4000000 in
set_option maxRecDepth 100000 in
theorem box_any (e : List Nd) (A : Option Addr) (c : Nat) (w : World) (ht : Tabs w) (hr : Kd.C kNd w A e.length e) (hn : ∀ x ∈ e, x.name.size ≤ maxLen) :
    Calls Tryd.prog 14 #[.slice A e.length c] w (BoxOk e w) := by
  have HT := Lib.hid ht
  have HR := Lib.hid hr
  have HN := Lib.hid hn
  clear ht hr hn
  cases hck : check e
  · have hE : errOf (check e) = 1 := by rw [hck]; rfl
    have HCK := Lib.hid hck
    clear hck
    go_enter Tryd.func14, Tryd.ntmps14
    go_wp2_with (first | (go_at_call 39; refine (check_any e A c _ HT.out HR.out HN.out).mono ?_; rintro en w1 ⟨rfl, hb1⟩; have HB1 := Lib.hid hb1; clear hb1))
    go_ret2
    exact ⟨HB1.out, .inr ⟨HCK.out, rfl⟩⟩
  · have hE : errOf (check e) = 0 := by rw [hck]; rfl
    have HCK := Lib.hid hck
    have hs := (check_iff e).1 hck
    have h1 := hs.lo
    have h64 := hs.hi
    have HAH := Lib.hid (sound_ahead hs)
    have hsub : IntKind.i64.wrap ((e.length : Int) - 1) = ((e.length - 1 : Nat) : Int) := by rw [i64_w]; unfold wrap64; omega
    clear hck hs
    go_enter Tryd.func14, Tryd.ntmps14
    go_wp2_with (first | (go_at_call 39; refine (check_any e A c _ HT.out HR.out HN.out).mono ?_; rintro en w1 ⟨rfl, hb1⟩; have HB1 := Lib.hid hb1; clear hb1))
    go_at_call 41
    refine (terms_any e A c w1 (Kd.C_below HR.out HB1.out) h64 HAH.out).mono ?_
    rintro en w2 ⟨v, rfl, hR2, hB2⟩
    obtain ⟨A2, c2, rfl, hc2, hC2⟩ := Kd.R_reads hR2
    have htl := termsL_length e
    rw [htl] at hc2 ⊢
    obtain ⟨ad, ead, hcell⟩ := tm_at hC2 (termAt_get e (e.length - 1) (by omega))
    subst ead
    have HB2 := Lib.hid (HB1.out.trans (hB2.mono HB1.out.size))
    clear hR2 hB2 hC2 htl
    generalize hTT : termAt e (e.length - 1) = T at *
    have HTT := Lib.hid hTT
    clear hTT
    go_wp2
    go_ret2
    refine ⟨HB2.out, .inl ⟨HCK.out, ?_⟩⟩
    rw [HTT.out]
    rfl

def OpenOk (t : Tm) (w : World) (en : Ending) (w' : World) : Prop := Below w.heap.size w w' ∧
  ((openT t ≠ [] ∧ ∃ v, en = .returned (.tuple #[v, .int .i64 0]) ∧ Kd.S kNd 96 w' w.heap.size (fun _ => True) v (openT t)) ∨ (openT t = [] ∧ en = .returned (.tuple #[.slice none 0 0, .int .i64 1])))
set_option maxHeartbeats 4000000 in
set_option maxRecDepth 100000 in
theorem open_any (t : Tm) (htf : tfine t) (htn : tn maxLen t) (w : World) (ht : Tabs w) :
    Calls Tryd.prog 12 #[tval t] w (OpenOk t w) := by
  have HT := Lib.hid ht
  have HTF := Lib.hid htf
  have HTN := Lib.hid htn
  clear ht htf htn
  go_enter Tryd.func12, Tryd.ntmps12
  have hlc := lay_any t HTF.out w.heap.size w.heap.size (fun k => w.heap.size ≤ k) (.slice none 0 0) [] (w.alloc (.cells #[.slice none 0 0] 100)) (heap_alloc_new w _) (Nat.le_refl _) (Kd.S_nil _ _ _ _ _) (fun k hk => by simp at hk; omega) (by simp)
  have hba : Below w.heap.size w (w.alloc (.cells #[.slice none 0 0] 100)) := (Below.refl _ _).alloc (Nat.le_refl _) _
  cases hly : lay t [] with
  | none =>
    have HL := Lib.hid (hlc.mono (R' := fun en w1 => en = .returned (.bool false) ∧ Below w.heap.size w w1) (fun en w1 h => by
      rcases h with ⟨v1, l1, h1, _⟩ | ⟨_, h2, h3⟩
      · rw [hly] at h1; cases h1
      · exact ⟨h2, hba.trans h3⟩))
    have HO : Hid (openT t = []) := Lib.hid (open_none hly)
    clear hlc hly hba
    go_wp2_with (first | (go_at_call 38; refine HL.out.mono ?_; rintro en w1 ⟨rfl, hb1⟩; have HB1 := Lib.hid hb1; clear hb1))
    go_ret2
    exact ⟨HB1.out, .inr ⟨HO.out, rfl⟩⟩
  | some l1 =>
    have HL := Lib.hid (hlc.mono (R' := fun en w1 => ∃ A1 c1, en = .returned (.bool true) ∧ w1.cell? ⟨w.heap.size, 0, none⟩ = some (.slice A1 l1.length c1) ∧ Kd.S kNd 96 w1 w.heap.size (fun _ => True) (.slice A1 l1.length c1) l1 ∧ Below w.heap.size w w1 ∧ w.heap.size < w1.heap.size) (fun en w1 h => by
      rcases h with ⟨v1, l2, h1, h2, hG1, hS1, _, hF1⟩ | ⟨h1, _⟩
      · rw [hly] at h1; cases h1
        obtain ⟨A1, c1, rfl, hc1, hC1⟩ := Kd.S_reads hS1
        exact ⟨A1, c1, h2, blk_cell hG1 0, Kd.S_mono hS1 (fun _ _ => trivial), hba.trans hF1.below, World.block_lt_of_cell? w1 _ (blk_cell hG1 0)⟩
      · rw [hly] at h1; cases h1))
    have HN1 := Lib.hid (lay_names t [] l1 HTN.out (fun _ h => by cases h) hly)
    have hl1 := (lay_len hly).1
    have HLY := Lib.hid hly
    clear hlc hly hba
    cases hck : check l1
    · have hE : errOf (check l1) = 1 := by rw [hck]; rfl
      have HO : Hid (openT t = []) := Lib.hid (by unfold openT; rw [HLY.out]; simp [hck])
      clear hck
      go_wp2_with (first | (go_at_call 38; refine HL.out.mono ?_; rintro en w1 ⟨A1, c1, rfl, gcell, hS1, hb1, hgw1⟩; have HB1 := Lib.hid hb1; have HS1 := Lib.hid hS1; clear hb1 hS1) | (go_at_call 39; refine (check_any l1 A1 c1 _ (HT.out.below HB1.out) (Kd.S_reads' HS1.out).2.2 HN1.out).mono ?_; rintro en w2 ⟨rfl, hb2⟩; have HB2 := Lib.hid hb2; clear hb2))
      go_ret2
      exact ⟨HB1.out.trans (HB2.out.mono HB1.out.size), .inr ⟨HO.out, rfl⟩⟩
    · have hE : errOf (check l1) = 0 := by rw [hck]; rfl
      have HO : Hid (openT t = l1) := Lib.hid (by unfold openT; rw [HLY.out]; simp [hck])
      clear hck
      go_wp2_with (first | (go_at_call 38; refine HL.out.mono ?_; rintro en w1 ⟨A1, c1, rfl, gcell, hS1, hb1, hgw1⟩; have HB1 := Lib.hid hb1; have HS1 := Lib.hid hS1; clear hb1 hS1) | (go_at_call 39; refine (check_any l1 A1 c1 _ (HT.out.below HB1.out) (Kd.S_reads' HS1.out).2.2 HN1.out).mono ?_; rintro en w2 ⟨rfl, hb2⟩; have hb := bcell hb2; obtain ⟨gc2, gf2⟩ := hb; have HB2 := Lib.hid hb2; clear hb2))
      go_ret2
      refine ⟨HB1.out.trans (HB2.out.mono HB1.out.size), .inl ⟨?_, _, rfl, ?_⟩⟩
      · rw [HO.out]; intro h; rw [h] at hl1; simp at hl1
      · rw [HO.out]; exact Kd.S_below HS1.out HB2.out

set_option maxHeartbeats 4000000 in
theorem awake_any (w : World) : Calls Tryd.prog 9 #[] w fun en w' => en = .returned (.bool true) ∧ Below w.heap.size w w' := by
  have h1 := fun w => lit_any (.lit 5) trivial w
  have h2 := fun w => op_any (.var ⟨#[97]⟩) trivial w
  unfold tval at h1 h2
  have H1 := Lib.hid h1
  have H2 := Lib.hid h2
  clear h1 h2
  go_enter Tryd.func9, Tryd.ntmps9
  go_wp2_with (first | (go_at_call 33; refine (H1.out _).mono ?_; rintro en w1 ⟨rfl, hb1⟩; unfold numOf isLit; have HB1 := Lib.hid hb1; clear hb1) | (go_at_call 34; refine (H2.out _).mono ?_; rintro en w2 ⟨rfl, hb2⟩; unfold opOf; have HB2 := Lib.hid hb2; clear hb2))
  go_ret
  exact ⟨rfl, HB1.out.trans (HB2.out.mono HB1.out.size)⟩
end Go.Proofs.YticaocadeeolkaaDoor

namespace Go.Proofs.YticaocadeeolkaaDoor
open Go.RowKit Plain Go.Proofs.YticaocadeeolkaaDoorW.PrintWords Go.Proofs.YticaocadeeolkaaDoorW.PrintLast Go.Proofs.YticaocadeeolkaaDoorW.PrintMore

theorem open_sound {e : List Nd} (hs : Sound e) (hn : ∀ x ∈ e, x.name.size ≤ maxLen) (w : World) (ht : Tabs w) :
    Calls Tryd.prog 12 #[tval (termAt e (e.length - 1))] w fun en w' => ∃ A c, en = .returned (.tuple #[.slice A e.length c, .int .i64 0]) ∧ e.length ≤ c ∧ Kd.S kNd 96 w' w.heap.size (fun _ => True) (.slice A e.length c) e ∧ Below w.heap.size w w' := by
  have hg := termAt_good hn (e.length - 1)
  refine (open_any _ (tpure_fine _ hg.1) hg.2 w ht).mono ?_
  rintro en w' ⟨hb, h⟩
  rw [(open_term hs).2] at h
  rcases h with ⟨_, v, rfl, hS⟩ | ⟨h1, _⟩
  · obtain ⟨A, c, rfl, hc, _⟩ := Kd.S_reads hS
    exact ⟨A, c, rfl, hc, hS, hb⟩
  · have := hs.lo; rw [h1] at this; simp at this

set_option maxHeartbeats 8000000 in
set_option maxRecDepth 100000 in
theorem back_any (e : List Nd) (A : Option Addr) (c : Nat) (w : World) (ht : Tabs w) (hr : Kd.C kNd w A e.length e) (hc : e.length ≤ c) (hn : ∀ x ∈ e, x.name.size ≤ maxLen) (hsh : Short e) :
    Calls Tryd.prog 4 #[.slice A e.length c] w fun en w' => en = .returned (.bool true) ∧ Below w.heap.size w w' := by
  have HT := Lib.hid ht
  have HR := Lib.hid hr
  have HN := Lib.hid hn
  have HN2 := Lib.hid (fun x hx => (show x.name.size ≤ 9223372036854775807 from hn x hx))
  have HC := Lib.hid hc
  have HSH := Lib.hid hsh
  clear ht hr hn hc hsh
  cases hck : check e
  · have hE : errOf (check e) = 1 := by rw [hck]; rfl
    have HCK := Lib.hid hck
    clear hck
    go_enter Tryd.func4, Tryd.ntmps4
    go_wp2_with (first
      | (go_at_call 9; refine (awake_any _).mono ?_; rintro en w1 ⟨rfl, hb1⟩; have HB1 := Lib.hid hb1; clear hb1)
      | (go_at_call 15; refine (copy_any e HSH.out A c _ (Kd.C_below HR.out HB1.out) HC.out).mono ?_; rintro en w2 ⟨v2, rfl, hS2, hb2⟩; obtain ⟨A2, c2, e2, _, hC2⟩ := Kd.S_reads hS2; subst e2; have HC2 := Lib.hid hC2; have HB2 := Lib.hid (HB1.out.trans (hb2.mono HB1.out.size)); clear hb2 hC2 hS2)
      | (go_at_call 14; refine (box_any e _ _ _ (HT.out.below HB2.out) HC2.out HN.out).mono ?_; rintro en w3 ⟨hb3, h3⟩; have HB3 := Lib.hid (HB2.out.trans (hb3.mono HB2.out.size)); have h3' := h3.resolve_left (fun h => by have := HCK.out; rw [h.1] at this; cases this); obtain ⟨_, e3⟩ := h3'; subst e3; clear hb3 h3)
      | (go_at_call 16; refine (rcheck_any e A c _ (Kd.C_below HR.out HB3.out) HC.out HN2.out).mono ?_; rintro en w4 ⟨rfl, hb4⟩; have HB4 := Lib.hid (HB3.out.trans (hb4.mono HB3.out.size)); clear hb4))
    go_ret
    exact ⟨rfl, HB4.out⟩
  · have hE : errOf (check e) = 0 := by rw [hck]; rfl
    have HCK := Lib.hid hck
    have HSD := Lib.hid ((check_iff e).1 hck)
    have h1 := HSD.out.lo
    have h64 := HSD.out.hi
    have hsub : IntKind.i64.wrap ((e.length : Int) - 1) = ((e.length - 1 : Nat) : Int) := by rw [i64_w]; unfold wrap64; omega
    have HOF := Lib.hid (of_any e A c HSD.out.forms e.length (e.length - 1) 0 (by omega) HSD.out.seg)
    have HOP := Lib.hid (open_sound HSD.out HN.out)
    have HAL := Lib.hid (alike_self (termAt e (e.length - 1)) (termAt_good HN.out (e.length - 1)).1)
    clear hck
    go_enter Tryd.func4, Tryd.ntmps4
    go_wp2_with (first
      | (go_at_call 9; refine (awake_any _).mono ?_; rintro en w1 ⟨rfl, hb1⟩; have HB1 := Lib.hid hb1; clear hb1)
      | (go_at_call 15; refine (copy_any e HSH.out A c _ (Kd.C_below HR.out HB1.out) HC.out).mono ?_; rintro en w2 ⟨v2, rfl, hS2, hb2⟩; obtain ⟨A2, c2, e2, _, hC2⟩ := Kd.S_reads hS2; subst e2; have HC2 := Lib.hid hC2; have HB2 := Lib.hid (HB1.out.trans (hb2.mono HB1.out.size)); clear hb2 hC2 hS2)
      | (go_at_call 14; refine (box_any e _ _ _ (HT.out.below HB2.out) HC2.out HN.out).mono ?_; rintro en w3 ⟨hb3, h3⟩; have HB3 := Lib.hid (HB2.out.trans (hb3.mono HB2.out.size)); have h3' := h3.resolve_right (fun h => by have := HCK.out; rw [h.1] at this; cases this); obtain ⟨_, e3⟩ := h3'; subst e3; clear hb3 h3)
      | (go_at_call 16; refine (rcheck_any e A c _ (Kd.C_below HR.out HB3.out) HC.out HN2.out).mono ?_; rintro en w4 ⟨rfl, hb4⟩; have HB4 := Lib.hid (HB3.out.trans (hb4.mono HB3.out.size)); clear hb4)
      | (go_at_call 12; refine (HOP.out _ (HT.out.below HB4.out)).mono ?_; rintro en w5 ⟨A5, c5, rfl, hc5, hS5, hb5⟩; have HC5 := Lib.hid (Kd.S_reads' hS5).2.2; have HCC5 := Lib.hid hc5; have HB5 := Lib.hid (HB4.out.trans (hb5.mono HB4.out.size)); clear hb5 hS5 hc5)
      | (go_at_call 18; refine (HOF.out _ (Kd.C_below HR.out HB5.out)).mono ?_; rintro en w6 ⟨rfl, hb6⟩; have HB6 := Lib.hid (HB5.out.trans (hb6.mono HB5.out.size)); have HB56 := Lib.hid hb6; clear hb6)
      | (go_at_call 17; refine (HAL.out _).mono ?_; rintro en w7 ⟨rfl, hb7⟩; have HB7 := Lib.hid (HB6.out.trans (hb7.mono HB6.out.size)); have HB57 := Lib.hid (HB56.out.trans (hb7.mono HB56.out.size)); clear hb7)
      | (go_at_call 13; refine (same_any e HSH.out _ _ _ _ _ (Kd.C_below HC5.out HB57.out) HCC5.out (Kd.C_below HR.out HB7.out) HC.out).mono ?_; rintro en w8 ⟨rfl, hb8⟩; have HB8 := Lib.hid (HB7.out.trans (hb8.mono HB7.out.size)); clear hb8))
    go_ret
    exact ⟨rfl, HB8.out⟩
end Go.Proofs.YticaocadeeolkaaDoor
