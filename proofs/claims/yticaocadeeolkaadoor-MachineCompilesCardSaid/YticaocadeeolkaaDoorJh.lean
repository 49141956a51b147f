/-
  PLAIN: what machine.Compile lays is a sound program for the pattern's holes.
-/
import Derived.Test.YticaocadeeolkaaDoorJA
import Derived.Test.YticaocadeeolkaaDoorJg
namespace Go.Proofs.YticaocadeeolkaaDoor.Plain
open Go

/-- The compiler's state. -/
structure CSt where
  list : List Cm
  regs : Int
  taken : ByteArray → Option Int
open Classical in
noncomputable def idx : List ByteArray → ByteArray → Nat
  | [], _ => 0
  | t :: r, s => if t = s then 0 else idx r s + 1
open Classical in
noncomputable def takeC (hs : List ByteArray) (name : ByteArray) (reg : Int) (s : CSt) : CSt :=
  { list := s.list ++ [⟨3, reg, (idx hs name : Int), 0, 0, ⟨#[]⟩⟩], regs := s.regs, taken := fun t => if t = name then some reg else s.taken t }
def sameC (r reg : Int) (s : CSt) : CSt := { s with list := s.list ++ [⟨2, r, reg, 0, 0, ⟨#[]⟩⟩] }
def classC (x : Nd) (reg : Int) (s : CSt) : CSt := { list := s.list ++ [⟨1, reg, s.regs, x.op, x.n, x.name⟩], regs := s.regs + x.kids.length, taken := s.taken }
noncomputable def kidsC (F : Nat → Int → CSt → CSt) : List Int → Int → CSt → CSt
  | [], _, s => s
  | k :: r, reg, s => kidsC F r (reg + 1) (F k.toNat reg s)
noncomputable def comp (e : List Nd) (hs : List ByteArray) : Nat → Nat → Int → CSt → CSt
  | 0, _, _, s => s
  | f + 1, i, reg, s => match e[i]? with
    | none => s
    | some x => if x.op = 18 then (match s.taken x.name with | some r => sameC r reg s | none => takeC hs x.name reg s)
      else kidsC (comp e hs f) x.kids s.regs (classC x reg s)
def csStart : CSt := ⟨[], 1, fun _ => none⟩

/-- How the state stands: the commands so far are sound; the taken holes are those that are known. -/
structure CInv (hs : List ByteArray) (s : CSt) : Prop where
  run : ∃ tk, runM hs.length s.list (runStart hs.length) = some (s.regs, tk) ∧ tk.length = hs.length ∧ ∀ (j : Nat) t, hs[j]? = some t → (tk[j]? = some true ↔ (s.taken t).isSome = true)
  reg : ∀ t r, s.taken t = some r → 0 ≤ r ∧ r < s.regs
  pos : 1 ≤ s.regs

theorem idx_at : ∀ {hs : List ByteArray} {s : ByteArray}, s ∈ hs → hs[idx hs s]? = some s
  | [], _, h => by cases h
  | t :: r, s, h => by
    unfold idx
    split
    · rename_i he; subst he; rfl
    · rename_i he
      rcases List.mem_cons.1 h with h1 | h1
      · exact absurd h1.symm he
      · simpa using idx_at h1
theorem idx_eq : ∀ {hs : List ByteArray} {s : ByteArray} {i : Nat}, hs[i]? = some s → (∀ j, j < i → hs[j]? ≠ some s) → idx hs s = i
  | [], _, _, h, _ => by simp at h
  | t :: r, s, i, h, hn => by
    unfold idx
    split
    · rename_i he
      cases i with
      | zero => rfl
      | succ i => exact absurd (by simp [he]) (hn 0 (by omega))
    · rename_i he
      cases i with
      | zero => exact absurd (by simpa using h) he
      | succ i => rw [idx_eq (hs := r) (i := i) (by simpa using h) (fun j hj => by have := hn (j + 1) (by omega); simpa using this)]
theorem idx_lt {hs : List ByteArray} {s : ByteArray} (h : s ∈ hs) : idx hs s < hs.length := (List.getElem?_eq_some_iff.1 (idx_at h)).1
theorem same_inv {hs : List ByteArray} {s : CSt} (h : CInv hs s) {t : ByteArray} {r reg : Int} (ht : s.taken t = some r) (h0 : 0 ≤ reg) (h1 : reg < s.regs) : CInv hs (sameC r reg s) := by
  obtain ⟨tk, h2, h3, h4⟩ := h.run
  obtain ⟨r0, r1⟩ := h.reg t r ht
  refine ⟨⟨tk, ?_, h3, h4⟩, h.reg, h.pos⟩
  show runM hs.length (s.list ++ _) _ = _
  rw [runM_snoc h2]
  unfold stepM
  rw [if_neg (by simp only; omega)]
  simp [Cm.bare, h0, h1, sameC]
theorem take_inv {hs : List ByteArray} (hnd : hs.Nodup) {s : CSt} (h : CInv hs s) {t : ByteArray} {reg : Int} (hm : t ∈ hs) (ht : s.taken t = none) (h0 : 0 ≤ reg) (h1 : reg < s.regs) : CInv hs (takeC hs t reg s) := by
  classical
  obtain ⟨tk, h2, h3, h4⟩ := h.run
  have hi := idx_lt hm
  have hget : tk[idx hs t]? = some false := by
    obtain ⟨b, hb⟩ : ∃ b, tk[idx hs t]? = some b := ⟨_, List.getElem?_eq_getElem (by omega)⟩
    cases b
    · exact hb
    · have := (h4 _ _ (idx_at hm)).1 hb
      rw [ht] at this; cases this
  refine ⟨⟨tk.set (idx hs t) true, ?_, by simp [h3], fun j u hu => ?_⟩, fun u r hu => ?_, h.pos⟩
  · show runM hs.length (s.list ++ _) _ = _
    rw [runM_snoc h2]
    unfold stepM
    rw [if_neg (by simp only; omega)]
    simp [Cm.bare, takeC, hi, List.getD_eq_getElem?_getD, hget]
  · by_cases hj : idx hs t = j
    · have hut : u = t := by rw [← hj, idx_at hm] at hu; exact (Option.some.inj hu).symm
      subst hj
      rw [List.getElem?_set_self (by omega)]
      simp [takeC, hut]
    · have hut : u ≠ t := by
        rintro rfl
        have hlt := (List.getElem?_eq_some_iff.1 hu).1
        have h5 := (List.getElem?_eq_some_iff.1 hu).2
        have h6 := (List.getElem?_eq_some_iff.1 (idx_at hm)).2
        exact hj ((List.getElem_inj hnd).1 (h6.trans h5.symm))
      rw [List.getElem?_set_ne hj]
      simp only [takeC, if_neg hut]
      exact h4 j u hu
  · simp only [takeC] at hu
    split at hu
    · cases hu; exact ⟨h0, h1⟩
    · exact h.reg u r hu
theorem class_inv {hs : List ByteArray} {s : CSt} (h : CInv hs s) {x : Nd} {reg : Int} (hf : form x = true) (h0 : 0 ≤ reg) (h1 : reg < s.regs) : CInv hs (classC x reg s) := by
  obtain ⟨tk, h2, h3, h4⟩ := h.run
  have hp := h.pos
  cases ha : arity x.op with
  | none => simp [form, formB, ha] at hf
  | some k =>
    have hk : x.kids.length = k := by
      unfold form formB at hf
      rw [ha] at hf
      simp only [Bool.and_eq_true, beq_iff_eq] at hf
      exact hf.1.1
    refine ⟨⟨tk, ?_, h3, h4⟩, fun t r ht => ?_, ?_⟩
    · show runM hs.length (s.list ++ _) _ = _
      rw [runM_snoc h2]
      unfold stepM
      rw [if_neg (by simp only; omega)]
      unfold form at hf
      rw [hk] at hf
      simp [ha, hf, classC, hk]
    · have := h.reg t r ht
      simp only [classC]; omega
    · simp only [classC]; omega
structure CStep (hs : List ByteArray) (e : List Nd) (lo hi : Nat) (s s' : CSt) : Prop where
  inv : CInv hs s'
  mono : s.regs ≤ s'.regs
  top : s'.regs ≤ s.regs + 3 * (hi - lo : Nat)
  dom : ∀ t, (s.taken t).isSome = true → (s'.taken t).isSome = true
  cover : ∀ j x, lo ≤ j → j < hi → e[j]? = some x → x.op = 18 → (s'.taken x.name).isSome = true
  len : s'.list.length = s.list.length + (hi - lo)
theorem CStep.refl {hs : List ByteArray} {e : List Nd} {lo : Nat} {s : CSt} (h : CInv hs s) : CStep hs e lo lo s s :=
  ⟨h, Int.le_refl _, by omega, fun _ h => h, fun j x h1 h2 => by omega, by omega⟩
theorem CStep.trans {hs : List ByteArray} {e : List Nd} {lo mid hi : Nat} {s s1 s2 : CSt} (h1 : CStep hs e lo mid s s1) (h2 : CStep hs e mid hi s1 s2) (ha : lo ≤ mid) (hb : mid ≤ hi) : CStep hs e lo hi s s2 where
  inv := h2.inv
  mono := Int.le_trans h1.mono h2.mono
  top := by have := h1.top; have := h2.top; omega
  dom := fun t h => h2.dom t (h1.dom t h)
  cover := fun j x hl hh hx ho => by
    by_cases hj : j < mid
    · exact h2.dom _ (h1.cover j x hl hj hx ho)
    · exact h2.cover j x (by omega) hh hx ho
  len := by rw [h2.len, h1.len]; omega
theorem form_kids {x : Nd} (hf : form x = true) : ∃ k, arity x.op = some k ∧ x.kids.length = k := by
  unfold form formB at hf
  cases ha : arity x.op with
  | none => rw [ha] at hf; cases hf
  | some k =>
    rw [ha] at hf
    simp only [Bool.and_eq_true, beq_iff_eq] at hf
    exact ⟨k, rfl, hf.1.1⟩
theorem hole_kids {x : Nd} (hf : form (plainN x) = true) (ho : x.op = 18) : x.kids = [] := by
  obtain ⟨k, h1, h2⟩ := form_kids hf
  have h3 : (plainN x).op = 2 := by unfold plainN; rw [if_pos ho]
  rw [h3] at h1
  have h4 : k = 0 := by
    have : arity 2 = some 0 := by decide
    rw [this] at h1; exact (Option.some.inj h1).symm
  rw [plainN_kids, h4] at h2
  exact List.length_eq_zero_iff.1 h2
theorem plain_self {x : Nd} (ho : ¬ x.op = 18) : plainN x = x := by unfold plainN; rw [if_neg ho]
/-- What F does at each place below f. -/
def NodeLaw (hs : List ByteArray) (e : List Nd) (f : Nat) (F : Nat → Int → CSt → CSt) : Prop :=
  ∀ (lo i : Nat), Seg e lo i → i < f → ∀ (reg : Int) (s : CSt), CInv hs s → 0 ≤ reg → reg < s.regs → CStep hs e lo (i + 1) s (F i reg s)
theorem kids_law {hs : List ByteArray} {e : List Nd} {f : Nat} {F : Nat → Int → CSt → CSt} (ih : NodeLaw hs e f F) : ∀ {lo hi : Nat} {ks : List Nat}, Segs e lo ks hi → hi ≤ f → ∀ (reg : Int) (s : CSt), CInv hs s → 0 ≤ reg → reg + ks.length ≤ s.regs →
    CStep hs e lo hi s (kidsC F (ks.map (fun (k : Nat) => (k : Int))) reg s)
  | _, _, _, .nil, _, _, _, h, _, _ => CStep.refl h
  | lo, hi, _, .cons (k := k) (ks := ks) h1 h2, hf, reg, s, h, h0, hr => by
    have hle := h2.le
    have hlk := h1.le
    have s1 := ih lo k h1 (by omega) reg s h h0 (by simp at hr; omega)
    have s2 := kids_law ih h2 hf (reg + 1) (F k reg s) s1.inv (by omega) (by have := s1.mono; simp at hr; omega)
    exact s1.trans s2 (by omega) hle
theorem comp_law {hs : List ByteArray} {e : List Nd} (hnd : hs.Nodup) (hfm : ∀ x ∈ e, form (plainN x) = true) (hhs : ∀ x ∈ e, x.op = 18 → x.name ∈ hs) : ∀ (f : Nat), NodeLaw hs e f (comp e hs f)
  | 0, _, _, _, h, _, _, _, _, _ => by omega
  | f + 1, lo, i, hseg, hif, reg, s, h, h0, h1 => by
    cases hseg with
    | node x ks hx hk hs2 =>
      have hmem := List.mem_of_getElem? hx
      have hle := hs2.le
      rw [comp, hx]
      simp only
      by_cases ho : x.op = 18
      · rw [if_pos ho]
        have hk0 := hole_kids (hfm x hmem) ho
        have hks : ks = [] := by
          rw [hk0] at hk
          cases ks with
          | nil => rfl
          | cons _ _ => cases hk
        subst hks
        have hlo : lo = i := by cases hs2; rfl
        subst hlo
        cases ht : s.taken x.name with
        | some r =>
          simp only
          refine ⟨same_inv h ht h0 h1, Int.le_refl _, by simp only [sameC]; omega, fun _ h => h, fun j y hl hh hy _ => ?_, by simp [sameC]⟩
          have : j = lo := by omega
          subst this
          rw [hx] at hy; cases hy
          simp [sameC, ht]
        | none =>
          simp only
          refine ⟨take_inv hnd h (hhs x hmem ho) ht h0 h1, Int.le_refl _, by simp only [takeC]; omega, fun t h2 => ?_, fun j y hl hh hy _ => ?_, by simp [takeC]⟩
          · simp only [takeC]
            split
            · rfl
            · exact h2
          · have : j = lo := by omega
            subst this
            rw [hx] at hy; cases hy
            simp [takeC]
      · rw [if_neg ho]
        have hf := hfm x hmem
        rw [plain_self ho] at hf
        have hc := class_inv h hf h0 h1
        obtain ⟨k, ha, hkl⟩ := form_kids hf
        have hk3 := arity_le ha
        have hlen : ks.length = k := by rw [← hkl, hk]; simp
        have hp := h.pos
        have s2 := kids_law (comp_law hnd hfm hhs f) hs2 (by omega) s.regs (classC x reg s) hc (by omega) (by simp only [classC]; rw [hkl, hlen]; omega)
        have e1 : (classC x reg s).regs = s.regs + x.kids.length := rfl
        have e2 : (classC x reg s).list.length = s.list.length + 1 := by simp [classC]
        rw [hk]
        refine ⟨s2.inv, ?_, ?_, fun t h3 => s2.dom t h3, fun j y hl hh hy hyo => ?_, ?_⟩
        · have := s2.mono; rw [e1] at this; omega
        · have := s2.top; rw [e1] at this; omega
        · by_cases hj : j < i
          · exact s2.cover j y hl hj hy hyo
          · have : j = i := by omega
            subst this
            rw [hx] at hy; cases hy
            exact absurd hyo ho
        · have := s2.len; rw [e2] at this; omega
/-! ### the pattern's holes: each once, and all -/
theorem holesGo_nodup : ∀ (e : List Nd) (l : List ByteArray), l.Nodup → (holesGo e l).Nodup
  | [], _, h => h
  | x :: r, l, h => by
    rw [holesGo]
    apply holesGo_nodup
    split
    · rename_i hc
      exact List.nodup_append.2 ⟨h, by simp, fun a ha b hb => by rw [List.mem_singleton.1 hb]; rintro rfl; exact hc.2 ha⟩
    · exact h
theorem holesL_nodup (e : List Nd) : (holesL e).Nodup := holesGo_nodup e [] (by simp)
theorem holesGo_keep : ∀ (e : List Nd) (l : List ByteArray), ∀ s ∈ l, s ∈ holesGo e l
  | [], _, _, h => h
  | x :: r, l, s, h => by
    rw [holesGo]
    apply holesGo_keep
    split
    · exact List.mem_append_left _ h
    · exact h
theorem holesGo_all : ∀ (e : List Nd) (l : List ByteArray), ∀ x ∈ e, x.op = 18 → x.name ∈ holesGo e l
  | y :: r, l, x, hx, ho => by
    rw [holesGo]
    rcases List.mem_cons.1 hx with rfl | h
    · apply holesGo_keep
      by_cases hm : x.name ∈ l
      · rw [if_neg (fun h => h.2 hm)]; exact hm
      · rw [if_pos ⟨ho, hm⟩]; simp
    · exact holesGo_all r _ x h ho
theorem holesL_all {e : List Nd} {x : Nd} (hx : x ∈ e) (ho : x.op = 18) : x.name ∈ holesL e := holesGo_all e [] x hx ho
theorem holesL_mem {e : List Nd} {s : ByteArray} (h : s ∈ holesL e) : ∃ x ∈ e, x.op = 18 ∧ x.name = s := by
  rcases holesGo_names e [] s h with h1 | h1
  · cases h1
  · exact h1
/-- A sound pattern. -/
structure SoundP (e : List Nd) : Prop where
  lo : 1 ≤ e.length
  hi : e.length ≤ 16
  h6 : (holesL e).length ≤ 6
  forms : ∀ x ∈ e, form (plainN x) = true
  seg : Seg e 0 (e.length - 1)
mutual
theorem seg_plain {e : List Nd} : ∀ {lo at_ : Nat}, Seg (plainL e) lo at_ → Seg e lo at_
  | _, at_, .node x ks hx hk h => by
    unfold plainL at hx
    rw [List.getElem?_map] at hx
    obtain ⟨y, hy, rfl⟩ := Option.map_eq_some_iff.1 hx
    exact .node y ks hy (by rw [← plainN_kids]; exact hk) (segs_plain h)
theorem segs_plain {e : List Nd} : ∀ {lo hi : Nat} {ks : List Nat}, Segs (plainL e) lo ks hi → Segs e lo ks hi
  | _, _, _, .nil => .nil
  | _, _, _, .cons h h' => .cons (seg_plain h) (segs_plain h')
end
theorem patCheck_sound {e : List Nd} (h : patCheck e = true) : SoundP e := by
  unfold patCheck at h
  simp only [Bool.and_eq_true, decide_eq_true_eq] at h
  obtain ⟨⟨h1, h2⟩, h3⟩ := h
  obtain ⟨g1, g2, g3, g4⟩ := (check_iff _).1 h3
  rw [plainL_len] at g1 g4
  exact ⟨g1, h1, h2, fun x hx => g3 _ (List.mem_map.2 ⟨x, hx, rfl⟩), seg_plain g4⟩
/-- THE LAW. -/
theorem compile_law {e : List Nd} (h : SoundP e) : mcheck (comp e (holesL e) e.length (e.length - 1) 0 csStart).list ((holesL e).length : Int) = true ∧ (comp e (holesL e) e.length (e.length - 1) 0 csStart).list.length = e.length := by
  have hlo := h.lo
  have hhi := h.hi
  have h6 := h.h6
  have h0 : CInv (holesL e) csStart := by
    refine ⟨⟨List.replicate (holesL e).length false, rfl, by simp, fun j t hj => ?_⟩, fun t r ht => (by cases ht), Int.le_refl _⟩
    have hlt := (List.getElem?_eq_some_iff.1 hj).1
    simp [hlt, csStart]
  have hst := comp_law (holesL_nodup e) h.forms (fun x hx ho => holesL_all hx ho) e.length 0 (e.length - 1) h.seg (by omega) 0 csStart h0 (Int.le_refl _) (by simp [csStart])
  have hln := hst.len
  have hcv := hst.cover
  obtain ⟨⟨tk, r1, r2, r3⟩, _, _⟩ := hst.inv
  generalize comp e (holesL e) e.length (e.length - 1) 0 csStart = s at *
  have hl : s.list.length = e.length := by rw [hln]; simp [csStart]; omega
  refine ⟨?_, hl⟩
  unfold mcheck
  rw [Int.toNat_natCast, r1, decide_eq_true (show (0 : Int) ≤ ((holesL e).length : Int) by omega), decide_eq_true (show ((holesL e).length : Int) ≤ 6 by omega), decide_eq_true (show s.list.length ≤ 64 by omega)]
  simp only [Bool.true_and]
  rw [List.all_eq_true]
  intro b hb
  obtain ⟨j, hj⟩ := List.getElem?_of_mem hb
  have hjl : j < (holesL e).length := by rw [← r2]; exact (List.getElem?_eq_some_iff.1 hj).1
  obtain ⟨x, hx, ho, hn⟩ := holesL_mem (List.getElem_mem hjl)
  obtain ⟨i, hi⟩ := List.getElem?_of_mem hx
  have hil := (List.getElem?_eq_some_iff.1 hi).1
  have := hcv i x (by omega) (by omega) hi ho
  rw [hn] at this
  have h2 := (r3 j _ (List.getElem?_eq_getElem hjl)).2 this
  rw [hj] at h2
  exact Option.some.inj h2
end Go.Proofs.YticaocadeeolkaaDoor.Plain
