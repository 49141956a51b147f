/-
  THE WALKS of both Checks: each answers OK just where 'check' does.
-/
import Derived.Test.YticaocadeeolkaaDoorBc
namespace Go.Proofs.YticaocadeeolkaaDoor
open Go.RowKit Plain Go.Proofs.YticaocadeeolkaaDoorW.PrintWords

/-- The cells of a node in a list that is read. -/
theorem nd_at {w : World} {A : Option Addr} {n : Nat} {e : List Nd} (h : Kd.C kNd w A n e) {k : Nat} {x : Nd} (hx : e[k]? = some x) :
    ∃ ad A3 c3, A = some ad ∧ w.cell? (ad.add (k * 4)) = some (.int .i64 x.op) ∧ w.cell? ⟨(ad.add (k * 4)).block, (ad.add (k * 4)).off + 1, none⟩ = some (.int .i64 x.n) ∧
      w.cell? ⟨(ad.add (k * 4)).block, (ad.add (k * 4)).off + 2, none⟩ = some (.string x.name) ∧ w.cell? ⟨(ad.add (k * 4)).block, (ad.add (k * 4)).off + 3, none⟩ = some (.slice A3 x.kids.length c3) ∧
      x.kids.length ≤ c3 ∧ (Kd.int .i64).C w A3 x.kids.length x.kids := by
  have hlt : k < e.length := (List.getElem?_eq_some_iff.1 hx).1
  have hn : e.length = n := h.1
  obtain ⟨ad, A3, c3, h1, h2, h3, h4, h5, h6, h7⟩ := PBoxKeeps.at_T96 (C_toS h) (k : Int) (by omega) (by omega)
  rw [rd_node hx, Int.toNat_natCast] at *
  exact ⟨ad, A3, c3, h1, h2, h3, h4, h5, h6, h7⟩
theorem nd_below {w w' : World} (hb : Below w.heap.size w w') {a : Addr} {v : Value} (h : w.cell? a = some v) : w'.cell? a = some v := (hb.cell (World.block_lt_of_cell? w a h)).trans h

/-- slices.Equal of two lists of numbers. -/
theorem equal_loop (a b : List Int) (hl : a.length = b.length) (hm : a.length ≤ 9223372036854775807) : ∀ (d : Nat) (i : Nat), a.length - i = d → i ≤ a.length → (∀ j, j < i → a[j]? = b[j]?) →
    ∀ k, d < k → PBoxKeeps.slices_Equal_int_int.l0 k a b (a.length : Int) (i : Int) = some (a == b) := by
  intro d
  induction d with
  | zero =>
    intro i hd hi hj k hk
    obtain ⟨k, rfl⟩ : ∃ m, k = m + 1 := ⟨k - 1, by omega⟩
    simp only [PBoxKeeps.slices_Equal_int_int.l0]
    rw [if_neg (by omega)]
    have : a = b := List.ext_getElem? fun j => by
      by_cases h : j < i
      · exact hj j h
      · rw [List.getElem?_eq_none (by omega), List.getElem?_eq_none (by omega)]
    rw [this]; simp
  | succ d ih =>
    intro i hd hi hj k hk
    obtain ⟨k, rfl⟩ : ∃ m, k = m + 1 := ⟨k - 1, by omega⟩
    simp only [PBoxKeeps.slices_Equal_int_int.l0]
    rw [if_pos (by omega), if_pos (by omega), if_pos (by omega), if_pos (by omega), rd_cast (by omega), rd_cast (by omega)]
    by_cases h : a[i] = b[i]
    · rw [if_pos h]
      have hw : wrap64 ((i : Int) + 1) = ((i + 1 : Nat) : Int) := by unfold wrap64; omega
      rw [hw]
      exact ih (i + 1) (by omega) (by omega) (fun j hj' => by
        by_cases e : j = i
        · subst e; rw [List.getElem?_eq_getElem (by omega), List.getElem?_eq_getElem (by omega), h]
        · exact hj j (by omega)) k (by omega)
    · rw [if_neg h]
      have : (a == b) = false := by
        rw [beq_eq_false_iff_ne]
        intro e
        subst e
        exact h rfl
      rw [this]
theorem equal_f (a b : List Int) (hm : a.length ≤ 9223372036854775807) : PBoxKeeps.slices_Equal_int_int.f (a.length + 1) a b = some (a == b) := by
  unfold PBoxKeeps.slices_Equal_int_int.f
  by_cases h : a.length = b.length
  · rw [if_pos (by omega)]
    exact equal_loop a b h hm a.length 0 (by omega) (by omega) (fun j hj => by omega) _ (by omega)
  · rw [if_neg (by omega)]
    have : (a == b) = false := by
      rw [beq_eq_false_iff_ne]
      intro e
      exact h (by rw [e])
    rw [this]
theorem equal_any (a b : List Int) (A B : Option Addr) (c d : Nat) (w : World) (ha : (Kd.int .i64).C w A a.length a) (hc : a.length ≤ c) (hb : (Kd.int .i64).C w B b.length b) (hd : b.length ≤ d) :
    Calls Tryd.prog 60 #[.slice A a.length c, .slice B b.length d] w fun e w' => e = .returned (.bool (a == b)) ∧ ∃ n, w' = w.drewN n :=
  (PBoxKeeps.slices_Equal_int_int.calls (a.length + 1) A c a B d b (a == b) w ha hc hb hd (equal_f a b ha.2.1)).mono fun _ _ ⟨he, hw⟩ => ⟨he, hw.out⟩

theorem equal_len (a b : List Int) (A B : Option Addr) (n m c d : Nat) (w : World) (hn : a.length = n) (hm : b.length = m) (ha : (Kd.int .i64).C w A a.length a) (hc : n ≤ c) (hb : (Kd.int .i64).C w B b.length b) (hd : m ≤ d) (q : Bool) (hq : (a == b) = q) :
    Calls Tryd.prog 60 #[.slice A n c, .slice B m d] w fun e w' => e = .returned (.bool q) ∧ ∃ n, w' = w.drewN n := by
  subst hn; subst hm; subst hq
  exact equal_any a b A B c d w ha hc hb hd
theorem check_short {e : List Nd} (h : ¬ (1 ≤ e.length ∧ e.length ≤ 64)) : check e = false := by
  unfold check
  by_cases h1 : 1 ≤ e.length
  · have : decide (e.length ≤ 64) = false := decide_eq_false (by omega)
    simp [this]
  · simp [h1]
theorem cut_from {P : Program} {α : Type} (d : Kd α) (t e : TypeId) {i : TypeInfo} (ht : P.underlying t = some (.slice e)) (hi : P.info? e = some i) (hsz : i.size = d.sz) (A : Option Addr) (c n m : Nat) (hm : m ≤ n) :
    ∃ A' : Option Addr, (∀ W : World, (Instr.slice t (.slice A n c) (some (.int .i64 (m : Int))) none none).run P W = .ok (.slice A' (n - m) (c - m)) W) ∧
      ∀ (w : World) (xs : List α), xs.length = n → n ≤ c → d.C w A xs.length xs → d.C w A' (xs.drop m).length (xs.drop m) := by
  refine ⟨if c = m then A else A.map (·.add (m * d.sz)), fun W => ?_, fun w xs hx hc h => Kd.C_drop h (by omega) (by omega)⟩
  have hel : P.elem t = e := by simp [Program.elem, ht]
  have hu : P.underlying t = some (.slice (P.elem t)) := by rw [hel]; exact ht
  rw [run_slice_l W t A n c hu .i64 (m : Int) (Int.natCast_nonneg _) (by omega), hel]
  simp [sizeOf, typeInfo, hi, hsz, sliced, Result.andThen]
theorem cell4 (w : World) (a b c d : Value) (T : TypeId) : (w.alloc (.cells #[a, b, c, d] T)).cell? ⟨w.heap.size, 0, none⟩ = some a ∧ (w.alloc (.cells #[a, b, c, d] T)).cell? ⟨w.heap.size, 1, none⟩ = some b ∧
    (w.alloc (.cells #[a, b, c, d] T)).cell? ⟨w.heap.size, 2, none⟩ = some c ∧ (w.alloc (.cells #[a, b, c, d] T)).cell? ⟨w.heap.size, 3, none⟩ = some d := by
  have h := heap_alloc_new w (.cells #[a, b, c, d] T)
  exact ⟨cell_of_row _ _ 0 _ _ _ h, cell_of_row _ _ 1 _ _ _ h, cell_of_row _ _ 2 _ _ _ h, cell_of_row _ _ 3 _ _ _ h⟩
def errOf (b : Bool) : Int := if b then 0 else 1
theorem ret_err {b : Bool} {n : Int} (h : n = errOf b) : Ending.returned (.int .i64 n) = .returned (.int .i64 (errOf b)) := by rw [h]
theorem node_drop {e : List Nd} {k : Nat} {x : Nd} (hx : e[k]? = some x) : e.drop k = x :: e.drop (k + 1) := by
  have hlt := (List.getElem?_eq_some_iff.1 hx).1
  rw [List.drop_eq_getElem_cons hlt, (List.getElem?_eq_some_iff.1 hx).2]

set_option maxHeartbeats 4000000 in
set_option maxRecDepth 100000 in
theorem check_any (e : List Nd) (A : Option Addr) (c : Nat) (w : World) (ht : Tabs w) (hr : Kd.C kNd w A e.length e) (hn : ∀ x ∈ e, x.name.size ≤ maxLen) :
    Calls Tryd.prog 39 #[.slice A e.length c] w fun en w' => en = .returned (.int .i64 (errOf (check e))) ∧ Below w.heap.size w w' := by
  by_cases h1 : 1 ≤ e.length
  · by_cases h2 : e.length ≤ 64
    · have h1d : decide ((e.length : Int) < 1) = false := decide_eq_false (by omega)
      have h2d : decide ((e.length : Int) > 64) = false := decide_eq_false (by omega)
      have h2e : decide ((64 : Int) < (e.length : Int)) = false := decide_eq_false (by omega)
      have HT := Lib.hid ht
      have HR := Lib.hid hr
      have HN := Lib.hid hn
      have HC : Hid (check e = stackGo e 0 []) := Lib.hid (by simp [check, h1, h2])
      have hu := Tryd.underlying96
      clear ht hr hn
      go_enter Tryd.func39, Tryd.ntmps39
      go_wp2
      go_loopw [3, 17] (fun v i wr => ∃ (k : Nat) (op : List Int), i = .int .i64 k ∧ k ≤ e.length ∧ op.length ≤ k ∧ Hid (stackGo (e.drop k) k op = check e) ∧ Hid ((Kd.int .i64).R 3 wr w.heap.size (fun _ => True) v op) ∧ Hid (Below w.heap.size w wr)) (fun _ i _ => e.length - (intOf i).toNat)
      case atStart => exact ⟨0, [], rfl, by omega, by simp, HC.out.symm, Kd.R_nil _ _ _ _ _, Below.refl _ _⟩
      case round =>
        obtain ⟨k, op, rfl, hk, hop, hst, hO, hB⟩ := hrel
        by_cases hlt : k < e.length
        · obtain ⟨x, hx⟩ : ∃ x, e[k]? = some x := ⟨_, List.getElem?_eq_getElem hlt⟩
          obtain ⟨ad, A3, c3, hA, q0, q1, q2, q3, hl3, hk3⟩ := nd_at HR.out hx
          subst hA
          replace q0 := nd_below hB.out q0
          replace q1 := nd_below hB.out q1
          replace q2 := nd_below hB.out q2
          replace q3 := nd_below hB.out q3
          have HX := Lib.hid hx
          have HD := Lib.hid (node_drop hx)
          have hnm : Hid (x.name.size ≤ maxLen) := HN.out x (List.mem_of_getElem? hx)
          clear hx
          obtain ⟨Ao, co, rfl, hlo, hCo⟩ := Kd.R_reads hO.out
          have HCo := Lib.hid hCo
          have HK3 := Lib.hid hk3
          clear hCo hk3
          obtain ⟨_, _, _, r3⟩ := cell4 wr (.int .i64 x.op) (.int .i64 x.n) (.string x.name) (.slice A3 x.kids.length c3) 96
          have R3 := Lib.hid r3
          have hwsz := hB.out.size
          have HTW : Hid (Tabs (wr.alloc (.cells #[.int .i64 x.op, .int .i64 x.n, .string x.name, .slice A3 x.kids.length c3] 96))) := HT.out.below (hB.out.alloc hwsz _)
          clear r3
          cases hf : formB x.op x.n x.name x.kids.length
          · have HF := Lib.hid hf
            clear hf
            go_wp2_with (go_at_call 59; refine (sound_any _ _ _ _ _ _ _ HTW.out hnm.out).mono ?_; rintro en w1 ⟨rfl, hb1⟩; rw [HF.out]; have HB1 := Lib.hid hb1; clear hb1)
            go_ret
            refine ⟨ret_err ?_, (hB.out.alloc hwsz _).trans (HB1.out.mono (by simp; omega))⟩
            have := hst.out
            rw [HD.out] at this
            rw [← this]
            simp [stackGo, stackStep, form, HF.out, errOf]
          · have HF := Lib.hid hf
            clear hf
            by_cases hkl : x.kids.length ≤ op.length
            · have hgt : decide ((x.kids.length : Int) > (op.length : Int)) = false := decide_eq_false (by omega)
              have hgt' : decide ((op.length : Int) < (x.kids.length : Int)) = false := decide_eq_false (by omega)
              obtain ⟨m, hm⟩ : ∃ m, m + x.kids.length = op.length := ⟨op.length - x.kids.length, by omega⟩
              have hmm : ((op.length : Int) - (x.kids.length : Int)) = (m : Int) := by omega
              have HM := Lib.hid hm
              clear hm
              obtain ⟨A', hcut, hC'⟩ := cut_from (P := Tryd.prog) (Kd.int .i64) 68 3 Tryd.underlying68 rfl rfl Ao co op.length m (by have := HM.out; omega)
              have HC' := Lib.hid hC'
              clear hC'
              have hm0 : (m : Int) ≤ (op.length : Int) := by have := HM.out; omega
              go_wp2_with (go_at_call 59; refine (sound_any _ _ _ _ _ _ _ HTW.out hnm.out).mono ?_; rintro en w1 ⟨rfl, hb1⟩; rw [HF.out]; have HB1 := Lib.hid hb1; clear hb1; have g3 := nd_below HB1.out R3.out)
              have HE := hide (fun (W : World) (hW : Below wr.heap.size wr W) => equal_len (op.drop m) x.kids A' A3 (op.length - m) x.kids.length (co - m) c3 W (by simp) rfl (HC'.out W op rfl hlo (Kd.C_below HCo.out hW)) (by omega) (Kd.C_below (Kd.C_below HK3.out hB.out) hW) hl3)
              have hdl : Hid (op.length - x.kids.length = m) := by have := HM.out; unfold Hid; omega
              cases heq : (op.drop m == x.kids)
              · have HEQ := Lib.hid heq
                clear heq
                go_quiet ((go_at_call 60; exact Calls.quiet_of (HE.out _ (pw_below_drewN (((Below.refl _ _).alloc (Nat.le_refl _) _).trans (HB1.out.mono (by simp))) _) _ HEQ.out)))
                go_wp2
                go_ret
                refine ⟨ret_err ?_, (hB.out.trans ((pw_below_drewN (((Below.refl _ _).alloc (Nat.le_refl _) _).trans (HB1.out.mono (by simp))) _).mono hwsz))⟩
                have := hst.out
                rw [HD.out] at this
                rw [← this]
                simp [stackGo, stackStep, hdl.out, HEQ.out, errOf]
              · have HEQ := Lib.hid heq
                clear heq
                go_quiet ((go_at_call 60; exact Calls.quiet_of (HE.out _ (pw_below_drewN (((Below.refl _ _).alloc (Nat.le_refl _) _).trans (HB1.out.mono (by simp))) _) _ HEQ.out)))
                go_wp2_with (refine Kd.R_append (Kd.int .i64) (w0 := w) w.heap.size rfl (.tmp 48) (.tmp 50) 68 3 (.int .i64 0) 8 rfl Tryd.underlying68 PBoxKeeps.info3 rfl (by decide) (by omega) (.slice Ao m co) (op.take m) (k : Int) [.int .i64 k] (fun _ => True) (fun _ => False) rfl rfl ?aP (fun _ h => h.elim) (fun _ _ => trivial) ?aO ?aB ?aS ?aL ?_)
                case aP => exact rfl
                case aO => exact Kd.R_take (Kd.R_below hO.out (pw_below_drewN (((Below.refl _ _).alloc (Nat.le_refl _) _).trans (HB1.out.mono (by simp))) _)) (by have := hdl.out; omega)
                case aB => exact hB.out.trans ((pw_below_drewN (((Below.refl _ _).alloc (Nat.le_refl _) _).trans (HB1.out.mono (by simp))) _).mono hwsz)
                case aS => exact Nat.le_trans hwsz ((((Below.refl _ _).alloc (Nat.le_refl _) _).trans (HB1.out.mono (by simp))) : Below wr.heap.size wr w1).size
                case aL => rw [List.length_take]; omega
                intro v1 w2 ho2 hb2 _ _
                have HO2 := Lib.hid ho2
                have HB2 := Lib.hid hb2
                clear ho2 hb2
                go_wp2
                go_roundw
                case rel =>
                  refine ⟨k + 1, op.take m ++ [(k : Int)], by go_num, by omega, by simp; omega, ?_, HO2.out, HB2.out⟩
                  have hs' := hst.out
                  rw [HD.out] at hs'
                  have hstep : stackStep x k op = some (op.take m ++ [(k : Int)]) := by
                    unfold stackStep
                    rw [hdl.out]
                    simp only [form, HF.out, decide_eq_true hkl, HEQ.out, Bool.and_self, if_true]
                  unfold stackGo at hs'
                  rw [hstep] at hs'
                  exact hs'
                case measure => simp [intOf]; omega
            · have hgt : decide ((x.kids.length : Int) > (op.length : Int)) = true := decide_eq_true (by omega)
              go_wp2_with (go_at_call 59; refine (sound_any _ _ _ _ _ _ _ HTW.out hnm.out).mono ?_; rintro en w1 ⟨rfl, hb1⟩; rw [HF.out]; have HB1 := Lib.hid hb1; clear hb1; have g3 := nd_below HB1.out R3.out)
              go_ret
              refine ⟨ret_err ?_, (hB.out.alloc hwsz _).trans (HB1.out.mono (by simp; omega))⟩
              have := hst.out
              rw [HD.out] at this
              rw [← this]
              simp [stackGo, stackStep, hkl, errOf]
        · have hke : k = e.length := by omega
          have hs' := hst.out
          rw [hke, List.drop_length] at hs'
          obtain ⟨Ao, co, rfl, hlo, _⟩ := Kd.R_reads hO.out
          by_cases h1l : op.length = 1
          · have hne : ((op.length : Int) != 1) = false := by rw [bne_eq_false_iff_eq]; omega
            have HL := Lib.hid h1l
            have HS := Lib.hid hs'
            clear h1l hs' hst hke
            go_wp2
            go_ret
            exact ⟨ret_err (by rw [← HS.out]; simp [stackGo, HL.out, errOf]), hB.out⟩
          · have hne : ((op.length : Int) != 1) = true := by rw [bne_iff_ne]; omega
            have HS := Lib.hid hs'
            have HL := Lib.hid h1l
            clear hs' hst hke h1l
            go_wp2
            go_ret
            exact ⟨ret_err (by rw [← HS.out]; simp [stackGo, HL.out, errOf]), hB.out⟩
    · have hd1 : decide ((e.length : Int) < 1) = false := decide_eq_false (by omega)
      have hd2 : (64 : Int) < (e.length : Int) := by omega
      have HCF := Lib.hid (check_short (e := e) (by omega))
      go_enter Tryd.func39, Tryd.ntmps39
      go_wp2
      go_ret
      exact ⟨ret_err (by rw [HCF.out]; rfl), Below.refl _ _⟩
  · have hd1 : (e.length : Int) < 1 := by omega
    have HCF := Lib.hid (check_short (e := e) (by omega))
    go_enter Tryd.func39, Tryd.ntmps39
    go_wp2
    go_ret
    exact ⟨ret_err (by rw [HCF.out]; rfl), Below.refl _ _⟩

/-! ### the reference's Check -/
theorem kids_le {w : World} {A : Option Addr} {n : Nat} {e : List Nd} (h : Kd.C kNd w A n e) : ∀ x ∈ e, x.kids.length ≤ 9223372036854775807 := by
  intro x hx
  obtain ⟨k, hk⟩ := List.mem_iff_getElem?.1 hx
  obtain ⟨_, _, _, _, _, _, _, _, _, h7⟩ := nd_at h hk
  exact h7.2.1
theorem walk_any (e : List Nd) (A : Option Addr) (c : Nat) (w : World) (hr : Kd.C kNd w A e.length e) (hc : e.length ≤ c) (at_ : Int) (hlt : at_ < e.length) :
    Calls Tryd.prog 43 #[.slice A e.length c, .int .i64 at_] w fun en w' => (∃ r, en = .returned (.int .i64 r) ∧ WalkOk e at_ r) ∧ Below w.heap.size w w' := by
  obtain ⟨K, r, hK, hok⟩ := walk_ok e hr.2.1 (kids_le hr) (at_.toNat + 1) at_ (by omega) hlt
  have hm : (e.map toS).length = e.length := by simp
  have h := PBoxKeeps.sorrelref02_walk.calls K A c (e.map toS) at_ r w (by rw [hm]; exact C_toS hr) (by rw [hm]; exact hc) (hK K (Nat.le_refl _))
  rw [hm] at h
  exact h.mono fun en w' ⟨he, hw⟩ => ⟨⟨r, he, hok⟩, hw.below⟩

theorem sound_whole {e : List Nd} (h1 : 1 ≤ e.length) (h2 : e.length ≤ 64) (hf : ∀ x ∈ e, form x = true) {r : Int} (h : WalkOk e ((e.length : Int) - 1) r) : (r == -1) = check e := by
  rw [Bool.eq_iff_iff, check_iff, beq_iff_eq]
  rcases h with ⟨rfl, hno⟩ | ⟨a, lo, ha, rfl, hs⟩
  · constructor
    · intro h; omega
    · intro h; exact absurd h.seg (hno (e.length - 1) 0 (by omega))
  · have hae : a = e.length - 1 := by omega
    subst hae
    constructor
    · intro h
      have : lo = 0 := by omega
      subst this
      exact ⟨h1, h2, hf, hs⟩
    · intro h
      have := hs.unique h.seg
      omega
theorem check_form {e : List Nd} {x : Nd} (hx : x ∈ e) (h : form x = false) : check e = false := by
  cases hc : check e
  · rfl
  · rw [check_iff] at hc
    rw [hc.forms x hx] at h
    cases h

set_option maxHeartbeats 4000000 in
set_option maxRecDepth 100000 in
theorem rcheck_any (e : List Nd) (A : Option Addr) (c : Nat) (w : World) (hr : Kd.C kNd w A e.length e) (hc : e.length ≤ c) (hn : ∀ x ∈ e, x.name.size ≤ 9223372036854775807) :
    Calls Tryd.prog 16 #[.slice A e.length c] w fun en w' => en = .returned (.int .i64 (errOf (check e))) ∧ Below w.heap.size w w' := by
  by_cases h1 : 1 ≤ e.length
  · by_cases h2 : e.length ≤ 64
    · have h1d : ((e.length : Int) == 0) = false := by rw [beq_eq_false_iff_ne]; omega
      have h2d : decide ((e.length : Int) > 64) = false := decide_eq_false (by omega)
      have h2e : decide ((64 : Int) < (e.length : Int)) = false := decide_eq_false (by omega)
      have HR := Lib.hid hr
      have HN := Lib.hid hn
      have hu := Tryd.underlying96
      clear hr hn
      go_enter Tryd.func16, Tryd.ntmps16
      go_wp2
      go_loopw [3] (fun i wr => ∃ (k : Nat), i = .int .i64 k ∧ k ≤ e.length ∧ Hid (∀ j x, j < k → e[j]? = some x → form x = true) ∧ Hid (Below w.heap.size w wr)) (fun i _ => e.length - (intOf i).toNat)
      case atStart => exact ⟨0, rfl, by omega, fun j x hj _ => by omega, Below.refl _ _⟩
      case round =>
        obtain ⟨k, rfl, hk, hfs, hB⟩ := hrel
        have hwsz := hB.out.size
        by_cases hlt : k < e.length
        · obtain ⟨x, hx⟩ : ∃ x, e[k]? = some x := ⟨_, List.getElem?_eq_getElem hlt⟩
          obtain ⟨ad, A3, c3, hA, q0, q1, q2, q3, hl3, hk3⟩ := nd_at HR.out hx
          subst hA
          replace q0 := nd_below hB.out q0
          replace q1 := nd_below hB.out q1
          replace q2 := nd_below hB.out q2
          replace q3 := nd_below hB.out q3
          have HX := Lib.hid hx
          have hnm : Hid (x.name.size ≤ 9223372036854775807) := HN.out x (List.mem_of_getElem? hx)
          clear hx hk3
          cases hf : formB x.op x.n x.name x.kids.length
          · have HF := Lib.hid hf
            clear hf
            go_wp2_with (go_at_call 42; refine (rform_any _ _ _ _ _ _ _ hnm.out).mono ?_; rintro en w1 ⟨rfl, hb1⟩; rw [HF.out]; have HB1 := Lib.hid hb1; clear hb1)
            go_ret
            exact ⟨ret_err (by rw [check_form (List.mem_of_getElem? HX.out) HF.out]; rfl), hB.out.trans (HB1.out.mono hwsz)⟩
          · have HF := Lib.hid hf
            clear hf
            go_wp2_with (go_at_call 42; refine (rform_any _ _ _ _ _ _ _ hnm.out).mono ?_; rintro en w1 ⟨rfl, hb1⟩; rw [HF.out]; have HB1 := Lib.hid hb1; clear hb1)
            go_roundw
            case rel =>
              refine ⟨k + 1, by go_num, by omega, fun j y hj hy => ?_, hB.out.trans (HB1.out.mono hwsz)⟩
              by_cases ejk : j = k
              · subst ejk
                have := HX.out.symm.trans hy
                cases this
                exact HF.out
              · exact hfs.out j y (by omega) hy
            case measure => simp [intOf]; omega
        · have hall : ∀ x ∈ e, form x = true := fun x hx => by
            obtain ⟨j, hj⟩ := List.mem_iff_getElem?.1 hx
            have := (List.getElem?_eq_some_iff.1 hj).1
            exact hfs.out j x (by omega) hj
          have HALL := Lib.hid hall
          clear hall hfs
          have HW := hide (fun (W : World) (hW : Below w.heap.size w W) (r : Int) (hr : WalkOk e ((e.length : Int) - 1) r) => sound_whole h1 h2 HALL.out hr)
          have hw1 : -9223372036854775808 ≤ (e.length : Int) - 1 := by omega
          cases hch : check e
          · have HCH := Lib.hid hch
            clear hch
            go_wp2_with (go_at_call 43; refine (walk_any e A c _ (Kd.C_below HR.out hB.out) hc _ (by omega)).mono ?_; rintro en w1 ⟨⟨r, rfl, hok⟩, hb1⟩; have HB1 := Lib.hid hb1; clear hb1; have hr1 := sound_whole h1 h2 HALL.out hok; have hr2 : (r != -1) = true := (by rw [bne, hr1, HCH.out]; rfl); clear hr1 hok)
            go_ret
            exact ⟨ret_err (by rw [HCH.out]; rfl), hB.out.trans (HB1.out.mono hwsz)⟩
          · have HCH := Lib.hid hch
            clear hch
            go_wp2_with (go_at_call 43; refine (walk_any e A c _ (Kd.C_below HR.out hB.out) hc _ (by omega)).mono ?_; rintro en w1 ⟨⟨r, rfl, hok⟩, hb1⟩; have HB1 := Lib.hid hb1; clear hb1; have hr1 := sound_whole h1 h2 HALL.out hok; have hr2 : (r != -1) = false := (by rw [bne, hr1, HCH.out]; rfl); clear hr1 hok)
            go_ret
            exact ⟨ret_err (by rw [HCH.out]; rfl), hB.out.trans (HB1.out.mono hwsz)⟩
    · have hd1 : ((e.length : Int) == 0) = false := by rw [beq_eq_false_iff_ne]; omega
      have hd2 : (64 : Int) < (e.length : Int) := by omega
      have HCF := Lib.hid (check_short (e := e) (by omega))
      go_enter Tryd.func16, Tryd.ntmps16
      go_wp2
      go_ret
      exact ⟨ret_err (by rw [HCF.out]; rfl), Below.refl _ _⟩
  · have hd1 : ((e.length : Int) == 0) = true := by rw [beq_iff_eq]; omega
    have HCF := Lib.hid (check_short (e := e) (by omega))
    go_enter Tryd.func16, Tryd.ntmps16
    go_wp2
    go_ret
    exact ⟨ret_err (by rw [HCF.out]; rfl), Below.refl _ _⟩
end Go.Proofs.YticaocadeeolkaaDoor
