/-
  THE WALK of box.terms: the terms of all nodes of an expression whose parts lie ahead of their nodes.
-/
import Derived.Test.YticaocadeeolkaaDoorDd
import Derived.Test.YticaocadeeolkaaDoorDc
namespace Go.Proofs.YticaocadeeolkaaDoor
open Go.RowKit Plain Go.Proofs.YticaocadeeolkaaDoorW.PrintWords

theorem run_make_rowN {P : Program} (t e : TypeId) (i : TypeInfo) (z : Value) (ht : P.underlying t = some (.slice e)) (hi : P.info? e = some i) (hz : i.zero = some z)
    (kl kc : IntKind) (n c : Nat) (hnc : n ≤ c) (hbytes : i.bytes * c ≤ 281474976710656) (h63 : c ≤ 9223372036854775807) (w : World) :
    (Instr.makeSlice t (.int kl (n : Int)) (.int kc (c : Int))).run P w = .ok (.slice (some ⟨w.heap.size, 0, none⟩) n c) (w.alloc (.cells (madeCells z.cells (c * i.size)) e)) := by
  have hb : (i.bytes : Int) * (c : Int) ≤ 281474976710656 := by
    have h : ((i.bytes * c : Nat) : Int) ≤ 281474976710656 := by omega
    rwa [Int.natCast_mul] at h
  have hr := run_make (P := P) w t e i z ht hi hz kl kc n c (by omega) (by omega) hb (by omega)
  simp only [Int.toNat_natCast] at hr
  exact hr
theorem infoTm : (Tryd.prog.info? 33).map (fun i => (i.zero, i.size, i.bytes)) = some (some .nilIface, 1, 16) := by kernel_rfl
theorem make_terms (c : Nat) (hc : c ≤ 17592186044416) (w : World) :
    (Instr.makeSlice 24 (.int .i64 0) (.int .i64 (c : Int))).run Tryd.prog w = .ok (.slice (some ⟨w.heap.size, 0, none⟩) 0 c) (w.alloc (.cells (madeCells #[.nilIface] c) 33)) := by
  obtain ⟨i, hi, hzz⟩ := Option.map_eq_some_iff.1 infoTm
  simp only [Prod.mk.injEq] at hzz
  obtain ⟨hz0, hz1, hz2⟩ := hzz
  have := run_make_rowN 24 33 i .nilIface Tryd.underlying24 hi hz0 .i64 .i64 0 c (Nat.zero_le _) (by rw [hz2]; omega) (by omega) w
  rw [hz1, Nat.mul_one] at this
  exact this
theorem R_made0 (w : World) (base c : Nat) (hb : base ≤ w.heap.size) (hc : c ≤ 9223372036854775807) :
    Kd.R kTm 33 (w.alloc (.cells (madeCells #[.nilIface] c) 33)) base (fun _ => True) (.slice (some ⟨w.heap.size, 0, none⟩) 0 c) [] :=
  ⟨fun _ _ => trivial, [], ⟨by simp, .inr ⟨w.heap.size, c, madeCells #[.nilIface] c, rfl, hb, heap_alloc_new w _, Nat.zero_le _, hc, by simp [size_madeCells, kTm, Kd.scalar], by simp⟩⟩, Reps.none _ _⟩
/-- Every part lies ahead of its node. -/
def Ahead (e : List Nd) : Prop := ∀ (k : Nat) (x : Nd), e[k]? = some x → x.kids.length ≤ 3 ∧ ∀ j ∈ x.kids, 0 ≤ j ∧ j < (k : Int)
theorem kidTerms_next {l : List Tm} {ks : List Int} {i : Nat} (h : i < ks.length) : kidTerms l (ks.take (i + 1)) = kidTerms l (ks.take i) ++ [l.getD ks[i].toNat .nil] := by
  unfold kidTerms
  rw [List.take_succ_eq_append_getElem h, List.map_append]; rfl
theorem int_at {w : World} {A : Option Addr} {n : Nat} {ks : List Int} (h : (Kd.int .i64).C w A n ks) {k : Nat} {a : Int} (hx : ks[k]? = some a) : ∃ ad, A = some ad ∧ w.cell? (ad.add k) = some (.int .i64 a) := by
  have hlt := (List.getElem?_eq_some_iff.1 hx).1
  have hn : ks.length = n := h.1
  obtain ⟨ad, he, hc⟩ := h.2.2 (by omega)
  obtain ⟨c, hs, hr, hcell⟩ := hc k a hx
  have hr' : c = [.int .i64 a] := hr
  subst hr'
  refine ⟨ad, he, ?_⟩
  have := hcell 0 (.int .i64 a) rfl
  simpa [Kd.int, Kd.scalar] using this
def TermsOk (e : List Nd) (w : World) (en : Ending) (w' : World) : Prop := ∃ v, en = .returned v ∧ Kd.R kTm 33 w' w.heap.size (fun _ => True) v (termsL e) ∧ Below w.heap.size w w'

set_option maxHeartbeats 8000000 in
set_option maxRecDepth 100000 in
theorem terms_any (e : List Nd) (A : Option Addr) (c : Nat) (w : World) (hr : Kd.C kNd w A e.length e) (h64 : e.length ≤ 64) (hah : Ahead e) :
    Calls Tryd.prog 41 #[.slice A e.length c] w (TermsOk e w) := by
  have HR := Lib.hid hr
  have HAH := Lib.hid hah
  have hmk := make_terms e.length (by omega)
  have hu := Tryd.underlying96
  clear hr hah
  go_enter Tryd.func41, Tryd.ntmps41
  go_wp2
  clear hmk
  go_loopw [3, 14] (fun v i wr => ∃ (k : Nat), i = .int .i64 k ∧ k ≤ e.length ∧ Hid (Kd.R kTm 33 wr w.heap.size (fun _ => True) v (termsL (e.take k))) ∧ Hid (Below w.heap.size w wr)) (fun _ i _ => e.length - (intOf i).toNat)
  case atStart => exact ⟨0, rfl, by omega, Lib.hid (R_made0 w w.heap.size e.length (Nat.le_refl _) (by omega)), Lib.hid ((Below.refl _ _).alloc (Nat.le_refl _) _)⟩
  case round =>
    obtain ⟨k, rfl, hk, hO, hB⟩ := hrel
    by_cases hlt : k < e.length
    · obtain ⟨x, hx⟩ : ∃ x, e[k]? = some x := ⟨_, List.getElem?_eq_getElem hlt⟩
      obtain ⟨ad, A3, c3, hA, q0, q1, q2, q3, hl3, hk3⟩ := nd_at HR.out hx
      subst hA
      replace q0 := nd_below hB.out q0
      replace q1 := nd_below hB.out q1
      replace q2 := nd_below hB.out q2
      replace q3 := nd_below hB.out q3
      have HX := Lib.hid hx
      have HK3 := Lib.hid (Kd.C_below hk3 hB.out)
      clear hx hk3
      obtain ⟨Al, cl, rfl, hll, hCl⟩ := Kd.R_reads hO.out
      have htl : (termsL (e.take k)).length = k := by rw [termsL_length]; simp; omega
      have HCL := Lib.hid hCl
      have HTL := Lib.hid htl
      rw [htl] at hO hll ⊢
      clear hCl htl
      have hkl : x.kids.length ≤ 3 := (HAH.out k x HX.out).1
      obtain ⟨wo, rfl⟩ : ∃ wo : World, wo = wr := ⟨_, rfl⟩
      have hwsz := hB.out.size
      have HAX := Lib.hid (HAH.out k x HX.out).2
      go_wp2_with fail
      obtain ⟨p0, p1, p2, p3⟩ := cell4 wo (.int .i64 x.op) (.int .i64 x.n) (.string x.name) (.slice A3 x.kids.length c3) 96
      have P0 := Lib.hid p0
      have P1 := Lib.hid p1
      have P2 := Lib.hid p2
      have P3 := Lib.hid p3
      clear p0 p1 p2 p3
      have HBW := Lib.hid ((Below.refl wo.heap.size wo).alloc (Nat.le_refl _) (.cells #[.int .i64 x.op, .int .i64 x.n, .string x.name, .slice A3 x.kids.length c3] 96))
      have hsz1 : wo.heap.size < (wo.alloc (.cells #[.int .i64 x.op, .int .i64 x.n, .string x.name, .slice A3 x.kids.length c3] 96)).heap.size := by simp
      generalize hW : wo.alloc (.cells #[.int .i64 x.op, .int .i64 x.n, .string x.name, .slice A3 x.kids.length c3] 96) = W1 at *
      clear hW
      go_loopw [6, 21] (fun v i w2 => ∃ (m : Nat), i = .int .i64 m ∧ m ≤ x.kids.length ∧ Hid (Kd.R kTm 33 w2 W1.heap.size (fun _ => True) v (kidTerms (termsL (e.take k)) (x.kids.take m))) ∧ Hid (Below W1.heap.size W1 w2)) (fun _ i _ => x.kids.length - (intOf i).toNat)
      case atStart => exact ⟨0, rfl, by omega, Lib.hid (Kd.R_nil _ _ _ _ _), Lib.hid (Below.refl _ _)⟩
      case round =>
        obtain ⟨m, rfl, hm, hO2, hB2⟩ := hrel
        by_cases hmt : m < x.kids.length
        · have hj : x.kids[m]? = some x.kids[m] := List.getElem?_eq_getElem hmt
          obtain ⟨ad3, e3, h3⟩ := int_at HK3.out hj
          obtain ⟨hj0, hj1⟩ := HAX.out x.kids[m] (List.getElem_mem hmt)
          obtain ⟨j, hjn⟩ := Int.eq_ofNat_of_zero_le hj0
          have HN := Lib.hid (kidTerms_next (l := termsL (e.take k)) hmt)
          have hlen2 : (kidTerms (termsL (e.take k)) (x.kids.take m)).length = m := by unfold kidTerms; simp; omega
          rw [hjn] at h3 hj1
          have hjk : (termsL (e.take k))[j]? = some ((termsL (e.take k)).getD j .nil) := by
            rw [List.getD_eq_getElem?_getD, List.getElem?_eq_getElem (by rw [HTL.out]; omega)]; rfl
          obtain ⟨adl, el, hl⟩ := tm_at HCL.out hjk
          have HJ := Lib.hid hjn
          have HLEN := Lib.hid hlen2
          subst e3
          subst el
          have h3' := nd_below (HBW.out.trans (hB2.out.mono (Nat.le_of_lt hsz1))) h3
          have hl' := nd_below (HBW.out.trans (hB2.out.mono (Nat.le_of_lt hsz1))) hl
          clear hj hj0 hjn hjk h3 hl hlen2
          generalize hT0 : (termsL (e.take k)).getD j .nil = T at *
          have hT := Lib.hid hT0
          clear hT0
          have hjlt : (j : Int) < (k : Int) := by omega
          go_wp2_with (refine Kd.R_append kTm (w0 := W1) W1.heap.size rfl (.tmp 25) (.tmp 30) 24 33 .nilIface 16 rfl Tryd.underlying24 infoTm rfl (by decide) (by omega) _ (kidTerms (termsL (e.take k)) (x.kids.take m)) T [tval T] (fun _ => True) (fun _ => False) rfl rfl ?aP (fun _ h => h.elim) (fun _ _ => trivial) ?aO ?aB ?aS ?aL ?_)
          case aP => exact rfl
          case aO => exact hO2.out
          case aB => exact hB2.out
          case aS => exact hB2.out.size
          case aL => rw [HLEN.out]; omega
          intro v1 w3 ho3 hb3 _ _
          have HO3 := Lib.hid ho3
          have HB3 := Lib.hid hb3
          clear ho3 hb3
          go_wp2
          go_roundw
          case rel =>
            have hn := HN.out
            rw [HJ.out] at hn
            refine ⟨m + 1, by go_num, by omega, ?_, HB3⟩
            show Kd.R kTm _ _ _ _ _ _
            rw [hn]
            have : (termsL (e.take k)).getD ((j : Int)).toNat .nil = T := by rw [Int.toNat_natCast]; exact hT.out
            rw [this]
            exact HO3.out
          case measure => simp [intOf]; omega
        · have hme : m = x.kids.length := by omega
          have hOm := hO2.out
          rw [hme, List.take_length] at hOm
          obtain ⟨Ap, cp, rfl, hlp, hCp⟩ := Kd.R_reads hOm
          have HCP := Lib.hid hCp
          have hparts : Hid (termAt e k = made x (kidTerms (termsL (e.take k)) x.kids)) := by
            unfold Hid
            have h1 := termAt_get e k hlt
            rw [termsL_at e k (k + 1) (by omega) (by omega), termsL_take e k x HX.out, List.getElem?_append_right (by rw [HTL.out]; omega), HTL.out, Nat.sub_self] at h1
            exact (Option.some.inj h1).symm
          have HPL := Lib.hid (show (kidTerms (termsL (e.take k)) x.kids).length = x.kids.length by simp [kidTerms])
          have g0 := nd_below hB2.out P0.out
          have g1 := nd_below hB2.out P1.out
          have g2 := nd_below hB2.out P2.out
          have g3 := nd_below hB2.out P3.out
          have hBB := Lib.hid (hB.out.trans ((HBW.out.trans (hB2.out.mono (Nat.le_of_lt hsz1))).mono hwsz))
          have hOO := Lib.hid (Kd.R_below hO.out (HBW.out.trans (hB2.out.mono (Nat.le_of_lt hsz1))))
          have hszr : wo.heap.size < wr.heap.size := Nat.lt_of_lt_of_le hsz1 hB2.out.size
          clear hOm hCp hme
          rw [HPL.out] at hlp ⊢
          have hma := Lib.hid (made_any x (kidTerms (termsL (e.take k)) x.kids) A3 Ap c3 cp wr HCP.out)
          rw [HPL.out] at hma
          have hkd : Hid (k + 1 ≤ 64) := by unfold Hid; omega
          go_wp2_with (first | (go_at_call 62; refine hma.out.mono ?_; rintro en w4 ⟨rfl, hb4⟩; have HB4 := Lib.hid hb4; clear hb4) | (refine Kd.R_append kTm (w0 := w) w.heap.size rfl (.tmp 33) (.tmp 37) 24 33 .nilIface 16 rfl Tryd.underlying24 infoTm rfl (by decide) (by omega) _ (termsL (e.take k)) (made x (kidTerms (termsL (e.take k)) x.kids)) [tval (made x (kidTerms (termsL (e.take k)) x.kids))] (fun _ => True) (fun _ => False) rfl rfl ?aP (fun _ h => h.elim) (fun _ _ => trivial) ?aO ?aB ?aS ?aL ?_))
          case aP => exact rfl
          case aO => exact Kd.R_below hOO.out HB4.out
          case aB => exact hBB.out.trans (HB4.out.mono hBB.out.size)
          case aS => exact Nat.le_trans hBB.out.size HB4.out.size
          case aL => rw [HTL.out]; have := hkd.out; omega
          intro v1 w5 ho5 hb5 _ _
          have HO5 := Lib.hid ho5
          have HB5 := Lib.hid hb5
          clear ho5 hb5
          go_wp2
          go_roundw
          case rel =>
            refine ⟨k + 1, by go_num, by omega, ?_, HB5⟩
            rw [termsL_take e k x HX.out]
            exact HO5
          case measure => simp [intOf]; omega
    · have hke : k = e.length := by omega
      have hOe := hO.out
      rw [hke, List.take_length] at hOe
      have HOE := Lib.hid hOe
      clear hOe hke
      go_wp2
      go_ret
      exact ⟨_, rfl, HOE.out, hB.out⟩
end Go.Proofs.YticaocadeeolkaaDoor
