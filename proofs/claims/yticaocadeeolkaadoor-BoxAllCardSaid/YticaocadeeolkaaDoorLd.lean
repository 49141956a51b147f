/-
  THE LAW BoxAll, walked. (Laid by gen_ld.py.)
-/
import Derived.Test.YticaocadeeolkaaDoorLc
import Derived.Test.YticaocadeeolkaaDoorHe
import Derived.Deep.DeepCutAuto
namespace Go.Proofs.YticaocadeeolkaaDoor
open Go.RowKit Plain Go.Shelf Go.Proofs.YticaocadeeolkaaDoorW.PrintWords Go.Proofs.YticaocadeeolkaaDoorW.PrintLast Go.Proofs.YticaocadeeolkaaDoorW.PrintMore
attribute [local go_sem] Oper.semAt_some

/-- What the law's own variables hold; what lay before the call lies as it lay. -/
structure Vars (w0 : World) (e : List Nd) (A : Option Addr) (c : Nat) (cut : Int) (res : Bool) (w : World) : Prop where
  ev : w.heap[w0.heap.size]? = some (.cells #[.slice A e.length c] 28 (0, 0))
  cv : w.heap[w0.heap.size + 1]? = some (.cells #[.int .i64 cut] 3 (0, 0))
  rv : w.heap[w0.heap.size + 1 + 1]? = some (.cells #[.bool res] 4 (0, 0))
  B : Below w0.heap.size w0 w
theorem Vars.below {w0 : World} {e : List Nd} {A : Option Addr} {c : Nat} {cut : Int} {res : Bool} {w w' : World} (h : Vars w0 e A c cut res w) (hb : Below w.heap.size w w') : Vars w0 e A c cut res w' :=
  ⟨(hb.block _ (Array.getElem?_eq_some_iff.1 h.ev).1).trans h.ev, (hb.block _ (Array.getElem?_eq_some_iff.1 h.cv).1).trans h.cv, (hb.block _ (Array.getElem?_eq_some_iff.1 h.rv).1).trans h.rv, h.B.trans (hb.mono h.B.size)⟩
theorem Vars.lt {w0 : World} {e : List Nd} {A : Option Addr} {c : Nat} {cut : Int} {res : Bool} {w : World} (h : Vars w0 e A c cut res w) : w0.heap.size + 2 < w.heap.size := (Array.getElem?_eq_some_iff.1 h.rv).1
theorem vars_start (w0 : World) (e : List Nd) (A : Option Addr) (c : Nat) (cut : Int) : Vars w0 e A c cut false (((w0.alloc (.cells #[.slice A e.length c] 28)).alloc (.cells #[.int .i64 cut] 3)).alloc (.cells #[.bool false] 4)) :=
  ⟨(Below.heap_alloc _ _ _ (by simp; omega)).trans ((Below.heap_alloc _ _ _ (by simp)).trans (heap_alloc_new w0 _)), (Below.heap_alloc _ _ _ (by simp)).trans (heap_two w0 _ _), heap_three w0 _ _ _, (((Below.refl _ _).alloc (Nat.le_refl _) _).alloc (by simp) _).alloc (by simp; omega) _⟩

/-- Ahead of the loop over the cells. -/
def PartB (w : World) (e : List Nd) (A : Option Addr) (c : Nat) (cut : Int) (cells : List Cl) (Ac : Option Addr) (cc : Nat) (a' : Act) (w' : World) : Prop :=
  ∃ Ds : List Nat, Vars w e A c cut false w' ∧ Marks (w.heap.size + 3) Ds w' ∧ ∃ u0 u1 u3 u4 u5 u7 u8 u9 u10 u11 u12 u13 u14 u15 u16 u17 u18 u19 u20 u21 u22 u23 u24 u25 u26 u27 u28 u29 u30 u31 u32 u33 u34 u35 u36 u37 u38 u39 u40 u41 u42 u43 u44 u45 u46 u47 u48 u49 u50 u51 u52 u53 u54 u55 u56 u57 u58 u59 u60 u61 u62 u63 u64 u65 u66 u67 u68 u69 u70 u71 u72 u73 u74 u75 u76 u77 u78 u79 u80 u81 u82 u83 u84 u85 u86 u87 u88 u89 u90 : Value, a' = { tmps := #[u0, u1, .slice Ac cells.length cc, u3, u4, u5, .pointer (some ⟨w.heap.size + 1 + 1, 0, none⟩), u7, u8, u9, u10, u11, u12, u13, u14, u15, u16, u17, u18, u19, u20, u21, u22, u23, u24, u25, u26, u27, u28, u29, u30, u31, u32, u33, u34, u35, u36, u37, u38, u39, u40, u41, u42, u43, u44, u45, u46, u47, u48, u49, u50, u51, u52, u53, u54, u55, u56, u57, u58, u59, u60, u61, u62, u63, u64, u65, u66, u67, u68, u69, u70, u71, u72, u73, u74, u75, u76, u77, u78, u79, u80, u81, u82, u83, u84, u85, u86, u87, u88, u89, u90], defers := Ds.map mark }
/-- A loop over the iterator, again. -/
def Again (w : World) (e : List Nd) (A : Option Addr) (c : Nat) (cut : Int) (cells : List Cl) (Ac : Option Addr) (cc : Nat) (g : Nat) (A1 : Option Addr) (c1 : Nat) (a' : Act) (w' : World) : Prop :=
  ∃ (Ds : List Nat) (r : Nat), r ≤ 2 ∧ Vars w e A c cut false w' ∧ Marks (w.heap.size + 3) Ds w' ∧ w'.cell? ⟨g, 0, none⟩ = some (.slice A1 e.length c1) ∧ Kd.C kNd w' A1 e.length e ∧ ∃ u0 u1 u5 u7 u10 u11 u12 u13 u14 u15 u16 u17 u18 u19 u20 u21 u22 u23 u24 u25 u26 u27 u28 u29 u30 u31 u32 u33 u34 u35 u36 u37 u38 u39 u40 u41 u42 u43 u44 u45 u46 u47 u48 u49 u50 u51 u52 u53 u54 u55 u56 u57 u58 u59 u60 u61 u62 u63 u64 u65 u66 u67 u68 u69 u70 u71 u72 u73 u74 u75 u76 u77 u78 u79 u80 u81 u82 u83 u84 u85 u86 u87 u88 u89 u90 : Value, a' = { tmps := #[u0, u1, .slice Ac cells.length cc, .pointer (some ⟨w.heap.size, 0, none⟩), .pointer (some ⟨w.heap.size + 1, 0, none⟩), u5, .pointer (some ⟨w.heap.size + 1 + 1, 0, none⟩), u7, .func (.func 50) #[] #[.pointer (some ⟨g, 0, none⟩)], .int .i64 r, u10, u11, u12, u13, u14, u15, u16, u17, u18, u19, u20, u21, u22, u23, u24, u25, u26, u27, u28, u29, u30, u31, u32, u33, u34, u35, u36, u37, u38, u39, u40, u41, u42, u43, u44, u45, u46, u47, u48, u49, u50, u51, u52, u53, u54, u55, u56, u57, u58, u59, u60, u61, u62, u63, u64, u65, u66, u67, u68, u69, u70, u71, u72, u73, u74, u75, u76, u77, u78, u79, u80, u81, u82, u83, u84, u85, u86, u87, u88, u89, u90], defers := Ds.map mark }
/-- The loop over the cells, again. -/
def AgainB (w : World) (e : List Nd) (A : Option Addr) (c : Nat) (cut : Int) (cells : List Cl) (Ac : Option Addr) (cc : Nat) (w3 : World) (ts : List Tm) (At : Option Addr) (ct : Nat) (Ae : Option Addr) (ce : Nat) (a' : Act) (w' : World) : Prop :=
  ∃ (Ds : List Nat) (i : Nat), i ≤ cells.length ∧ Vars w e A c cut false w' ∧ Marks (w.heap.size + 3) Ds w' ∧ Below w3.heap.size w3 w' ∧ ∃ u0 u1 u3 u4 u5 u7 u8 u9 u10 u11 u15 u16 u17 u18 u19 u20 u21 u22 u23 u24 u25 u26 u27 u28 u29 u30 u31 u32 u33 u34 u35 u36 u37 u38 u39 u40 u41 u42 u43 u44 u45 u46 u47 u48 u49 u50 u51 u52 u53 u54 u55 u56 u57 u58 u59 u60 u61 u62 u63 u64 u65 u66 u67 u68 u69 u70 u71 u72 u73 u74 u75 u76 u77 u78 u79 u80 u81 u82 u83 u84 u85 u86 u87 u88 u89 u90 : Value, a' = { tmps := #[u0, u1, .slice Ac cells.length cc, u3, u4, u5, .pointer (some ⟨w.heap.size + 1 + 1, 0, none⟩), u7, u8, u9, u10, u11, .slice At ts.length ct, .slice Ae (exprsL cells).length ce, .int .i64 i, u15, u16, u17, u18, u19, u20, u21, u22, u23, u24, u25, u26, u27, u28, u29, u30, u31, u32, u33, u34, u35, u36, u37, u38, u39, u40, u41, u42, u43, u44, u45, u46, u47, u48, u49, u50, u51, u52, u53, u54, u55, u56, u57, u58, u59, u60, u61, u62, u63, u64, u65, u66, u67, u68, u69, u70, u71, u72, u73, u74, u75, u76, u77, u78, u79, u80, u81, u82, u83, u84, u85, u86, u87, u88, u89, u90], defers := Ds.map mark }
theorem blk_set {w : World} {b : Nat} {x : Value} {t : Nat} (h : w.heap[b]? = some (.cells #[x] t (0, 0))) (v : Value) : (w.setCell ⟨b, 0, none⟩ v).heap[b]? = some (.cells #[v] t (0, 0)) := heap_setCell_same w b 0 _ _ v h

set_option maxHeartbeats 16000000 in
set_option maxRecDepth 100000 in
theorem boxall_any (e : List Nd) (A : Option Addr) (c : Nat) (cut : Int) (cells : List Cl) (Ac : Option Addr) (cc : Nat) (w : World) (ht : Tabs w) (hr : Kd.C kNd w A e.length e) (hc : e.length ≤ c) (hn : ∀ x ∈ e, x.name.size ≤ maxLen)
    (hrc : Kd.C kCl w Ac cells.length cells) (hcn : cells.length ≤ 2199023255488) (hnc : ∀ x ∈ cells, x.name.size ≤ maxLen) :
    Calls Tryd.prog 6 #[.slice A e.length c, .int .i64 cut, .slice Ac cells.length cc] w fun en w' => en = .returned (.bool true) ∧ Below w.heap.size w w' := by
  have HT := Lib.hid ht
  have HR := Lib.hid hr
  have HN := Lib.hid hn
  have HN2 := Lib.hid (fun x hx => (show x.name.size ≤ 9223372036854775807 from hn x hx))
  have HC := Lib.hid hc
  have HRC := Lib.hid hrc
  have HNC := Lib.hid hnc
  have HNC2 := Lib.hid (fun x hx => (show x.name.size ≤ 9223372036854775807 from hnc x hx))
  have HV0 := Lib.hid (vars_start w e A c cut)
  have hqf : ∀ (f : Fn) (x y : Array Value) (w : World), (binOp .eql 58 (.func f x y) .nilFunc).run Tryd.prog w = .ok (.bool false) w := fun _ _ _ _ => rfl
  clear ht hr hn hc hrc hnc
  refine callsIn_wide.1 (callsIn_of_wp_marks (F := Fence.wide) (n := 3) Tryd.func6 rfl trivial (wpIn_wide.2 ?_) rfl)
  simp only [Tryd.ntmps6, List.size_toArray, List.length_cons, List.length_nil, Nat.reduceAdd, Nat.reduceSub, Array.replicate_succ, Array.replicate_zero, List.push_toArray, List.append_toArray, List.nil_append, List.cons_append]
  go_upto_if 21 with (first
    | (go_at_call 9; refine (awake_any _).mono ?_; rintro en w1 ⟨rfl, hb1⟩; have hv1 := HV0.out.below hb1; have HV1 := Lib.hid hv1; have ecell := blk_cell hv1.ev 0; clear hb1 hv1)
    | (go_at_call 16; refine (rcheck_any e A c w1 (Kd.C_below HR.out HV1.out.B) HC.out HN2.out).mono ?_; rintro en w2 ⟨rfl, hb2⟩; have HV2 := Lib.hid (HV1.out.below hb2); clear hb2))
  refine wp_cut (PartB w e A c cut cells Ac cc) ?rest ?first
  case first =>
    intro J K' hJ hMeet
    cases hck : check e
    · have hE : errOf (check e) = 1 := by rw [hck]; rfl
      have HJ := Lib.hid hJ
      clear hck hJ
      go_wp2_with fail
      refine Met.intro (HJ.out _ _ ⟨[], HV2.out, ⟨List.Pairwise.nil, fun D h => (by cases h)⟩, ?_⟩)
      repeat apply Exists.intro
      rfl
    · have hE : errOf (check e) = 0 := by rw [hck]; rfl
      have HSD := Lib.hid ((check_iff e).1 hck)
      have hlo := HSD.out.lo
      have h64 := HSD.out.hi
      have hsub : IntKind.i64.wrap ((e.length : Int) - 1) = ((e.length - 1 : Nat) : Int) := by rw [i64_w]; unfold wrap64; omega
      have HOF : Hid (∀ k, k < e.length → OfOk e A c k) := Lib.hid (fun k hk => by
        obtain ⟨lo, hs⟩ := sound_seg HSD.out hk
        exact of_any e A c HSD.out.forms (k + 1) k lo (by omega) hs)
      have HGD : Hid (∀ k, good maxLen (termAt e k)) := Lib.hid (termAt_good HN.out)
      have HOP := Lib.hid (open_term HSD.out).2
      have HAH := Lib.hid (sound_ahead HSD.out)
      have HJ := Lib.hid hJ
      clear hck hJ
      have ecell2 := blk_cell HV2.out.ev 0
      go_wp2_with (first
        | (go_at_call 18; refine (HOF.out (e.length - 1) (by omega) w2 (Kd.C_below HR.out HV2.out.B)).mono ?_; rintro en w3 ⟨rfl, hb3⟩; have HV3 := Lib.hid (HV2.out.below hb3); clear hb3)
        | (go_at_call 25; refine (all_any (termAt e (e.length - 1)) (tpure_fine _ (HGD.out _).1) (HGD.out _).2 w3 (HT.out.below HV3.out.B)).mono ?_; rintro en w4 ⟨g, A1, c1, rfl, hgc, hCg, hb4⟩; rw [HOP.out] at hgc hCg; have HV4 := Lib.hid (HV3.out.below hb4); have HGC := Lib.hid hgc; have HCG := Lib.hid hCg; clear hb4 hgc hCg))
      refine wp_loop (Again w e A c cut cells Ac cc g A1 c1) (fun a' _ => 2 - (intOf (a'.tmps.getD 9 undef)).toNat) ?start ?round
      case start =>
        refine ⟨[], 0, by omega, HV4.out, ⟨List.Pairwise.nil, fun D h => (by cases h)⟩, HGC.out, HCG.out, ?_⟩
        repeat apply Exists.intro
        rfl
      case round =>
        rintro a' wo ⟨Ds, r, hr2, hV, hM, hgc, hCk, u0, u1, u5, u7, u10, u11, u12, u13, u14, u15, u16, u17, u18, u19, u20, u21, u22, u23, u24, u25, u26, u27, u28, u29, u30, u31, u32, u33, u34, u35, u36, u37, u38, u39, u40, u41, u42, u43, u44, u45, u46, u47, u48, u49, u50, u51, u52, u53, u54, u55, u56, u57, u58, u59, u60, u61, u62, u63, u64, u65, u66, u67, u68, u69, u70, u71, u72, u73, u74, u75, u76, u77, u78, u79, u80, u81, u82, u83, u84, u85, u86, u87, u88, u89, u90, rfl⟩
        have HV := Lib.hid hV
        have HM := Lib.hid hM
        have HGC2 := Lib.hid hgc
        have HCK := Lib.hid hCk
        have hwl := hV.lt
        clear hV hM hgc hCk
        by_cases hr : r < 2
        · go_wp2_with fail
          have HB1 := Lib.hid ((Below.refl wo.heap.size wo).alloc (Nat.le_refl _) (.cells #[.int .i64 0] 3))
          have hnb := heap_alloc_new wo (.cells #[.int .i64 0] 3)
          have hsz1 : (wo.alloc (.cells #[.int .i64 0] 3)).heap.size = wo.heap.size + 1 := by simp
          have HNB := Lib.hid hnb
          have HSZ := Lib.hid hsz1
          clear hnb hsz1
          generalize wo.alloc (.cells #[.int .i64 0] 3) = W1 at HB1 HNB HSZ ⊢
          have HM1 := Lib.hid (HM.out.below HB1.out)
          have hw1 : wo.heap.size < W1.heap.size := by have := HSZ.out; omega
          have HPOST : Hid (∀ (W : World) (a' : Act), W1.heap.size < W.heap.size → Below wo.heap.size wo W → W.heap[W1.heap.size]? = some (.deferred (some [])) → (∃ v0 v1 v5 v7 v10 v11 v12 v13 v14 v15 v16 v17 v18 v19 v20 v21 v22 v23 v24 v25 v26 v27 v28 v29 v30 v31 v32 v33 v34 v35 v36 v37 v38 v39 v40 v41 v42 v43 v44 v45 v46 v47 v48 v49 v50 v51 v52 v53 v54 v55 v56 v57 v58 v59 v60 v61 v62 v63 v64 v65 v66 v67 v68 v69 v70 v71 v72 v73 v74 v75 v76 v77 v78 v79 v80 v81 v82 v83 v84 v85 v86 v87 v88 v89 v90 : Value, a' = { tmps := #[v0, v1, .slice Ac cells.length cc, .pointer (some ⟨w.heap.size, 0, none⟩), .pointer (some ⟨w.heap.size + 1, 0, none⟩), v5, .pointer (some ⟨w.heap.size + 1 + 1, 0, none⟩), v7, .func (.func 50) #[] #[.pointer (some ⟨g, 0, none⟩)], .int .i64 ((r : Int) + 1), v10, v11, v12, v13, v14, v15, v16, v17, v18, v19, v20, v21, v22, v23, v24, v25, v26, v27, v28, v29, v30, v31, v32, v33, v34, v35, v36, v37, v38, v39, v40, v41, v42, v43, v44, v45, v46, v47, v48, v49, v50, v51, v52, v53, v54, v55, v56, v57, v58, v59, v60, v61, v62, v63, v64, v65, v66, v67, v68, v69, v70, v71, v72, v73, v74, v75, v76, v77, v78, v79, v80, v81, v82, v83, v84, v85, v86, v87, v88, v89, v90], defers := (W1.heap.size :: Ds).map mark }) → Again w e A c cut cells Ac cc g A1 c1 a' W) := Lib.hid (by
            rintro W a' hlt hB hD ⟨v0, v1, v5, v7, v10, v11, v12, v13, v14, v15, v16, v17, v18, v19, v20, v21, v22, v23, v24, v25, v26, v27, v28, v29, v30, v31, v32, v33, v34, v35, v36, v37, v38, v39, v40, v41, v42, v43, v44, v45, v46, v47, v48, v49, v50, v51, v52, v53, v54, v55, v56, v57, v58, v59, v60, v61, v62, v63, v64, v65, v66, v67, v68, v69, v70, v71, v72, v73, v74, v75, v76, v77, v78, v79, v80, v81, v82, v83, v84, v85, v86, v87, v88, v89, v90, rfl⟩
            refine ⟨W1.heap.size :: Ds, r + 1, by omega, HV.out.below hB, Marks.cons HM1.out (HM.out.below hB) (by omega) hD, nd_below hB HGC2.out, Kd.C_below HCK.out hB, ?_⟩
            repeat apply Exists.intro
            rfl)
          refine wp_range (gf := 50) (lb := #[.pointer (some ⟨g, 0, none⟩)]) (T := fun k => #[tval (termAt e k)]) (N := e.length) rfl (enters_of Tryd.func50 (by kernel_rfl) rfl) (fun _ => rfl) (iter_any e h64 HAH.out g A1 c1 W1 (nd_below HB1.out HGC2.out) (Kd.C_below HCK.out HB1.out))
            (fun k W => Below wo.heap.size wo W ∧ W.heap[wo.heap.size]? = some (.cells #[.int .i64 (k : Nat)] 3 (0, 0)) ∧ (k = 0 ∨ ¬ (k : Int) = cut))
            (fun c W => c = .exit 2 ∧ ∃ k : Nat, Below wo.heap.size wo W ∧ W.heap[wo.heap.size]? = some (.cells #[.int .i64 (k : Nat)] 3 (0, 0)) ∧ (k : Int) = cut)
            (fun k W W' h hb => ⟨h.1.trans (hb.mono (by omega)), (hb.block _ hw1).trans h.2.1, h.2.2⟩)
            (fun c W W' h hb => ⟨h.1, by obtain ⟨k, h1, h2, h3⟩ := h.2; exact ⟨k, h1.trans (hb.mono (by omega)), (hb.block _ hw1).trans h2, h3⟩⟩)
            ⟨HB1.out, HNB.out, .inl rfl⟩
            (fun k => { tmps := #[u0, u1, .slice Ac cells.length cc, .pointer (some ⟨w.heap.size, 0, none⟩), .pointer (some ⟨w.heap.size + 1, 0, none⟩), u5, .pointer (some ⟨w.heap.size + 1 + 1, 0, none⟩), u7, .func (.func 50) #[] #[.pointer (some ⟨g, 0, none⟩)], .int .i64 r, .pointer (some ⟨wo.heap.size, 0, none⟩), tval (termAt e k), u12, u13, u14, u15, u16, u17, u18, u19, u20, u21, u22, u23, u24, u25, u26, u27, u28, u29, u30, .int .i64 (r : Int), .bool true, u33, u34, .func (.func 50) #[] #[.pointer (some ⟨g, 0, none⟩)], tval (termAt e k), u37, u38, u39, u40, u41, u42, u43, u44, u45, u46, u47, u48, u49, u50, u51, u52, u53, u54, u55, u56, u57, u58, u59, u60, u61, u62, u63, u64, u65, u66, u67, u68, u69, u70, u71, u72, u73, u74, u75, u76, u77, u78, u79, u80, u81, u82, u83, u84, u85, u86, u87, u88, u89, u90], defers := [] }) ?assign ?body ?done ?stop
          case assign =>
            intro l k W K hK
            gi_wp2
            exact hK
          case body =>
            rintro l k W hsz ⟨hB, hN, hk⟩ hkN
            have hvw := HV.out.below hB
            have ncell := blk_cell hN 0
            have nfr := blk_frozen hN 0
            have ec := blk_cell hvw.ev 0
            have ct := blk_cell hvw.cv 0
            have HVW := Lib.hid hvw
            have HB := Lib.hid hB
            have HNK := Lib.hid hN
            clear hvw hB hN hk
            by_cases hcut : (k : Int) + 1 = cut
            · have d1 : ((k : Int) + 1 == cut) = true := beq_iff_eq.2 hcut
              have HCUT := Lib.hid hcut
              clear hcut
              gi_wp2_with (first
                | (refine ⟨trivial, ?_⟩; gi_at_call 18; refine (CallsIn.inRound l (callsIn_wide.2 (HOF.out k hkN W (Kd.C_below HR.out HVW.out.B)))).mono ?_; rintro en w5 ⟨rfl, hb5⟩; have HB5 := Lib.hid hb5; clear hb5)
                | (refine ⟨trivial, ?_⟩; gi_at_call 17; refine (CallsIn.inRound l (callsIn_wide.2 (alike_self (termAt e k) (HGD.out k).1 w5))).mono ?_; rintro en w6 ⟨rfl, hb6⟩; have hb56 := HB5.out.trans (hb6.mono HB5.out.size); have ncell6 := nd_below hb56 ncell; have hn6 := (hb56.block _ (Array.getElem?_eq_some_iff.1 HNK.out).1).trans HNK.out; have nfr6 := blk_frozen hn6 0; have ec6 := nd_below hb56 ec; have ct6 := nd_below hb56 ct; have HN6 := Lib.hid hn6; have HB56 := Lib.hid hb56; clear hb6 hb56 hn6))
              exact ⟨(Upper.below HB56.out).setCell (p := ⟨wo.heap.size, 0, none⟩) hw1 _, rfl, k + 1, (HB.out.trans (HB56.out.mono HB.out.size)).setCell (p := ⟨wo.heap.size, 0, none⟩) (Nat.le_refl _) _, blk_set HN6.out _, HCUT.out⟩
            · have d1 : ((k : Int) + 1 == cut) = false := beq_eq_false_iff_ne.2 hcut
              have HCUT := Lib.hid hcut
              clear hcut
              gi_wp2_with (first
                | (refine ⟨trivial, ?_⟩; gi_at_call 18; refine (CallsIn.inRound l (callsIn_wide.2 (HOF.out k hkN W (Kd.C_below HR.out HVW.out.B)))).mono ?_; rintro en w5 ⟨rfl, hb5⟩; have HB5 := Lib.hid hb5; clear hb5)
                | (refine ⟨trivial, ?_⟩; gi_at_call 17; refine (CallsIn.inRound l (callsIn_wide.2 (alike_self (termAt e k) (HGD.out k).1 w5))).mono ?_; rintro en w6 ⟨rfl, hb6⟩; have hb56 := HB5.out.trans (hb6.mono HB5.out.size); have ncell6 := nd_below hb56 ncell; have hn6 := (hb56.block _ (Array.getElem?_eq_some_iff.1 HNK.out).1).trans HNK.out; have nfr6 := blk_frozen hn6 0; have ec6 := nd_below hb56 ec; have ct6 := nd_below hb56 ct; have HN6 := Lib.hid hn6; have HB56 := Lib.hid hb56; clear hb6 hb56 hn6))
              exact ⟨(Upper.below HB56.out).setCell (p := ⟨wo.heap.size, 0, none⟩) hw1 _, (HB.out.trans (HB56.out.mono HB.out.size)).setCell (p := ⟨wo.heap.size, 0, none⟩) (Nat.le_refl _) _, blk_set HN6.out _, Or.inr HCUT.out⟩
          case done =>
            rintro W hlt ⟨hB, hN, hk⟩ hD
            have hvw := HV.out.below hB
            have ncell := blk_cell hN 0
            have ec := blk_cell hvw.ev 0
            have ct := blk_cell hvw.cv 0
            have HVW := Lib.hid hvw
            have HB := Lib.hid hB
            have HD := Lib.hid hD
            clear hvw hB hN hk hD
            have d2 : ((e.length : Int) == (e.length : Int)) = true := beq_self_eq_true _
            go_wp2_with fail
            refine ⟨HPOST.out _ _ hlt HB.out HD.out ?_, ?_⟩
            · repeat apply Exists.intro
              rfl
            · simp [intOf]; omega
          case stop =>
            rintro c' W hlt ⟨rfl, k, hB, hN, hk⟩ hD
            have hvw := HV.out.below hB
            have ncell := blk_cell hN 0
            have ec := blk_cell hvw.ev 0
            have ct := blk_cell hvw.cv 0
            have HVW := Lib.hid hvw
            have HB := Lib.hid hB
            have HD := Lib.hid hD
            have d1 : ((k : Int) == cut) = true := beq_iff_eq.2 hk
            have d3 : ((k : Int) != cut) = false := by simp [bne, d1]
            clear hvw hB hN hk hD
            by_cases hke : (k : Int) = (e.length : Int)
            · have d2 : ((k : Int) == (e.length : Int)) = true := beq_iff_eq.2 hke
              have d4 : ((k : Int) != (e.length : Int)) = false := by simp [bne, d2]
              clear hke
              go_wp2_with fail
              refine ⟨HPOST.out _ _ hlt HB.out HD.out ?_, ?_⟩
              · repeat apply Exists.intro
                rfl
              · simp [intOf]; omega
            · have d2 : ((k : Int) == (e.length : Int)) = false := beq_eq_false_iff_ne.2 hke
              have d4 : ((k : Int) != (e.length : Int)) = true := by simp [bne, d2]
              clear hke
              go_wp2_with fail
              refine ⟨HPOST.out _ _ hlt HB.out HD.out ?_, ?_⟩
              · repeat apply Exists.intro
                rfl
              · simp [intOf]; omega
        · have hr1 : r = 2 := by omega
          go_wp2_with fail
          refine Met.intro (HJ.out _ _ ⟨Ds, HV.out, HM.out, ?_⟩)
          repeat apply Exists.intro
          rfl
  case rest =>
    rintro a' w1 ⟨Ds, hV, hM, u0, u1, u3, u4, u5, u7, u8, u9, u10, u11, u12, u13, u14, u15, u16, u17, u18, u19, u20, u21, u22, u23, u24, u25, u26, u27, u28, u29, u30, u31, u32, u33, u34, u35, u36, u37, u38, u39, u40, u41, u42, u43, u44, u45, u46, u47, u48, u49, u50, u51, u52, u53, u54, u55, u56, u57, u58, u59, u60, u61, u62, u63, u64, u65, u66, u67, u68, u69, u70, u71, u72, u73, u74, u75, u76, u77, u78, u79, u80, u81, u82, u83, u84, u85, u86, u87, u88, u89, u90, rfl⟩
    have HV := Lib.hid hV
    have HM := Lib.hid hM
    clear hV hM
    go_wp2_with (first
      | (go_at_call 10; refine (values_any cells Ac cc w1 (Kd.C_below HRC.out HV.out.B) hcn HNC.out).mono ?_; rintro en w2 ⟨ts, At, ct, rfl, htl, htc, hCt, hval, hfine, hb2⟩; have HTL := Lib.hid htl; have HCT := Lib.hid hCt; have HVAL := Lib.hid hval; have HFI := Lib.hid hfine; have HV2 := Lib.hid (HV.out.below hb2); have HM2 := Lib.hid (HM.out.below hb2); clear htl hCt hval hfine hb2)
      | (go_at_call 11; refine (exprs_any cells Ac cc w2 (Kd.C_below HRC.out HV2.out.B) hcn HNC2.out).mono ?_; rintro en w3 ⟨ve, rfl, hRe, hb3⟩; obtain ⟨Ae, ce, ee, hce, hCe⟩ := Kd.R_reads hRe; subst ee; have HCE := Lib.hid hCe; have HCT3 := Lib.hid (Kd.C_below HCT.out hb3); have HV3 := Lib.hid (HV2.out.below hb3); have HM3 := Lib.hid (HM2.out.below hb3); clear hRe hb3 hCe))
    refine wp_loop (AgainB w e A c cut cells Ac cc w3 ts At ct Ae ce) (fun a' _ => cells.length - (intOf (a'.tmps.getD 14 undef)).toNat) ?start ?round
    case start =>
      refine ⟨Ds, 0, by omega, HV3.out, HM3.out, Below.refl _ _, ?_⟩
      repeat apply Exists.intro
      rfl
    case round =>
      rintro a' wo ⟨Ds2, i, hi, hV, hM, hB, v0, v1, v3, v4, v5, v7, v8, v9, v10, v11, v15, v16, v17, v18, v19, v20, v21, v22, v23, v24, v25, v26, v27, v28, v29, v30, v31, v32, v33, v34, v35, v36, v37, v38, v39, v40, v41, v42, v43, v44, v45, v46, v47, v48, v49, v50, v51, v52, v53, v54, v55, v56, v57, v58, v59, v60, v61, v62, v63, v64, v65, v66, v67, v68, v69, v70, v71, v72, v73, v74, v75, v76, v77, v78, v79, v80, v81, v82, v83, v84, v85, v86, v87, v88, v89, v90, rfl⟩
      have HV4 := Lib.hid hV
      have HM4 := Lib.hid hM
      have HB4 := Lib.hid hB
      have hwl := hV.lt
      clear hV hM hB
      by_cases hlt : i < cells.length
      · obtain ⟨x, hx⟩ : ∃ x, cells[i]? = some x := ⟨_, List.getElem?_eq_getElem hlt⟩
        have hti : ts[i]? = some (ts.getD i .nil) := by rw [List.getD_eq_getElem?_getD, List.getElem?_eq_getElem (by rw [HTL.out]; exact hlt)]; rfl
        have hpi := exprsL_at cells i x hx
        have hop := open_all HVAL.out (i + 1) i x (by omega) hx
        rw [List.getD_eq_getElem?_getD (l := exprsL cells), hpi] at hop
        obtain ⟨fi, tni⟩ := HFI.out _ (List.mem_of_getElem? hti)
        generalize exprOf (exprsL (cells.take i)) i x = p at hpi hop
        generalize ts.getD i .nil = t at hti hop fi tni
        simp only [Option.getD_some] at hop
        have hok := openT_ok t
        rw [hop] at hok
        obtain ⟨adt, eat, hct⟩ := tm_at HCT3.out hti
        obtain ⟨ade, Ap, cp, eae, hce1, hcp, hCp⟩ := ex_at HCE.out hpi
        subst eat
        subst eae
        have hct' := nd_below HB4.out hct
        have hce' := nd_below HB4.out hce1
        have hlts : i < ts.length := by rw [HTL.out]; exact hlt
        have hlte : i < (exprsL cells).length := by rw [exprsL_length]; exact hlt
        have HB1 := Lib.hid ((Below.refl wo.heap.size wo).alloc (Nat.le_refl _) (.cells #[.int .i64 0] 3))
        have hnb := heap_alloc_new wo (.cells #[.int .i64 0] 3)
        have hsz1 : (wo.alloc (.cells #[.int .i64 0] 3)).heap.size = wo.heap.size + 1 := by simp
        have hct4 := nd_below HB1.out hct'
        have HNB := Lib.hid hnb
        have HSZ := Lib.hid hsz1
        have HOK := Lib.hid hok
        have HOP := Lib.hid hop
        have HFT := Lib.hid fi
        have HTN := Lib.hid tni
        clear hnb hsz1 hok hop fi tni hct hce1 hCp hx hti hpi
        go_wp2_with (go_at_call 25; refine (all_any t HFT.out HTN.out _ (HT.out.below (HV4.out.B.trans (HB1.out.mono HV4.out.B.size)))).mono ?_; rintro en W1 ⟨g, A1, c1, rfl, hgc, hCg, hb5⟩; rw [HOP.out] at hgc hCg; have HGC := Lib.hid hgc; have HCG := Lib.hid hCg; have HB5 := Lib.hid (HB1.out.trans (hb5.mono (by have := HSZ.out; omega))); have HNB5 := Lib.hid ((hb5.block _ (by have := HSZ.out; omega)).trans HNB.out); have hsz5 := hb5.size; clear hb5 hgc hCg)
        have hw1 : wo.heap.size < W1.heap.size := by have := HSZ.out; omega
        have HM5 := Lib.hid (HM4.out.below HB5.out)
        have HPOST : Hid (∀ (W : World) (a' : Act), W1.heap.size < W.heap.size → Below wo.heap.size wo W → W.heap[W1.heap.size]? = some (.deferred (some [])) → (∃ x0 x1 x3 x4 x5 x7 x8 x9 x10 x11 x15 x16 x17 x18 x19 x20 x21 x22 x23 x24 x25 x26 x27 x28 x29 x30 x31 x32 x33 x34 x35 x36 x37 x38 x39 x40 x41 x42 x43 x44 x45 x46 x47 x48 x49 x50 x51 x52 x53 x54 x55 x56 x57 x58 x59 x60 x61 x62 x63 x64 x65 x66 x67 x68 x69 x70 x71 x72 x73 x74 x75 x76 x77 x78 x79 x80 x81 x82 x83 x84 x85 x86 x87 x88 x89 x90 : Value, a' = { tmps := #[x0, x1, .slice Ac cells.length cc, x3, x4, x5, .pointer (some ⟨w.heap.size + 1 + 1, 0, none⟩), x7, x8, x9, x10, x11, .slice (some adt) ts.length ct, .slice (some ade) (exprsL cells).length ce, .int .i64 ((i : Int) + 1), x15, x16, x17, x18, x19, x20, x21, x22, x23, x24, x25, x26, x27, x28, x29, x30, x31, x32, x33, x34, x35, x36, x37, x38, x39, x40, x41, x42, x43, x44, x45, x46, x47, x48, x49, x50, x51, x52, x53, x54, x55, x56, x57, x58, x59, x60, x61, x62, x63, x64, x65, x66, x67, x68, x69, x70, x71, x72, x73, x74, x75, x76, x77, x78, x79, x80, x81, x82, x83, x84, x85, x86, x87, x88, x89, x90], defers := (W1.heap.size :: Ds2).map mark }) → AgainB w e A c cut cells Ac cc w3 ts (some adt) ct (some ade) ce a' W) := Lib.hid (by
          rintro W a' hlt hB hD ⟨x0, x1, x3, x4, x5, x7, x8, x9, x10, x11, x15, x16, x17, x18, x19, x20, x21, x22, x23, x24, x25, x26, x27, x28, x29, x30, x31, x32, x33, x34, x35, x36, x37, x38, x39, x40, x41, x42, x43, x44, x45, x46, x47, x48, x49, x50, x51, x52, x53, x54, x55, x56, x57, x58, x59, x60, x61, x62, x63, x64, x65, x66, x67, x68, x69, x70, x71, x72, x73, x74, x75, x76, x77, x78, x79, x80, x81, x82, x83, x84, x85, x86, x87, x88, x89, x90, rfl⟩
          refine ⟨W1.heap.size :: Ds2, i + 1, by omega, HV4.out.below hB, Marks.cons HM5.out (HM4.out.below hB) (by omega) hD, HB4.out.trans (hB.mono HB4.out.size), ?_⟩
          repeat apply Exists.intro
          rfl)
        refine wp_range (gf := 50) (lb := #[.pointer (some ⟨g, 0, none⟩)]) (T := fun k => #[tval (termAt p k)]) (N := p.length) rfl (enters_of Tryd.func50 (by kernel_rfl) rfl) (fun _ => rfl) (iter_any p HOK.out.1 HOK.out.2 g A1 c1 W1 HGC.out HCG.out)
          (fun k W => Below wo.heap.size wo W ∧ W.heap[wo.heap.size]? = some (.cells #[.int .i64 (k : Nat)] 3 (0, 0)))
          (fun c W => False)
          (fun k W W' h hb => ⟨h.1.trans (hb.mono (by omega)), (hb.block _ hw1).trans h.2⟩)
          (fun c W W' h hb => h)
          ⟨HB5.out, HNB5.out⟩
          ?a1 ?assign ?body ?done ?stop
        case assign =>
          intro l k W K hK
          gi_wp2
          exact hK
        case body =>
          rintro l k W hsz ⟨hB, hN⟩ hkN
          have ncell := blk_cell hN 0
          have nfr := blk_frozen hN 0
          have HB := Lib.hid hB
          have HN := Lib.hid hN
          have hk64 := HOK.out.1
          clear hB hN
          gi_wp2
          exact ⟨(Upper.refl _ _).setCell (p := ⟨wo.heap.size, 0, none⟩) hw1 _, HB.out.setCell (p := ⟨wo.heap.size, 0, none⟩) (Nat.le_refl _) _, blk_set HN.out _⟩
        case stop =>
          rintro c' W hlt h hD
          exact h.elim
        case done =>
          rintro W hlt ⟨hB, hN⟩ hD
          have ncell := blk_cell hN 0
          have hce5 := nd_below hB hce'
          have HB := Lib.hid hB
          have HD := Lib.hid hD
          clear hB hN hD
          have d2 : ((p.length : Int) == (p.length : Int)) = true := beq_self_eq_true _
          go_wp2_with fail
          go_quiet (fail)
          go_wp2_with fail
          refine ⟨HPOST.out _ _ hlt (pw_below_drewN HB.out _) HD.out ?_, ?_⟩
          · repeat apply Exists.intro
            rfl
          · simp [intOf]; omega
      · obtain rfl : i = cells.length := by omega
        have rb := HV4.out.rv
        have rfr := blk_frozen rb 0
        have rcell := blk_cell rb 0
        go_wp2_with fail
        refine leaves_marks (b := w.heap.size + 1 + 1) (fun w hw => ?_) (by omega) Ds2 _ (HM4.out.setCell rb _) (blk_set rb _) (HV4.out.B.setCell (p := ⟨w.heap.size + 1 + 1, 0, none⟩) (by simp only []; omega) _)
        have := blk_cell hw 0
        simp [results, go_sem, this]
end Go.Proofs.YticaocadeeolkaaDoor
