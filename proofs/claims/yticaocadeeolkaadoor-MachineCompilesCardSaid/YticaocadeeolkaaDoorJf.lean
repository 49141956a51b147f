/-
  THE WALKS of slices.Clone (nodes), pattern.plain.
-/
import Derived.Test.YticaocadeeolkaaDoorJe
import Derived.Test.YticaocadeeolkaaDoorMP
namespace Go.Proofs.YticaocadeeolkaaDoor.Plain
open Go
/-- A variable in the place of a hole. -/
def plainN (x : Nd) : Nd := if x.op = 18 then { x with op := 2 } else x
def plainL (e : List Nd) : List Nd := e.map plainN
theorem plainL_len (e : List Nd) : (plainL e).length = e.length := by simp [plainL]
theorem plainN_name (x : Nd) : (plainN x).name = x.name := by unfold plainN; split <;> rfl
theorem plainN_kids (x : Nd) : (plainN x).kids = x.kids := by unfold plainN; split <;> rfl
/-- The first i are turned. -/
def half (e : List Nd) (i : Nat) : List Nd := (e.take i).map plainN ++ e.drop i
theorem half_zero (e : List Nd) : half e 0 = e := by simp [half]
theorem half_all (e : List Nd) : half e e.length = plainL e := by simp [half, plainL]
theorem half_len (e : List Nd) (i : Nat) : (half e i).length = e.length := by simp [half]; omega
theorem half_at {e : List Nd} {i : Nat} {x : Nd} (hx : e[i]? = some x) : (half e i)[i]? = some x := by
  have hlt := (List.getElem?_eq_some_iff.1 hx).1
  unfold half
  rw [List.getElem?_append_right (by simp; omega)]
  simp [Nat.min_eq_left (Nat.le_of_lt hlt), hx]
theorem half_next {e : List Nd} {i : Nat} {x : Nd} (hx : e[i]? = some x) : half e (i + 1) = (half e i).set i (plainN x) := by
  have hlt := (List.getElem?_eq_some_iff.1 hx).1
  have h1 : e.take (i + 1) = e.take i ++ [x] := by
    rw [List.take_succ_eq_append_getElem hlt]; congr 2; exact (List.getElem?_eq_some_iff.1 hx).2
  have h2 : e.drop i = x :: e.drop (i + 1) := by
    rw [List.drop_eq_getElem_cons hlt]; congr 1; exact (List.getElem?_eq_some_iff.1 hx).2
  unfold half
  rw [h1, h2, List.set_append_right _ _ (by simp; omega)]
  simp [Nat.min_eq_left (Nat.le_of_lt hlt)]
end Go.Proofs.YticaocadeeolkaaDoor.Plain
namespace Go.Proofs.YticaocadeeolkaaDoor
open Go.RowKit Plain Go.Proofs.YticaocadeeolkaaDoorW.PrintWords Go.Proofs.YticaocadeeolkaaDoorW.PrintLast Go.Proofs.YticaocadeeolkaaDoorW.PrintMore

theorem heap_kNd : Kd.Heap kNd := Kd.heap_iso _ (Kd.heap_pair (Kd.heap_int _) (Kd.heap_pair (Kd.heap_int _) (Kd.heap_pair Kd.heap_string (Kd.heap_slice _ (Kd.heap_int _)))))
def CloneOk (e : List Nd) (w : World) (en : Ending) (w' : World) : Prop := ∃ v, en = .returned v ∧ Kd.N kNd 96 w' w.heap.size (fun _ => True) v e ∧ Below w.heap.size w w'
set_option maxHeartbeats 4000000 in
set_option maxRecDepth 100000 in
theorem clone_any (e : List Nd) (A : Option Addr) (c : Nat) (w : World) (hr : Kd.C kNd w A e.length e) (hl : e.length ≤ 2513169434843) :
    Calls Tryd.prog 85 #[.slice A e.length c] w (CloneOk e w) := by
  have HR := Lib.hid hr
  clear hr
  cases A with
  | none =>
    have he : e = [] := by
      cases e with
      | nil => rfl
      | cons x r => obtain ⟨ad, h, _⟩ := HR.out.2.2 (by simp); cases h
    subst he
    have hq : ∀ w : World, (binOp .eql 28 (.slice none 0 c) (.slice none 0 0)).run Tryd.prog w = .ok (.bool true) w := fun _ => rfl
    go_enter Tryd.func85, Tryd.ntmps85
    go_wp2
    go_ret
    exact ⟨_, rfl, Kd.N_nil _ _ _ _ _, Below.refl _ _⟩
  | some ad =>
    have hq : ∀ w : World, (binOp .eql 28 (.slice (some ad) e.length c) (.slice none 0 0)).run Tryd.prog w = .ok (.bool false) w := fun _ => rfl
    go_enter Tryd.func85, Tryd.ntmps85
    go_wp2_with (first
      | ((with_reducible refine gate_dst (N := 5) rfl ?_); refine Kd.N_lit kNd _ 96 ?hg (N' := 5) ?hd (xs := ([] : List Nd)) (inner := []) (ok := fun _ => True) (okp := fun _ => True) ?hr ?hp (fun _ hk => hk) trivial (Below.refl _ _) (Nat.le_refl _) (by simp) ?_; (case hd => rfl); (case hg => rfl); (case hr => first | (go_simp; done) | (go_simp; rfl)); (case hp => exact (Reps.none _ _)); intro v1 w1 hR1 hb1 hg1 hn1; obtain ⟨A1, c1, e1, _, _⟩ := Kd.N_reads hR1; subst e1; have HR1 := Lib.hid hR1; have HB1 := Lib.hid hb1; have HN1 := Lib.hid hn1; have hs1 := hb1.size; clear hR1 hb1 hg1 hn1)
      | ((with_reducible refine gate_dst (N := 7) rfl ?_); refine Kd.N_append_rows kNd (w0 := w) w.heap.size ?hg (.tmp 5) (.tmp 6) 28 96 (.agg #[.int .i64 0, .int .i64 0, .string ⟨#[]⟩, .slice none 0 0]) 56 ?ho Tryd.underlying28 infoNd rfl (by decide) (by omega) _ [] e (some ad) e.length c (fun _ => True) (fun k => k < w.heap.size) ?hs ?hx HR1.out (Kd.F_below (Kd.C_F heap_kNd HR.out) HB1.out) (fun k hk => ⟨trivial, fun he => by obtain ⟨b, hb, hle⟩ := HN1.out; rw [hb] at he; cases he; omega⟩) (fun _ _ => trivial) HB1.out hs1 (by simp; omega) ?_; (case hg => rfl); (case ho => rfl); (case hs => rfl); (case hx => rfl); intro v2 w2 hR2 hb2 _ _; obtain ⟨A2, c2, e2, _, _⟩ := Kd.N_reads hR2; subst e2; have HR2 := Lib.hid hR2; have HB2 := Lib.hid hb2; clear hR2 hb2))
    go_ret
    exact ⟨_, rfl, HR2.out, HB2.out⟩
theorem FK_op {W : World} {ok : Nat → Prop} {x : Nd} {a b c d : Value} (k : Int) (h : Kd.FK kNd W ok x [a, b, c, d]) : Kd.FK kNd W ok { x with op := k } [.int .i64 k, b, c, d] := fun W' hW => by
  obtain ⟨A, c', he, hl, hC⟩ := kNd_open (h W' hW)
  simp only [List.cons.injEq, and_true] at he
  obtain ⟨_, rfl, rfl, rfl⟩ := he
  exact kNd_mkK { x with op := k } hl hC
structure PInv (e : List Nd) (w : World) (v : Value) (i : Nat) (wr : World) : Prop where
  row : Kd.N kNd 96 wr w.heap.size (fun _ => True) v (half e i)
  B : Below w.heap.size w wr
def PlainOk (e : List Nd) (w : World) (en : Ending) (w' : World) : Prop := ∃ v, en = .returned v ∧ Kd.N kNd 96 w' w.heap.size (fun _ => True) v (plainL e) ∧ Below w.heap.size w w'
set_option maxHeartbeats 4000000 in
set_option maxRecDepth 100000 in
theorem plain_any (e : List Nd) (A : Option Addr) (c : Nat) (w : World) (hr : Kd.C kNd w A e.length e) (hl : e.length ≤ 2513169434843) :
    Calls Tryd.prog 77 #[.slice A e.length c] w (PlainOk e w) := by
  have HR := Lib.hid hr
  have hu := Tryd.underlying96
  clear hr
  go_enter Tryd.func77, Tryd.ntmps77
  go_wp2_with (go_at_call 85; refine (clone_any e A c w HR.out hl).mono ?_; rintro en w1 ⟨v1, rfl, hN1, hb1⟩; obtain ⟨A1, c1, rfl, hc1, _⟩ := Kd.N_reads hN1; have HN1 := Lib.hid hN1; have HB1 := Lib.hid hb1; clear hN1 hb1)
  go_loopw [10] (fun iv wr => ∃ (i : Nat), iv = .int .i64 i ∧ i ≤ e.length ∧ Hid (PInv e w (.slice A1 e.length c1) i wr)) (fun iv _ => e.length - (intOf iv).toNat)
  case atStart => exact ⟨0, rfl, by omega, Lib.hid ⟨by rw [half_zero]; exact HN1.out, HB1.out⟩⟩
  case round =>
    obtain ⟨i, rfl, hi, hI⟩ := hrel
    by_cases hlt : i < e.length
    · obtain ⟨x, hx⟩ : ∃ x, e[i]? = some x := ⟨_, List.getElem?_eq_getElem hlt⟩
      obtain ⟨g, cap, hv, _, hgw, cells, hblk⟩ := Kd.N_form hI.out.row (by rw [half_len]; omega)
      rw [half_len] at hv
      injection hv with hA1 _ hcap
      subst hA1
      subst hcap
      obtain ⟨cs, hcl, hFK, hcc, hfr⟩ := Kd.N_elem hI.out.row x (i : Int) (by omega) (by omega)
      have hgx : (half e i).getD (i : Int).toNat x = x := by rw [Int.toNat_natCast, List.getD_eq_getElem?_getD, half_at hx]; rfl
      rw [hgx] at hFK
      obtain ⟨A3, c3, hcs, hl3, _⟩ := kNd_open (Kd.FK_now hFK)
      subst hcs
      have h4 : kNd.sz = 4 := rfl
      rw [Int.toNat_natCast, h4] at hcc hfr
      have q0 := hcc 0 _ rfl
      have q1 := hcc 1 _ rfl
      have q2 := hcc 2 _ rfl
      have q3 := hcc 3 _ rfl
      have f0 := hfr 0
      have HCC := Lib.hid hcc
      have HFK := Lib.hid hFK
      have HX := Lib.hid hx
      have HNX := Lib.hid (half_next hx)
      rw [Nat.add_zero] at q0 f0
      have hwr := hI.out.B.size
      obtain ⟨wo, rfl⟩ : ∃ wo : World, wo = wr := ⟨_, rfl⟩
      clear hcc hfr hgx hFK hcl h4 hx hblk
      by_cases hop : x.op = 18
      · have o1 : (x.op == 18) = true := beq_iff_eq.2 hop
        have HP : Hid (plainN x = { x with op := 2 }) := Lib.hid (by unfold plainN; rw [if_pos hop])
        have hs := Kd.N_seg hI.out.row (i : Int) (by omega) (by omega) (c := [.int .i64 x.op, .int .i64 x.n, .string x.name, .slice A3 x.kids.length c3]) (seg := [.int .i64 2]) (j := 0) rfl (by rw [Int.toNat_natCast]; exact HCC.out) (by decide) (x' := plainN x) (by rw [HP.out]; exact FK_op 2 HFK.out) (fun k hk => hk)
        have e1 : wo.setCells g ((i : Int).toNat * kNd.sz + 0) [.int .i64 2] = wo.setCell ⟨g, i * 4, none⟩ (.int .i64 2) := rfl
        rw [e1, Int.toNat_natCast, ← HNX.out] at hs
        have HS := Lib.hid hs.1
        have HBS := Lib.hid (hI.out.B.setCell (p := ⟨g, i * 4, none⟩) (Kd.N_base hI.out.row g (by simp [Value.ownBlock])) (.int .i64 2))
        clear hop hs e1
        go_wp2
        go_roundw
        case rel => exact ⟨i + 1, by go_num, by omega, Lib.hid ⟨Kd.N_alloc HS.out _, HBS.out.alloc (by simp [World.setCell]; omega) _⟩⟩
        case measure => simp [intOf]; omega
      · have o1 : (x.op == 18) = false := beq_eq_false_iff_ne.2 hop
        have HP : Hid (half e (i + 1) = half e i) := Lib.hid (by
          rw [HNX.out]
          have hp : plainN x = x := by unfold plainN; rw [if_neg hop]
          rw [hp]
          apply List.ext_getElem?
          intro j
          rw [List.getElem?_set]
          split
          · rename_i h; subst h; rw [half_at HX.out]; simp [half_len, hlt]
          · rfl)
        clear hop
        go_wp2
        go_roundw
        case rel => exact ⟨i + 1, by go_num, by omega, Lib.hid ⟨by rw [HP.out]; exact Kd.N_alloc hI.out.row _, hI.out.B.alloc hwr _⟩⟩
        case measure => simp [intOf]; omega
    · have hie : i = e.length := by omega
      have hN := hI.out.row
      rw [hie, half_all] at hN
      have HN := Lib.hid hN
      clear hie hN
      go_wp2
      go_ret
      exact ⟨_, rfl, HN.out, hI.out.B⟩
end Go.Proofs.YticaocadeeolkaaDoor
