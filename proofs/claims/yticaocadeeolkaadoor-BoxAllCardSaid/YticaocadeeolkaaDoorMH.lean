/-
  THE WALK of sorrelref02.behind: the nodes of an expression behind a list, their parts' places shifted.
  THE WALK of sorrelref02.Joined: an operator's node behind the nodes of its parts.
  THE WALK of sorrelref02.Make: an expression out of its parts, or none.
-/
import Derived.Test.YticaocadeeolkaaDoorMG

namespace Go.Proofs.YticaocadeeolkaaDoor
open Go.RowKit Plain Go.Proofs.YticaocadeeolkaaDoorW.PrintWords Go.Proofs.YticaocadeeolkaaDoorW.PrintLast Go.Proofs.YticaocadeeolkaaDoorW.PrintMore

theorem make_ints (n : Nat) (hn : n ≤ 17592186044416) (w : World) :
    (Instr.makeSlice 68 (.int .i64 (n : Int)) (.int .i64 (n : Int))).run Tryd.prog w = .ok (.slice (some ⟨w.heap.size, 0, none⟩) n n) (w.alloc (.cells (madeCells #[.int .i64 0] n) 3)) := by
  obtain ⟨i, hi, hzz⟩ := Option.map_eq_some_iff.1 infoInt
  simp only [Prod.mk.injEq] at hzz
  obtain ⟨hz0, hz1, hz2⟩ := hzz
  have := run_make_rowN 68 3 i (.int .i64 0) Tryd.underlying68 hi hz0 .i64 .i64 n n (Nat.le_refl _) (by rw [hz2]; omega) (by omega) w
  rw [hz1, Nat.mul_one] at this
  exact this
theorem madeCells_zero (n : Nat) : madeCells #[.int .i64 0] n = ((List.replicate n (0 : Int)).map (Value.int .i64)).toArray := by
  unfold madeCells
  apply Array.ext
  · simp
  · intro i h1 h2
    simp [Nat.mod_one]
theorem R_made_ints (w : World) (base n : Nat) (hb : base ≤ w.heap.size) (hm : n ≤ maxLen) : Kd.R (Kd.int .i64) 3 (w.alloc (.cells (madeCells #[.int .i64 0] n) 3)) base (fun _ => True) (.slice (some ⟨w.heap.size, 0, none⟩) n n) (List.replicate n 0) := by
  have := R_of_block (Value.int .i64) (fun _ => rfl) (W := w.alloc (.cells (madeCells #[.int .i64 0] n) 3)) (base := base) (g := w.heap.size) (e := 3) (xs := List.replicate n 0) (by rw [← madeCells_zero]; exact heap_alloc_new w _) hb (by simpa using hm)
  rw [List.length_replicate] at this
  exact this
/-- The numbers so far, and zeros. -/
def filled (l : List Int) (m : Nat) : List Int := l.take m ++ List.replicate (l.length - m) 0
theorem filled_length (l : List Int) {m : Nat} (h : m ≤ l.length) : (filled l m).length = l.length := by simp [filled]; omega
theorem filled_zero (l : List Int) : filled l 0 = List.replicate l.length 0 := by simp [filled]
theorem filled_all (l : List Int) : filled l l.length = l := by simp [filled]
theorem filled_next (l : List Int) {m : Nat} {x : Int} (h : l[m]? = some x) : (filled l m).set m x = filled l (m + 1) := by
  have hlt := (List.getElem?_eq_some_iff.1 h).1
  have hx := (List.getElem?_eq_some_iff.1 h).2
  unfold filled
  rw [List.set_append_right _ _ (by simp; omega), List.take_succ_eq_append_getElem hlt, hx, List.append_assoc]
  congr 1
  obtain ⟨d, hd⟩ : ∃ d, l.length - m = d + 1 := ⟨l.length - m - 1, by omega⟩
  rw [hd, List.replicate_succ, List.length_take, Nat.min_eq_left (by omega), Nat.sub_self, List.set_cons_zero]
  have : l.length - (m + 1) = d := by omega
  rw [this]; rfl

set_option maxHeartbeats 8000000 in
set_option maxRecDepth 100000 in
theorem behind_any (l e : List Nd) (A : Option Addr) (c : Nat) (v : Value) (w0 w : World) (ok : Nat → Prop) (hfr : ∀ k, w.heap.size ≤ k → ok k) (he : Kd.C kNd w0 A e.length e) (hah : Ahead e) (hb : Below w0.heap.size w0 w) (hr : Kd.R kNd 96 w w0.heap.size ok v l) (hlen : l.length + e.length ≤ 64) :
    Calls Tryd.prog 72 #[v, .slice A e.length c] w fun en w' => ∃ v', en = .returned v' ∧ Kd.R kNd 96 w' w0.heap.size ok v' (l ++ shift l.length e) ∧ Below w0.heap.size w0 w' ∧ KeepBut w w' w.heap.size v.ownBlock ∧ (v'.ownBlock = v.ownBlock ∨ ∃ b, v'.ownBlock = some b ∧ w.heap.size ≤ b) := by
  have HE := Lib.hid he
  have HAH := Lib.hid hah
  have HB := Lib.hid hb
  have HR := Lib.hid hr
  have hu := Tryd.underlying96
  have hsh : (shift (l.length : Int) e).length = e.length := shift_length _ _
  have HSH := Lib.hid hsh
  obtain ⟨Al, cl, rfl, hcl, _⟩ := Kd.R_reads hr
  have HFR := Lib.hid hfr
  clear he hah hb hr hsh hfr
  go_enter Tryd.func72, Tryd.ntmps72
  go_wp2
  go_loopw [0, 6] (fun v iv wr => ∃ (i : Nat), iv = .int .i64 i ∧ i ≤ e.length ∧ Hid (Kd.R kNd 96 wr w0.heap.size ok v (l ++ (shift l.length e).take i)) ∧ Hid (Below w0.heap.size w0 wr) ∧ Hid (KeepBut w wr w.heap.size (Value.slice Al l.length cl).ownBlock) ∧ Hid (v.ownBlock = (Value.slice Al l.length cl).ownBlock ∨ ∃ b, v.ownBlock = some b ∧ w.heap.size ≤ b)) (fun _ iv _ => e.length - (intOf iv).toNat)
  case atStart => exact ⟨0, rfl, by omega, Lib.hid (by simpa using HR.out), HB, Lib.hid (KeepBut.refl _ _ _), Lib.hid (.inl rfl)⟩
  case round =>
    obtain ⟨i, rfl, hi, hO, hBr, hF, hOw⟩ := hrel
    by_cases hlt : i < e.length
    · obtain ⟨x, hx⟩ : ∃ x, e[i]? = some x := ⟨_, List.getElem?_eq_getElem hlt⟩
      obtain ⟨ad, A3, c3, hA, q0, q1, q2, q3, hl3, hk3⟩ := nd_at HE.out hx
      subst hA
      have hq0 := nd_below hBr.out q0
      have hq1 := nd_below hBr.out q1
      have hq2 := nd_below hBr.out q2
      have hq3 := nd_below hBr.out q3
      have HX := Lib.hid hx
      have hkl : x.kids.length ≤ 3 := (HAH.out i x hx).1
      have HAX := Lib.hid (HAH.out i x hx).2
      obtain ⟨wo, rfl⟩ : ∃ wo : World, wo = wr := ⟨_, rfl⟩
      have HK3 := Lib.hid (Kd.C_below hk3 hBr.out)
      clear q0 q1 q2 q3 hx hk3
      have hmk := make_ints x.kids.length (by omega)
      go_wp2
      clear hmk
      have hnode : (wo.alloc (.cells #[.int .i64 x.op, .int .i64 x.n, .string x.name, .slice A3 x.kids.length c3] 96)).heap[wo.heap.size]? = some (.cells #[.int .i64 x.op, .int .i64 x.n, .string x.name, .slice A3 x.kids.length c3] 96 (0, 0)) := heap_alloc_new wo _
      have hBn : Below wo.heap.size wo (wo.alloc (.cells #[.int .i64 x.op, .int .i64 x.n, .string x.name, .slice A3 x.kids.length c3] 96)) := (Below.refl _ _).alloc (Nat.le_refl _) _
      have hRI := R_made_ints (wo.alloc (.cells #[.int .i64 x.op, .int .i64 x.n, .string x.name, .slice A3 x.kids.length c3] 96)) (wo.heap.size + 1) x.kids.length (by simp) (by unfold maxLen; omega)
      have hsz1 : (wo.alloc (.cells #[.int .i64 x.op, .int .i64 x.n, .string x.name, .slice A3 x.kids.length c3] 96)).heap.size = wo.heap.size + 1 := by simp
      rw [hsz1] at hRI
      have hnode2 := (Below.heap_alloc _ (.cells (madeCells #[.int .i64 0] x.kids.length) 3) _ (by rw [hsz1]; omega)).trans hnode
      have hBn2 := hBn.alloc (by rw [hsz1]; omega) (.cells (madeCells #[.int .i64 0] x.kids.length) 3)
      have HND := Lib.hid hnode2
      have HBN := Lib.hid hBn2
      have HRI := Lib.hid hRI
      have hbl : Below w0.heap.size w0 wo := hBr.out
      have hw0 : w0.heap.size ≤ wo.heap.size := hbl.size
      clear hnode hBn hsz1 hnode2 hBn2 hRI hbl
      go_loopw [9] (fun iv w2 => ∃ (m : Nat), iv = .int .i64 m ∧ m ≤ x.kids.length ∧ Hid (Kd.R (Kd.int .i64) 3 w2 (wo.heap.size + 1) (fun _ => True) (.slice (some ⟨wo.heap.size + 1, 0, none⟩) x.kids.length x.kids.length) (filled (x.kids.map (· + (l.length : Int))) m)) ∧ Hid (w2.heap[wo.heap.size]? = some (.cells #[.int .i64 x.op, .int .i64 x.n, .string x.name, .slice A3 x.kids.length c3] 96 (0, 0))) ∧ Hid (Below wo.heap.size wo w2)) (fun iv _ => x.kids.length - (intOf iv).toNat)
      case atStart => exact ⟨0, rfl, by omega, Lib.hid (by rw [filled_zero, List.length_map]; exact HRI.out), HND, HBN⟩
      case round =>
        obtain ⟨m, rfl, hm, hR2, hN2, hB2⟩ := hrel
        have n3 := blk_cell hN2.out 3
        by_cases hmt : m < x.kids.length
        · obtain ⟨a3, e3, hc3⟩ := int_at HK3.out (List.getElem?_eq_getElem hmt)
          subst e3
          obtain ⟨hj0, hj1⟩ := HAX.out x.kids[m] (List.getElem_mem hmt)
          have hc3' := nd_below hB2.out hc3
          generalize hJ0 : x.kids[m] = j at *
          have HJ := Lib.hid hJ0
          have hwr : IntKind.i64.wrap (j + (l.length : Int)) = j + (l.length : Int) := by rw [i64_w]; unfold wrap64; omega
          obtain ⟨hcl2, hfr⟩ := Kd.R_celln 0 hR2.out (m : Int) (by omega) (by omega)
          rw [Int.toNat_natCast] at hcl2 hfr
          clear hc3 hJ0
          go_wp2
          go_roundw
          case rel =>
            refine ⟨m + 1, by go_num, by omega, ?_, ?_, ?_⟩
            · have := Kd.R_putn hR2.out (m : Int) (j + (l.length : Int))
              rw [Int.toNat_natCast, filled_next _ (by rw [List.getElem?_map, List.getElem?_eq_getElem hmt, HJ.out]; rfl)] at this
              exact this
            · exact (Below.heap_setCell _ _ _ _ (by simp)).trans hN2.out
            · exact hB2.out.setCell (by simp) _
          case measure => simp [intOf]; omega
        · have hme : m = x.kids.length := by omega
          have hRe := hR2.out
          rw [hme] at hRe
          have hfa := filled_all (x.kids.map (· + (l.length : Int)))
          rw [List.length_map] at hfa
          rw [hfa] at hRe
          clear hfa
          have HRE := Lib.hid hRe
          have hfr := blk_frozen hN2.out 3
          have hsw : wo.heap.size + 1 ≤ wr.heap.size := (Array.getElem?_eq_some_iff.1 hN2.out).1
          clear hRe hme
          go_wp2_with (first | ((with_reducible show wpList _ _ _ (_ :: _) _ (World.setCell _ _ _)); refine Hid.out (p := _) ?_))
          have HN5 := Lib.hid (heap_setCell_same wr wo.heap.size 3 _ _ (.slice (some ⟨wo.heap.size + 1, 0, none⟩) x.kids.length x.kids.length) hN2.out)
          have HB5 := Lib.hid (hBr.out.trans ((hB2.out.setCell (p := ⟨wo.heap.size, 3, none⟩) (by simp) (.slice (some ⟨wo.heap.size + 1, 0, none⟩) x.kids.length x.kids.length)).mono hw0))
          have HF5 := Lib.hid (hF.out.trans (KeepBut.of_below (hB2.out.setCell (p := ⟨wo.heap.size, 3, none⟩) (by simp) (.slice (some ⟨wo.heap.size + 1, 0, none⟩) x.kids.length x.kids.length)) w.heap.size _) (.inl rfl))
          have HO5 := Lib.hid (Kd.R_below hO.out (hB2.out.setCell (p := ⟨wo.heap.size, 3, none⟩) (by simp) (.slice (some ⟨wo.heap.size + 1, 0, none⟩) x.kids.length x.kids.length)))
          have HK5 := Lib.hid (Kd.R_lower (base' := w0.heap.size) (Kd.R_far (p := ⟨wo.heap.size, 3, none⟩) (Kd.R_mono (Kd.R_tight rfl HRE.out) (ok' := fun k => k = wo.heap.size + 1) (fun k hk => by simpa [Value.ownBlock] using hk)) (fun k hk => by simp only; omega) (.slice (some ⟨wo.heap.size + 1, 0, none⟩) x.kids.length x.kids.length)) (by omega))
          have hsw5 : wo.heap.size + 1 ≤ (wr.setCell ⟨wo.heap.size, 3, none⟩ (.slice (some ⟨wo.heap.size + 1, 0, none⟩) x.kids.length x.kids.length)).heap.size := by simpa [World.setCell] using hsw
          generalize wr.setCell ⟨wo.heap.size, 3, none⟩ (.slice (some ⟨wo.heap.size + 1, 0, none⟩) x.kids.length x.kids.length) = W5 at HN5 HB5 HO5 HK5 HF5 hsw5 ⊢
          have n0 := blk_cell HN5.out 0
          have n1 := blk_cell HN5.out 1
          have n2 := blk_cell HN5.out 2
          have n3' := blk_cell HN5.out 3
          clear n3 hfr
          unfold Hid
          go_wp2_with (refine Kd.R_append kNd (w0 := w0) w0.heap.size rfl (.tmp 45) (.tmp 47) 28 96 (.agg #[.int .i64 0, .int .i64 0, .string ⟨#[]⟩, .slice none 0 0]) 56 rfl Tryd.underlying28 infoNd rfl (by decide) (by omega) _ (l ++ (shift l.length e).take i) ⟨x.op, x.n, x.name, x.kids.map (· + (l.length : Int))⟩ [.int .i64 x.op, .int .i64 x.n, .string x.name, .slice (some ⟨wo.heap.size + 1, 0, none⟩) x.kids.length x.kids.length] ok (fun k => k = wo.heap.size + 1) rfl rfl ?aP ?aK ?aF ?aO ?aB ?aS ?aL ?_)
          case aP => exact kNd_mkM _ _ _ ⟨x.op, x.n, x.name, x.kids.map (· + (l.length : Int))⟩ HK5.out
          case aF => exact fun k hk => HFR.out k (by have := HF5.out.1; omega)
          case aK => exact fun k hk => ⟨HFR.out k (by have := hF.out.1; omega), fun he => by have := Kd.R_lt hO.out k he.symm; omega⟩
          case aO => exact HO5.out
          case aB => exact HB5.out
          case aS => omega
          case aL => simp; omega
          intro v1 w6 ho6 hb6 hg6 hat6
          have HF6 := Lib.hid (HF5.out.trans (KeepBut.of_grown hg6 w.heap.size) hOw.out)
          have HOW6 : Hid (v1.ownBlock = (Value.slice Al l.length cl).ownBlock ∨ ∃ b, v1.ownBlock = some b ∧ w.heap.size ≤ b) := Lib.hid (by
            have hww : w.heap.size ≤ W5.heap.size := HF5.out.1
            rcases hat6 with h | ⟨b, h1, h2⟩
            · rw [h]; exact hOw.out
            · exact .inr ⟨b, h1, by omega⟩)
          clear hg6 hat6
          have HO6 := Lib.hid ho6
          have HB6 := Lib.hid hb6
          clear ho6 hb6
          go_wp2
          go_roundw
          case rel =>
            refine ⟨i + 1, by go_num, by omega, ?_, HB6, HF6, HOW6⟩
            have hs : (shift (l.length : Int) e)[i]? = some ⟨x.op, x.n, x.name, x.kids.map (· + (l.length : Int))⟩ := shift_get HX.out
            show Kd.R kNd _ _ _ _ _ _
            rw [take_next hs]
            exact HO6.out
          case measure => simp [intOf]; omega
    · have hie : i = e.length := by omega
      have hOe := hO.out
      rw [hie, List.take_of_length_le (by rw [HSH.out]; omega)] at hOe
      have HOE := Lib.hid hOe
      clear hOe hie
      go_wp2
      go_ret
      exact ⟨_, rfl, HOE.out, hBr.out, hF.out, hOw.out⟩
end Go.Proofs.YticaocadeeolkaaDoor

namespace Go.Proofs.YticaocadeeolkaaDoor
open Go.RowKit Plain Go.Proofs.YticaocadeeolkaaDoorW.PrintWords Go.Proofs.YticaocadeeolkaaDoorW.PrintLast Go.Proofs.YticaocadeeolkaaDoorW.PrintMore

/-- The kind of an expression in a list. -/
def kEx : Kd (List Nd) := Kd.slice 96 kNd
theorem ex_at {w : World} {A : Option Addr} {n : Nat} {ps : List (List Nd)} (h : Kd.C kEx w A n ps) {k : Nat} {p : List Nd} (hx : ps[k]? = some p) :
    ∃ ad Ap cp, A = some ad ∧ w.cell? (ad.add k) = some (.slice Ap p.length cp) ∧ p.length ≤ cp ∧ Kd.C kNd w Ap p.length p := by
  have hlt := (List.getElem?_eq_some_iff.1 hx).1
  have hn : ps.length = n := h.1
  obtain ⟨ad, he, hc⟩ := h.2.2 (by omega)
  obtain ⟨c, hs, ⟨Ap, cp, hcc, hle, hC⟩, hcell⟩ := hc k p hx
  subst hcc
  refine ⟨ad, Ap, cp, he, ?_, hle, hC⟩
  have := hcell 0 (.slice Ap p.length cp) rfl
  simpa [kEx, Kd.slice] using this
theorem sizes_drop {ps : List (List Nd)} {i : Nat} {p : List Nd} (h : ps[i]? = some p) : sizes (ps.drop i) = p.length + sizes (ps.drop (i + 1)) := by
  have hlt := (List.getElem?_eq_some_iff.1 h).1
  have : ps.drop i = p :: ps.drop (i + 1) := by
    rw [List.drop_eq_getElem_cons hlt]; congr 1
    exact (List.getElem?_eq_some_iff.1 h).2
  rw [this]; simp [sizes]
theorem join_drop {ps : List (List Nd)} {i : Nat} {p : List Nd} (h : ps[i]? = some p) (l : List Nd) (ks : List Int) : joinGo (ps.drop i) l ks = joinGo (ps.drop (i + 1)) (l ++ shift l.length p) (ks ++ [last (l ++ shift l.length p)]) := by
  have hlt := (List.getElem?_eq_some_iff.1 h).1
  have : ps.drop i = p :: ps.drop (i + 1) := by
    rw [List.drop_eq_getElem_cons hlt]; congr 1
    exact (List.getElem?_eq_some_iff.1 h).2
  rw [this]; rfl
set_option maxHeartbeats 8000000 in
set_option maxRecDepth 100000 in
theorem joined_any (op n : Int) (name : ByteArray) (A3 : Option Addr) (n3 c3 : Nat) (ps : List (List Nd)) (A : Option Addr) (c : Nat) (w : World) (hr : Kd.C kEx w A ps.length ps) (h3 : ps.length ≤ 3) (hsz : 1 + sizes ps ≤ 64) (hah : ∀ p ∈ ps, Ahead p) (h1 : ∀ p ∈ ps, 1 ≤ p.length) :
    Calls Tryd.prog 58 #[.agg #[.int .i64 op, .int .i64 n, .string name, .slice A3 n3 c3], .slice A ps.length c] w fun en w' => ∃ v, en = .returned v ∧ Kd.R kNd 96 w' w.heap.size (fun _ => True) v (joined op n name ps) ∧ Below w.heap.size w w' := by
  have HR := Lib.hid hr
  have HAH := Lib.hid hah
  have H1 := Lib.hid h1
  have hu := Tryd.underlying96
  clear hr hah h1
  go_enter Tryd.func58, Tryd.ntmps58
  go_wp2
  have HND := Lib.hid (heap_alloc_new w (.cells #[.int .i64 op, .int .i64 n, .string name, .slice A3 n3 c3] 96 (0, 0)))
  have HBW := Lib.hid ((Below.refl w.heap.size w).alloc (Nat.le_refl _) (.cells #[.int .i64 op, .int .i64 n, .string name, .slice A3 n3 c3] 96 (0, 0)))
  have hszW : w.heap.size < (w.alloc (.cells #[.int .i64 op, .int .i64 n, .string name, .slice A3 n3 c3] 96 (0, 0))).heap.size := by simp
  generalize w.alloc (.cells #[.int .i64 op, .int .i64 n, .string name, .slice A3 n3 c3] 96 (0, 0)) = W0 at *
  have HR := Lib.hid (Kd.C_below HR.out HBW.out)
  go_loopw [5, 6, 7] (fun vl vk iv wr => ∃ (i : Nat) (l1 : List Nd) (ks : List Int), iv = .int .i64 i ∧ i ≤ ps.length ∧ ks.length ≤ i ∧ l1.length + 1 + sizes (ps.drop i) ≤ 64 ∧ Hid (joinGo (ps.drop i) l1 ks = joinGo ps [] []) ∧ Hid (Kd.R kNd 96 wr W0.heap.size (fun k => some k ≠ vk.ownBlock) vl l1) ∧ Hid (Kd.R (Kd.int .i64) 3 wr W0.heap.size (fun _ => True) vk ks) ∧ Hid (Below W0.heap.size W0 wr)) (fun _ _ iv _ => ps.length - (intOf iv).toNat)
  case atStart => exact ⟨0, [], [], rfl, by omega, by simp, by simp; omega, Lib.hid rfl, Lib.hid (Kd.R_nil _ _ _ _ _), Lib.hid (Kd.R_nil _ _ _ _ _), Lib.hid (Below.refl _ _)⟩
  case round =>
    obtain ⟨i, l1, ks, rfl, hi, hks, hl1, hq, hL, hK, hB⟩ := hrel
    by_cases hlt : i < ps.length
    · obtain ⟨p, hp⟩ : ∃ p, ps[i]? = some p := ⟨_, List.getElem?_eq_getElem hlt⟩
      obtain ⟨ad, Ap, cp, hA, hcell, hcp, hCp⟩ := ex_at HR.out hp
      subst hA
      rw [sizes_drop hp] at hl1
      have hcell' := nd_below hB.out hcell
      have hp1 := H1.out p (List.mem_of_getElem? hp)
      have hqq := (join_drop hp l1 ks).symm.trans hq.out
      obtain ⟨wo, rfl⟩ : ∃ wo : World, wo = wr := ⟨_, rfl⟩
      have hbh := Lib.hid (behind_any l1 p Ap cp _ W0 wo _ (fun k hk he => by have := Kd.R_lt hK.out k he.symm; omega) hCp (HAH.out p (List.mem_of_getElem? hp)) hB.out hL.out (by omega))
      have hl2len : (l1 ++ shift (l1.length : Int) p).length = l1.length + p.length := by rw [List.length_append, shift_length]
      clear hcell hCp hp
      generalize l1 ++ shift (l1.length : Int) p = l2 at hqq hbh hl2len
      have HQ := Lib.hid hqq
      have hwr : IntKind.i64.wrap ((l2.length : Int) - 1) = (l2.length : Int) - 1 := by rw [i64_w]; unfold wrap64; omega
      have hll : 1 ≤ l2.length := by omega
      have hlb : l2.length + 1 + sizes (ps.drop (i + 1)) ≤ 64 := by omega
      have hWo := hB.out.size
      have hty : Hid (∀ b, u6.ownBlock = some b → some b ≠ u5.ownBlock) := Lib.hid (fun b hb he => by
        obtain ⟨c1, h1⟩ := Kd.R_typed hK.out b hb
        obtain ⟨c2, h2⟩ := Kd.R_typed hL.out b he.symm
        rw [h1] at h2
        simp at h2)
      clear hqq hl2len hl1
      go_wp2_with (first | (go_at_call 72; refine hbh.out.mono ?_; rintro en w4 ⟨v4, rfl, hR4, hB4, hF4, hO4⟩; obtain ⟨A4, c4, e4, _, _⟩ := Kd.R_reads hR4; subst e4; have HL4 := Lib.hid hR4; have HB4 := Lib.hid hB4; have HK4 := Lib.hid (keep_own rfl hK.out hF4 (fun he => by have := Kd.R_lt hK.out _ he.symm; omega) hty.out); have hW4 := hB4.size; clear hR4 hB4 hF4 hO4) | (refine Kd.R_append (Kd.int .i64) (w0 := W0) W0.heap.size rfl (.tmp 20) (.tmp 24) 68 3 (.int .i64 0) 8 rfl Tryd.underlying68 infoInt rfl (by decide) (by omega) _ ks ((l2.length : Int) - 1) [.int .i64 ((l2.length : Int) - 1)] (fun _ => True) (fun _ => False) rfl rfl ?aP (fun _ h => h.elim) (fun _ _ => trivial) ?aO ?aB ?aS ?aL ?_))
      case aP => exact rfl
      case aO => exact HK4.out
      case aB => exact HB4.out
      case aS => exact hW4
      case aL => omega
      intro v5 w5 hR5 hB5 hg5 hat5
      have HK5 := Lib.hid hR5
      have HB5 := Lib.hid hB5
      have HL5 := Lib.hid (Kd.R_mono (Kd.R_after (v1 := v5) (Kd.R_mono HL4.out (ok' := fun k => True ∧ some k ≠ u6.ownBlock) (fun _ hk => ⟨trivial, hk⟩)) hg5 hat5) (fun _ hk => hk.2))
      clear hR5 hB5 hg5 hat5
      go_wp2
      go_roundw
      case rel => exact ⟨i + 1, l2, ks ++ [last l2], by go_num, by omega, by simp; omega, by omega, HQ, HL5, HK5, HB5⟩
      case measure => simp [intOf]; omega
    · have hie : i = ps.length := by omega
      have hqe := hq.out
      rw [hie, List.drop_length] at hqe
      have HQ := Lib.hid (show (l1, ks) = joinGo ps [] [] from hqe)
      have hN := (hB.out.block _ hszW).trans HND.out
      obtain ⟨Ak, ck, eK, _, _⟩ := Kd.R_reads hK.out
      subst eK
      have hfr := blk_frozen hN 3
      have hn3 := blk_cell hN 3
      have HN := Lib.hid hN
      have hWo := hB.out.size
      clear hqe hie hN
      go_wp2_with (first | ((with_reducible show wpList _ _ _ (_ :: _) _ (World.setCell _ _ _)); refine Hid.out (p := _) ?_))
      have HN5 := Lib.hid (heap_setCell_same wr w.heap.size 3 _ _ (.slice Ak ks.length ck) HN.out)
      have HB5 := Lib.hid ((HBW.out.trans (hB.out.mono (Nat.le_of_lt hszW))).setCell (p := ⟨w.heap.size, 3, none⟩) (Nat.le_refl _) (.slice Ak ks.length ck))
      have HL5 := Lib.hid (Kd.R_lower (base' := w.heap.size) (Kd.R_far (p := ⟨w.heap.size, 3, none⟩) (Kd.R_mono (Kd.R_bound hL.out) (ok' := fun k => W0.heap.size ≤ k) (fun k hk => hk.2.1)) (fun k hk => by simp only; omega) (.slice Ak ks.length ck)) (Nat.le_of_lt hszW))
      have HK5 := Lib.hid (Kd.R_lower (base' := w.heap.size) (Kd.R_tight rfl (Kd.R_far (p := ⟨w.heap.size, 3, none⟩) (Kd.R_mono (Kd.R_bound hK.out) (ok' := fun k => W0.heap.size ≤ k) (fun k hk => hk.2.1)) (fun k hk => by simp only; omega) (.slice Ak ks.length ck))) (Nat.le_of_lt hszW))
      have hsw5 : w.heap.size ≤ (wr.setCell ⟨w.heap.size, 3, none⟩ (.slice Ak ks.length ck)).heap.size := by simp [World.setCell]; omega
      generalize wr.setCell ⟨w.heap.size, 3, none⟩ (.slice Ak ks.length ck) = W5 at HN5 HB5 HL5 HK5 hsw5 ⊢
      have n0 := blk_cell HN5.out 0
      have n1 := blk_cell HN5.out 1
      have n2 := blk_cell HN5.out 2
      have n3' := blk_cell HN5.out 3
      clear hn3 hfr
      unfold Hid
      go_wp2_with (refine Kd.R_append kNd (w0 := w) w.heap.size rfl (.tmp 28) (.tmp 30) 28 96 (.agg #[.int .i64 0, .int .i64 0, .string ⟨#[]⟩, .slice none 0 0]) 56 rfl Tryd.underlying28 infoNd rfl (by decide) (by omega) _ l1 ⟨op, n, name, ks⟩ [.int .i64 op, .int .i64 n, .string name, .slice Ak ks.length ck] (fun _ => True) (fun k => some k = (Value.slice Ak ks.length ck).ownBlock) rfl rfl ?aP ?aK (fun _ _ => trivial) ?aO ?aB ?aS ?aL ?_)
      case aP => exact kNd_mkM _ _ _ ⟨op, n, name, ks⟩ HK5.out
      case aK => exact fun k hk => ⟨trivial, fun he => (hL.out.1 k he.symm) hk⟩
      case aO => exact Kd.R_mono HL5.out (fun _ _ => trivial)
      case aB => exact HB5.out
      case aS => exact hsw5
      case aL => omega
      intro v6 w6 hR6 hB6 _ _
      have HR6 := Lib.hid hR6
      have HB6 := Lib.hid hB6
      clear hR6 hB6
      go_wp2
      go_ret
      refine ⟨_, rfl, ?_, HB6.out⟩
      have hj : joined op n name ps = l1 ++ [⟨op, n, name, ks⟩] := by unfold joined; rw [← HQ.out]
      rw [hj]; exact HR6.out
end Go.Proofs.YticaocadeeolkaaDoor

namespace Go.Proofs.YticaocadeeolkaaDoor
open Go.RowKit Plain Go.Proofs.YticaocadeeolkaaDoorW.PrintWords Go.Proofs.YticaocadeeolkaaDoorW.PrintLast Go.Proofs.YticaocadeeolkaaDoorW.PrintMore

/-- Parts that are sound or empty. -/
def Parted (ps : List (List Nd)) : Prop := ps.length ≤ 3 ∧ ∀ p ∈ ps, p.length ≤ 64 ∧ ∀ x ∈ p, x.name.size ≤ 9223372036854775807
def MakeOk (op n : Int) (name : ByteArray) (ps : List (List Nd)) (w : World) (en : Ending) (w' : World) : Prop :=
  ∃ v c, en = .returned (.tuple #[v, .int .i64 c]) ∧ Kd.R kNd 96 w' w.heap.size (fun _ => True) v (makeT op n name ps) ∧ Below w.heap.size w w'
theorem sizes_take {ps : List (List Nd)} {i : Nat} {p : List Nd} (h : ps[i]? = some p) : sizes (ps.take (i + 1)) = sizes (ps.take i) + p.length := by
  have hlt := (List.getElem?_eq_some_iff.1 h).1
  rw [List.take_succ_eq_append_getElem hlt, (List.getElem?_eq_some_iff.1 h).2]; simp [sizes]
theorem sizes_le {ps : List (List Nd)} {i : Nat} (h : ∀ p ∈ ps, p.length ≤ 64) (h3 : i ≤ 3) : sizes (ps.take i) ≤ 192 := by
  have : ∀ (l : List (List Nd)), (∀ p ∈ l, p.length ≤ 64) → sizes l ≤ 64 * l.length := by
    intro l
    induction l with
    | nil => intro _; simp [sizes]
    | cons p r ih =>
      intro hl
      have h1 := ih (fun q hq => hl q (List.mem_cons_of_mem _ hq))
      have h2 := hl p List.mem_cons_self
      simp only [sizes, List.map_cons, List.sum_cons, List.length_cons] at h1 ⊢
      omega
  have h1 := this (ps.take i) (fun p hp => h p (List.mem_of_mem_take hp))
  have h2 : (ps.take i).length ≤ 3 := by rw [List.length_take]; omega
  omega
set_option maxHeartbeats 8000000 in
set_option maxRecDepth 100000 in
theorem make_any (op n : Int) (name : ByteArray) (ps : List (List Nd)) (A : Option Addr) (c : Nat) (w : World) (hr : Kd.C kEx w A ps.length ps) (hps : Parted ps) (hnm : name.size ≤ 9223372036854775807) :
    Calls Tryd.prog 37 #[.int .i64 op, .int .i64 n, .string name, .slice A ps.length c] w (MakeOk op n name ps w) := by
  have HR := Lib.hid hr
  have HPS := Lib.hid hps
  have HNM := Lib.hid hnm
  have h3 := hps.1
  have hu := Tryd.underlying96
  clear hr hps hnm
  go_enter Tryd.func37, Tryd.ntmps37
  go_wp2
  go_loopw [10, 11] (fun sv iv wr => ∃ (i : Nat), iv = .int .i64 i ∧ sv = .int .i64 ((1 + sizes (ps.take i) : Nat) : Int) ∧ i ≤ ps.length ∧ Hid (∀ p ∈ ps.take i, check p = true) ∧ Hid (Below w.heap.size w wr)) (fun _ iv _ => ps.length - (intOf iv).toNat)
  case atStart => exact ⟨0, rfl, by simp [sizes], by omega, Lib.hid (by simp), Lib.hid (Below.refl _ _)⟩
  case round =>
    obtain ⟨i, rfl, rfl, hi, hck, hB⟩ := hrel
    have hle := sizes_le (ps := ps) (i := i) (fun p hp => (HPS.out.2 p hp).1) (by omega)
    generalize hS : sizes (ps.take i) = S at *
    have HS := Lib.hid hS
    clear hS
    by_cases hlt : i < ps.length
    · obtain ⟨p, hp⟩ : ∃ p, ps[i]? = some p := ⟨_, List.getElem?_eq_getElem hlt⟩
      obtain ⟨ad, Ap, cp, hA, hcell, hcp, hCp⟩ := ex_at HR.out hp
      subst hA
      have hcell' := nd_below hB.out hcell
      have HCP := Lib.hid (Kd.C_below hCp hB.out)
      have HP := Lib.hid hp
      have hpl := (HPS.out.2 p (List.mem_of_getElem? hp)).1
      have HPN := Lib.hid (HPS.out.2 p (List.mem_of_getElem? hp)).2
      have HTK : Hid (sizes (ps.take (i + 1)) = S + p.length) := Lib.hid (by rw [sizes_take hp, HS.out])
      obtain ⟨wo, rfl⟩ : ∃ wo : World, wo = wr := ⟨_, rfl⟩
      clear hcell hCp hp
      cases hcp2 : check p
      · have hE : errOf (check p) = 1 := by rw [hcp2]; rfl
        have HBAD : Hid (makeT op n name ps = []) := Lib.hid (make_bad (by
          rw [Bool.eq_false_iff]; intro h
          have := List.all_eq_true.1 h p (List.mem_of_getElem? HP.out)
          rw [hcp2] at this; cases this))
        clear hcp2
        go_wp2_with (first | (go_at_call 16; refine (rcheck_any p Ap cp wo HCP.out hcp HPN.out).mono ?_; rintro en w1 ⟨rfl, hb1⟩; have HB1 := Lib.hid hb1; clear hb1))
        go_ret2
        exact ⟨_, _, rfl, by rw [HBAD.out]; exact Kd.R_nil _ _ _ _ _, hB.out.trans (HB1.out.mono hB.out.size)⟩
      · have hE : errOf (check p) = 0 := by rw [hcp2]; rfl
        have HOK : Hid (∀ q ∈ ps.take (i + 1), check q = true) := Lib.hid (by
          intro q hq
          rw [List.take_succ_eq_append_getElem hlt, (List.getElem?_eq_some_iff.1 HP.out).2] at hq
          rcases List.mem_append.1 hq with h | h
          · exact hck.out q h
          · rw [List.mem_singleton.1 h]; exact hcp2)
        clear hcp2
        go_wp2_with (first | (go_at_call 16; refine (rcheck_any p Ap cp wo HCP.out hcp HPN.out).mono ?_; rintro en w1 ⟨rfl, hb1⟩; have hcell2 := nd_below hb1 hcell'; have HB1 := Lib.hid (hB.out.trans (hb1.mono hB.out.size)); clear hb1))
        go_roundw
        case rel => exact ⟨i + 1, by go_num, by rw [HTK.out]; go_num, by omega, HOK, HB1⟩
        case measure => simp [intOf]; omega
    · have hie : i = ps.length := by omega
      have hck' := hck.out
      have hSe := HS.out
      rw [hie, List.take_length] at hck' hSe
      have HCK := Lib.hid hck'
      have HSZ := Lib.hid hSe
      have HALL : Hid (ps.all check = true) := Lib.hid (List.all_eq_true.2 hck')
      have hmk := make_ints ps.length (by omega)
      have HC0 := Lib.hid (Kd.C_below HR.out hB.out)
      clear hck' hSe hie
      obtain ⟨wo, rfl⟩ : ∃ wo : World, wo = wr := ⟨_, rfl⟩
      cases hf : formB op n name ps.length
      · have HBAD : Hid (makeT op n name ps = []) := Lib.hid (by simp [makeT, hf])
        go_wp2_with (first | (go_at_call 42; refine (rform_any op n name _ _ _ _ HNM.out).mono ?_; rintro en w1 ⟨rfl, hb1⟩; have HB1 := Lib.hid hb1; clear hb1))
        go_ret2
        exact ⟨_, _, rfl, by rw [HBAD.out]; exact Kd.R_nil _ _ _ _ _, below_step ((hB.out.alloc hB.out.size _).alloc (by simp; exact Nat.le_succ_of_le hB.out.size) _) HB1.out⟩
      · by_cases h64 : 1 + S ≤ 64
        · have hgt : decide ((1 : Int) + (S : Int) > 64) = false := decide_eq_false (by omega)
          have hgt' : decide ((64 : Int) < 1 + (S : Int)) = false := decide_eq_false (by omega)
          have HGOOD : Hid (makeT op n name ps = joined op n name ps) := Lib.hid (by unfold makeT; rw [if_pos HALL.out, if_pos hf, if_pos (by rw [HSZ.out]; exact h64)])
          have HJ := Lib.hid (fun (A3 : Option Addr) (n3 c3 : Nat) (w2 : World) (hC : Kd.C kEx w2 A ps.length ps) => joined_any op n name A3 n3 c3 ps A c w2 hC h3 (by rw [HSZ.out]; exact h64) (fun p hp => sound_ahead ((check_iff p).1 (HCK.out p hp))) (fun p hp => ((check_iff p).1 (HCK.out p hp)).lo))
          go_wp2_with (first | (go_at_call 42; refine (rform_any op n name _ _ _ _ HNM.out).mono ?_; rintro en w1 ⟨rfl, hb1⟩; have hb := bcell hb1; obtain ⟨gc1, gf1⟩ := hb; have hb0 := below_step (((Below.refl wo.heap.size wo).alloc (Nat.le_refl _) _).alloc (by simp) _) hb1; have HC1 := Lib.hid (Kd.C_below HC0.out hb0); have HB1 := Lib.hid (hB.out.trans (hb0.mono hB.out.size)); clear hb1 hb0) | (go_at_call 58; refine (HJ.out _ _ _ w1 HC1.out).mono ?_; rintro en w2 ⟨v2, rfl, hR2, hb2⟩; have HR2 := Lib.hid hR2; have HB2 := Lib.hid hb2; clear hR2 hb2))
          go_ret2
          exact ⟨_, _, rfl, by rw [HGOOD.out]; exact Kd.R_lower HR2.out HB1.out.size, HB1.out.trans (HB2.out.mono HB1.out.size)⟩
        · have hgt : decide ((1 : Int) + (S : Int) > 64) = true := decide_eq_true (by omega)
          have hgt' : decide ((64 : Int) < 1 + (S : Int)) = true := decide_eq_true (by omega)
          have HBAD : Hid (makeT op n name ps = []) := Lib.hid (by unfold makeT; rw [if_pos HALL.out, if_pos hf, if_neg (by rw [HSZ.out]; exact h64)])
          go_wp2_with (first | (go_at_call 42; refine (rform_any op n name _ _ _ _ HNM.out).mono ?_; rintro en w1 ⟨rfl, hb1⟩; have HB1 := Lib.hid hb1; clear hb1))
          go_ret2
          exact ⟨_, _, rfl, by rw [HBAD.out]; exact Kd.R_nil _ _ _ _ _, below_step ((hB.out.alloc hB.out.size _).alloc (by simp; exact Nat.le_succ_of_le hB.out.size) _) HB1.out⟩
end Go.Proofs.YticaocadeeolkaaDoor
