/-
  THE WALK of the law's Exprs: the expression that each cell stands for.
-/
import Derived.Test.YticaocadeeolkaaDoorMI
namespace Go.Proofs.YticaocadeeolkaaDoor
open Go.RowKit Plain Go.Proofs.YticaocadeeolkaaDoorW.PrintWords Go.Proofs.YticaocadeeolkaaDoorW.PrintLast Go.Proofs.YticaocadeeolkaaDoorW.PrintMore

theorem infoEx : (Tryd.prog.info? 28).map (fun i => (i.zero, i.size, i.bytes)) = some (some (.slice none 0 0), 1, 24) := by kernel_rfl
theorem kEx_M {w : World} {base : Nat} {ok : Nat → Prop} {p : List Nd} {v : Value} (h : Kd.R kNd 96 w base ok v p) : kEx.M w base ok p [v] := ⟨v, rfl, h⟩
theorem none_or {v v1 : Value} {W w : World} (h : v.ownBlock = none ∨ ∃ b, v.ownBlock = some b ∧ W.heap.size ≤ b) (hat : v1.ownBlock = v.ownBlock ∨ ∃ b, v1.ownBlock = some b ∧ w.heap.size ≤ b) (hW : W.heap.size ≤ w.heap.size) : v1.ownBlock = none ∨ ∃ b, v1.ownBlock = some b ∧ W.heap.size ≤ b := by
  rcases hat with h1 | ⟨b, h1, h2⟩
  · rw [h1]; exact h
  · exact .inr ⟨b, h1, by omega⟩
theorem none_grown {v : Value} {W w w' : World} (hb : Below W.heap.size W w) (h : v.ownBlock = none ∨ ∃ b, v.ownBlock = some b ∧ W.heap.size ≤ b) (hg : w.grownBy w' v.ownBlock) : Below W.heap.size W w' :=
  hb.grown hg hb.size (fun k hk => by
    rcases h with h | ⟨b, h1, h2⟩
    · rw [h] at hk; cases hk
    · rw [h1] at hk; cases hk; exact h2)
/-- The parts so far. -/
def upto (x : Cl) (es : List (List Nd)) (i m : Nat) : List (List Nd) := ((headKids x).take m).map (getE es i)
theorem upto_length (x : Cl) (es : List (List Nd)) (i m : Nat) : (upto x es i m).length ≤ 3 := by unfold upto; rw [List.length_map, List.length_take]; have := headKids_le x; omega
/-- What the loop over a cell's parts says of the list of the parts. -/
structure PInv (x : Cl) (es : List (List Nd)) (i : Nat) (w W1 : World) (m : Nat) (vp : Value) (w2 : World) : Prop where
  R : Kd.R kEx 28 w2 w.heap.size (fun _ => True) vp (upto x es i m)
  B : Below W1.heap.size W1 w2
  own : vp.ownBlock = none ∨ ∃ b, vp.ownBlock = some b ∧ W1.heap.size ≤ b
theorem PInv.away {x : Cl} {es : List (List Nd)} {i : Nat} {w W1 w2 : World} {m : Nat} {vp : Value} (h : PInv x es i w W1 m vp w2) {k : Nat} (hk : k < W1.heap.size) : some k ≠ vp.ownBlock := fun he => by
  rcases h.own with h | ⟨b, h1, h2⟩
  · rw [h] at he; cases he
  · rw [h1] at he; cases he; omega
theorem PInv.next {x : Cl} {es : List (List Nd)} {i : Nat} {w W1 w2 w3 : World} {m : Nat} {vp v1 : Value} {p : List Nd} {k : Int} (h : PInv x es i w W1 m vp w2) (hk : (headKids x)[m]? = some k) (hp : getE es i k = p)
    (hR : Kd.R kEx 28 w3 w.heap.size (fun _ => True) v1 (upto x es i m ++ [p])) (hg : w2.grownBy w3 vp.ownBlock) (hat : v1.ownBlock = vp.ownBlock ∨ ∃ b, v1.ownBlock = some b ∧ w2.heap.size ≤ b) : PInv x es i w W1 (m + 1) v1 w3 where
  R := by
    have hlt := (List.getElem?_eq_some_iff.1 hk).1
    unfold upto at hR ⊢
    rw [List.take_succ_eq_append_getElem hlt, (List.getElem?_eq_some_iff.1 hk).2, List.map_append]
    simp only [List.map_cons, List.map_nil, hp]
    exact hR
  B := none_grown h.B h.own hg
  own := none_or h.own hat h.B.size

set_option maxHeartbeats 16000000 in
set_option maxRecDepth 100000 in
theorem exprs_any (cells : List Cl) (A : Option Addr) (c : Nat) (w : World) (hr : Kd.C kCl w A cells.length cells) (hcn : cells.length ≤ 2199023255488) (hnm : ∀ x ∈ cells, x.name.size ≤ 9223372036854775807) :
    Calls Tryd.prog 11 #[.slice A cells.length c] w fun en w' => ∃ v, en = .returned v ∧ Kd.R kEx 28 w' w.heap.size (fun _ => True) v (exprsL cells) ∧ Below w.heap.size w w' := by
  have HR := Lib.hid hr
  have HNM := Lib.hid hnm
  have hu := Tryd.underlying96
  have hu2 := Tryd.underlying84
  clear hr hnm
  go_enter Tryd.func11, Tryd.ntmps11
  go_wp2
  go_loopw [3, 4] (fun vl iv wr => ∃ (i : Nat), iv = .int .i64 i ∧ i ≤ cells.length ∧ Hid (Kd.R kEx 28 wr w.heap.size (fun _ => True) vl (exprsL (cells.take i))) ∧ Hid (Below w.heap.size w wr)) (fun _ iv _ => cells.length - (intOf iv).toNat)
  case atStart => exact ⟨0, rfl, by omega, Lib.hid (Kd.R_nil _ _ _ _ _), Lib.hid (Below.refl _ _)⟩
  case round =>
    obtain ⟨i, rfl, hi, hO, hB⟩ := hrel
    by_cases hlt : i < cells.length
    · obtain ⟨x, hx⟩ : ∃ x, cells[i]? = some x := ⟨_, List.getElem?_eq_getElem hlt⟩
      obtain ⟨ad, hA, c0, c1, c2, c3, c4, c5, c6⟩ := cl_at HR.out hx
      subst hA
      have hc0 := nd_below hB.out c0
      have hc1 := nd_below hB.out c1
      have hc2 := nd_below hB.out c2
      have hc3 := nd_below hB.out c3
      have hc4 := nd_below hB.out c4
      have hc5 := nd_below hB.out c5
      have hc6 := nd_below hB.out c6
      have HX := Lib.hid hx
      have HEL : Hid ((exprsL (cells.take i)).length = i) := Lib.hid (by rw [exprsL_length, List.length_take]; omega)
      have HSH := Lib.hid (exprsL_short (M := 9223372036854775807) (cs := cells.take i) (fun y hy => HNM.out y (List.mem_of_mem_take hy)))
      have HNS : Hid ((headName x).size ≤ 9223372036854775807) := Lib.hid (by unfold headName; split; exact HNM.out x (List.mem_of_getElem? hx); exact Nat.zero_le _)
      obtain ⟨es, hes⟩ : ∃ es, es = exprsL (cells.take i) := ⟨_, rfl⟩
      rw [← hes] at hO HEL HSH
      have HES := Lib.hid hes
      obtain ⟨wo, rfl⟩ : ∃ wo : World, wo = wr := ⟨_, rfl⟩
      have hh := head_any x wo
      unfold cellV at hh
      have HHD := Lib.hid hh
      have hwo := hB.out.size
      clear c0 c1 c2 c3 c4 c5 c6 hx hh hes
      by_cases h1 : x.kind = 1
      · have e1 : (x.kind == 1) = true := beq_iff_eq.2 h1
        have e2 : (x.kind == 2) = false := by rw [h1]; rfl
        have HV : Hid (headN x = x.n ∧ headName x = ⟨#[]⟩) := Lib.hid (by unfold headN headName; rw [if_pos h1, if_neg (by omega)]; exact ⟨rfl, rfl⟩)
        clear h1
        go_wp2_with (first | (go_at_call 36; refine HHD.out.mono ?_; rintro en w1 ⟨vk, rfl, hRk, hbk⟩; obtain ⟨Ak, ck, ek, _, hCk⟩ := Kd.R_reads hRk; subst ek; have hd0 := nd_below hbk hc0; have hd2 := nd_below hbk hc2; have hd3 := nd_below hbk hc3; have hdl := World.block_lt_of_cell? w1 _ hd0; have HCK := Lib.hid hCk; have HBK := Lib.hid hbk; have hw1 := hbk.size; clear hRk hbk hCk))
        have hN0 : (w1.alloc (.cells #[.int .i64 (headOp x), .int .i64 x.n, .string ⟨#[]⟩, .slice none 0 0] 96 (0, 0))).heap[w1.heap.size]? = some (.cells #[.int .i64 (headOp x), .int .i64 x.n, .string ⟨#[]⟩, .slice none 0 0] 96 (0, 0)) := heap_alloc_new w1 _
        have hB0 : Below wo.heap.size wo (w1.alloc (.cells #[.int .i64 (headOp x), .int .i64 x.n, .string ⟨#[]⟩, .slice none 0 0] 96 (0, 0))) := HBK.out.alloc hw1 _
        have hC0 := Kd.C_below HCK.out ((Below.refl w1.heap.size w1).alloc (Nat.le_refl _) (.cells #[.int .i64 (headOp x), .int .i64 x.n, .string ⟨#[]⟩, .slice none 0 0] 96 (0, 0)))
        have hs0 : w1.heap.size < (w1.alloc (.cells #[.int .i64 (headOp x), .int .i64 x.n, .string ⟨#[]⟩, .slice none 0 0] 96 (0, 0))).heap.size := by simp
        obtain ⟨W1, hW1⟩ : ∃ W1 : World, W1 = (w1.alloc (.cells #[.int .i64 (headOp x), .int .i64 x.n, .string ⟨#[]⟩, .slice none 0 0] 96 (0, 0))) := ⟨_, rfl⟩
        have hN1 := hN0
        have hB1 := hB0
        have hC1 := hC0
        have hs1 := hs0
        rw [← hW1] at hN1 hB1 hC1 hs1 ⊢
        have HN : Hid (W1.heap[w1.heap.size]? = some (.cells #[.int .i64 (headOp x), .int .i64 (headN x), .string (headName x), .slice none 0 0] 96 (0, 0))) := Lib.hid (by rw [HV.out.1, HV.out.2]; exact hN1)
        have HB1 := Lib.hid (hB.out.trans (hB1.mono hB.out.size))
        have HL1 := Lib.hid (Kd.R_below hO.out hB1)
        have HKD := Lib.hid hC1
        have hwW : w.heap.size ≤ W1.heap.size := HB1.out.size
        clear hN0 hB0 hC0 hs0 hN1 hB1 hC1 hW1 hd0 hd2 hd3 hdl
        have hk3 := headKids_le x
        go_loopw [8, 9] (fun vp kv w2 => ∃ (m : Nat), kv = .int .i64 m ∧ m ≤ (headKids x).length ∧ Hid (PInv x es i w W1 m vp w2)) (fun _ kv _ => (headKids x).length - (intOf kv).toNat)
        case atStart => exact ⟨0, rfl, by omega, Lib.hid ⟨Kd.R_nil _ _ _ _ _, Below.refl _ _, .inl rfl⟩⟩
        case round =>
          obtain ⟨m, rfl, hm, hPI⟩ := hrel
          have hW2 := hPI.out.B.size
          obtain ⟨wp, rfl⟩ : ∃ wp : World, wp = wr := ⟨_, rfl⟩
          by_cases hmt : m < (headKids x).length
          · obtain ⟨k, hkm⟩ : ∃ k, (headKids x)[m]? = some k := ⟨_, List.getElem?_eq_getElem hmt⟩
            obtain ⟨adk, ek, hck⟩ := int_at HKD.out hkm
            subst ek
            have HKM := Lib.hid hkm
            have hck' := nd_below hPI.out.B hck
            clear hck hkm
            by_cases hk0 : 0 ≤ k
            · by_cases hki : k < (i : Int)
              · obtain ⟨kn, hkn⟩ := Int.eq_ofNat_of_zero_le hk0
                subst hkn
                obtain ⟨p, hp⟩ : ∃ p, es[kn]? = some p := ⟨_, List.getElem?_eq_getElem (by rw [HEL.out]; omega)⟩
                have HPE : Hid (getE es i (kn : Int) = p) := Lib.hid (by unfold getE; rw [if_pos ⟨hk0, hki⟩, Int.toNat_natCast, List.getD_eq_getElem?_getD, hp]; rfl)
                obtain ⟨Al, cl, hvl, _, hCl⟩ := Kd.R_reads HL1.out
                subst hvl
                obtain ⟨adl, _, _, hAl, _⟩ := ex_at hCl hp
                subst hAl
                clear hCl
                obtain ⟨cv, hcv1, ⟨pv, hpv, hpR⟩, hcv3⟩ := Kd.R_get HL1.out [] (kn : Int) (by omega) (by rw [HEL.out]; omega)
                subst hpv
                have hcell := hcv3 0 pv rfl
                rw [Int.toNat_natCast] at hcell hpR
                have hsz1 : kEx.sz = 1 := rfl
                rw [hsz1, Nat.mul_one, Nat.add_zero] at hcell
                rw [List.getD_eq_getElem?_getD, hp] at hpR
                obtain ⟨Ap, cp, hpv, _, _⟩ := Kd.R_reads hpR
                simp only [Option.getD_some] at hpv hpR
                subst hpv
                have HPR := Lib.hid (Kd.R_mono (Kd.R_bound hpR) (ok' := fun k => k < W1.heap.size) (fun k hk => hk.2.2.1))
                have hcell' := nd_below hPI.out.B hcell
                have hkl : kn < es.length := by rw [HEL.out]; omega
                clear hcv1 hcv3 hcell hpR hp
                have d1 : decide ((0 : Int) ≤ (kn : Int)) = true := decide_eq_true hk0
                have d2 : decide ((kn : Int) < (i : Int)) = true := decide_eq_true hki
                go_wp2_with (refine Kd.R_append kEx (w0 := W1) w.heap.size rfl (.tmp 79) (.tmp 81) 26 28 (.slice none 0 0) 24 rfl Tryd.underlying26 infoEx rfl (by decide) (by omega) _ (upto x es i m) p [.slice Ap p.length cp] (fun _ => True) (fun k => k < W1.heap.size) rfl rfl ?aP ?aK (fun _ _ => trivial) ?aO ?aB ?aS ?aL ?_)
                case aP => exact kEx_M (Kd.R_below HPR.out hPI.out.B)
                case aK => first | exact fun k hk => ⟨trivial, hPI.out.away hk⟩ | exact fun k hk => hPI.out.away hk
                case aO => exact hPI.out.R
                case aB => exact hPI.out.B.mono hwW
                case aS => have := hPI.out.B.size; omega
                case aL => have := upto_length x es i m; omega
                intro v1 w3 hR3 _ hg3 hat3
                have HP3 := Lib.hid (hPI.out.next HKM.out HPE.out hR3 hg3 hat3)
                clear hR3 hg3 hat3
                go_wp2
                go_roundw
                case rel => exact ⟨m + 1, by go_num, by omega, HP3⟩
                case measure => simp [intOf]; omega
              · have HPE : Hid (getE es i k = []) := Lib.hid (by unfold getE; rw [if_neg (fun h => hki h.2)])
                have d1 : decide ((0 : Int) ≤ k) = true := decide_eq_true hk0
                have d2 : decide (k < (i : Int)) = false := decide_eq_false hki
                go_wp2_with (refine Kd.R_append kEx (w0 := W1) w.heap.size rfl (.tmp 79) (.tmp 81) 26 28 (.slice none 0 0) 24 rfl Tryd.underlying26 infoEx rfl (by decide) (by omega) _ (upto x es i m) [] [.slice none 0 0] (fun _ => True) (fun k => k < W1.heap.size) rfl rfl ?aP ?aK (fun _ _ => trivial) ?aO ?aB ?aS ?aL ?_)
                case aP => exact kEx_M (Kd.R_nil _ _ _ _ _)
                case aK => first | exact fun k hk => ⟨trivial, hPI.out.away hk⟩ | exact fun k hk => hPI.out.away hk
                case aO => exact hPI.out.R
                case aB => exact hPI.out.B.mono hwW
                case aS => have := hPI.out.B.size; omega
                case aL => have := upto_length x es i m; omega
                intro v1 w3 hR3 _ hg3 hat3
                have HP3 := Lib.hid (hPI.out.next HKM.out HPE.out hR3 hg3 hat3)
                clear hR3 hg3 hat3
                go_wp2
                go_roundw
                case rel => exact ⟨m + 1, by go_num, by omega, HP3⟩
                case measure => simp [intOf]; omega
            · have HPE : Hid (getE es i k = []) := Lib.hid (by unfold getE; rw [if_neg (fun h => hk0 h.1)])
              have d1 : decide ((0 : Int) ≤ k) = false := decide_eq_false hk0
              go_wp2_with (refine Kd.R_append kEx (w0 := W1) w.heap.size rfl (.tmp 79) (.tmp 81) 26 28 (.slice none 0 0) 24 rfl Tryd.underlying26 infoEx rfl (by decide) (by omega) _ (upto x es i m) [] [.slice none 0 0] (fun _ => True) (fun k => k < W1.heap.size) rfl rfl ?aP ?aK (fun _ _ => trivial) ?aO ?aB ?aS ?aL ?_)
              case aP => exact kEx_M (Kd.R_nil _ _ _ _ _)
              case aK => first | exact fun k hk => ⟨trivial, hPI.out.away hk⟩ | exact fun k hk => hPI.out.away hk
              case aO => exact hPI.out.R
              case aB => exact hPI.out.B.mono hwW
              case aS => have := hPI.out.B.size; omega
              case aL => have := upto_length x es i m; omega
              intro v1 w3 hR3 _ hg3 hat3
              have HP3 := Lib.hid (hPI.out.next HKM.out HPE.out hR3 hg3 hat3)
              clear hR3 hg3 hat3
              go_wp2
              go_roundw
              case rel => exact ⟨m + 1, by go_num, by omega, HP3⟩
              case measure => simp [intOf]; omega
          · have hme : m = (headKids x).length := by omega
            have hRp := hPI.out.R
            unfold upto at hRp
            rw [hme, List.take_length] at hRp
            have HEO : Hid (makeT (headOp x) (headN x) (headName x) ((headKids x).map (getE es i)) = exprOf es i x) := Lib.hid rfl
            have hpl : ((headKids x).map (getE es i)).length = (headKids x).length := List.length_map _
            have hpart : Parted ((headKids x).map (getE es i)) := ⟨by rw [List.length_map]; exact headKids_le x, fun q hq => by
              obtain ⟨k, _, rfl⟩ := List.mem_map.1 hq
              exact getE_short HSH.out i k⟩
            generalize (headKids x).map (getE es i) = ps at hRp HEO hpl hpart
            obtain ⟨Aq, cq, hvq, _, hCq⟩ := Kd.R_reads hRp
            subst hvq
            have HMK := Lib.hid (make_any (headOp x) (headN x) (headName x) ps Aq cq wp hCq hpart HNS.out)
            have hn0 := nd_below hPI.out.B (blk_cell HN.out 0)
            have hn1 := nd_below hPI.out.B (blk_cell HN.out 1)
            have hn2 := nd_below hPI.out.B (blk_cell HN.out 2)
            clear hRp hpl hpart hCq hme
            go_wp2_with (first | (go_at_call 37; refine HMK.out.mono ?_; rintro en w5 ⟨v5, c5, rfl, hR5, hb5⟩; obtain ⟨A5, k5, e5, _, _⟩ := Kd.R_reads hR5; subst e5; have HR5 := Lib.hid hR5; have HB5 := Lib.hid hb5; have hW5 := hb5.size; clear hR5 hb5) | (refine Kd.R_append kEx (w0 := w) w.heap.size rfl (.tmp 94) (.tmp 96) 26 28 (.slice none 0 0) 24 rfl Tryd.underlying26 infoEx rfl (by decide) (by omega) _ es (makeT (headOp x) (headN x) (headName x) ps) [.slice A5 (makeT (headOp x) (headN x) (headName x) ps).length k5] (fun _ => True) (fun k => wp.heap.size ≤ k) rfl rfl ?bP ?bK (fun _ _ => trivial) ?bO ?bB ?bS ?bL ?_))
            case bP => exact kEx_M (Kd.R_lower (Kd.R_mono (Kd.R_bound HR5.out) (fun k hk => hk.2.1)) (by omega))
            case bK => first | exact fun k hk => ⟨trivial, fun he => by have := Kd.R_lt HL1.out k he.symm; omega⟩ | exact fun k hk he => by have := Kd.R_lt HL1.out k he.symm; omega
            case bO => exact Kd.R_below (Kd.R_below HL1.out hPI.out.B) HB5.out
            case bB => exact (HB1.out.trans (hPI.out.B.mono hwW)).trans (HB5.out.mono (by omega))
            case bS => omega
            case bL => rw [HEL.out]; omega
            intro v6 w6 hR6 hB6 _ _
            have HR6 := Lib.hid hR6
            have HB6 := Lib.hid hB6
            clear hR6 hB6
            go_wp2
            go_roundw
            case rel =>
              refine ⟨i + 1, by go_num, by omega, Lib.hid ?_, HB6⟩
              rw [exprsL_next cells i x HX.out, ← HES.out, ← HEO.out]
              exact HR6.out
            case measure => simp [intOf]; omega
      · by_cases h2 : x.kind = 2
        · have e1 : (x.kind == 1) = false := beq_eq_false_iff_ne.2 h1
          have e2 : (x.kind == 2) = true := beq_iff_eq.2 h2
          have HV : Hid (headN x = 0 ∧ headName x = x.name) := Lib.hid (by unfold headN headName; rw [if_neg h1, if_pos h2]; exact ⟨rfl, rfl⟩)
          clear h1 h2
          go_wp2_with (first | (go_at_call 36; refine HHD.out.mono ?_; rintro en w1 ⟨vk, rfl, hRk, hbk⟩; obtain ⟨Ak, ck, ek, _, hCk⟩ := Kd.R_reads hRk; subst ek; have hd0 := nd_below hbk hc0; have hd2 := nd_below hbk hc2; have hd3 := nd_below hbk hc3; have hdl := World.block_lt_of_cell? w1 _ hd0; have HCK := Lib.hid hCk; have HBK := Lib.hid hbk; have hw1 := hbk.size; clear hRk hbk hCk))
          have hN0 : (w1.alloc (.cells #[.int .i64 (headOp x), .int .i64 0, .string x.name, .slice none 0 0] 96 (0, 0))).heap[w1.heap.size]? = some (.cells #[.int .i64 (headOp x), .int .i64 0, .string x.name, .slice none 0 0] 96 (0, 0)) := heap_alloc_new w1 _
          have hB0 : Below wo.heap.size wo (w1.alloc (.cells #[.int .i64 (headOp x), .int .i64 0, .string x.name, .slice none 0 0] 96 (0, 0))) := HBK.out.alloc hw1 _
          have hC0 := Kd.C_below HCK.out ((Below.refl w1.heap.size w1).alloc (Nat.le_refl _) (.cells #[.int .i64 (headOp x), .int .i64 0, .string x.name, .slice none 0 0] 96 (0, 0)))
          have hs0 : w1.heap.size < (w1.alloc (.cells #[.int .i64 (headOp x), .int .i64 0, .string x.name, .slice none 0 0] 96 (0, 0))).heap.size := by simp
          obtain ⟨W1, hW1⟩ : ∃ W1 : World, W1 = (w1.alloc (.cells #[.int .i64 (headOp x), .int .i64 0, .string x.name, .slice none 0 0] 96 (0, 0))) := ⟨_, rfl⟩
          have hN1 := hN0
          have hB1 := hB0
          have hC1 := hC0
          have hs1 := hs0
          rw [← hW1] at hN1 hB1 hC1 hs1 ⊢
          have HN : Hid (W1.heap[w1.heap.size]? = some (.cells #[.int .i64 (headOp x), .int .i64 (headN x), .string (headName x), .slice none 0 0] 96 (0, 0))) := Lib.hid (by rw [HV.out.1, HV.out.2]; exact hN1)
          have HB1 := Lib.hid (hB.out.trans (hB1.mono hB.out.size))
          have HL1 := Lib.hid (Kd.R_below hO.out hB1)
          have HKD := Lib.hid hC1
          have hwW : w.heap.size ≤ W1.heap.size := HB1.out.size
          clear hN0 hB0 hC0 hs0 hN1 hB1 hC1 hW1 hd0 hd2 hd3 hdl
          have hk3 := headKids_le x
          go_loopw [8, 9] (fun vp kv w2 => ∃ (m : Nat), kv = .int .i64 m ∧ m ≤ (headKids x).length ∧ Hid (PInv x es i w W1 m vp w2)) (fun _ kv _ => (headKids x).length - (intOf kv).toNat)
          case atStart => exact ⟨0, rfl, by omega, Lib.hid ⟨Kd.R_nil _ _ _ _ _, Below.refl _ _, .inl rfl⟩⟩
          case round =>
            obtain ⟨m, rfl, hm, hPI⟩ := hrel
            have hW2 := hPI.out.B.size
            obtain ⟨wp, rfl⟩ : ∃ wp : World, wp = wr := ⟨_, rfl⟩
            by_cases hmt : m < (headKids x).length
            · obtain ⟨k, hkm⟩ : ∃ k, (headKids x)[m]? = some k := ⟨_, List.getElem?_eq_getElem hmt⟩
              obtain ⟨adk, ek, hck⟩ := int_at HKD.out hkm
              subst ek
              have HKM := Lib.hid hkm
              have hck' := nd_below hPI.out.B hck
              clear hck hkm
              by_cases hk0 : 0 ≤ k
              · by_cases hki : k < (i : Int)
                · obtain ⟨kn, hkn⟩ := Int.eq_ofNat_of_zero_le hk0
                  subst hkn
                  obtain ⟨p, hp⟩ : ∃ p, es[kn]? = some p := ⟨_, List.getElem?_eq_getElem (by rw [HEL.out]; omega)⟩
                  have HPE : Hid (getE es i (kn : Int) = p) := Lib.hid (by unfold getE; rw [if_pos ⟨hk0, hki⟩, Int.toNat_natCast, List.getD_eq_getElem?_getD, hp]; rfl)
                  obtain ⟨Al, cl, hvl, _, hCl⟩ := Kd.R_reads HL1.out
                  subst hvl
                  obtain ⟨adl, _, _, hAl, _⟩ := ex_at hCl hp
                  subst hAl
                  clear hCl
                  obtain ⟨cv, hcv1, ⟨pv, hpv, hpR⟩, hcv3⟩ := Kd.R_get HL1.out [] (kn : Int) (by omega) (by rw [HEL.out]; omega)
                  subst hpv
                  have hcell := hcv3 0 pv rfl
                  rw [Int.toNat_natCast] at hcell hpR
                  have hsz1 : kEx.sz = 1 := rfl
                  rw [hsz1, Nat.mul_one, Nat.add_zero] at hcell
                  rw [List.getD_eq_getElem?_getD, hp] at hpR
                  obtain ⟨Ap, cp, hpv, _, _⟩ := Kd.R_reads hpR
                  simp only [Option.getD_some] at hpv hpR
                  subst hpv
                  have HPR := Lib.hid (Kd.R_mono (Kd.R_bound hpR) (ok' := fun k => k < W1.heap.size) (fun k hk => hk.2.2.1))
                  have hcell' := nd_below hPI.out.B hcell
                  have hkl : kn < es.length := by rw [HEL.out]; omega
                  clear hcv1 hcv3 hcell hpR hp
                  have d1 : decide ((0 : Int) ≤ (kn : Int)) = true := decide_eq_true hk0
                  have d2 : decide ((kn : Int) < (i : Int)) = true := decide_eq_true hki
                  go_wp2_with (refine Kd.R_append kEx (w0 := W1) w.heap.size rfl (.tmp 79) (.tmp 81) 26 28 (.slice none 0 0) 24 rfl Tryd.underlying26 infoEx rfl (by decide) (by omega) _ (upto x es i m) p [.slice Ap p.length cp] (fun _ => True) (fun k => k < W1.heap.size) rfl rfl ?aP ?aK (fun _ _ => trivial) ?aO ?aB ?aS ?aL ?_)
                  case aP => exact kEx_M (Kd.R_below HPR.out hPI.out.B)
                  case aK => first | exact fun k hk => ⟨trivial, hPI.out.away hk⟩ | exact fun k hk => hPI.out.away hk
                  case aO => exact hPI.out.R
                  case aB => exact hPI.out.B.mono hwW
                  case aS => have := hPI.out.B.size; omega
                  case aL => have := upto_length x es i m; omega
                  intro v1 w3 hR3 _ hg3 hat3
                  have HP3 := Lib.hid (hPI.out.next HKM.out HPE.out hR3 hg3 hat3)
                  clear hR3 hg3 hat3
                  go_wp2
                  go_roundw
                  case rel => exact ⟨m + 1, by go_num, by omega, HP3⟩
                  case measure => simp [intOf]; omega
                · have HPE : Hid (getE es i k = []) := Lib.hid (by unfold getE; rw [if_neg (fun h => hki h.2)])
                  have d1 : decide ((0 : Int) ≤ k) = true := decide_eq_true hk0
                  have d2 : decide (k < (i : Int)) = false := decide_eq_false hki
                  go_wp2_with (refine Kd.R_append kEx (w0 := W1) w.heap.size rfl (.tmp 79) (.tmp 81) 26 28 (.slice none 0 0) 24 rfl Tryd.underlying26 infoEx rfl (by decide) (by omega) _ (upto x es i m) [] [.slice none 0 0] (fun _ => True) (fun k => k < W1.heap.size) rfl rfl ?aP ?aK (fun _ _ => trivial) ?aO ?aB ?aS ?aL ?_)
                  case aP => exact kEx_M (Kd.R_nil _ _ _ _ _)
                  case aK => first | exact fun k hk => ⟨trivial, hPI.out.away hk⟩ | exact fun k hk => hPI.out.away hk
                  case aO => exact hPI.out.R
                  case aB => exact hPI.out.B.mono hwW
                  case aS => have := hPI.out.B.size; omega
                  case aL => have := upto_length x es i m; omega
                  intro v1 w3 hR3 _ hg3 hat3
                  have HP3 := Lib.hid (hPI.out.next HKM.out HPE.out hR3 hg3 hat3)
                  clear hR3 hg3 hat3
                  go_wp2
                  go_roundw
                  case rel => exact ⟨m + 1, by go_num, by omega, HP3⟩
                  case measure => simp [intOf]; omega
              · have HPE : Hid (getE es i k = []) := Lib.hid (by unfold getE; rw [if_neg (fun h => hk0 h.1)])
                have d1 : decide ((0 : Int) ≤ k) = false := decide_eq_false hk0
                go_wp2_with (refine Kd.R_append kEx (w0 := W1) w.heap.size rfl (.tmp 79) (.tmp 81) 26 28 (.slice none 0 0) 24 rfl Tryd.underlying26 infoEx rfl (by decide) (by omega) _ (upto x es i m) [] [.slice none 0 0] (fun _ => True) (fun k => k < W1.heap.size) rfl rfl ?aP ?aK (fun _ _ => trivial) ?aO ?aB ?aS ?aL ?_)
                case aP => exact kEx_M (Kd.R_nil _ _ _ _ _)
                case aK => first | exact fun k hk => ⟨trivial, hPI.out.away hk⟩ | exact fun k hk => hPI.out.away hk
                case aO => exact hPI.out.R
                case aB => exact hPI.out.B.mono hwW
                case aS => have := hPI.out.B.size; omega
                case aL => have := upto_length x es i m; omega
                intro v1 w3 hR3 _ hg3 hat3
                have HP3 := Lib.hid (hPI.out.next HKM.out HPE.out hR3 hg3 hat3)
                clear hR3 hg3 hat3
                go_wp2
                go_roundw
                case rel => exact ⟨m + 1, by go_num, by omega, HP3⟩
                case measure => simp [intOf]; omega
            · have hme : m = (headKids x).length := by omega
              have hRp := hPI.out.R
              unfold upto at hRp
              rw [hme, List.take_length] at hRp
              have HEO : Hid (makeT (headOp x) (headN x) (headName x) ((headKids x).map (getE es i)) = exprOf es i x) := Lib.hid rfl
              have hpl : ((headKids x).map (getE es i)).length = (headKids x).length := List.length_map _
              have hpart : Parted ((headKids x).map (getE es i)) := ⟨by rw [List.length_map]; exact headKids_le x, fun q hq => by
                obtain ⟨k, _, rfl⟩ := List.mem_map.1 hq
                exact getE_short HSH.out i k⟩
              generalize (headKids x).map (getE es i) = ps at hRp HEO hpl hpart
              obtain ⟨Aq, cq, hvq, _, hCq⟩ := Kd.R_reads hRp
              subst hvq
              have HMK := Lib.hid (make_any (headOp x) (headN x) (headName x) ps Aq cq wp hCq hpart HNS.out)
              have hn0 := nd_below hPI.out.B (blk_cell HN.out 0)
              have hn1 := nd_below hPI.out.B (blk_cell HN.out 1)
              have hn2 := nd_below hPI.out.B (blk_cell HN.out 2)
              clear hRp hpl hpart hCq hme
              go_wp2_with (first | (go_at_call 37; refine HMK.out.mono ?_; rintro en w5 ⟨v5, c5, rfl, hR5, hb5⟩; obtain ⟨A5, k5, e5, _, _⟩ := Kd.R_reads hR5; subst e5; have HR5 := Lib.hid hR5; have HB5 := Lib.hid hb5; have hW5 := hb5.size; clear hR5 hb5) | (refine Kd.R_append kEx (w0 := w) w.heap.size rfl (.tmp 94) (.tmp 96) 26 28 (.slice none 0 0) 24 rfl Tryd.underlying26 infoEx rfl (by decide) (by omega) _ es (makeT (headOp x) (headN x) (headName x) ps) [.slice A5 (makeT (headOp x) (headN x) (headName x) ps).length k5] (fun _ => True) (fun k => wp.heap.size ≤ k) rfl rfl ?bP ?bK (fun _ _ => trivial) ?bO ?bB ?bS ?bL ?_))
              case bP => exact kEx_M (Kd.R_lower (Kd.R_mono (Kd.R_bound HR5.out) (fun k hk => hk.2.1)) (by omega))
              case bK => first | exact fun k hk => ⟨trivial, fun he => by have := Kd.R_lt HL1.out k he.symm; omega⟩ | exact fun k hk he => by have := Kd.R_lt HL1.out k he.symm; omega
              case bO => exact Kd.R_below (Kd.R_below HL1.out hPI.out.B) HB5.out
              case bB => exact (HB1.out.trans (hPI.out.B.mono hwW)).trans (HB5.out.mono (by omega))
              case bS => omega
              case bL => rw [HEL.out]; omega
              intro v6 w6 hR6 hB6 _ _
              have HR6 := Lib.hid hR6
              have HB6 := Lib.hid hB6
              clear hR6 hB6
              go_wp2
              go_roundw
              case rel =>
                refine ⟨i + 1, by go_num, by omega, Lib.hid ?_, HB6⟩
                rw [exprsL_next cells i x HX.out, ← HES.out, ← HEO.out]
                exact HR6.out
              case measure => simp [intOf]; omega
        · have e1 : (x.kind == 1) = false := beq_eq_false_iff_ne.2 h1
          have e2 : (x.kind == 2) = false := beq_eq_false_iff_ne.2 h2
          have HV : Hid (headN x = 0 ∧ headName x = ⟨#[]⟩) := Lib.hid (by unfold headN headName; rw [if_neg h1, if_neg h2]; exact ⟨rfl, rfl⟩)
          clear h1 h2
          go_wp2_with (first | (go_at_call 36; refine HHD.out.mono ?_; rintro en w1 ⟨vk, rfl, hRk, hbk⟩; obtain ⟨Ak, ck, ek, _, hCk⟩ := Kd.R_reads hRk; subst ek; have hd0 := nd_below hbk hc0; have hd2 := nd_below hbk hc2; have hd3 := nd_below hbk hc3; have hdl := World.block_lt_of_cell? w1 _ hd0; have HCK := Lib.hid hCk; have HBK := Lib.hid hbk; have hw1 := hbk.size; clear hRk hbk hCk))
          have hN0 : (w1.alloc (.cells #[.int .i64 (headOp x), .int .i64 0, .string ⟨#[]⟩, .slice none 0 0] 96 (0, 0))).heap[w1.heap.size]? = some (.cells #[.int .i64 (headOp x), .int .i64 0, .string ⟨#[]⟩, .slice none 0 0] 96 (0, 0)) := heap_alloc_new w1 _
          have hB0 : Below wo.heap.size wo (w1.alloc (.cells #[.int .i64 (headOp x), .int .i64 0, .string ⟨#[]⟩, .slice none 0 0] 96 (0, 0))) := HBK.out.alloc hw1 _
          have hC0 := Kd.C_below HCK.out ((Below.refl w1.heap.size w1).alloc (Nat.le_refl _) (.cells #[.int .i64 (headOp x), .int .i64 0, .string ⟨#[]⟩, .slice none 0 0] 96 (0, 0)))
          have hs0 : w1.heap.size < (w1.alloc (.cells #[.int .i64 (headOp x), .int .i64 0, .string ⟨#[]⟩, .slice none 0 0] 96 (0, 0))).heap.size := by simp
          obtain ⟨W1, hW1⟩ : ∃ W1 : World, W1 = (w1.alloc (.cells #[.int .i64 (headOp x), .int .i64 0, .string ⟨#[]⟩, .slice none 0 0] 96 (0, 0))) := ⟨_, rfl⟩
          have hN1 := hN0
          have hB1 := hB0
          have hC1 := hC0
          have hs1 := hs0
          rw [← hW1] at hN1 hB1 hC1 hs1 ⊢
          have HN : Hid (W1.heap[w1.heap.size]? = some (.cells #[.int .i64 (headOp x), .int .i64 (headN x), .string (headName x), .slice none 0 0] 96 (0, 0))) := Lib.hid (by rw [HV.out.1, HV.out.2]; exact hN1)
          have HB1 := Lib.hid (hB.out.trans (hB1.mono hB.out.size))
          have HL1 := Lib.hid (Kd.R_below hO.out hB1)
          have HKD := Lib.hid hC1
          have hwW : w.heap.size ≤ W1.heap.size := HB1.out.size
          clear hN0 hB0 hC0 hs0 hN1 hB1 hC1 hW1 hd0 hd2 hd3 hdl
          have hk3 := headKids_le x
          go_loopw [8, 9] (fun vp kv w2 => ∃ (m : Nat), kv = .int .i64 m ∧ m ≤ (headKids x).length ∧ Hid (PInv x es i w W1 m vp w2)) (fun _ kv _ => (headKids x).length - (intOf kv).toNat)
          case atStart => exact ⟨0, rfl, by omega, Lib.hid ⟨Kd.R_nil _ _ _ _ _, Below.refl _ _, .inl rfl⟩⟩
          case round =>
            obtain ⟨m, rfl, hm, hPI⟩ := hrel
            have hW2 := hPI.out.B.size
            obtain ⟨wp, rfl⟩ : ∃ wp : World, wp = wr := ⟨_, rfl⟩
            by_cases hmt : m < (headKids x).length
            · obtain ⟨k, hkm⟩ : ∃ k, (headKids x)[m]? = some k := ⟨_, List.getElem?_eq_getElem hmt⟩
              obtain ⟨adk, ek, hck⟩ := int_at HKD.out hkm
              subst ek
              have HKM := Lib.hid hkm
              have hck' := nd_below hPI.out.B hck
              clear hck hkm
              by_cases hk0 : 0 ≤ k
              · by_cases hki : k < (i : Int)
                · obtain ⟨kn, hkn⟩ := Int.eq_ofNat_of_zero_le hk0
                  subst hkn
                  obtain ⟨p, hp⟩ : ∃ p, es[kn]? = some p := ⟨_, List.getElem?_eq_getElem (by rw [HEL.out]; omega)⟩
                  have HPE : Hid (getE es i (kn : Int) = p) := Lib.hid (by unfold getE; rw [if_pos ⟨hk0, hki⟩, Int.toNat_natCast, List.getD_eq_getElem?_getD, hp]; rfl)
                  obtain ⟨Al, cl, hvl, _, hCl⟩ := Kd.R_reads HL1.out
                  subst hvl
                  obtain ⟨adl, _, _, hAl, _⟩ := ex_at hCl hp
                  subst hAl
                  clear hCl
                  obtain ⟨cv, hcv1, ⟨pv, hpv, hpR⟩, hcv3⟩ := Kd.R_get HL1.out [] (kn : Int) (by omega) (by rw [HEL.out]; omega)
                  subst hpv
                  have hcell := hcv3 0 pv rfl
                  rw [Int.toNat_natCast] at hcell hpR
                  have hsz1 : kEx.sz = 1 := rfl
                  rw [hsz1, Nat.mul_one, Nat.add_zero] at hcell
                  rw [List.getD_eq_getElem?_getD, hp] at hpR
                  obtain ⟨Ap, cp, hpv, _, _⟩ := Kd.R_reads hpR
                  simp only [Option.getD_some] at hpv hpR
                  subst hpv
                  have HPR := Lib.hid (Kd.R_mono (Kd.R_bound hpR) (ok' := fun k => k < W1.heap.size) (fun k hk => hk.2.2.1))
                  have hcell' := nd_below hPI.out.B hcell
                  have hkl : kn < es.length := by rw [HEL.out]; omega
                  clear hcv1 hcv3 hcell hpR hp
                  have d1 : decide ((0 : Int) ≤ (kn : Int)) = true := decide_eq_true hk0
                  have d2 : decide ((kn : Int) < (i : Int)) = true := decide_eq_true hki
                  go_wp2_with (refine Kd.R_append kEx (w0 := W1) w.heap.size rfl (.tmp 79) (.tmp 81) 26 28 (.slice none 0 0) 24 rfl Tryd.underlying26 infoEx rfl (by decide) (by omega) _ (upto x es i m) p [.slice Ap p.length cp] (fun _ => True) (fun k => k < W1.heap.size) rfl rfl ?aP ?aK (fun _ _ => trivial) ?aO ?aB ?aS ?aL ?_)
                  case aP => exact kEx_M (Kd.R_below HPR.out hPI.out.B)
                  case aK => first | exact fun k hk => ⟨trivial, hPI.out.away hk⟩ | exact fun k hk => hPI.out.away hk
                  case aO => exact hPI.out.R
                  case aB => exact hPI.out.B.mono hwW
                  case aS => have := hPI.out.B.size; omega
                  case aL => have := upto_length x es i m; omega
                  intro v1 w3 hR3 _ hg3 hat3
                  have HP3 := Lib.hid (hPI.out.next HKM.out HPE.out hR3 hg3 hat3)
                  clear hR3 hg3 hat3
                  go_wp2
                  go_roundw
                  case rel => exact ⟨m + 1, by go_num, by omega, HP3⟩
                  case measure => simp [intOf]; omega
                · have HPE : Hid (getE es i k = []) := Lib.hid (by unfold getE; rw [if_neg (fun h => hki h.2)])
                  have d1 : decide ((0 : Int) ≤ k) = true := decide_eq_true hk0
                  have d2 : decide (k < (i : Int)) = false := decide_eq_false hki
                  go_wp2_with (refine Kd.R_append kEx (w0 := W1) w.heap.size rfl (.tmp 79) (.tmp 81) 26 28 (.slice none 0 0) 24 rfl Tryd.underlying26 infoEx rfl (by decide) (by omega) _ (upto x es i m) [] [.slice none 0 0] (fun _ => True) (fun k => k < W1.heap.size) rfl rfl ?aP ?aK (fun _ _ => trivial) ?aO ?aB ?aS ?aL ?_)
                  case aP => exact kEx_M (Kd.R_nil _ _ _ _ _)
                  case aK => first | exact fun k hk => ⟨trivial, hPI.out.away hk⟩ | exact fun k hk => hPI.out.away hk
                  case aO => exact hPI.out.R
                  case aB => exact hPI.out.B.mono hwW
                  case aS => have := hPI.out.B.size; omega
                  case aL => have := upto_length x es i m; omega
                  intro v1 w3 hR3 _ hg3 hat3
                  have HP3 := Lib.hid (hPI.out.next HKM.out HPE.out hR3 hg3 hat3)
                  clear hR3 hg3 hat3
                  go_wp2
                  go_roundw
                  case rel => exact ⟨m + 1, by go_num, by omega, HP3⟩
                  case measure => simp [intOf]; omega
              · have HPE : Hid (getE es i k = []) := Lib.hid (by unfold getE; rw [if_neg (fun h => hk0 h.1)])
                have d1 : decide ((0 : Int) ≤ k) = false := decide_eq_false hk0
                go_wp2_with (refine Kd.R_append kEx (w0 := W1) w.heap.size rfl (.tmp 79) (.tmp 81) 26 28 (.slice none 0 0) 24 rfl Tryd.underlying26 infoEx rfl (by decide) (by omega) _ (upto x es i m) [] [.slice none 0 0] (fun _ => True) (fun k => k < W1.heap.size) rfl rfl ?aP ?aK (fun _ _ => trivial) ?aO ?aB ?aS ?aL ?_)
                case aP => exact kEx_M (Kd.R_nil _ _ _ _ _)
                case aK => first | exact fun k hk => ⟨trivial, hPI.out.away hk⟩ | exact fun k hk => hPI.out.away hk
                case aO => exact hPI.out.R
                case aB => exact hPI.out.B.mono hwW
                case aS => have := hPI.out.B.size; omega
                case aL => have := upto_length x es i m; omega
                intro v1 w3 hR3 _ hg3 hat3
                have HP3 := Lib.hid (hPI.out.next HKM.out HPE.out hR3 hg3 hat3)
                clear hR3 hg3 hat3
                go_wp2
                go_roundw
                case rel => exact ⟨m + 1, by go_num, by omega, HP3⟩
                case measure => simp [intOf]; omega
            · have hme : m = (headKids x).length := by omega
              have hRp := hPI.out.R
              unfold upto at hRp
              rw [hme, List.take_length] at hRp
              have HEO : Hid (makeT (headOp x) (headN x) (headName x) ((headKids x).map (getE es i)) = exprOf es i x) := Lib.hid rfl
              have hpl : ((headKids x).map (getE es i)).length = (headKids x).length := List.length_map _
              have hpart : Parted ((headKids x).map (getE es i)) := ⟨by rw [List.length_map]; exact headKids_le x, fun q hq => by
                obtain ⟨k, _, rfl⟩ := List.mem_map.1 hq
                exact getE_short HSH.out i k⟩
              generalize (headKids x).map (getE es i) = ps at hRp HEO hpl hpart
              obtain ⟨Aq, cq, hvq, _, hCq⟩ := Kd.R_reads hRp
              subst hvq
              have HMK := Lib.hid (make_any (headOp x) (headN x) (headName x) ps Aq cq wp hCq hpart HNS.out)
              have hn0 := nd_below hPI.out.B (blk_cell HN.out 0)
              have hn1 := nd_below hPI.out.B (blk_cell HN.out 1)
              have hn2 := nd_below hPI.out.B (blk_cell HN.out 2)
              clear hRp hpl hpart hCq hme
              go_wp2_with (first | (go_at_call 37; refine HMK.out.mono ?_; rintro en w5 ⟨v5, c5, rfl, hR5, hb5⟩; obtain ⟨A5, k5, e5, _, _⟩ := Kd.R_reads hR5; subst e5; have HR5 := Lib.hid hR5; have HB5 := Lib.hid hb5; have hW5 := hb5.size; clear hR5 hb5) | (refine Kd.R_append kEx (w0 := w) w.heap.size rfl (.tmp 94) (.tmp 96) 26 28 (.slice none 0 0) 24 rfl Tryd.underlying26 infoEx rfl (by decide) (by omega) _ es (makeT (headOp x) (headN x) (headName x) ps) [.slice A5 (makeT (headOp x) (headN x) (headName x) ps).length k5] (fun _ => True) (fun k => wp.heap.size ≤ k) rfl rfl ?bP ?bK (fun _ _ => trivial) ?bO ?bB ?bS ?bL ?_))
              case bP => exact kEx_M (Kd.R_lower (Kd.R_mono (Kd.R_bound HR5.out) (fun k hk => hk.2.1)) (by omega))
              case bK => first | exact fun k hk => ⟨trivial, fun he => by have := Kd.R_lt HL1.out k he.symm; omega⟩ | exact fun k hk he => by have := Kd.R_lt HL1.out k he.symm; omega
              case bO => exact Kd.R_below (Kd.R_below HL1.out hPI.out.B) HB5.out
              case bB => exact (HB1.out.trans (hPI.out.B.mono hwW)).trans (HB5.out.mono (by omega))
              case bS => omega
              case bL => rw [HEL.out]; omega
              intro v6 w6 hR6 hB6 _ _
              have HR6 := Lib.hid hR6
              have HB6 := Lib.hid hB6
              clear hR6 hB6
              go_wp2
              go_roundw
              case rel =>
                refine ⟨i + 1, by go_num, by omega, Lib.hid ?_, HB6⟩
                rw [exprsL_next cells i x HX.out, ← HES.out, ← HEO.out]
                exact HR6.out
              case measure => simp [intOf]; omega
    · have hie : i = cells.length := by omega
      have hOe := hO.out
      rw [hie, List.take_length] at hOe
      have HOE := Lib.hid hOe
      clear hOe hie
      go_wp2
      go_ret
      exact ⟨_, rfl, HOE.out, hB.out⟩
end Go.Proofs.YticaocadeeolkaaDoor
