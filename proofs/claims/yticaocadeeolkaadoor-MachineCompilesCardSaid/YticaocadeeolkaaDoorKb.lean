/-
  THE WALKS of the reference's HoleNames and Check of patterns. (Laid by gen_kb.py.)
-/
import Derived.Test.YticaocadeeolkaaDoorJg
import Derived.Test.YticaocadeeolkaaDoorJi
namespace Go.Proofs.YticaocadeeolkaaDoor
open Go.RowKit Plain Go.Proofs.YticaocadeeolkaaDoorW.PrintWords Go.Proofs.YticaocadeeolkaaDoorW.PrintLast Go.Proofs.YticaocadeeolkaaDoorW.PrintMore

structure NInv (e : List Nd) (w : World) (i : Nat) (v : Value) (wr : World) : Prop where
  row : Kd.R Kd.string 9 wr w.heap.size (fun _ => True) v (holesL (e.take i))
  B : Below w.heap.size w wr
def Known (x : Nd) (l : List ByteArray) (k : Nat) (b : Bool) : Prop := b = true ↔ (¬ x.op = 18 ∨ x.name ∈ l.take k)
theorem known_next {x : Nd} {l : List ByteArray} {k : Nat} {t : ByteArray} (ht : l[k]? = some t) {b b' : Bool} (h : Known x l k b) (hb : b' = true ↔ (b = true ∨ t = x.name)) : Known x l (k + 1) b' := by
  have hlt := (List.getElem?_eq_some_iff.1 ht).1
  have e1 : l.take (k + 1) = l.take k ++ [t] := by
    rw [List.take_succ_eq_append_getElem hlt]; congr 2; exact (List.getElem?_eq_some_iff.1 ht).2
  unfold Known at *
  rw [hb, h, e1, List.mem_append, List.mem_singleton]
  constructor
  · rintro ((h1 | h1) | h1)
    · exact .inl h1
    · exact .inr (.inl h1)
    · exact .inr (.inr h1.symm)
  · rintro (h1 | h1 | h1)
    · exact .inl (.inl h1)
    · exact .inl (.inr h1)
    · exact .inr h1.symm
def NamesOk (e : List Nd) (w : World) (en : Ending) (w' : World) : Prop := ∃ v, en = .returned v ∧ Kd.R Kd.string 9 w' w.heap.size (fun _ => True) v (holesL e) ∧ Below w.heap.size w w'
set_option maxHeartbeats 16000000 in
set_option maxRecDepth 100000 in
theorem names_any (e : List Nd) (A : Option Addr) (c : Nat) (w : World) (hr : Kd.C kNd w A e.length e) (hl : e.length ≤ 2513169434843) :
    Calls Tryd.prog 29 #[.slice A e.length c] w (NamesOk e w) := by
  have HR := Lib.hid hr
  clear hr
  go_enter Tryd.func29, Tryd.ntmps29
  go_wp2
  go_loopw [3, 4] (fun v iv wr => ∃ (i : Nat), iv = .int .i64 i ∧ i ≤ e.length ∧ Hid (NInv e w i v wr)) (fun _ iv _ => e.length - (intOf iv).toNat)
  case atStart => exact ⟨0, rfl, by omega, Lib.hid ⟨Kd.R_nil _ _ _ _ _, Below.refl _ _⟩⟩
  case round =>
    obtain ⟨i, rfl, hi, hI⟩ := hrel
    by_cases hlt : i < e.length
    · obtain ⟨x, hx⟩ : ∃ x, e[i]? = some x := ⟨_, List.getElem?_eq_getElem hlt⟩
      obtain ⟨ad, A3, c3, hA, q0, q1, q2, q3, hl3, hk3⟩ := nd_at HR.out hx
      subst hA
      have q0' := nd_below hI.out.B q0
      have HQ2 := Lib.hid q2
      have HX := Lib.hid hx
      have HNX := Lib.hid (holes_next hx)
      have hll := holesL_len (e.take i)
      have hlt2 : (e.take i).length ≤ i := by rw [List.length_take]; omega
      obtain ⟨Al, cl, rfl, hcl, hCl⟩ := Kd.R_reads hI.out.row
      have HCL := Lib.hid hCl
      have hlen : (holesL (e.take i)).length ≤ i := by omega
      have HIR := Lib.hid hI.out.row
      have HIB := Lib.hid hI.out.B
      obtain ⟨l, hlq⟩ : ∃ l, l = holesL (e.take i) := ⟨_, rfl⟩
      rw [← hlq] at HNX hll hcl HCL hlen HIR ⊢
      obtain ⟨wo, rfl⟩ : ∃ wo : World, wo = wr := ⟨_, rfl⟩
      have HW0 := Lib.hid (Below.refl wo.heap.size wo)
      have hws := HIB.out.size
      clear hx hk3 hlq hll hlt2 q0 q1 q2 q3 hCl hI
      obtain ⟨b0, hb0⟩ : ∃ b0 : Bool, (x.op != 18) = b0 := ⟨_, rfl⟩
      have HK0 : Hid (Known x l 0 b0) := Lib.hid (by unfold Known; rw [← hb0]; simp)
      go_wp2
      go_loopw [5, 6] (fun kv jv wr => ∃ (j : Nat) (b : Bool), jv = .int .i64 j ∧ kv = .bool b ∧ j ≤ l.length ∧ Hid (Known x l j b) ∧ Hid (Below wo.heap.size wo wr)) (fun _ jv _ => l.length - (intOf jv).toNat)
      case atStart => exact ⟨0, b0, rfl, rfl, by omega, HK0, HW0⟩
      case round =>
        obtain ⟨j, b, rfl, rfl, hj, hK, hB⟩ := hrel
        clear hb0
        by_cases hjl : j < l.length
        · obtain ⟨t, ht⟩ : ∃ t, l[j]? = some t := ⟨_, List.getElem?_eq_getElem hjl⟩
          obtain ⟨adl, hAl, hcell⟩ := str_at HCL.out ht
          subst hAl
          have hc1 := nd_below hB.out hcell
          have hc2 := nd_below (HIB.out.trans (hB.out.mono hws)) HQ2.out
          have HT := Lib.hid ht
          clear hcell ht
          cases b
          · by_cases hte : t = x.name
            · have hs : (t.toList == x.name.toList) = true := bytes_eq hte
              have HN : Hid (Known x l (j + 1) true) := Lib.hid (known_next HT.out hK.out (by simp [hte]))
              clear hte
              go_wp2_with fail
              refine start_ (n := 14) (S := fun w' => w'.cell? (adl.add j) = some (.string t) ∧ w'.cell? ⟨(ad.add (i * 4)).block, (ad.add (i * 4)).off + 2, none⟩ = some (.string x.name)) (ds := []) #[false, false, false, false, false, false, false, false, false, false, false, false, false, false] (by kernel_rfl) rfl rfl ⟨hc1, hc2⟩ (fun hHeld => ?_)
              have HB2 := Lib.hid (below_drew hB.out)
              clear hc1 hc2
              generalize wr.drew = w2 at hHeld HB2 ⊢
              refine pure_ (i := 0) (N := some 25) (v := ?_) (a' := ?_) #[true, false, false, false, false, false, false, false, false, false, false, false, false, false] rfl rfl (by kernel_rfl) (fun _ _ _ h => h) (Or.inl ⟨by rfl, ?_⟩) ?_ ?_
              rotate_left
              · intro w'
                go_simp
                with_reducible rfl
              rotate_left
              · simp only [Act.put, List.setIfInBounds_toArray, List.set_cons_zero, List.set_cons_succ]
                rfl
              refine pure_ (i := 1) (N := some 26) (v := ?_) (a' := ?_) #[true, true, false, false, false, false, false, false, false, false, false, false, false, false] rfl rfl (by kernel_rfl) (fun _ _ _ h => h) (Or.inl ⟨by rfl, ?_⟩) ?_ ?_
              rotate_left
              · intro w'
                go_simp
                with_reducible rfl
              rotate_left
              · simp only [Act.put, List.setIfInBounds_toArray, List.set_cons_zero, List.set_cons_succ]
                rfl
              refine pure_ (i := 2) (N := some 27) (v := ?_) (a' := ?_) #[true, true, true, false, false, false, false, false, false, false, false, false, false, false] rfl rfl (by kernel_rfl) (fun _ _ _ h => h) (Or.inl ⟨by rfl, ?_⟩) ?_ ?_
              rotate_left
              · intro w'
                go_simp
                with_reducible rfl
              rotate_left
              · simp only [Act.put, List.setIfInBounds_toArray, List.set_cons_zero, List.set_cons_succ]
                rfl
              refine pure_ (i := 3) (N := some 28) (v := ?_) (a' := ?_) #[true, true, true, true, false, false, false, false, false, false, false, false, false, false] rfl rfl (by kernel_rfl) (fun _ _ _ h => h) (Or.inl ⟨by rfl, ?_⟩) ?_ ?_
              rotate_left
              · intro w'
                go_simp
                with_reducible rfl
              rotate_left
              · simp only [Act.put, List.setIfInBounds_toArray, List.set_cons_zero, List.set_cons_succ]
                rfl
              refine pure_ (i := 4) (N := some 29) (v := ?_) (a' := ?_) #[true, true, true, true, true, false, false, false, false, false, false, false, false, false] rfl rfl (by kernel_rfl) (fun _ _ _ h => h) (Or.inl ⟨by rfl, ?_⟩) ?_ ?_
              rotate_left
              · intro w'
                go_simp
                with_reducible rfl
              rotate_left
              · simp only [Act.put, List.setIfInBounds_toArray, List.set_cons_zero, List.set_cons_succ]
                rfl
              refine take_ (i := 5) (N := some 30) (v := ?_) (a' := ?_) #[true, true, true, true, true, true, false, false, false, false, false, false, false, false] rfl rfl (by kernel_rfl) (fun _ _ _ h => h) (Or.inl ⟨by rfl, ?_⟩) hHeld ?_ ?_
              rotate_left
              · rintro w' ⟨s0, s1⟩
                go_simp
                with_reducible rfl
              rotate_left
              · simp only [Act.put, List.setIfInBounds_toArray, List.set_cons_zero, List.set_cons_succ]
                rfl
              refine pure_ (i := 6) (N := some 31) (v := ?_) (a' := ?_) #[true, true, true, true, true, true, true, false, false, false, false, false, false, false] rfl rfl (by kernel_rfl) (fun _ _ _ h => h) (Or.inl ⟨by rfl, ?_⟩) ?_ ?_
              rotate_left
              · intro w'
                go_simp
                with_reducible rfl
              rotate_left
              · simp only [Act.put, List.setIfInBounds_toArray, List.set_cons_zero, List.set_cons_succ]
                rfl
              refine pure_ (i := 7) (N := some 32) (v := ?_) (a' := ?_) #[true, true, true, true, true, true, true, true, false, false, false, false, false, false] rfl rfl (by kernel_rfl) (fun _ _ _ h => h) (Or.inl ⟨by rfl, ?_⟩) ?_ ?_
              rotate_left
              · intro w'
                go_simp
                with_reducible rfl
              rotate_left
              · simp only [Act.put, List.setIfInBounds_toArray, List.set_cons_zero, List.set_cons_succ]
                rfl
              refine pure_ (i := 8) (N := some 33) (v := ?_) (a' := ?_) #[true, true, true, true, true, true, true, true, true, false, false, false, false, false] rfl rfl (by kernel_rfl) (fun _ _ _ h => h) (Or.inl ⟨by rfl, ?_⟩) ?_ ?_
              rotate_left
              · intro w'
                go_simp
                with_reducible rfl
              rotate_left
              · simp only [Act.put, List.setIfInBounds_toArray, List.set_cons_zero, List.set_cons_succ]
                rfl
              refine pure_ (i := 9) (N := some 34) (v := ?_) (a' := ?_) #[true, true, true, true, true, true, true, true, true, true, false, false, false, false] rfl rfl (by kernel_rfl) (fun _ _ _ h => h) (Or.inl ⟨by rfl, ?_⟩) ?_ ?_
              rotate_left
              · intro w'
                go_simp
                with_reducible rfl
              rotate_left
              · simp only [Act.put, List.setIfInBounds_toArray, List.set_cons_zero, List.set_cons_succ]
                rfl
              refine take_ (i := 10) (N := some 35) (v := ?_) (a' := ?_) #[true, true, true, true, true, true, true, true, true, true, true, false, false, false] rfl rfl (by kernel_rfl) (fun _ _ _ h => h) (Or.inl ⟨by rfl, ?_⟩) hHeld ?_ ?_
              rotate_left
              · rintro w' ⟨s0, s1⟩
                go_simp
                with_reducible rfl
              rotate_left
              · simp only [Act.put, List.setIfInBounds_toArray, List.set_cons_zero, List.set_cons_succ]
                rfl
              refine pure_ (i := 11) (N := some 36) (v := ?_) (a' := ?_) #[true, true, true, true, true, true, true, true, true, true, true, true, false, false] rfl rfl (by kernel_rfl) (fun _ _ _ h => h) (Or.inl ⟨by rfl, ?_⟩) ?_ ?_
              rotate_left
              · intro w'
                go_simp
                with_reducible rfl
              rotate_left
              · simp only [Act.put, List.setIfInBounds_toArray, List.set_cons_zero, List.set_cons_succ]
                rfl
              refine pure_ (i := 12) (N := some 37) (v := ?_) (a' := ?_) #[true, true, true, true, true, true, true, true, true, true, true, true, true, false] rfl rfl (by kernel_rfl) (fun _ _ _ h => h) (Or.inl ⟨by rfl, ?_⟩) ?_ ?_
              rotate_left
              · intro w'
                go_simp
                with_reducible rfl
              rotate_left
              · simp only [Act.put, List.setIfInBounds_toArray, List.set_cons_zero, List.set_cons_succ]
                rfl
              refine pure_ (i := 13) (N := some 5) (v := ?_) (a' := ?_) #[true, true, true, true, true, true, true, true, true, true, true, true, true, true] rfl rfl (by kernel_rfl) (fun _ _ _ h => h) (Or.inl ⟨by rfl, ?_⟩) ?_ ?_
              rotate_left
              · intro w'
                go_simp
                with_reducible rfl
              rotate_left
              · simp only [Act.put, List.setIfInBounds_toArray, List.set_cons_zero, List.set_cons_succ]
                rfl
              refine done_ (by kernel_rfl) ?_
              clear hHeld
              go_wp2
              go_roundw
              case rel => exact ⟨j + 1, true, by go_num, rfl, by omega, HN, HB2⟩
              case measure => simp [intOf]; omega
            · have hs : (t.toList == x.name.toList) = false := bytes_ne hte
              have HN : Hid (Known x l (j + 1) false) := Lib.hid (known_next HT.out hK.out (by simp [hte]))
              clear hte
              go_wp2_with fail
              refine start_ (n := 14) (S := fun w' => w'.cell? (adl.add j) = some (.string t) ∧ w'.cell? ⟨(ad.add (i * 4)).block, (ad.add (i * 4)).off + 2, none⟩ = some (.string x.name)) (ds := []) #[false, false, false, false, false, false, false, false, false, false, false, false, false, false] (by kernel_rfl) rfl rfl ⟨hc1, hc2⟩ (fun hHeld => ?_)
              have HB2 := Lib.hid (below_drew hB.out)
              clear hc1 hc2
              generalize wr.drew = w2 at hHeld HB2 ⊢
              refine pure_ (i := 0) (N := some 25) (v := ?_) (a' := ?_) #[true, false, false, false, false, false, false, false, false, false, false, false, false, false] rfl rfl (by kernel_rfl) (fun _ _ _ h => h) (Or.inl ⟨by rfl, ?_⟩) ?_ ?_
              rotate_left
              · intro w'
                go_simp
                with_reducible rfl
              rotate_left
              · simp only [Act.put, List.setIfInBounds_toArray, List.set_cons_zero, List.set_cons_succ]
                rfl
              refine pure_ (i := 1) (N := some 26) (v := ?_) (a' := ?_) #[true, true, false, false, false, false, false, false, false, false, false, false, false, false] rfl rfl (by kernel_rfl) (fun _ _ _ h => h) (Or.inl ⟨by rfl, ?_⟩) ?_ ?_
              rotate_left
              · intro w'
                go_simp
                with_reducible rfl
              rotate_left
              · simp only [Act.put, List.setIfInBounds_toArray, List.set_cons_zero, List.set_cons_succ]
                rfl
              refine pure_ (i := 2) (N := some 27) (v := ?_) (a' := ?_) #[true, true, true, false, false, false, false, false, false, false, false, false, false, false] rfl rfl (by kernel_rfl) (fun _ _ _ h => h) (Or.inl ⟨by rfl, ?_⟩) ?_ ?_
              rotate_left
              · intro w'
                go_simp
                with_reducible rfl
              rotate_left
              · simp only [Act.put, List.setIfInBounds_toArray, List.set_cons_zero, List.set_cons_succ]
                rfl
              refine pure_ (i := 3) (N := some 28) (v := ?_) (a' := ?_) #[true, true, true, true, false, false, false, false, false, false, false, false, false, false] rfl rfl (by kernel_rfl) (fun _ _ _ h => h) (Or.inl ⟨by rfl, ?_⟩) ?_ ?_
              rotate_left
              · intro w'
                go_simp
                with_reducible rfl
              rotate_left
              · simp only [Act.put, List.setIfInBounds_toArray, List.set_cons_zero, List.set_cons_succ]
                rfl
              refine pure_ (i := 4) (N := some 29) (v := ?_) (a' := ?_) #[true, true, true, true, true, false, false, false, false, false, false, false, false, false] rfl rfl (by kernel_rfl) (fun _ _ _ h => h) (Or.inl ⟨by rfl, ?_⟩) ?_ ?_
              rotate_left
              · intro w'
                go_simp
                with_reducible rfl
              rotate_left
              · simp only [Act.put, List.setIfInBounds_toArray, List.set_cons_zero, List.set_cons_succ]
                rfl
              refine take_ (i := 5) (N := some 30) (v := ?_) (a' := ?_) #[true, true, true, true, true, true, false, false, false, false, false, false, false, false] rfl rfl (by kernel_rfl) (fun _ _ _ h => h) (Or.inl ⟨by rfl, ?_⟩) hHeld ?_ ?_
              rotate_left
              · rintro w' ⟨s0, s1⟩
                go_simp
                with_reducible rfl
              rotate_left
              · simp only [Act.put, List.setIfInBounds_toArray, List.set_cons_zero, List.set_cons_succ]
                rfl
              refine pure_ (i := 6) (N := some 31) (v := ?_) (a' := ?_) #[true, true, true, true, true, true, true, false, false, false, false, false, false, false] rfl rfl (by kernel_rfl) (fun _ _ _ h => h) (Or.inl ⟨by rfl, ?_⟩) ?_ ?_
              rotate_left
              · intro w'
                go_simp
                with_reducible rfl
              rotate_left
              · simp only [Act.put, List.setIfInBounds_toArray, List.set_cons_zero, List.set_cons_succ]
                rfl
              refine pure_ (i := 7) (N := some 32) (v := ?_) (a' := ?_) #[true, true, true, true, true, true, true, true, false, false, false, false, false, false] rfl rfl (by kernel_rfl) (fun _ _ _ h => h) (Or.inl ⟨by rfl, ?_⟩) ?_ ?_
              rotate_left
              · intro w'
                go_simp
                with_reducible rfl
              rotate_left
              · simp only [Act.put, List.setIfInBounds_toArray, List.set_cons_zero, List.set_cons_succ]
                rfl
              refine pure_ (i := 8) (N := some 33) (v := ?_) (a' := ?_) #[true, true, true, true, true, true, true, true, true, false, false, false, false, false] rfl rfl (by kernel_rfl) (fun _ _ _ h => h) (Or.inl ⟨by rfl, ?_⟩) ?_ ?_
              rotate_left
              · intro w'
                go_simp
                with_reducible rfl
              rotate_left
              · simp only [Act.put, List.setIfInBounds_toArray, List.set_cons_zero, List.set_cons_succ]
                rfl
              refine pure_ (i := 9) (N := some 34) (v := ?_) (a' := ?_) #[true, true, true, true, true, true, true, true, true, true, false, false, false, false] rfl rfl (by kernel_rfl) (fun _ _ _ h => h) (Or.inl ⟨by rfl, ?_⟩) ?_ ?_
              rotate_left
              · intro w'
                go_simp
                with_reducible rfl
              rotate_left
              · simp only [Act.put, List.setIfInBounds_toArray, List.set_cons_zero, List.set_cons_succ]
                rfl
              refine take_ (i := 10) (N := some 35) (v := ?_) (a' := ?_) #[true, true, true, true, true, true, true, true, true, true, true, false, false, false] rfl rfl (by kernel_rfl) (fun _ _ _ h => h) (Or.inl ⟨by rfl, ?_⟩) hHeld ?_ ?_
              rotate_left
              · rintro w' ⟨s0, s1⟩
                go_simp
                with_reducible rfl
              rotate_left
              · simp only [Act.put, List.setIfInBounds_toArray, List.set_cons_zero, List.set_cons_succ]
                rfl
              refine pure_ (i := 11) (N := some 36) (v := ?_) (a' := ?_) #[true, true, true, true, true, true, true, true, true, true, true, true, false, false] rfl rfl (by kernel_rfl) (fun _ _ _ h => h) (Or.inl ⟨by rfl, ?_⟩) ?_ ?_
              rotate_left
              · intro w'
                go_simp
                with_reducible rfl
              rotate_left
              · simp only [Act.put, List.setIfInBounds_toArray, List.set_cons_zero, List.set_cons_succ]
                rfl
              refine pure_ (i := 12) (N := some 37) (v := ?_) (a' := ?_) #[true, true, true, true, true, true, true, true, true, true, true, true, true, false] rfl rfl (by kernel_rfl) (fun _ _ _ h => h) (Or.inl ⟨by rfl, ?_⟩) ?_ ?_
              rotate_left
              · intro w'
                go_simp
                with_reducible rfl
              rotate_left
              · simp only [Act.put, List.setIfInBounds_toArray, List.set_cons_zero, List.set_cons_succ]
                rfl
              refine pure_ (i := 13) (N := some 5) (v := ?_) (a' := ?_) #[true, true, true, true, true, true, true, true, true, true, true, true, true, true] rfl rfl (by kernel_rfl) (fun _ _ _ h => h) (Or.inl ⟨by rfl, ?_⟩) ?_ ?_
              rotate_left
              · intro w'
                go_simp
                with_reducible rfl
              rotate_left
              · simp only [Act.put, List.setIfInBounds_toArray, List.set_cons_zero, List.set_cons_succ]
                rfl
              refine done_ (by kernel_rfl) ?_
              clear hHeld
              go_wp2
              go_roundw
              case rel => exact ⟨j + 1, false, by go_num, rfl, by omega, HN, HB2⟩
              case measure => simp [intOf]; omega
          · have HN : Hid (Known x l (j + 1) true) := Lib.hid (known_next HT.out hK.out (by simp))
            go_wp2_with fail
            refine start_ (n := 14) (S := fun w' => w'.cell? (adl.add j) = some (.string t) ∧ w'.cell? ⟨(ad.add (i * 4)).block, (ad.add (i * 4)).off + 2, none⟩ = some (.string x.name)) (ds := []) #[false, false, false, false, false, false, false, false, false, false, false, false, false, false] (by kernel_rfl) rfl rfl ⟨hc1, hc2⟩ (fun hHeld => ?_)
            have HB2 := Lib.hid (below_drew hB.out)
            clear hc1 hc2
            generalize wr.drew = w2 at hHeld HB2 ⊢
            refine pure_ (i := 0) (N := some 25) (v := ?_) (a' := ?_) #[true, false, false, false, false, false, false, false, false, false, false, false, false, false] rfl rfl (by kernel_rfl) (fun _ _ _ h => h) (Or.inl ⟨by rfl, ?_⟩) ?_ ?_
            rotate_left
            · intro w'
              go_simp
              with_reducible rfl
            rotate_left
            · simp only [Act.put, List.setIfInBounds_toArray, List.set_cons_zero, List.set_cons_succ]
              rfl
            refine pure_ (i := 1) (N := some 26) (v := ?_) (a' := ?_) #[true, true, false, false, false, false, false, false, false, false, false, false, false, false] rfl rfl (by kernel_rfl) (fun _ _ _ h => h) (Or.inl ⟨by rfl, ?_⟩) ?_ ?_
            rotate_left
            · intro w'
              go_simp
              with_reducible rfl
            rotate_left
            · simp only [Act.put, List.setIfInBounds_toArray, List.set_cons_zero, List.set_cons_succ]
              rfl
            refine pure_ (i := 2) (N := some 27) (v := undef) (a' := ?_) #[true, true, true, false, false, false, false, false, false, false, false, false, false, false] rfl rfl (by kernel_rfl) (fun _ _ _ h => h) (Or.inr ⟨by rfl, rfl⟩) ?_ ?_
            rotate_left
            · simp only [Act.put, List.setIfInBounds_toArray, List.set_cons_zero, List.set_cons_succ]
              rfl
            refine pure_ (i := 3) (N := some 28) (v := undef) (a' := ?_) #[true, true, true, true, false, false, false, false, false, false, false, false, false, false] rfl rfl (by kernel_rfl) (fun _ _ _ h => h) (Or.inr ⟨by rfl, rfl⟩) ?_ ?_
            rotate_left
            · simp only [Act.put, List.setIfInBounds_toArray, List.set_cons_zero, List.set_cons_succ]
              rfl
            refine pure_ (i := 4) (N := some 29) (v := undef) (a' := ?_) #[true, true, true, true, true, false, false, false, false, false, false, false, false, false] rfl rfl (by kernel_rfl) (fun _ _ _ h => h) (Or.inr ⟨by rfl, rfl⟩) ?_ ?_
            rotate_left
            · simp only [Act.put, List.setIfInBounds_toArray, List.set_cons_zero, List.set_cons_succ]
              rfl
            refine pure_ (i := 5) (N := some 30) (v := undef) (a' := ?_) #[true, true, true, true, true, true, false, false, false, false, false, false, false, false] rfl rfl (by kernel_rfl) (fun _ _ _ h => h) (Or.inr ⟨by rfl, rfl⟩) ?_ ?_
            rotate_left
            · simp only [Act.put, List.setIfInBounds_toArray, List.set_cons_zero, List.set_cons_succ]
              rfl
            refine pure_ (i := 6) (N := some 31) (v := undef) (a' := ?_) #[true, true, true, true, true, true, true, false, false, false, false, false, false, false] rfl rfl (by kernel_rfl) (fun _ _ _ h => h) (Or.inr ⟨by rfl, rfl⟩) ?_ ?_
            rotate_left
            · simp only [Act.put, List.setIfInBounds_toArray, List.set_cons_zero, List.set_cons_succ]
              rfl
            refine pure_ (i := 7) (N := some 32) (v := undef) (a' := ?_) #[true, true, true, true, true, true, true, true, false, false, false, false, false, false] rfl rfl (by kernel_rfl) (fun _ _ _ h => h) (Or.inr ⟨by rfl, rfl⟩) ?_ ?_
            rotate_left
            · simp only [Act.put, List.setIfInBounds_toArray, List.set_cons_zero, List.set_cons_succ]
              rfl
            refine pure_ (i := 8) (N := some 33) (v := undef) (a' := ?_) #[true, true, true, true, true, true, true, true, true, false, false, false, false, false] rfl rfl (by kernel_rfl) (fun _ _ _ h => h) (Or.inr ⟨by rfl, rfl⟩) ?_ ?_
            rotate_left
            · simp only [Act.put, List.setIfInBounds_toArray, List.set_cons_zero, List.set_cons_succ]
              rfl
            refine pure_ (i := 9) (N := some 34) (v := undef) (a' := ?_) #[true, true, true, true, true, true, true, true, true, true, false, false, false, false] rfl rfl (by kernel_rfl) (fun _ _ _ h => h) (Or.inr ⟨by rfl, rfl⟩) ?_ ?_
            rotate_left
            · simp only [Act.put, List.setIfInBounds_toArray, List.set_cons_zero, List.set_cons_succ]
              rfl
            refine pure_ (i := 10) (N := some 35) (v := undef) (a' := ?_) #[true, true, true, true, true, true, true, true, true, true, true, false, false, false] rfl rfl (by kernel_rfl) (fun _ _ _ h => h) (Or.inr ⟨by rfl, rfl⟩) ?_ ?_
            rotate_left
            · simp only [Act.put, List.setIfInBounds_toArray, List.set_cons_zero, List.set_cons_succ]
              rfl
            refine pure_ (i := 11) (N := some 36) (v := undef) (a' := ?_) #[true, true, true, true, true, true, true, true, true, true, true, true, false, false] rfl rfl (by kernel_rfl) (fun _ _ _ h => h) (Or.inr ⟨by rfl, rfl⟩) ?_ ?_
            rotate_left
            · simp only [Act.put, List.setIfInBounds_toArray, List.set_cons_zero, List.set_cons_succ]
              rfl
            refine pure_ (i := 12) (N := some 37) (v := ?_) (a' := ?_) #[true, true, true, true, true, true, true, true, true, true, true, true, true, false] rfl rfl (by kernel_rfl) (fun _ _ _ h => h) (Or.inl ⟨by rfl, ?_⟩) ?_ ?_
            rotate_left
            · intro w'
              go_simp
              with_reducible rfl
            rotate_left
            · simp only [Act.put, List.setIfInBounds_toArray, List.set_cons_zero, List.set_cons_succ]
              rfl
            refine pure_ (i := 13) (N := some 5) (v := ?_) (a' := ?_) #[true, true, true, true, true, true, true, true, true, true, true, true, true, true] rfl rfl (by kernel_rfl) (fun _ _ _ h => h) (Or.inl ⟨by rfl, ?_⟩) ?_ ?_
            rotate_left
            · intro w'
              go_simp
              with_reducible rfl
            rotate_left
            · simp only [Act.put, List.setIfInBounds_toArray, List.set_cons_zero, List.set_cons_succ]
              rfl
            refine done_ (by kernel_rfl) ?_
            clear hHeld
            go_wp2
            go_roundw
            case rel => exact ⟨j + 1, true, by go_num, rfl, by omega, HN, HB2⟩
            case measure => simp [intOf]; omega
        · have hje : j = l.length := by omega
          have hKe := hK.out
          unfold Known at hKe
          rw [hje, List.take_length] at hKe
          have HBI := Lib.hid (HIB.out.trans (hB.out.mono hws))
          have HC0 := Lib.hid (Kd.C_below HCL.out hB.out)
          have HRW := Lib.hid (Kd.R_below HIR.out hB.out)
          clear hje
          cases b
          · have HE : Hid (holesL (e.take (i + 1)) = l ++ [x.name]) := Lib.hid (by
              rw [HNX.out, if_pos]
              have h2 : ¬ (¬ x.op = 18 ∨ x.name ∈ l) := fun h => by have := hKe.2 h; cases this
              exact ⟨Classical.byContradiction (fun h => h2 (.inl h)), fun h => h2 (.inr h)⟩)
            have hc2 := nd_below (HIB.out.trans (hB.out.mono hws)) HQ2.out
            have hs2 := HBI.out.size
            clear hKe hK
            go_wp2_with (refine Kd.R_append Kd.string (w0 := w) w.heap.size rfl (.tmp 40) (.tmp 46) 64 9 (.string ⟨#[]⟩) 16 rfl Tryd.underlying64 infoStr rfl (by decide) (by omega) _ l x.name [.string x.name] (fun _ => True) (fun _ => False) rfl rfl ?aP (fun _ h => h.elim) (fun _ _ => trivial) ?aO ?aB ?aS ?aL ?_)
            case aP => exact rfl
            case aO => exact HRW.out
            case aB => exact HBI.out
            case aS => exact hs2
            case aL => omega
            intro v2 w2 hR2 hB2 _ _
            have HR2 := Lib.hid hR2
            have HB2 := Lib.hid hB2
            clear hR2 hB2
            go_wp2
            go_roundw
            case rel => exact ⟨i + 1, by go_num, by omega, Lib.hid ⟨by rw [HE.out]; exact HR2.out, HB2.out⟩⟩
            case measure => simp [intOf]; omega
          · have HE : Hid (holesL (e.take (i + 1)) = l) := Lib.hid (by
              rw [HNX.out, if_neg]
              rintro ⟨h1, h2⟩
              rcases hKe.1 rfl with h | h
              · exact h h1
              · exact h2 h)
            clear hKe hK
            go_wp2
            go_roundw
            case rel => exact ⟨i + 1, by go_num, by omega, Lib.hid ⟨by rw [HE.out]; exact HRW.out, HBI.out⟩⟩
            case measure => simp [intOf]; omega
    · have hie : i = e.length := by omega
      have hR := hI.out.row
      rw [hie, List.take_length] at hR
      have HRW := Lib.hid hR
      have HB := Lib.hid hI.out.B
      clear hie hR hI
      go_wp2
      go_ret
      exact ⟨_, rfl, HRW.out, HB.out⟩
theorem ret_pat' {e : List Nd} {a : Int} {b : Bool} (h : patCheck e = b) (ha : a = errOf b) : Ending.returned (.int .i64 a) = .returned (.int .i64 (errOf (patCheck e))) := by rw [h, ha]
set_option maxHeartbeats 8000000 in
set_option maxRecDepth 100000 in
theorem rpcheck_any (e : List Nd) (hsh : Short e) (A : Option Addr) (c : Nat) (w : World) (hr : Kd.C kNd w A e.length e) (hc : e.length ≤ c) (hn : ∀ x ∈ e, x.name.size ≤ 9223372036854775807) :
    Calls Tryd.prog 28 #[.slice A e.length c] w fun en w' => en = .returned (.int .i64 (errOf (patCheck e))) ∧ Below w.heap.size w w' := by
  have HR := Lib.hid hr
  have HSH := Lib.hid hsh
  have HPN := Lib.hid (plainL_names hn)
  have hl := hsh.len
  clear hr hsh hn
  by_cases h16 : 16 < e.length
  · have HP : Hid (patCheck e = false) := Lib.hid (by unfold patCheck; rw [decide_eq_false (by omega)]; rfl)
    go_enter Tryd.func28, Tryd.ntmps28
    go_wp2
    go_ret
    exact ⟨ret_pat HP.out rfl, Below.refl _ _⟩
  by_cases h6 : 6 < (holesL e).length
  · have HP : Hid (patCheck e = false) := Lib.hid (by unfold patCheck; rw [decide_eq_false (show ¬ (holesL e).length ≤ 6 by omega)]; simp)
    go_enter Tryd.func28, Tryd.ntmps28
    go_wp2_with (go_at_call 29; refine (names_any e A c w HR.out hl).mono ?_; rintro en w1 ⟨v1, rfl, hR1, hb1⟩; obtain ⟨A1, c1, rfl, hc1, _⟩ := Kd.R_reads hR1; have HB1 := Lib.hid hb1; clear hR1 hb1)
    go_ret
    exact ⟨ret_pat HP.out rfl, HB1.out⟩
  have HP : Hid (patCheck e = check (plainL e)) := Lib.hid (by unfold patCheck; rw [decide_eq_true (show e.length ≤ 16 by omega), decide_eq_true (show (holesL e).length ≤ 6 by omega)]; rfl)
  have HPL := Lib.hid (plainL_len e)
  go_enter Tryd.func28, Tryd.ntmps28
  go_wp2_with (first
    | (go_at_call 29; refine (names_any e A c w HR.out hl).mono ?_; rintro en w1 ⟨v1, rfl, hR1, hb1⟩; obtain ⟨A1, c1, rfl, hc1, _⟩ := Kd.R_reads hR1; have HB1 := Lib.hid hb1; clear hR1 hb1)
    | (go_at_call 15; refine (copy_any e HSH.out A c w1 (Kd.C_below HR.out HB1.out) hc).mono ?_; rintro en w2 ⟨v2, rfl, hS2, hb2⟩; obtain ⟨A2, c2, rfl, hc2, _⟩ := Kd.S_reads hS2; have HN2 := Lib.hid (Kd.N_lower (Kd.S_N hS2) HB1.out.size); have HB2 := Lib.hid (HB1.out.trans (hb2.mono HB1.out.size)); clear hS2 hb2))
  go_loopw [4] (fun iv wr => ∃ (i : Nat), iv = .int .i64 i ∧ i ≤ e.length ∧ Hid (PInv e w (.slice A2 e.length c2) i wr)) (fun iv _ => e.length - (intOf iv).toNat)
  case atStart => exact ⟨0, rfl, by omega, Lib.hid ⟨by rw [half_zero]; exact HN2.out, HB2.out⟩⟩
  case round =>
    obtain ⟨i, rfl, hi, hI⟩ := hrel
    by_cases hlt : i < e.length
    · obtain ⟨x, hx⟩ : ∃ x, e[i]? = some x := ⟨_, List.getElem?_eq_getElem hlt⟩
      obtain ⟨g, cap, hv, _, hgw, cells, hblk⟩ := Kd.N_form hI.out.row (by rw [half_len]; omega)
      rw [half_len] at hv
      injection hv with hA1 _ hcap
      subst hA1
      subst hcap
      obtain ⟨cs, hcl, hFK, hcc, hfr⟩ := Kd.N_elem hI.out.row x (i : Int) (by omega) (by omega)
      have hgx : (half e i).getD (i : Int).toNat x = x := by rw [Int.toNat_natCast, List.getD_eq_getElem?_getD, half_at hx]; rfl
      rw [hgx] at hFK
      obtain ⟨A3, c3, hcs, hl3, _⟩ := kNd_open (Kd.FK_now hFK)
      subst hcs
      have h4 : kNd.sz = 4 := rfl
      rw [Int.toNat_natCast, h4] at hcc hfr
      have q0 := hcc 0 _ rfl
      have f0 := hfr 0
      have HCC := Lib.hid hcc
      have HFK := Lib.hid hFK
      have HX := Lib.hid hx
      have HNX := Lib.hid (half_next hx)
      rw [Nat.add_zero] at q0 f0
      have hwr := hI.out.B.size
      obtain ⟨wo, rfl⟩ : ∃ wo : World, wo = wr := ⟨_, rfl⟩
      clear hcc hfr hgx hFK hcl h4 hx hblk
      by_cases hop : x.op = 18
      · have o1 : (x.op == 18) = true := beq_iff_eq.2 hop
        have HPX : Hid (plainN x = { x with op := 2 }) := Lib.hid (by unfold plainN; rw [if_pos hop])
        have hs := Kd.N_seg hI.out.row (i : Int) (by omega) (by omega) (c := [.int .i64 x.op, .int .i64 x.n, .string x.name, .slice A3 x.kids.length c3]) (seg := [.int .i64 2]) (j := 0) rfl (by rw [Int.toNat_natCast]; exact HCC.out) (by decide) (x' := plainN x) (by rw [HPX.out]; exact FK_op 2 HFK.out) (fun k hk => hk)
        have e1 : wo.setCells g ((i : Int).toNat * kNd.sz + 0) [.int .i64 2] = wo.setCell ⟨g, i * 4, none⟩ (.int .i64 2) := rfl
        rw [e1, Int.toNat_natCast, ← HNX.out] at hs
        have HS := Lib.hid hs.1
        have HBS := Lib.hid (hI.out.B.setCell (p := ⟨g, i * 4, none⟩) (Kd.N_base hI.out.row g (by simp [Value.ownBlock])) (.int .i64 2))
        clear hop hs e1
        go_wp2
        go_roundw
        case rel => exact ⟨i + 1, by go_num, by omega, Lib.hid ⟨HS.out, HBS.out⟩⟩
        case measure => simp [intOf]; omega
      · have o1 : (x.op == 18) = false := beq_eq_false_iff_ne.2 hop
        have HPX : Hid (half e (i + 1) = half e i) := Lib.hid (by
          rw [HNX.out]
          have hp : plainN x = x := by unfold plainN; rw [if_neg hop]
          rw [hp]
          apply List.ext_getElem?
          intro j
          rw [List.getElem?_set]
          split
          · rename_i h; subst h; rw [half_at HX.out]; simp [half_len, hlt]
          · rfl)
        clear hop
        go_wp2
        go_roundw
        case rel => exact ⟨i + 1, by go_num, by omega, Lib.hid ⟨by rw [HPX.out]; exact hI.out.row, hI.out.B⟩⟩
        case measure => simp [intOf]; omega
    · have hie : i = e.length := by omega
      have hN := hI.out.row
      rw [hie, half_all] at hN
      have HC := Lib.hid (Kd.N_reads' hN).2.2
      rw [← HPL.out] at hc2
      have hlt2 : ¬ i < (plainL e).length := by rw [plainL_len]; exact hlt
      have HB := Lib.hid hI.out.B
      rw [← HPL.out]
      clear hie hN hI
      go_wp2_with (go_at_call 16; refine (rcheck_any (plainL e) A2 c2 _ HC.out hc2 HPN.out).mono ?_; rintro en w3 ⟨rfl, hb3⟩; have HB3 := Lib.hid (HB.out.trans (hb3.mono HB.out.size)); clear hb3)
      go_ret
      exact ⟨ret_pat HP.out rfl, HB3.out⟩
end Go.Proofs.YticaocadeeolkaaDoor
