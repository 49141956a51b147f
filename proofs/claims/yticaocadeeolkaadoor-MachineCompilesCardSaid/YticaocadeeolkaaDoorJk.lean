/-
  THE WALKS of machine.Compile and the law's awake.
-/
import Derived.Test.YticaocadeeolkaaDoorJj
namespace Go.Proofs.YticaocadeeolkaaDoor.Plain
open Go
noncomputable def progL (e : List Nd) : List Cm := (comp e (holesL e) e.length (e.length - 1) 0 csStart).list
end Go.Proofs.YticaocadeeolkaaDoor.Plain
namespace Go.Proofs.YticaocadeeolkaaDoor
open Go.RowKit Plain Go.WideMaps Go.Maps Go.Proofs.YticaocadeeolkaaDoorW.PrintWords Go.Proofs.YticaocadeeolkaaDoorW.PrintLast Go.Proofs.YticaocadeeolkaaDoorW.PrintMore

def CompOk (e : List Nd) (w : World) (en : Ending) (w' : World) : Prop := Below w.heap.size w w' ∧
  ((patCheck e = true ∧ ∃ v, en = .returned (.tuple #[v, .int .i64 0]) ∧ Kd.R kCm 75 w' w.heap.size (fun _ => True) v (progL e)) ∨ (patCheck e = false ∧ en = .returned (.tuple #[.slice none 0 0, .int .i64 1])))
theorem ret_pair {a b : Value} (h : a = b) : Ending.returned (.tuple #[.slice none 0 0, a]) = .returned (.tuple #[.slice none 0 0, b]) := by rw [h]
set_option maxHeartbeats 8000000 in
set_option maxRecDepth 100000 in
theorem compile_any (e : List Nd) (A : Option Addr) (c : Nat) (w : World) (ht : Tabs w) (hr : Kd.C kNd w A e.length e) (hl : e.length ≤ 2513169434843) (hn : ∀ x ∈ e, x.name.size ≤ maxLen) :
    Calls Tryd.prog 27 #[.slice A e.length c] w (CompOk e w) := by
  have HPH := Lib.hid (pholes_any e A c w ht hr hl hn)
  have HR := Lib.hid hr
  have HN := Lib.hid hn
  clear ht hr hn
  cases hp : patCheck e
  · have HPE : Hid (Calls Tryd.prog 51 #[.slice A e.length c] w fun en w' => en = .returned (.tuple #[.slice none 0 0, .int .i64 1]) ∧ Below w.heap.size w w') := Lib.hid (HPH.out.mono (fun en w' h => by
      obtain ⟨hb, ⟨h1, _⟩ | ⟨_, h2⟩⟩ := h
      · rw [hp] at h1; cases h1
      · exact ⟨h2, hb⟩))
    have HP := Lib.hid hp
    clear hp HPH
    go_enter Tryd.func27, Tryd.ntmps27
    go_wp2_with (go_at_call 51; refine HPE.out.mono ?_; rintro en w1 ⟨rfl, hb1⟩; have HB1 := Lib.hid hb1; clear hb1)
    go_ret2
    exact ⟨HB1.out, .inr ⟨HP.out, rfl⟩⟩
  · have HPE : Hid (Calls Tryd.prog 51 #[.slice A e.length c] w fun en w' => ∃ Ah ch, en = .returned (.tuple #[.slice Ah (holesL e).length ch, .int .i64 0]) ∧ Kd.R Kd.string 9 w' w.heap.size (fun _ => True) (.slice Ah (holesL e).length ch) (holesL e) ∧ Below w.heap.size w w') := Lib.hid (HPH.out.mono (fun en w' h => by
      obtain ⟨hb, ⟨_, v, h2, hR⟩ | ⟨h1, _⟩⟩ := h
      · obtain ⟨Ah, ch, rfl, _, _⟩ := Kd.R_reads hR
        exact ⟨Ah, ch, h2, hR, hb⟩
      · rw [hp] at h1; cases h1))
    have HSP := Lib.hid (patCheck_sound hp)
    have HP := Lib.hid hp
    have h1l := HSP.out.lo
    have h16 := HSP.out.hi
    have hsub : IntKind.i64.wrap ((e.length : Int) - 1) = ((e.length - 1 : Nat) : Int) := by rw [i64_w]; unfold wrap64; omega
    have hmm := @run_makeMap Tryd.prog
    clear hp HPH
    go_enter Tryd.func27, Tryd.ntmps27
    go_wp2_with (go_at_call 51; refine HPE.out.mono ?_; rintro en w1 ⟨Ah, ch, rfl, hR1, hb1⟩; have HR1 := Lib.hid hR1; have HB1 := Lib.hid hb1; have hs1 := hb1.size; clear hR1 hb1)
    have hM : CMem e A c w (w1.heap.size + 1) w1.heap.size Ah ch (holesL e) 0 csStart (.slice none 0 0) ((w1.alloc (.map #[] 0)).alloc (.cells #[.slice A e.length c, .slice none 0 0, .int .i64 1, .map (some w1.heap.size), .slice Ah (holesL e).length ch] 125)) :=
      ⟨heap_two w1 _ _, Kd.R_nil _ _ _ _ _, ⟨.map [], (World.ownsMap_made _ _ _ _).alloc _, tk_start⟩, Kd.R_alloc (Kd.R_alloc HR1.out _) _, (HB1.out.alloc hs1 _).alloc (by simp; omega) _, by omega, hs1⟩
    have hnode := node_any e (holesL e) (holesL_nodup e) HSP.out.forms (fun x hx ho => holesL_all hx ho) HN.out HSP.out.h6 e.length 0 (e.length - 1) HSP.out.seg (by omega) A c w _ _ Ah ch 0 csStart _ _ 0 hM HR.out
      ⟨⟨List.replicate (holesL e).length false, rfl, by simp, fun j t hj => by
        have hlt := (List.getElem?_eq_some_iff.1 hj).1
        simp [hlt, csStart]⟩, fun t r ht => (by cases ht), Int.le_refl _⟩ (Int.le_refl _) (by simp [csStart]) (by simp [csStart]) (by simp [csStart]) (by simp [csStart]; omega)
    refine hnode.mono ?_
    rintro en w3 ⟨rfl, v3, hM3⟩
    obtain ⟨A3, c3, rfl, hc3, _⟩ := Kd.R_reads hM3.row
    have HB3 := Lib.hid hM3.B
    have HR3 := Lib.hid hM3.row
    have hg1 := blk_cell hM3.blk 1
    clear hM hnode hM3
    go_wp2
    go_ret2
    exact ⟨HB3.out, .inl ⟨HP.out, _, rfl, HR3.out⟩⟩
/-! ### the law's awake -/
def oneHole : List Nd := [⟨18, 0, ⟨#[97]⟩, []⟩]
theorem oneHole_ok : patCheck oneHole = true := by
  classical
  have h1 : holesL oneHole = [⟨#[97]⟩] := by simp [holesL, holesGo, oneHole]
  have h2 : plainL oneHole = [⟨2, 0, ⟨#[97]⟩, []⟩] := by simp [plainL, plainN, oneHole]
  have h3 : check [(⟨2, 0, ⟨#[97]⟩, []⟩ : Nd)] = true := by decide +kernel
  unfold patCheck
  rw [h1, h2, h3]; rfl
theorem progL_len {e : List Nd} (h : patCheck e = true) : (progL e).length = e.length := (compile_law (patCheck_sound h)).2
theorem oneHole_C (w : World) : Kd.C kNd (w.alloc (.cells #[.int .i64 18, .int .i64 0, .string ⟨#[97]⟩, .slice none 0 0] 96)) (some ⟨w.heap.size, 0, none⟩) oneHole.length oneHole := by
  refine ⟨rfl, by decide, fun _ => ⟨_, rfl, fun j p hj => ?_⟩⟩
  have hb := heap_alloc_new w (.cells #[.int .i64 18, .int .i64 0, .string ⟨#[97]⟩, .slice none 0 0] 96)
  have hj0 : j = 0 := by
    have := (List.getElem?_eq_some_iff.1 hj).1
    simp [oneHole] at this; exact this
  subst hj0
  have hp : p = ⟨18, 0, ⟨#[97]⟩, []⟩ := by simpa [oneHole] using hj.symm
  subst hp
  refine ⟨[.int .i64 18, .int .i64 0, .string ⟨#[97]⟩, .slice none 0 0], rfl, kNd_mkK (⟨18, 0, ⟨#[97]⟩, []⟩ : Nd) (Nat.le_refl _) (Kd.S_reads' (Kd.S_nil (Kd.int .i64) 3 _ 0 (fun _ => True))).2.2, fun i u hu => ?_⟩
  have hc := blk_cell hb i
  have ha : (⟨w.heap.size, 0, none⟩ : Addr).add (0 * kNd.sz + i) = ⟨w.heap.size, i, none⟩ := by
    simp [Addr.add]
    exact fun h => h.symm
  rw [ha, hc]
  simpa using hu
set_option maxHeartbeats 8000000 in
set_option maxRecDepth 100000 in
theorem awake15_any (w : World) (ht : Tabs w) : Calls Tryd.prog 26 #[] w fun en w' => en = .returned (.bool true) ∧ Below w.heap.size w w' := by
  have hC := compile_any oneHole (some ⟨w.heap.size, 0, none⟩) 1 (w.alloc (.cells #[.int .i64 18, .int .i64 0, .string ⟨#[97]⟩, .slice none 0 0] 96)) (ht.below ((Below.refl _ _).alloc (Nat.le_refl _) _)) (oneHole_C w) (by decide) (by
    intro x hx
    simp [oneHole] at hx
    subst hx; decide)
  have HC := Lib.hid (hC.mono (R' := fun en w' => ∃ A1 c1, en = .returned (.tuple #[.slice A1 1 c1, .int .i64 0]) ∧ Below w.heap.size w w') (fun en w' h => by
    obtain ⟨hb, ⟨_, v, h2, hR⟩ | ⟨h1, _⟩⟩ := h
    · obtain ⟨A1, c1, rfl, _, _⟩ := Kd.R_reads hR
      have hl : (progL oneHole).length = 1 := progL_len oneHole_ok
      rw [hl] at h2
      exact ⟨A1, c1, h2, ((Below.refl _ _).alloc (Nat.le_refl _) _).trans (hb.mono (by simp))⟩
    · rw [oneHole_ok] at h1; cases h1))
  have hl1 : oneHole.length = 1 := rfl
  rw [hl1] at HC
  clear ht hC hl1
  go_enter Tryd.func26, Tryd.ntmps26
  go_wp2_with (go_at_call 27; refine HC.out.mono ?_; rintro en w1 ⟨A1, c1, rfl, hb1⟩; have HB1 := Lib.hid hb1; clear hb1)
  go_ret
  exact ⟨rfl, HB1.out⟩
end Go.Proofs.YticaocadeeolkaaDoor
