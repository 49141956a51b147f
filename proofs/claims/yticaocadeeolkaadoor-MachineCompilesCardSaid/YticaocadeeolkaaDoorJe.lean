/-
  PLAIN: the holes of a pattern. THE WALK of pattern.holes.
-/
import Derived.Test.YticaocadeeolkaaDoorME
import Derived.Maps.Views
import Derived.Maps.OwnSet
namespace Go.Proofs.YticaocadeeolkaaDoor.Plain
open Go

open Classical in
noncomputable def holesGo : List Nd → List ByteArray → List ByteArray
  | [], l => l
  | x :: r, l => holesGo r (if x.op = 18 ∧ ¬ x.name ∈ l then l ++ [x.name] else l)
noncomputable def holesL (e : List Nd) : List ByteArray := holesGo e []
theorem holesGo_append : ∀ (a b : List Nd) (l : List ByteArray), holesGo (a ++ b) l = holesGo b (holesGo a l)
  | [], _, _ => rfl
  | _ :: a, b, _ => holesGo_append a b _
open Classical in
theorem holes_next {e : List Nd} {i : Nat} {x : Nd} (hx : e[i]? = some x) : holesL (e.take (i + 1)) = if x.op = 18 ∧ ¬ x.name ∈ holesL (e.take i) then holesL (e.take i) ++ [x.name] else holesL (e.take i) := by
  have hlt := (List.getElem?_eq_some_iff.1 hx).1
  have h1 : e.take (i + 1) = e.take i ++ [x] := by
    rw [List.take_succ_eq_append_getElem hlt]; congr 2; exact (List.getElem?_eq_some_iff.1 hx).2
  unfold holesL
  rw [h1, holesGo_append]; rfl
open Classical in
theorem holesGo_len : ∀ (e : List Nd) (l : List ByteArray), (holesGo e l).length ≤ l.length + e.length
  | [], _ => by simp [holesGo]
  | x :: r, l => by
    have := holesGo_len r (if x.op = 18 ∧ ¬ x.name ∈ l then l ++ [x.name] else l)
    rw [holesGo]
    split at this
    · rename_i h; rw [if_pos h]; simp at this ⊢; omega
    · rename_i h; rw [if_neg h]; simp at this ⊢; omega
theorem holesL_len (e : List Nd) : (holesL e).length ≤ e.length := by have := holesGo_len e []; simpa [holesL] using this
open Classical in
theorem holesGo_names : ∀ (e : List Nd) (l : List ByteArray), ∀ s ∈ holesGo e l, s ∈ l ∨ ∃ x ∈ e, x.op = 18 ∧ x.name = s
  | [], _, s, h => .inl h
  | x :: r, l, s, h => by
    rw [holesGo] at h
    rcases holesGo_names r _ s h with h1 | ⟨y, h1, h2⟩
    · split at h1
      · rename_i hc
        rcases List.mem_append.1 h1 with h2 | h2
        · exact .inl h2
        · exact .inr ⟨x, List.mem_cons_self, hc.1, (List.mem_singleton.1 h2).symm⟩
      · exact .inl h1
    · exact .inr ⟨y, List.mem_cons_of_mem _ h1, h2⟩
end Go.Proofs.YticaocadeeolkaaDoor.Plain
namespace Go.Proofs.YticaocadeeolkaaDoor
open Go.RowKit Plain Go.WideMaps Go.Maps Go.Proofs.YticaocadeeolkaaDoorW.PrintWords Go.Proofs.YticaocadeeolkaaDoorW.PrintLast Go.Proofs.YticaocadeeolkaaDoorW.PrintMore

theorem law9 : Keyed Tryd.prog 9 := string_keyed Tryd.underlying9
theorem zero3 (w : World) : (zeroValue 3).run Tryd.prog w = .ok (.int .i64 0) w := by kernel_rfl
theorem infoStr : (Tryd.prog.info? 9).map (fun i => (i.zero, i.size, i.bytes)) = some (some (.string ⟨#[]⟩), 1, 16) := by kernel_rfl
def keyS (s : ByteArray) : Lit := .string s.data.toList
theorem keyS_ok {s : ByteArray} (h : s.size ≤ maxLen) : keyOf Tryd.prog 9 (.string s) = some (keyS s) := keyOf_string_mk Tryd.underlying9 h
theorem keyS_ne {s t : ByteArray} (h : s ≠ t) : keyS s ≠ keyS t := fun he => h (by
  have : s.data.toList = t.data.toList := by unfold keyS at he; injection he
  have h2 : s.data = t.data := Array.toList_inj.1 this
  cases s; cases t; simp at h2; rw [h2])
theorem keyS_lit (s : ByteArray) : WideAt.IsKeyLit (keyS s) := trivial
theorem R_grown {α : Type} {w w' : World} {row : Option Nat} {d : Kd α} {e base : Nat} {ok : Nat → Prop} {v : Value} {xs : List α} (hE : d.E = []) (h : d.R e w base ok v xs) (hg : w.grownBy w' row) (hne : ∀ b, v.ownBlock = some b → some b ≠ row) : d.R e w' base ok v xs :=
  Kd.R_mono (Kd.R_step (Kd.R_tight2 hE h) (fun b hb hlt => hg.block b hlt (hne b hb.1.symm))) (fun _ hk => hk.2)
/-- The map knows just the names of the list. -/
def Knows (D : DataW Unit) (l : List ByteArray) : Prop := IsMap D ∧ ∀ s, has D (keyS s) = true ↔ s ∈ l
theorem knows_nil : Knows (.map []) [] := ⟨isMap_empty, fun s => by simp [has]⟩
theorem knows_put {D : DataW Unit} {l : List ByteArray} (h : Knows D l) (s : ByteArray) (d : DataW Unit) : Knows (D.put (keyS s) d) (l ++ [s]) := by
  refine ⟨h.1.put _ _, fun t => ?_⟩
  by_cases he : t = s
  · subst he
    rw [has_put_same h.1 (keyS_lit _)]; simp
  · rw [has_put_other (keyS_ne he), h.2 t]; simp [he]
structure HInv (e : List Nd) (w : World) (i : Nat) (l : List ByteArray) (v : Value) (D : DataW Unit) (wr : World) : Prop where
  eq : holesL (e.take i) = l
  kn : Knows D l
  own : wr.ownsMap Tryd.prog 9 (plainElem Tryd.prog 3) w.heap.size i D
  row : Kd.R Kd.string 9 wr w.heap.size (fun k => w.heap.size < k) v l
  B : Below w.heap.size w wr
theorem len_wf {n : Nat} (h : n ≤ 9223372036854775807) : (Lit.int .i64 (n : Int)).wf = true := by
  have : wrap64 (n : Int) = (n : Int) := by unfold wrap64; omega
  rw [← this]; exact wrap64_wf _
def HolesOk (e : List Nd) (w : World) (en : Ending) (w' : World) : Prop := ∃ v m, en = .returned (.tuple #[v, .map (some m)]) ∧ Kd.R Kd.string 9 w' w.heap.size (fun _ => True) v (holesL e) ∧ Below w.heap.size w w'

set_option maxHeartbeats 8000000 in
set_option maxRecDepth 100000 in
theorem holes_any (e : List Nd) (A : Option Addr) (c : Nat) (w : World) (hr : Kd.C kNd w A e.length e) (hl : e.length ≤ 2513169434843) (hn : ∀ x ∈ e, x.name.size ≤ maxLen) :
    Calls Tryd.prog 66 #[.slice A e.length c] w (HolesOk e w) := by
  have HR := Lib.hid hr
  have HN := Lib.hid hn
  have hu := Tryd.underlying96
  have hmm := @run_makeMap Tryd.prog
  clear hr hn
  go_enter Tryd.func66, Tryd.ntmps66
  go_wp2
  clear hmm
  go_loopw [4, 13] (fun v iv wr => ∃ (i : Nat) (l : List ByteArray) (D : DataW Unit), iv = .int .i64 i ∧ i ≤ e.length ∧ l.length ≤ i ∧ Hid (HInv e w i l v D wr)) (fun _ iv _ => e.length - (intOf iv).toNat)
  case atStart => exact ⟨0, [], .map [], rfl, by omega, by simp, Lib.hid ⟨rfl, knows_nil, World.ownsMap_made _ _ _ _, Kd.R_nil _ _ _ _ _, (Below.refl _ _).alloc (Nat.le_refl _) _⟩⟩
  case round =>
    obtain ⟨i, l, D, rfl, hi, hll, hI⟩ := hrel
    by_cases hlt : i < e.length
    · obtain ⟨x, hx⟩ : ∃ x, e[i]? = some x := ⟨_, List.getElem?_eq_getElem hlt⟩
      obtain ⟨ad, A3, c3, hA, q0, q1, q2, q3, hl3, hk3⟩ := nd_at HR.out hx
      subst hA
      replace q0 := nd_below hI.out.B q0
      replace q1 := nd_below hI.out.B q1
      replace q2 := nd_below hI.out.B q2
      replace q3 := nd_below hI.out.B q3
      have HX := Lib.hid hx
      have hkey := keyS_ok (HN.out x (List.mem_of_getElem? hx))
      have HNX := Lib.hid (holes_next hx)
      have hgw := hI.out.own.lt
      obtain ⟨Al, cl, rfl, hcl, _⟩ := Kd.R_reads hI.out.row
      obtain ⟨wo, rfl⟩ : ∃ wo : World, wo = wr := ⟨_, rfl⟩
      clear hx hk3
      by_cases hop : x.op = 18
      · have o1 : (x.op == 18) = true := beq_iff_eq.2 hop
        by_cases hk : x.name ∈ l
        · have hh : has D (keyS x.name) = true := (hI.out.kn.2 _).2 hk
          have HE : Hid (holesL (e.take (i + 1)) = l) := Lib.hid (by rw [HNX.out, hI.out.eq, if_neg (fun h => h.2 hk)])
          clear hop hk
          go_wp2_with (at_lookup; refine wpList_lookup_own_ok_int _ rfl _ _ 123 rfl 9 3 .i64 law9 Tryd.underlying123 Tryd.underlying3 (zero3 _) w.heap.size i D rfl (hI.out.own.alloc _) _ _ rfl hkey ?_; intro c1 _ _)
          go_roundw
          case rel => exact ⟨i + 1, l, D, by go_num, by omega, by omega, Lib.hid ⟨HE.out, hI.out.kn, (hI.out.own.alloc _).mono (Nat.le_succ _), Kd.R_alloc hI.out.row _, hI.out.B.alloc hI.out.B.size _⟩⟩
          case measure => simp [intOf]; omega
        · have hh : has D (keyS x.name) = false := by rw [Bool.eq_false_iff]; exact fun h => hk ((hI.out.kn.2 _).1 h)
          have HE : Hid (holesL (e.take (i + 1)) = l ++ [x.name]) := Lib.hid (by rw [HNX.out, hI.out.eq, if_pos ⟨hop, hk⟩])
          clear hop hk
          go_wp2_with (first
            | (at_lookup; refine wpList_lookup_own_ok_int _ rfl _ _ 123 rfl 9 3 .i64 law9 Tryd.underlying123 Tryd.underlying3 (zero3 _) w.heap.size i D rfl (hI.out.own.alloc _) _ _ rfl hkey ?_; intro c1 _ _)
            | (at_mapUpdate; refine wpList_mapUpdate_own _ rfl _ _ _ 123 rfl 9 3 law9 Tryd.underlying123 (plainElem (H := Unit) Tryd.prog 3) w.heap.size i D rfl (hI.out.own.alloc _) (by unfold maxLen; omega) _ _ _ rfl rfl hkey _ [] (plainElem_int Tryd.underlying3 (len_wf (by omega))) ?_; intro w1 hown1 hgrow1; have n2 : w1.cell? ⟨wo.heap.size, 2, none⟩ = some (.string x.name) := (World.cell?_of_block (hgrow1.block wo.heap.size (by simp) (fun he => by have := Option.some.inj he; omega))).trans (blk_cell (heap_alloc_new wo (.cells #[.int .i64 x.op, .int .i64 x.n, .string x.name, .slice A3 x.kids.length c3] 96)) 2))
            | (refine Kd.R_append Kd.string (w0 := w) w.heap.size rfl (.tmp 36) (.tmp 39) 64 9 (.string ⟨#[]⟩) 16 rfl Tryd.underlying64 infoStr rfl (by decide) (by omega) _ l x.name [.string x.name] (fun k => w.heap.size < k) (fun _ => False) rfl rfl ?aP (fun _ h => h.elim) ?aF ?aO ?aB ?aS ?aL ?_))
          case aP => exact rfl
          case aF => exact fun k hk => by have := hgrow1.size; simp at this; omega
          case aO => exact R_grown rfl (Kd.R_alloc hI.out.row _) hgrow1 (fun b hb he => by cases he; exact Nat.lt_irrefl _ (hI.out.row.1 _ hb))
          case aB => exact ((hI.out.B.alloc hI.out.B.size _).grown hgrow1 (by have := hI.out.B.size; simp; omega) (fun k e => by cases e; exact Nat.le_refl _))
          case aS => have := hgrow1.size; have := hI.out.B.size; simp at *; omega
          case aL => omega
          intro v2 w2 hR2 hB2 hg2 _
          have HOWN2 := Lib.hid (hown1.kept hg2 (fun he => Nat.lt_irrefl _ (hI.out.row.1 _ he.symm)))
          have HR2 := Lib.hid hR2
          have HB2 := Lib.hid hB2
          clear hR2 hB2 hg2 hown1 hgrow1
          go_wp2
          go_roundw
          case rel => exact ⟨i + 1, l ++ [x.name], D.put (keyS x.name) _, by go_num, by omega, by simp; omega, Lib.hid ⟨HE.out, knows_put hI.out.kn _ _, HOWN2.out, HR2.out, HB2.out⟩⟩
          case measure => simp [intOf]; omega
      · have o1 : (x.op == 18) = false := beq_eq_false_iff_ne.2 hop
        have HE : Hid (holesL (e.take (i + 1)) = l) := Lib.hid (by rw [HNX.out, hI.out.eq, if_neg (fun h => hop h.1)])
        clear hop
        go_wp2_with (at_lookup; refine wpList_lookup_own_ok_int _ rfl _ _ 123 rfl 9 3 .i64 law9 Tryd.underlying123 Tryd.underlying3 (zero3 _) w.heap.size i D rfl (hI.out.own.alloc _) _ _ rfl hkey ?_; intro c1 _ _)
        go_roundw
        case rel => exact ⟨i + 1, l, D, by go_num, by omega, by omega, Lib.hid ⟨HE.out, hI.out.kn, (hI.out.own.alloc _).mono (Nat.le_succ _), Kd.R_alloc hI.out.row _, hI.out.B.alloc hI.out.B.size _⟩⟩
        case measure => simp [intOf]; omega
    · have hie : i = e.length := by omega
      have HE : Hid (holesL e = l) := Lib.hid (by have := hI.out.eq; rwa [hie, List.take_length] at this)
      have hR := hI.out.row
      have HB := Lib.hid hI.out.B
      have HRW := Lib.hid hR
      clear hie hI hR
      go_wp2
      go_ret2
      exact ⟨_, _, rfl, by rw [HE.out]; exact Kd.R_mono HRW.out (fun _ _ => trivial), HB.out⟩
end Go.Proofs.YticaocadeeolkaaDoor
