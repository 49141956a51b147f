/-
  THE WALK of slices.Index at strings.
-/
import Derived.Test.YticaocadeeolkaaDoorJh
namespace Go.Proofs.YticaocadeeolkaaDoor
open Go.RowKit Plain Go.Proofs.YticaocadeeolkaaDoorW.PrintWords Go.Proofs.YticaocadeeolkaaDoorW.PrintLast Go.Proofs.YticaocadeeolkaaDoorW.PrintMore

theorem str_at {w : World} {A : Option Addr} {n : Nat} {ks : List ByteArray} (h : Kd.string.C w A n ks) {k : Nat} {a : ByteArray} (hx : ks[k]? = some a) : ∃ ad, A = some ad ∧ w.cell? (ad.add k) = some (.string a) := by
  have hlt := (List.getElem?_eq_some_iff.1 hx).1
  have hn : ks.length = n := h.1
  obtain ⟨ad, he, hc⟩ := h.2.2 (by omega)
  obtain ⟨c, hs, hr, hcell⟩ := hc k a hx
  have hr' : c = [.string a] := hr
  subst hr'
  refine ⟨ad, he, ?_⟩
  have := hcell 0 (.string a) rfl
  simpa [Kd.string, Kd.scalar] using this
theorem bytes_ne {s t : ByteArray} (h : s ≠ t) : (s.toList == t.toList) = false := by
  rw [beq_eq_false_iff_ne]
  intro he
  rw [ByteArray.toList_eq, ByteArray.toList_eq] at he
  have h2 : s.data = t.data := Array.toList_inj.1 he
  apply h
  cases s; cases t; simp at h2; rw [h2]
theorem bytes_eq {s t : ByteArray} (h : s = t) : (s.toList == t.toList) = true := by rw [h]; simp
set_option maxHeartbeats 2000000 in
theorem sidx_any (hs : List ByteArray) (s : ByteArray) (A : Option Addr) (c : Nat) (w : World) (hr : Kd.string.C w A hs.length hs) (hm : s ∈ hs) (h6 : hs.length ≤ 6) :
    Calls Tryd.prog 67 #[.slice A hs.length c, .string s] w fun en w' => en = .returned (.int .i64 (idx hs s : Int)) ∧ w = w' := by
  have HR := Lib.hid hr
  have HI := Lib.hid (idx_at hm)
  have hil := idx_lt hm
  clear hr
  go_enter Tryd.func67, Tryd.ntmps67
  go_wp2
  go_loop [8] (fun iv => ∃ i : Nat, iv = .int .i64 i ∧ i ≤ idx hs s ∧ Hid (∀ j, j < i → hs[j]? ≠ some s)) (fun iv => hs.length - (intOf iv).toNat)
  case atStart => exact ⟨0, rfl, by omega, Lib.hid (fun j hj => by omega)⟩
  case round =>
    obtain ⟨i, rfl, hi, hno⟩ := hrel
    have hlt : i < hs.length := by omega
    obtain ⟨t, ht⟩ : ∃ t, hs[i]? = some t := ⟨_, List.getElem?_eq_getElem hlt⟩
    obtain ⟨ad, hA, hc⟩ := str_at HR.out ht
    subst hA
    have HTT := Lib.hid ht
    clear ht
    by_cases he : s = t
    · have HX : Hid (idx hs s = i) := Lib.hid (idx_eq (by rw [HTT.out, he]) hno.out)
      subst he
      go_wp2
      go_ret
      exact ⟨ret_int (by rw [HX.out]), rfl⟩
    · have HN : Hid (∀ j, j < i + 1 → hs[j]? ≠ some s) := Lib.hid (fun j hj hjs => by
        by_cases hji : j = i
        · subst hji; rw [HTT.out] at hjs; exact he (Option.some.inj hjs).symm
        · exact hno.out j (by omega) hjs)
      have hii : i + 1 ≤ idx hs s := by
        rcases Nat.lt_or_ge i (idx hs s) with h | h
        · exact h
        · have : i = idx hs s := by omega
          exact absurd HI.out (HN.out _ (by omega))
      have hb := bytes_ne he
      go_wp2
      go_round
      case rel => exact ⟨i + 1, by go_num, hii, HN⟩
      case measure => simp [intOf]; omega
end Go.Proofs.YticaocadeeolkaaDoor
