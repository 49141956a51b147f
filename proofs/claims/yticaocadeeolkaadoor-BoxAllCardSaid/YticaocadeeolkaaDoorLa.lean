/-
  THE LAW: a range over a function whose rounds are counted: the round number k is handed what T k says. At the wide fence.
-/
import Derived.RangeFuncKeeps
import Derived.RangeFuncCalls
import Derived.RowKit
import Derived.Below
namespace Go.Proofs.YticaocadeeolkaaDoor
open Go Go.RowKit

/-- What lies at or beyond B lies as it lay. -/
def Upper (B : Nat) (W W' : World) : Prop := W.heap.size ≤ W'.heap.size ∧ ∀ b, B ≤ b → b < W.heap.size → W'.heap[b]? = W.heap[b]?
theorem Upper.refl (B : Nat) (W : World) : Upper B W W := ⟨Nat.le_refl _, fun _ _ _ => rfl⟩
theorem Upper.trans {B : Nat} {W W1 W2 : World} (h : Upper B W W1) (k : Upper B W1 W2) : Upper B W W2 :=
  ⟨Nat.le_trans h.1 k.1, fun b hb hl => (k.2 b hb (Nat.lt_of_lt_of_le hl h.1)).trans (h.2 b hb hl)⟩
theorem Upper.below {B : Nat} {W W1 : World} (h : Below W.heap.size W W1) : Upper B W W1 := ⟨h.size, fun b _ hl => h.block b hl⟩
theorem Upper.setCell {B : Nat} {W W1 : World} (h : Upper B W W1) {p : Addr} (hp : p.block < B) (v : Value) : Upper B W (W1.setCell p v) :=
  ⟨by simpa [World.setCell] using h.1, fun b hb hl => (Below.heap_setCell W1 p v b (by omega)).trans (h.2 b hb hl)⟩
theorem Upper.mono {B B' : Nat} {W W1 : World} (h : Upper B W W1) (hB : B ≤ B') : Upper B' W W1 := ⟨h.1, fun b hb hl => h.2 b (by omega) hl⟩

/-- An invariant that does not mind what happens at or beyond B. -/
def Minds (B : Nat) (I : World → Prop) : Prop := ∀ W W', I W → Below B W W' → I W'

/-- An iterator's contract, by the rounds' numbers: N rounds, T k the arguments of round k; what it asks of a round: that what lies at or beyond B stay. -/
def Counted (P : Program) (gf : Nat) (lb : Array Value) (T : Nat → Array Value) (N : Nat) (w : World) : Prop :=
  ∀ (l B : Nat) (J : Nat → World → Prop) (Jx : World → Prop) (W : World), Below w.heap.size w W → B ≤ W.heap.size →
    (∀ k, Minds W.heap.size (J k)) →
    (∀ k W1, J k W1 → k < N → YieldAt Fence.wide 1 P l (T k) W1 fun e W' => (e = .returned (.bool true) ∧ J (k + 1) W' ∧ Upper W.heap.size W1 W') ∨ (e = .returned (.bool false) ∧ Jx W')) →
    J 0 W → CallsIn Fence.wide 2 P gf (#[.func (.yield l) #[] #[]] ++ lb) W fun e W' => (∃ v, e = .returned v) ∧ (J N W' ∨ Jx W')

/-- How a round's body is left. -/
def roundLeft (B : Nat) (I : World → Prop) (Ix : Code → World → Prop) (W : World) : Exit → Act → World → Prop
  | .normal, _, W' => Upper B W W' ∧ I W'
  | .ret, _, W' => Upper B W W' ∧ Ix .ret W'
  | .exit id, _, W' => Upper B W W' ∧ Ix (.exit id) W'
  | .goto t, _, W' => Upper B W W' ∧ Ix (.goto t) W'
  | .panic _, _, _ => False
  | .outgrown, _, _ => False

theorem below_put {B l : Nat} (W : World) (o : Obj) (h : B ≤ l) : Below B W (W.putObj l o) :=
  ⟨rfl, rfl, rfl, by simp, fun k hk => World.putObj_heap_other (by omega)⟩
theorem upper_at {B b : Nat} {W W' : World} {o : Obj} (h : Upper B W W') (hB : B ≤ b) (ho : W.heap[b]? = some o) : W'.heap[b]? = some o :=
  (h.2 b hB (Array.getElem?_eq_some_iff.1 ho).1).trans ho

theorem wp_range {P : Program} {g : Operand} {ps : Array Tmp} {assign body : Code} {Q : Exit → Act → World → Prop} {a : Act} {w : World} {gf : Nat} {lb : Array Value} {T : Nat → Array Value} {N : Nat}
    (hg : a.eval g = .func (.func gf) #[] lb) (eg : ∀ args w, (callFunc gf args).run P w = .ok (.enter gf args) w) (hps : ∀ k, (T k).size = ps.size) (hit : Counted P gf lb T N w)
    (I : Nat → World → Prop) (Ix : Code → World → Prop) (hI : ∀ k, Minds w.heap.size (I k)) (hIx : ∀ c, Minds w.heap.size (Ix c)) (h0 : I 0 w) (a₁ : Nat → Act)
    (hassign : ∀ (l k : Nat) (W : World) (K : Act → World → Prop), K (a₁ k) W → assign.wpIn (Fence.wide.inRound l) 1 P (Exit.then K (fun _ _ _ => False)) { tmps := (ps.zip (T k)).foldl (fun t (p, v) => t.setIfInBounds p v) a.tmps, defers := [] } W)
    (hbody : ∀ (l k : Nat) (W : World), w.heap.size + 2 ≤ W.heap.size → I k W → k < N → body.wpIn (Fence.wide.inRound l) 1 P (roundLeft w.heap.size (I (k + 1)) Ix W) (a₁ k) W)
    (hdone : ∀ W, w.heap.size < W.heap.size → I N W → W.heap[w.heap.size]? = some (.deferred (some [])) → Q .normal { a with defers := { target := .collected w.heap.size, args := #[] } :: a.defers } W)
    (hstop : ∀ c W, w.heap.size < W.heap.size → Ix c W → W.heap[w.heap.size]? = some (.deferred (some [])) → c.wp P Q { a with defers := { target := .collected w.heap.size, args := #[] } :: a.defers } W) :
    (Code.rangeFunc g ps assign body).wp P Q a w := by
  refine wpIn_wide (n := 3).1 (wpIn_rangeFunc ?_)
  intro fn hfn
  obtain ⟨rec, hrec⟩ : ∃ rec : LoopState → Option Code → Loop, rec = fun st pe => { state := st, pending := pe, fn, tmps := a.tmps, params := ps, assign, body, defers := w.heap.size } := ⟨_, rfl⟩
  obtain ⟨W1, hW1⟩ : ∃ W1, (w.alloc (.deferred (some []))).alloc (.loop (rec .ready none)) = W1 := ⟨_, rfl⟩
  have hz : W1.heap.size = w.heap.size + 2 := by rw [← hW1]; simp
  have hL1 : W1.heap[w.heap.size + 1]? = some (.loop (rec .ready none)) := by
    rw [← hW1]; have := World.alloc_heap_new (w.alloc (.deferred (some []))) (.loop (rec .ready none)); rwa [World.size_alloc] at this
  have hK1 : W1.heap[w.heap.size]? = some (.deferred (some [])) := by
    rw [← hW1]; exact (Below.heap_alloc _ _ _ (by simp)).trans (World.alloc_heap_new w _)
  have hb1 : Below w.heap.size w W1 := by
    rw [← hW1]; exact (((Below.refl _ w).alloc (Nat.le_refl _) _).alloc (by simp) _)
  have hI1 : I 0 W1 := hI 0 _ _ h0 hb1
  refine ⟨w.heap.size + 1, [{ target := .collected w.heap.size, args := #[] }], W1, { target := .fn (.func gf) lb, args := #[.func (.yield (w.heap.size + 1)) #[] #[]] }, W1, gf,
    #[.func (.yield (w.heap.size + 1)) #[] #[]] ++ lb, W1, ?_, ?_, fun _ _ => trivial, ?_, fun h => by simp [Fence.wide] at h, ?_⟩
  · rw [← hW1, hrec]; exact run_enterLoop_outer _ _ _ _ _
  · simp only [resolve, hg]
    simp [go_sem]
  · simp [invoke, go_sem, eg]
  refine (hit (w.heap.size + 1) W1.heap.size
    (fun k W => w.heap.size + 2 ≤ W.heap.size ∧ I k W ∧ W.heap[w.heap.size + 1]? = some (.loop (rec .ready none)) ∧ W.heap[w.heap.size]? = some (.deferred (some [])))
    (fun W => w.heap.size + 2 ≤ W.heap.size ∧ ∃ c, Ix c W ∧ W.heap[w.heap.size + 1]? = some (.loop (rec .done (some c))) ∧ W.heap[w.heap.size]? = some (.deferred (some [])))
    W1 hb1 (Nat.le_refl _) (fun k A B hs hbl => ?_) ?_ ⟨by omega, hI1, hL1, hK1⟩).mono ?_
  · obtain ⟨s1, s2, s3, s4⟩ := hs
    rw [hz] at hbl
    exact ⟨Nat.le_trans s1 hbl.size, hI k _ _ s2 (hbl.mono (by omega)), (hbl.block _ (by omega)).trans s3, (hbl.block _ (by omega)).trans s4⟩
  · -- one round
    rintro k W ⟨hsz, hi, hl, hk⟩ hkN
    have hy := run_yield (P := P) (args := T k) hl (by rw [hrec]; exact hps k)
    rw [hrec] at hy
    refine ⟨fn, _, assign, body, hy, roundIn_of_wpIn hfn (hassign _ k W _ ⟨_, run_beginRound hl (by rw [hrec]), ?_⟩)⟩
    have hl2 : (W.putObj (w.heap.size + 1) (.loop { rec .ready none with state := .busy })).heap[w.heap.size + 1]? = some (.loop { rec .ready none with state := .busy }) := World.putObj_heap_same (by omega)
    have hk2 : (W.putObj (w.heap.size + 1) (.loop { rec .ready none with state := .busy })).heap[w.heap.size]? = some (.deferred (some [])) := (World.putObj_heap_other (by omega)).trans hk
    refine wpIn_mono (hbody _ k _ (by simpa using hsz) (hI k _ _ hi (below_put _ _ (by omega))) hkN) ?_
    have fin : ∀ (jump : Option Code) (W3 : World), Upper w.heap.size (W.putObj (w.heap.size + 1) (.loop { rec .ready none with state := .busy })) W3 →
        (Instr.endRound (w.heap.size + 1) jump).run P W3 = .ok (.bool jump.isNone) (W3.putObj (w.heap.size + 1) (.loop (rec (if jump.isNone then .ready else .done) jump))) ∧
        (W3.putObj (w.heap.size + 1) (.loop (rec (if jump.isNone then .ready else .done) jump))).heap[w.heap.size + 1]? = some (.loop (rec (if jump.isNone then .ready else .done) jump)) ∧
        (W3.putObj (w.heap.size + 1) (.loop (rec (if jump.isNone then .ready else .done) jump))).heap[w.heap.size]? = some (.deferred (some [])) ∧
        w.heap.size + 2 ≤ (W3.putObj (w.heap.size + 1) (.loop (rec (if jump.isNone then .ready else .done) jump))).heap.size := fun jump W3 hu => by
      have hl3 := upper_at hu (by omega) hl2
      have := run_endRound (P := P) jump hl3
      rw [hrec] at this ⊢
      have hs3 := hu.1
      simp only [World.putObj_size] at hs3
      exact ⟨this, World.putObj_heap_same (by omega), (World.putObj_heap_other (by omega)).trans (upper_at hu (Nat.le_refl _) hk2), by simp; omega⟩
    have hup : ∀ {W3 : World} (o : Obj), Upper w.heap.size (W.putObj (w.heap.size + 1) (.loop { rec .ready none with state := .busy })) W3 → Upper W1.heap.size W (W3.putObj (w.heap.size + 1) o) := fun o hu => by
      refine ⟨by have := hu.1; simpa using this, fun b hb hlt => ?_⟩
      rw [hz] at hb
      rw [World.putObj_heap_other (by omega), hu.2 b (by omega) (by simpa using hlt), World.putObj_heap_other (by omega)]
    rintro e a3 W3 hp
    cases e with
    | normal =>
      obtain ⟨hu, hi3⟩ := hp
      obtain ⟨hr, hl4, hk4, hs4⟩ := fin none W3 hu
      exact ⟨_, _, hr, .inl ⟨rfl, ⟨hs4, hI _ _ _ hi3 (below_put _ _ (by omega)), hl4, hk4⟩, hup _ hu⟩⟩
    | ret =>
      obtain ⟨hu, hi3⟩ := hp
      obtain ⟨hr, hl4, hk4, hs4⟩ := fin (some .ret) W3 hu
      exact ⟨_, _, hr, .inr ⟨rfl, hs4, .ret, hIx _ _ _ hi3 (below_put _ _ (by omega)), hl4, hk4⟩⟩
    | exit id =>
      obtain ⟨hu, hi3⟩ := hp
      obtain ⟨hr, hl4, hk4, hs4⟩ := fin (some (.exit id)) W3 hu
      exact ⟨_, _, hr, .inr ⟨rfl, hs4, .exit id, hIx _ _ _ hi3 (below_put _ _ (by omega)), hl4, hk4⟩⟩
    | goto t =>
      obtain ⟨hu, hi3⟩ := hp
      obtain ⟨hr, hl4, hk4, hs4⟩ := fin (some (.goto t)) W3 hu
      exact ⟨_, _, hr, .inr ⟨rfl, hs4, .goto t, hIx _ _ _ hi3 (below_put _ _ (by omega)), hl4, hk4⟩⟩
    | panic ch => exact hp.elim
    | outgrown => exact hp.elim
  · -- behind the iterator
    rintro e W2 ⟨⟨v, rfl⟩, (⟨hs, hi, hl, hk⟩ | ⟨hs, c, hi, hl, hk⟩)⟩
    · exact ⟨none, _, by have := run_endLoop (P := P) hl (by rw [hrec]; simp); rw [hrec] at this; exact this, hdone _ (by simp; omega) (hI _ _ _ hi (below_put _ _ (by omega))) ((World.putObj_heap_other (by omega)).trans hk)⟩
    · exact ⟨some c, _, by have := run_endLoop (P := P) hl (by rw [hrec]; simp); rw [hrec] at this; exact this, wpIn_wide.2 (hstop c _ (by simp; omega) (hIx c _ _ hi (below_put _ _ (by omega))) ((World.putObj_heap_other (by omega)).trans hk))⟩
end Go.Proofs.YticaocadeeolkaaDoor
