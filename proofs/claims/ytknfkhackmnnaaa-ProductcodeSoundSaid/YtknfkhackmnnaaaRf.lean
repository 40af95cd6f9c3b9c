import Derived.RangeFuncNested
import Derived.RangeFuncBound
import Derived.Maps.AppendAt
import Derived.Shelf.Abstract
import Derived.Shelf.RegionOpen
import Derived.WalkKit
import Derived.OwnWalkIn
import Derived.TacticsInMore
import Derived.LoopNIn
import Derived.LoopIn
import Derived.Test.YtknfkhackmnnaaaB
set_option linter.unusedVariables false
set_option linter.unusedSimpArgs false
namespace Go.Proofs.Ytknfkhackmnnaaa
open Go Go.RowKit
/-! a range over an iterator that hands over what lies in memory: the round is told what is so of what it is handed, in the world in which it is handed -/
def SeqE (F : Fence) (n : Nat) (P : Program) (g : Nat) (lb : Array Value) (E : Nat → Value → World → Prop) (N : Nat) (w : World) : Prop :=
  ∀ (l : Nat) (J : Nat → World → Prop) (Jx : Unit → World → Prop) (W : World), Below w.heap.size w W → AbidesFrom W.heap.size J → AbidesFrom W.heap.size Jx →
    (∀ k x W1, J k W1 → k < N → E k x W1 → YieldAt F (n - 1) P l #[x] W1 fun e W' => (e = .returned (.bool true) ∧ J (k + 1) W' ∧ W1.heap.size ≤ W'.heap.size) ∨ (e = .returned (.bool false) ∧ Jx () W')) →
    J 0 W → CallsIn F n P g (#[.func (.yield l) #[] #[]] ++ lb) W fun e W' => (∃ v, e = .returned v) ∧ (J N W' ∨ Jx () W')
def postE (B : Nat) (I : Nat → World → Prop) (Ix : Code → World → Prop) (k : Nat) (W : World) : Exit → Act → World → Prop
  | .normal, _, W' => KeepsFrom B W W' ∧ I (k + 1) W'
  | .ret, _, W' => KeepsFrom B W W' ∧ Ix .ret W'
  | .exit id, _, W' => KeepsFrom B W W' ∧ Ix (.exit id) W'
  | .goto t, _, W' => KeepsFrom B W W' ∧ Ix (.goto t) W'
  | .panic _, _, _ => False
  | .outgrown, _, _ => False
variable {F : Fence} {n : Nat} {P : Program}
theorem rangeE {g : Operand} {ps : Array Tmp} {assign body : Code} {Q : Exit → Act → World → Prop} {a : Act} {w : World}
    (hro : F.round = none) (h1 : 1 ≤ n) {gf : Nat} {lb : Array Value} (hg : a.eval g = .func (.func gf) #[] lb) (hFg : F.fn gf) (eg : ∀ args w, (callFunc gf args).run P w = .ok (.enter gf args) w)
    {E : Nat → Value → World → Prop} {N : Nat} {w0 : World} (hseq : SeqE F (n - 1) P gf lb E N w0) (hb0 : Below w0.heap.size w0 w) (hps : ps.size = 1)
    (I : Nat → World → Prop) (Ix : Code → World → Prop) (hI : OwnFrom w.heap.size I) (hIx : ∀ c, OwnFrom w.heap.size (fun (_ : Unit) W => Ix c W)) (h0 : I 0 w)
    (Ax : Nat → Value → Act → World → Prop) (hAx : ∀ k x a', OwnFrom w.heap.size (fun (_ : Unit) W => Ax k x a' W))
    (hassign : ∀ (l k : Nat) (x : Value) (W : World) (K : Act → World → Prop), I k W → E k x W → k < N → (∀ a' W', KeepsFrom w.heap.size W W' → I k W' → Ax k x a' W' → K a' W') →
      assign.wpIn (F.inRound l) (n - 1 - 1) P (Exit.then K (fun _ _ _ => False)) { tmps := (ps.zip #[x]).foldl (fun t (p, v) => t.setIfInBounds p v) a.tmps, defers := [] } W)
    (hbody : ∀ (l k : Nat) (x : Value) (a' : Act) (W : World), I k W → Ax k x a' W → k < N → body.wpIn (F.inRound l) (n - 1 - 1) P (postE w.heap.size I Ix k W) a' W)
    (hdone : ∀ (D : Nat) (W : World), w.heap.size ≤ D → I N W → W.heap[D]? = some (.deferred (some [])) → Q .normal { a with defers := { target := .collected D, args := #[] } :: a.defers } W)
    (hstop : ∀ (D : Nat) (c : Code) (W : World), w.heap.size ≤ D → Ix c W → W.heap[D]? = some (.deferred (some [])) → c.wpIn F n P Q { a with defers := { target := .collected D, args := #[] } :: a.defers } W) :
    (Code.rangeFunc g ps assign body).wpIn F n P Q a w := by
  refine wpIn_rangeFunc fun fn hfn => ?_
  rw [hro]
  obtain ⟨D, hD⟩ : ∃ D, D = w.heap.size := ⟨_, rfl⟩
  obtain ⟨rec, hrec⟩ : ∃ rec : LoopState → Option Code → Loop, rec = fun st pe => { state := st, pending := pe, fn, tmps := a.tmps, params := ps, assign, body, defers := D } := ⟨_, rfl⟩
  obtain ⟨W1, hW1⟩ : ∃ W1, (w.alloc (.deferred (some []))).alloc (.loop (rec .ready none)) = W1 := ⟨_, rfl⟩
  have hL1 : W1.heap[D + 1]? = some (.loop (rec .ready none)) := by
    have := World.alloc_heap_new (w.alloc (.deferred (some []))) (.loop (rec .ready none))
    rw [World.size_alloc, hW1, ← hD] at this
    exact this
  have hK1 : W1.heap[D]? = some (.deferred (some [])) := by
    rw [← hW1, hD]
    exact (Below.heap_alloc _ _ _ (by simp)).trans (World.alloc_heap_new w _)
  have hI1 : I 0 W1 := by rw [← hW1]; exact hI.alloc _ (hI.alloc _ h0)
  have hs1 : W1.heap.size = D + 2 := by rw [← hW1, hD]; simp
  have hb1 : Below w0.heap.size w0 W1 := by
    rw [← hW1]
    exact hb0.trans ((((Below.refl _ w).alloc (Nat.le_refl _) _).alloc (by simp) _).mono hb0.size)
  refine ⟨D + 1, [{ target := .collected D, args := #[] }], W1, { target := .fn (.func gf) lb, args := #[.func (.yield (D + 1)) #[] #[]] }, W1, gf, #[.func (.yield (D + 1)) #[] #[]] ++ lb, W1, ?_, ?_, ?_, ?_, fun _ => h1, ?_⟩
  · rw [← hW1, hrec, hD]
    exact run_enterLoop_outer _ _ _ _ _
  · simp only [resolve, hg]
    simp [go_sem]
  · intro f' hf'
    simp [Target.leads] at hf'
    subst hf'
    exact hFg
  · simp [invoke, go_sem, eg]
  have low : ∀ {A B : World} {row : Option Nat}, (∀ r, row = some r → W1.heap.size ≤ r ∧ ∃ o : Obj, A.heap[r]? = some o ∧ o.isWalk = true) → (∀ r, row = some r → w.heap.size ≤ r ∧ ∃ o : Obj, A.heap[r]? = some o ∧ o.isCells = false) := fun hr r e => by
    obtain ⟨hB, o, ho, hw⟩ := hr r e
    exact ⟨by omega, o, ho, Obj.not_cells_of_walk hw⟩
  refine (hseq (D + 1) (fun k W => I k W ∧ W.heap[D + 1]? = some (.loop (rec .ready none)) ∧ W.heap[D]? = some (.deferred (some [])))
    (fun _ W => ∃ c, Ix c W ∧ W.heap[D + 1]? = some (.loop (rec .done (some c))) ∧ W.heap[D]? = some (.deferred (some []))) W1 hb1
    (fun s A B row hs hg' hr => ⟨hI s A B row hs.1 hg' (low (B := B) hr), (grownBy_keeps hg' (fun r e => (hr r e).2) hs.2.1 rfl).trans hs.2.1, (grownBy_keeps hg' (fun r e => (hr r e).2) hs.2.2 rfl).trans hs.2.2⟩)
    (fun s A B row hs hg' hr => by
      obtain ⟨c, hc, hl, hk⟩ := hs
      exact ⟨c, hIx c () A B row hc hg' (low (B := B) hr), (grownBy_keeps hg' (fun r e => (hr r e).2) hl rfl).trans hl, (grownBy_keeps hg' (fun r e => (hr r e).2) hk rfl).trans hk⟩)
    ?_ ⟨hI1, hL1, hK1⟩).mono ?_
  · rintro k x V ⟨hi, hl, hk⟩ hkN hex
    have hy := run_yield (P := P) (args := #[x]) hl (by rw [hrec]; exact hps.symm)
    rw [hrec] at hy
    refine ⟨fn, _, assign, body, hy, roundIn_of_wpIn hfn (hassign _ k x V _ hi hex hkN ?_)⟩
    clear hy hex
    intro a' W hkf hi' hax
    have hlW := hkf.same _ _ (by omega) hl rfl
    have hkW := hkf.same _ _ (by omega) hk rfl
    have hlt : D + 1 < W.heap.size := (Array.getElem?_eq_some_iff.1 hlW).1
    refine ⟨_, run_beginRound hlW (by rw [hrec]), ?_⟩
    have hl2 : (W.putObj (D + 1) (.loop { rec .ready none with state := .busy })).heap[D + 1]? = some (.loop { rec .ready none with state := .busy }) := World.putObj_heap_same hlt
    have hk2 : (W.putObj (D + 1) (.loop { rec .ready none with state := .busy })).heap[D]? = some (.deferred (some [])) := (World.putObj_heap_other (by omega)).trans hkW
    refine wpIn_mono (hbody _ k x a' _ (hI.putObj _ hi' (by omega) hlW rfl) ((hAx k x a').putObj (s := ()) _ hax (by omega) hlW rfl) hkN) ?_
    have fin : ∀ (jump : Option Code) (W3 : World), KeepsFrom w.heap.size (W.putObj (D + 1) (.loop { rec .ready none with state := .busy })) W3 →
        (Instr.endRound (D + 1) jump).run P W3 = .ok (.bool jump.isNone) (W3.putObj (D + 1) (.loop (rec (if jump.isNone then .ready else .done) jump))) ∧
        W3.heap[D + 1]? = some (.loop { rec .ready none with state := .busy }) ∧
        (W3.putObj (D + 1) (.loop (rec (if jump.isNone then .ready else .done) jump))).heap[D + 1]? = some (.loop (rec (if jump.isNone then .ready else .done) jump)) ∧
        (W3.putObj (D + 1) (.loop (rec (if jump.isNone then .ready else .done) jump))).heap[D]? = some (.deferred (some [])) := fun jump W3 hk3 => by
      have hl3 := hk3.same _ _ (by omega) hl2 rfl
      have := run_endRound (P := P) jump hl3
      rw [hrec] at this ⊢
      exact ⟨this, by rw [hrec] at hl3; exact hl3, World.putObj_heap_same (Array.getElem?_eq_some_iff.1 hl3).1, (World.putObj_heap_other (by omega)).trans (hk3.same _ _ (by omega) hk2 rfl)⟩
    have leave : ∀ (c : Code) (W3 : World), KeepsFrom w.heap.size (W.putObj (D + 1) (.loop { rec .ready none with state := .busy })) W3 → Ix c W3 → ∃ v W4, (Instr.endRound (D + 1) (some c)).run P W3 = .ok v W4 ∧ ((Ending.returned v = .returned (.bool true) ∧ (I (k + 1) W4 ∧ W4.heap[D + 1]? = some (.loop (rec .ready none)) ∧ W4.heap[D]? = some (.deferred (some []))) ∧ V.heap.size ≤ W4.heap.size) ∨ (Ending.returned v = .returned (.bool false) ∧ ∃ c, Ix c W4 ∧ W4.heap[D + 1]? = some (.loop (rec .done (some c))) ∧ W4.heap[D]? = some (.deferred (some [])))) := fun c W3 hk3 hi3 => by
      obtain ⟨hr, hl3, hl4, hk4⟩ := fin (some c) W3 hk3
      exact ⟨_, _, hr, .inr ⟨rfl, c, (hIx c).putObj (s := ()) _ hi3 (by omega) hl3 rfl, hl4, hk4⟩⟩
    rintro e a3 W3 hp
    cases e with
    | normal =>
      obtain ⟨hr, hl3, hl4, hk4⟩ := fin none W3 hp.1
      refine ⟨_, _, hr, .inl ⟨rfl, ⟨hI.putObj _ hp.2 (by omega) hl3 rfl, hl4, hk4⟩, ?_⟩⟩
      have z1 := hkf.size
      have z2 := hp.1.size
      simp only [World.putObj_size] at z2 ⊢
      omega
    | ret => exact leave _ W3 hp.1 hp.2
    | exit id => exact leave _ W3 hp.1 hp.2
    | goto t => exact leave _ W3 hp.1 hp.2
    | panic ch => exact hp.elim
    | outgrown => exact hp.elim
  · rintro e W2 ⟨⟨v, rfl⟩, (⟨hi, hl, hk⟩ | ⟨c, hi, hl, hk⟩)⟩
    · have hend := run_endLoop (P := P) hl (by rw [hrec]; simp)
      rw [hrec] at hend
      exact ⟨none, _, hend, hdone D _ (by omega) (hI.putObj _ hi (by omega) hl rfl) ((World.putObj_heap_other (by omega)).trans hk)⟩
    · have hend := run_endLoop (P := P) hl (by rw [hrec]; simp)
      rw [hrec] at hend
      exact ⟨some c, _, hend, hstop D c _ (by omega) ((hIx c).putObj (s := ()) _ hi (by omega) hl rfl) ((World.putObj_heap_other (by omega)).trans hk)⟩
end Go.Proofs.Ytknfkhackmnnaaa
