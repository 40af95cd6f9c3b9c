import Derived.OrdersIn
import Derived.Sort.QuietThIn
import Derived.Test.YtknfkhackmnnaaaRf
set_option linter.unusedVariables false
set_option linter.unusedSimpArgs false
namespace Go.Proofs.Ytknfkhackmnnaaa
open Go Go.RowKit
/-! a region that draws its order, by an invariant: one step an operation, whatever has been carried out so far; and the quiet law in a round -/
section
variable {F : Fence} {n : Nat} {P : Program} {ops : Array Oper} {Q : Exit → Act → World → Prop}
def qk (Q : Exit → Act → World → Prop) (K : Act → World → Prop) : Exit → Act → World → Prop
  | .normal, a, w => K a w
  | .ret, a, w => Q .ret a w
  | .exit i, a, w => Q (.exit i) a w
  | .goto t, a, w => Q (.goto t) a w
  | .panic c, a, w => Q (.panic c) a w
  | .outgrown, a, w => Q .outgrown a w
theorem wpOpIn_of_list {i : Nat} {o : Oper} {K : Act → World → Prop} {a : Act} {w : World} (ho : ops[i]? = some o)
    (h : ∀ Q', (∀ a' w', K a' w' → Q' .normal a' w') → wpListIn F n P ops Q' [o] a w) : wpOpIn F n P ops Q i K a w := by
  have h := h (qk Q K) (fun _ _ h => h)
  unfold wpOpIn
  simp only [ho]
  unfold wpListIn at h
  split at h
  · rename_i hw
    rw [if_pos hw]
    unfold Oper.wpIn at *
    refine ⟨h.1, ?_⟩
    have h := h.2
    generalize (o.semAt F.round a.eval).run P w = r at *
    cases r with
    | ok x w' =>
      cases x <;> simp only [Oper.uponIn] at h ⊢
      case enter f args => exact ⟨h.1, h.2.mono fun e w'' he => by cases e <;> exact he⟩
      case round l f tmps assign body => exact ⟨h.1, RoundIn.mono h.2 fun e w'' he => by cases e <;> exact he⟩
      all_goals exact h
    | halt x w' =>
      cases x <;> simp only [Oper.uponIn] at h ⊢
      case panic v => exact h
  · rename_i hw
    rw [if_neg hw]
    exact h
def unl (l : Array Bool) : Nat → Nat
  | 0 => 0
  | k + 1 => unl l k + (if l.getD k true then 0 else 1)
theorem unl_set {l : Array Bool} {i : Nat} (hi : i < l.size) (hf : l.getD i true = false) : ∀ k, unl l k = unl (l.setIfInBounds i true) k + (if i < k then 1 else 0)
  | 0 => by simp [unl]
  | k + 1 => by
    unfold unl
    have ih := unl_set hi hf k
    by_cases e : i = k
    · subst e
      have h1 : (l.setIfInBounds i true).getD i true = true := by simp [hi]
      rw [h1, hf, ih]
      simp
    · rw [getD_set_ne true e, ih]
      by_cases h : i < k
      · have h2 : i < k + 1 := by omega
        simp only [h, h2, if_true]
        omega
      · have h2 : ¬ i < k + 1 := by omega
        simp only [h, h2, if_false]
        omega
theorem unl_zero {l : Array Bool} : ∀ k, unl l k = 0 → ∀ i, i < k → l.getD i true = true
  | 0, _, i, hi => by omega
  | k + 1, h, i, hi => by
    unfold unl at h
    by_cases e : i = k
    · subst e
      cases hq : l.getD i true with
      | true => rfl
      | false => rw [hq] at h; simp at h
    · exact unl_zero k (by omega) i (by omega)
theorem least_unl (l : Array Bool) : ∀ k, (∀ i, i < k → l.getD i true = true) ∨ ∃ j, j < k ∧ l.getD j true = false ∧ ∀ i, i < j → l.getD i true = true
  | 0 => .inl fun i hi => by omega
  | k + 1 => by
    rcases least_unl l k with h | ⟨j, hj, h1, h2⟩
    · cases hq : l.getD k true with
      | true =>
        refine .inl fun i hi => ?_
        rcases Nat.lt_or_ge i k with h1 | h1
        · exact h i h1
        · rw [show i = k by omega]; exact hq
      | false => exact .inr ⟨k, by omega, hq, h⟩
    · exact .inr ⟨j, by omega, h1, h2⟩
/-- an operation waits for earlier ones only -/
def downB (ops : Array Oper) : Bool := (List.range ops.size).all fun j => match ops[j]? with
  | none => true
  | some o => o.after.all fun e => !Region.binds .any e || decide (e.on < j)
theorem downB_spec (h : downB ops = true) {j : Nat} {o : Oper} (ho : ops[j]? = some o) {e : Edge} (he : e ∈ o.after) (hb : Region.binds .any e = true) : e.on < j := by
  have hj : j < ops.size := (Array.getElem?_eq_some_iff.1 ho).1
  have := List.all_eq_true.1 h j (List.mem_range.2 hj)
  simp only [ho] at this
  have := Array.all_eq_true_iff_forall_mem.1 this e he
  rw [hb] at this
  simpa using this
/-- operation i has been carried out -/
def Nx (l l' : Array Bool) (i : Nat) : Prop := l'.getD i false = true ∧ ∀ j, j ≠ i → l'.getD j false = l.getD j false
def InvStep (F : Fence) (n : Nat) (P : Program) (ops : Array Oper) (Inv : Array Bool → Act → World → Prop) (i : Nat) (o : Oper) : Prop :=
  ∀ (l : Array Bool) (a : Act) (w : World), l.getD i true = false → (∀ e ∈ o.after, Region.binds .any e = true → l.getD e.on false = true) → Inv l a w →
    ∀ Q' : Exit → Act → World → Prop, (∀ a' w', (∀ l', Nx l l' i → Inv l' a' w') → Q' .normal a' w') → wpListIn F n P ops Q' [o] a w
def InvSteps (F : Fence) (n : Nat) (P : Program) (ops : Array Oper) (Inv : Array Bool → Act → World → Prop) : Nat → List Oper → Prop
  | _, [] => True
  | k, o :: l => InvStep F n P ops Inv k o ∧ InvSteps F n P ops Inv (k + 1) l
theorem InvSteps.at {Inv : Array Bool → Act → World → Prop} : ∀ {l : List Oper} {k : Nat}, InvSteps F n P ops Inv k l → ∀ {j : Nat} {o : Oper}, l[j]? = some o → InvStep F n P ops Inv (k + j) o
  | [], _, _, j, o, h => by simp at h
  | x :: l, k, hs, 0, o, h => by simp at h; rw [← h]; exact hs.1
  | x :: l, k, hs, j + 1, o, h => by
    have := hs.2.at (j := j) (o := o) (by simpa using h)
    rwa [show k + (j + 1) = k + 1 + j by omega]
theorem wpAnyIn_inv {Inv : Array Bool → Act → World → Prop} (hd : downB ops = true) (hs : InvSteps F n P ops Inv 0 ops.toList) (hend : ∀ l a w, (∀ i, i < ops.size → l.getD i false = true) → Inv l a w → Q .normal a w) :
    ∀ (fuel : Nat) (l : Array Bool) (a : Act) (w : World), l.size = ops.size → unl l ops.size ≤ fuel → Inv l a w → wpAnyIn F n P .any ops Q fuel l a w := by
  have full : ∀ (l : Array Bool), l.size = ops.size → (∀ i, i < ops.size → l.getD i true = true) → ∀ i, i < ops.size → l.getD i false = true := fun l hl h i hi => by
    have := h i hi
    have hi' : i < l.size := by omega
    simp [hi'] at this ⊢
    exact this
  have nil : ∀ (l : Array Bool), l.size = ops.size → Region.ready .any ops l = [] → ∀ i, i < ops.size → l.getD i true = true := fun l hl h => by
    rcases least_unl l ops.size with h1 | ⟨j, hj, h1, h2⟩
    · exact h1
    · have : j ∈ Region.ready .any ops l := mem_ready.2 ⟨h1, ops[j], Array.getElem?_eq_getElem hj, fun e he hb => by
        have := downB_spec hd (Array.getElem?_eq_getElem hj) he hb
        have h3 := h2 e.on this
        have hi' : e.on < l.size := by omega
        simp [hi'] at h3 ⊢
        exact h3⟩
      rw [h] at this
      cases this
  intro fuel
  induction fuel with
  | zero =>
    intro l a w hl hu hI
    have hz := unl_zero (l := l) ops.size (by omega)
    refine ⟨?_, hend l a w (full l hl hz) hI⟩
    cases hr : Region.ready .any ops l with
    | nil => rfl
    | cons x xs =>
      have hx : x ∈ Region.ready .any ops l := by rw [hr]; simp
      obtain ⟨h1, o, ho, _⟩ := mem_ready.1 hx
      rw [hz x (Array.getElem?_eq_some_iff.1 ho).1] at h1
      cases h1
  | succ fuel ih =>
    intro l a w hl hu hI
    refine ⟨fun h => hend l a w (full l hl (nil l hl h)) hI, fun i hi => ?_⟩
    obtain ⟨h1, o, ho, h2⟩ := mem_ready.1 hi
    have hio : i < ops.size := (Array.getElem?_eq_some_iff.1 ho).1
    have hil : i < l.size := by omega
    have hst := hs.at (j := i) (o := o) (by simpa using ho)
    rw [Nat.zero_add] at hst
    refine wpOpIn_of_list ho fun Q' hQ' => hst l a w h1 h2 hI Q' fun a' w' h => hQ' a' w' (ih _ a' w' (by simpa using hl) ?_ (h _ ⟨?_, ?_⟩))
    · have := unl_set hil h1 ops.size
      rw [if_pos hio] at this
      omega
    · simp [hil]
    · intro j hj
      exact getD_set_ne false (fun e => hj e.symm)
theorem wpIn_region_inv {id : Nat} {a : Act} {w : World} (hm : P.follows .mixedOrders = true) (Inv : Array Bool → Act → World → Prop) (hd : downB ops = true)
    (h0 : Inv (Array.replicate ops.size false) a { w with drawn := w.drawn + 1 }) (hs : InvSteps F n P ops Inv 0 ops.toList) (hend : ∀ l a w, (∀ i, i < ops.size → l.getD i false = true) → Inv l a w → Q .normal a w) :
    (Code.region id ops true).wpIn F n P Q a w :=
  wpIn_region_any hm (wpAnyIn_inv hd hs hend _ _ _ _ (by simp) (by
    have : ∀ k (l : Array Bool), unl l k ≤ k := fun k l => by
      induction k with
      | zero => simp [unl]
      | succ k ih =>
        unfold unl
        split <;> omega
    exact this _ _) h0)
end
end Go.Proofs.Ytknfkhackmnnaaa
