import Derived.Test.YtknfkhackmnnaaaBm
set_option maxRecDepth 100000
set_option linter.unusedVariables false
set_option linter.unusedSimpArgs false
namespace Go.Proofs.Ytknfkhackmnnaaa
open Go.RowKit Go.Deep Go.Maps
/-! a map of bools in which all values are true, as the list of its keys -/
def BS (w : World) (b n : Nat) (S : List Nat) : Prop :=
  ∃ D : DataW Unit, w.ownsMap Try.prog 3 (plainElem Try.prog 4) b n D ∧ (∀ x : Nat, D.atKey (.int .i64 (x : Int)) (.lit (.bool false)) = .lit (.bool (decide (x ∈ S)))) ∧ (∀ x : Nat, Maps.has D (.int .i64 (x : Int)) = decide (x ∈ S)) ∧ Maps.size D = S.length ∧ S.Nodup
theorem lit_wf {x : Nat} (h : x ≤ 100000) : (Lit.int .i64 (x : Int)).wf = true := by
  have h1 : IntKind.i64.min ≤ (x : Int) := by
    have : IntKind.i64.min = -9223372036854775808 := by decide
    omega
  simp [Lit.wf, h1]
  omega
theorem lit_ne {x y : Nat} (h : ¬ x = y) : (Lit.int .i64 (x : Int)) ≠ Lit.int .i64 (y : Int) := fun e => h (by injection e with _ e; omega)
theorem BS.lt {w : World} {b n : Nat} {S : List Nat} (h : BS w b n S) : b < w.heap.size := by
  obtain ⟨D, h, _⟩ := h
  exact h.lt
theorem BS.nodup {w : World} {b n : Nat} {S : List Nat} (h : BS w b n S) : S.Nodup := by
  obtain ⟨D, _, _, _, _, h⟩ := h
  exact h
theorem BS.made (w : World) : BS (w.alloc (.map #[] 0)) w.heap.size 0 [] := ⟨.map [], World.ownsMap_made w _ _ _, fun x => rfl, fun x => rfl, rfl, List.nodup_nil⟩
theorem BS.of_block {w w' : World} {b n : Nat} {S : List Nat} (h : BS w b n S) (hb : w'.heap[b]? = w.heap[b]?) : BS w' b n S := by
  obtain ⟨D, ⟨es, clock, h1, F, h2, h3⟩, hD⟩ := h
  exact ⟨D, ⟨es, clock, hb.trans h1, F, h2, h3⟩, hD⟩
theorem BS.below {k : Nat} {w w' : World} {b n : Nat} {S : List Nat} (h : BS w b n S) (hb : Below k w w') (hk : b < k) : BS w' b n S := h.of_block (hb.block b hk)
theorem BS.grown {w w' : World} {b n c : Nat} {S : List Nat} (h : BS w b n S) (hb : w.grownBy w' (some c)) (hk : b ≠ c) : BS w' b n S := h.of_block (hb.block b h.lt (fun e => hk (by cases e; rfl)))
theorem BS.drewN {w : World} {b n : Nat} {S : List Nat} (h : BS w b n S) (m : Nat) : BS (w.drewN m) b n S := h.of_block rfl
theorem BS.look {w : World} {b n : Nat} {S : List Nat} (h : BS w b n S) {x : Nat} (hx : x ≤ 100000) : (Instr.lookup 44 (.map (some b)) (.int .i64 (x : Int)) false).run Try.prog w = .ok (.bool (decide (x ∈ S))) w := by
  obtain ⟨D, h, hD, _⟩ := h
  obtain ⟨v, ps, hr, hv⟩ := h.lookup (t := 44) keyed_int Try.underlying44 (zero_bool w) (plainElem_bool Try.underlying4 false) (key_int (lit_wf hx))
  rw [hD x] at hv
  rw [hr]
  cases v <;> simp_all [plainElem, Try.underlying4]
theorem BS.len {w : World} {b n : Nat} {S : List Nat} (h : BS w b n S) (ty : TypeId) : (Builtin.len_ #[44] ty #[.map (some b)]).run Try.prog w = .ok (.int .i64 (S.length : Int)) w := by
  obtain ⟨D, h, _, _, hs, _⟩ := h
  rw [h.len Try.underlying44 ty, hs]
theorem filter_ne_length {x : Nat} : ∀ {S : List Nat}, S.Nodup → (S.filter (fun y => decide (y ≠ x))).length + (if x ∈ S then 1 else 0) = S.length
  | [], _ => rfl
  | y :: S, h => by
    have ih := filter_ne_length (x := x) (List.nodup_cons.1 h).2
    have hn := (List.nodup_cons.1 h).1
    by_cases e : y = x
    · subst e
      rw [if_neg hn] at ih
      simp
      simpa using ih
    · have e2 : ¬ x = y := fun h => e h.symm
      simp only [List.filter_cons, List.mem_cons, e2, false_or, decide_not, decide_eq_false e, Bool.not_false, if_true, List.length_cons]
      simp only [decide_not] at ih
      omega
theorem BS.drop {w : World} {b n : Nat} {S : List Nat} (h : BS w b n S) {x : Nat} (hx : x ≤ 100000) (ty : TypeId) :
    ∃ w', (Builtin.delete_ #[44, 3] ty #[.map (some b), .int .i64 (x : Int)]).run Try.prog w = .ok (.tuple #[]) w' ∧ BS w' b n (S.filter (fun y => decide (y ≠ x))) ∧ w.grownBy w' (some b) := by
  obtain ⟨D, h, h1, h2, h3, h4⟩ := h
  obtain ⟨w', hr, ho, hg⟩ := h.drop (t := 44) keyed_int Try.underlying44 (key_int (lit_wf hx)) ty
  refine ⟨w', hr, ⟨_, ho, fun y => ?_, fun y => ?_, ?_, h4.filter _⟩, hg.grown⟩
  · by_cases e : y = x
    · subst e
      rw [atKey_del_same]
      simp
    · rw [atKey_del_other (lit_ne e), h1 y]
      simp [e]
  · by_cases e : y = x
    · subst e
      rw [has_del_same]
      simp
    · rw [has_del_other (lit_ne e), h2 y]
      simp [e]
  · have hs := size_del (k := (Lit.int .i64 (x : Int))) (h.tidy keyed_int)
    have hl := filter_ne_length (x := x) h4
    rw [h2 x, h3] at hs
    simp only [decide_eq_true_eq] at hs
    omega
theorem BS.store {w : World} {b n : Nat} {S : List Nat} (h : BS w b n S) (hn : n < 1000000) {x : Nat} (hx : x ≤ 100000) (hS : ¬ x ∈ S) :
    ∃ w', (Instr.mapUpdate 44 (.map (some b)) (.int .i64 (x : Int)) (.bool true)).run Try.prog w = .ok () w' ∧ BS w' b (n + 1) (S ++ [x]) ∧ w.grownBy w' (some b) := by
  obtain ⟨D, h, h1, h2, h3, h4⟩ := h
  obtain ⟨w', hr, ho, hg⟩ := h.store (t := 44) keyed_int Try.underlying44 (by unfold maxLen; omega) (key_int (lit_wf hx)) (plainElem_bool Try.underlying4 true)
  refine ⟨w', hr, ⟨_, ho, fun y => ?_, fun y => ?_, ?_, ?_⟩, hg.grown⟩
  · by_cases e : y = x
    · subst e
      refine (atKey_put_same h.isMap (by trivial) _ _).trans ?_
      simp
    · rw [atKey_put_other (lit_ne e), h1 y]
      simp [e]
  · by_cases e : y = x
    · subst e
      refine (has_put_same h.isMap (by trivial) _).trans ?_
      simp
    · rw [has_put_other (lit_ne e), h2 y]
      simp [e]
  · rw [size_put (h.tidy keyed_int), h2 x, decide_eq_false hS, h3]
    simp
  · rw [List.nodup_append]
    refine ⟨h4, by simp, fun a ha c hc => ?_⟩
    simp at hc
    rintro rfl
    exact hS (hc ▸ ha)
theorem wpList_bs_store {w : World} {ops : Array Oper} {rest : List Oper} {o : Oper} {a : Act} {Q : Exit → Act → World → Prop} (hg : o.guard = none) (m x v : Operand) (hop : o.op = Op.mapUpdate 44 m x v)
    (b n : Nat) (S : List Nat) (hm : a.eval m = .map (some b)) (h : BS w b n S) (hn : n < 1000000) (k : Nat) (hx : a.eval x = .int .i64 (k : Int)) (hk : k ≤ 100000) (hv : a.eval v = .bool true) (hS : ¬ k ∈ S)
    (hK : ∀ w', BS w' b (n + 1) (S ++ [k]) → w.grownBy w' (some b) → wpList Try.prog ops Q rest (a.put o.dst undef) w') : wpList Try.prog ops Q (o :: rest) a w := by
  refine wpList_plain hg fun K' hK' => ?_
  obtain ⟨w', hrun, r1, r2⟩ := h.store hn hk hS
  unfold Oper.wp
  simp [execOp, hop, hm, hx, hv, hrun, Result.andThen]
  exact hK' _ _ (hK w' r1 r2)
theorem wpList_bs_drop {w : World} {ops : Array Oper} {rest : List Oper} {o : Oper} {a : Act} {Q : Exit → Act → World → Prop} (hg : o.guard = none) (m x : Operand) (hop : o.op = Op.call { callee := Callee.builtin Builtin.delete, args := #[m, x], argTypes := #[44, 3] })
    (b n : Nat) (S : List Nat) (hm : a.eval m = .map (some b)) (h : BS w b n S) (k : Nat) (hx : a.eval x = .int .i64 (k : Int)) (hk : k ≤ 100000)
    (hK : ∀ w', BS w' b n (S.filter (fun y => decide (y ≠ k))) → w.grownBy w' (some b) → wpList Try.prog ops Q rest (a.put o.dst (.tuple #[])) w') : wpList Try.prog ops Q (o :: rest) a w := by
  refine wpList_plain hg fun K' hK' => ?_
  obtain ⟨w', hrun, r1, r2⟩ := h.drop hk o.type
  unfold Oper.wp
  simp [execOp, hop, resolve, invoke, builtin, hm, hx, hrun, Result.andThen]
  exact hK' _ _ (hK w' r1 r2)
end Go.Proofs.Ytknfkhackmnnaaa
