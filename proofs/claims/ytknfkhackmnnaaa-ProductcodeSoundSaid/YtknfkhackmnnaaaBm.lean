import Derived.Maps.OwnSet
import Derived.Maps.Views
import Derived.Maps.OwnOps
import Derived.Test.YtknfkhackmnnaaaB
set_option maxRecDepth 100000
set_option linter.unusedVariables false
set_option linter.unusedSimpArgs false
namespace Go.Proofs.Ytknfkhackmnnaaa
open Go.RowKit Go.Deep Go.Maps
/-! maps of bools with integer keys -/
/-- the map in a block reads as a function -/
def BM (w : World) (b : Nat) (f : Int → Bool) (n : Nat) : Prop :=
  ∃ D : DataW Unit, w.ownsMap Try.prog 3 (plainElem Try.prog 4) b n D ∧ ∀ x : Int, D.atKey (.int .i64 x) (.lit (.bool false)) = .lit (.bool (f x))
theorem keyed_int : Keyed Try.prog 3 := int_keyed Try.underlying3
theorem key_int {x : Int} (h : (Lit.int .i64 x).wf = true) : keyOf Try.prog 3 (.int .i64 x) = some (.int .i64 x) := keyOf_int_mk Try.underlying3 h
theorem zero_bool (w : World) : (zeroValue 4).run Try.prog w = .ok (.bool false) w := by kernel_rfl
theorem BM.lt {w : World} {b n : Nat} {f : Int → Bool} (h : BM w b f n) : b < w.heap.size := by
  obtain ⟨D, h, _⟩ := h
  exact h.lt
theorem BM.made (w : World) : BM (w.alloc (.map #[] 0)) w.heap.size (fun _ => false) 0 := ⟨.map [], World.ownsMap_made w _ _ _, fun x => rfl⟩
theorem BM.of_block {w w' : World} {b n : Nat} {f : Int → Bool} (h : BM w b f n) (hb : w'.heap[b]? = w.heap[b]?) : BM w' b f n := by
  obtain ⟨D, ⟨es, clock, h1, F, h2, h3⟩, hD⟩ := h
  exact ⟨D, ⟨es, clock, hb.trans h1, F, h2, h3⟩, hD⟩
theorem BM.mono {w : World} {b n m : Nat} {f : Int → Bool} (h : BM w b f n) (hm : n ≤ m) : BM w b f m := by
  obtain ⟨D, h, hD⟩ := h
  exact ⟨D, h.mono hm, hD⟩
theorem BM.below {k : Nat} {w w' : World} {b n : Nat} {f : Int → Bool} (h : BM w b f n) (hb : Below k w w') (hk : b < k) : BM w' b f n := h.of_block (hb.block b hk)
theorem BM.alloc {w : World} {b n : Nat} {f : Int → Bool} (h : BM w b f n) (o : Obj) : BM (w.alloc o) b f n := h.of_block (Below.heap_alloc w o b h.lt)
theorem BM.drew {w : World} {b n : Nat} {f : Int → Bool} (h : BM w b f n) : BM w.drew b f n := h
theorem BM.setCell {w : World} {b n : Nat} {f : Int → Bool} (h : BM w b f n) {a : Addr} (ha : a.block ≠ b) (v : Value) : BM (w.setCell a v) b f n := h.of_block (Below.heap_setCell w a v b (fun e => ha e.symm))
theorem BM.look {w : World} {b n : Nat} {f : Int → Bool} (h : BM w b f n) {x : Int} (hx : (Lit.int .i64 x).wf = true) : (Instr.lookup 44 (.map (some b)) (.int .i64 x) false).run Try.prog w = .ok (.bool (f x)) w := by
  obtain ⟨D, h, hD⟩ := h
  obtain ⟨v, ps, hr, hv⟩ := h.lookup (t := 44) keyed_int Try.underlying44 (zero_bool w) (plainElem_bool Try.underlying4 false) (key_int hx)
  rw [hD x] at hv
  rw [hr]
  cases v <;> simp_all [plainElem, Try.underlying4]
theorem BM.store {w : World} {b n : Nat} {f : Int → Bool} (h : BM w b f n) (hn : n < 1000000) {x : Int} (hx : (Lit.int .i64 x).wf = true) (v : Bool) :
    ∃ w', (Instr.mapUpdate 44 (.map (some b)) (.int .i64 x) (.bool v)).run Try.prog w = .ok () w' ∧ BM w' b (fun y => if y = x then v else f y) (n + 1) ∧ w.grownBy w' (some b) := by
  obtain ⟨D, h, hD⟩ := h
  obtain ⟨w', hr, h2, hg⟩ := h.update (t := 44) keyed_int Try.underlying44 (by unfold maxLen; omega) (key_int hx) (plainElem_bool Try.underlying4 v)
  refine ⟨w', hr, ⟨_, h2, fun y => ?_⟩, hg⟩
  show _ = DataW.lit (Lit.bool (if y = x then v else f y))
  by_cases e : y = x
  · subst e
    rw [if_pos rfl]
    exact atKey_put_same h.isMap (by trivial) _ _
  · rw [if_neg e, ← hD y]
    exact atKey_put_other (fun h => e (by injection h)) _ _
theorem wpList_bm_store {w : World} {ops : Array Oper} {rest : List Oper} {o : Oper} {a : Act} {Q : Exit → Act → World → Prop} (hg : o.guard = none) (m x v : Operand) (hop : o.op = Op.mapUpdate 44 m x v)
    (b n : Nat) (f : Int → Bool) (hm : a.eval m = .map (some b)) (h : BM w b f n) (hn : n < 1000000) (k : Int) (hx : a.eval x = .int .i64 k) (hk : (Lit.int .i64 k).wf = true) (u : Bool) (hv : a.eval v = .bool u)
    (hK : ∀ w', BM w' b (fun y => if y = k then u else f y) (n + 1) → w.grownBy w' (some b) → wpList Try.prog ops Q rest (a.put o.dst undef) w') : wpList Try.prog ops Q (o :: rest) a w := by
  refine wpList_plain hg fun K' hK' => ?_
  obtain ⟨w', hrun, r1, r2⟩ := h.store hn hk u
  unfold Oper.wp
  simp [execOp, hop, hm, hx, hv, hrun, Result.andThen]
  exact hK' _ _ (hK w' r1 r2)
theorem row_block {t : TypeId} {w w' : World} {b : Nat} {l : List UInt8} (h : Row t w b l) (hb : w'.heap[b]? = w.heap[b]?) : Row t w' b l := by
  obtain ⟨r, fr, h, hf⟩ := h
  exact ⟨r, fr, by rw [hb, h], hf⟩
theorem below_grownAt {B b : Nat} {w w1 w2 : World} (h : Below B w w1) (hg : w1.grownBy w2 (some b)) (hB : B ≤ b) (hs : B ≤ w1.heap.size) : Below B w w2 := h.grown hg hs (fun k hk => by cases hk; exact hB)
end Go.Proofs.Ytknfkhackmnnaaa
