import Derived.Deep.AppendLies
import Derived.Deep.RegionLaw
import Derived.Deep.DrawnRows
import Derived.StillTailTactics
import Derived.Test.YtknfkhackmnnaaaS9
set_option maxRecDepth 100000
set_option linter.unusedVariables false
set_option linter.unusedSimpArgs false
namespace Go.Proofs.Ytknfkhackmnnaaa
open Go.RowKit Go.Deep
/-! one byte more at the end of a slice, in a statement whose order is drawn -/
theorem cell_new (w : World) (v : Value) (t : TypeId) : (w.alloc (.cells #[v] t)).cell? ⟨w.heap.size, 0, none⟩ = some v := by
  unfold World.cell?
  dsimp only
  rw [heap_alloc_new]
  rfl
theorem wp_app1 (t : TypeId) (ht : Try.prog.underlying t = some (.slice 5)) {o : Oper} {a : Act} {w : World} {K : Act → World → Prop} {Q : Exit → Act → World → Prop} (s x : Operand)
    (ho : o.op = .call { callee := .builtin .append, args := #[s, x], argTypes := #[t, t] })
    (base g n c : Nat) (l : List UInt8) (hs : a.eval s = .slice (some ⟨g, 0, none⟩) n c) (hown : Ob w base (.slice (some ⟨g, 0, none⟩) n c) l) (hn : n = l.length)
    (b cx : Nat) (y : UInt8) (hx : a.eval x = .slice (some ⟨b, 0, none⟩) 1 cx) (hr : w.cell? ⟨b, 0, none⟩ = some (B y)) (hlen : n < 1000000) (hbase : base ≤ w.heap.size)
    (h : ∀ g' c' w', Ob w' base (.slice (some ⟨g', 0, none⟩) (n + 1) c') (l ++ [y]) → (∀ B w0, Below B w0 w → B ≤ base → Below B w0 w') → w.grownBy w' (some g) → K (a.put o.dst (.slice (some ⟨g', 0, none⟩) (n + 1) c')) w') :
    o.wp Try.prog a w K Q := by
  obtain ⟨i0, hi, hzz⟩ := Option.map_eq_some_iff.1 infoU8
  simp only [Prod.mk.injEq] at hzz
  obtain ⟨hz0, hz1, hz2⟩ := hzz
  subst hn
  refine wp_append_lies w s x t ho base 5 i0 (.int .u8 0) 1 1 ht hi hz0 hz1 hz2 rfl (by decide) _ l.length (l.map B) hs hown ⟨b, 0, none⟩ 1 cx [B y] hx (by simp) (fun j u hu => ?_) (fun u hu => ?_) (by decide) (by unfold maxLen; omega) (by omega) hbase _ rfl ?_
  · rcases j with _ | j
    · simp at hu
      subst hu
      have hadd : (⟨b, 0, none⟩ : Addr).add 0 = ⟨b, 0, none⟩ := by unfold Addr.add; split <;> simp_all
      rw [hadd, hr]
    · simp at hu
  · obtain rfl : u = B y := by simpa using hu
    rfl
  · intro g' c' w' hown' hg hat hlt
    refine h g' c' w' ?_ (fun B w0 hB hBb => hB.grown hg (Nat.le_trans hBb hbase) (fun k hk => ?_)) hg
    · unfold Ob
      rw [List.length_append, List.map_append]
      exact hown'
    · exact Nat.le_trans hBb (World.ownsRow.lt hown k hk).1
theorem wpList_app1 (t : TypeId) (ht : Try.prog.underlying t = some (.slice 5)) {ops : Array Oper} {rest : List Oper} {o : Oper} {a : Act} {w : World} {Q : Exit → Act → World → Prop} (hgd : o.guard = none) (s x : Operand)
    (ho : o.op = .call { callee := .builtin .append, args := #[s, x], argTypes := #[t, t] })
    (base g n c : Nat) (l : List UInt8) (hs : a.eval s = .slice (some ⟨g, 0, none⟩) n c) (hown : Ob w base (.slice (some ⟨g, 0, none⟩) n c) l) (hn : n = l.length)
    (b cx : Nat) (y : UInt8) (hx : a.eval x = .slice (some ⟨b, 0, none⟩) 1 cx) (hr : w.cell? ⟨b, 0, none⟩ = some (B y)) (hlen : n < 1000000) (hbase : base ≤ w.heap.size)
    (h : ∀ g' c' w', Ob w' base (.slice (some ⟨g', 0, none⟩) (n + 1) c') (l ++ [y]) → (∀ B w0, Below B w0 w → B ≤ base → Below B w0 w') → w.grownBy w' (some g) → wpList Try.prog ops Q rest (a.put o.dst (.slice (some ⟨g', 0, none⟩) (n + 1) c')) w') :
    wpList Try.prog ops Q (o :: rest) a w :=
  wpList_plain hgd fun _ hK => wp_app1 t ht s x ho base g n c l hs hown hn b cx y hx hr hlen hbase fun g' c' w' h1 h2 h3 => hK _ _ (h g' c' w' h1 h2 h3)
theorem step_app1 (t : TypeId) (ht : Try.prog.underlying t = some (.slice 5)) {ops : Array Oper} {o : Oper} {a : Act} {w : World} {K : Act → World → Prop} {Q : Exit → Act → World → Prop} {E : Prop} (hgd : o.guard = none) (s x : Operand)
    (ho : o.op = .call { callee := .builtin .append, args := #[s, x], argTypes := #[t, t] })
    (base g n c : Nat) (l : List UInt8) (hs : a.eval s = .slice (some ⟨g, 0, none⟩) n c) (hown : Ob w base (.slice (some ⟨g, 0, none⟩) n c) l) (hn : n = l.length)
    (b cx : Nat) (y : UInt8) (hx : a.eval x = .slice (some ⟨b, 0, none⟩) 1 cx) (hr : w.cell? ⟨b, 0, none⟩ = some (B y)) (hlen : n < 1000000) (hbase : base ≤ w.heap.size)
    (h : ∀ g' c' w', Ob w' base (.slice (some ⟨g', 0, none⟩) (n + 1) c') (l ++ [y]) → (∀ B w0, Below B w0 w → B ≤ base → Below B w0 w') → w.grownBy w' (some g) → K (a.put o.dst (.slice (some ⟨g', 0, none⟩) (n + 1) c')) w') :
    if Region.wanted o (yielded ops a.tmps) = true then Oper.wp Try.prog o a w K Q else E := by
  have hw : Region.wanted o (yielded ops a.tmps) = true := by simp [Region.wanted, hgd]
  rw [if_pos hw]
  exact wp_app1 t ht s x ho base g n c l hs hown hn b cx y hx hr hlen hbase h
theorem Ob.rdAt {w : World} {base g n c : Nat} {l : List UInt8} (h : Ob w base (.slice (some ⟨g, 0, none⟩) n c) l) (hn : n = l.length) : Rd w g 0 l := fun j hj => by
  subst hn
  obtain ⟨g', c', e, _, hO, _⟩ := Ob.row h (by omega)
  cases e
  exact hO.rd j hj
theorem Ob.ltAt {w : World} {base g n c : Nat} {l : List UInt8} (h : Ob w base (.slice (some ⟨g, 0, none⟩) n c) l) (hn : n = l.length) (h0 : 0 < n) : g < w.heap.size ∧ base ≤ g := by
  subst hn
  obtain ⟨g', c', e, hb, hO, _⟩ := Ob.row h h0
  cases e
  exact ⟨hO.lt, hb⟩
end Go.Proofs.Ytknfkhackmnnaaa
