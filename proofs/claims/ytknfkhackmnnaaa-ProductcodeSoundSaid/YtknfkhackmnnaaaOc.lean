import Derived.Test.YtknfkhackmnnaaaAp
set_option maxRecDepth 100000
set_option linter.unusedVariables false
set_option linter.unusedSimpArgs false
namespace Go.Proofs.Ytknfkhackmnnaaa
open Go.RowKit Go.Deep
/-! slices of one-cell elements that grow, from nil on -/
/-- a slice of the call's own: nil, or the head of a row -/
def Ocv (e : TypeId) (w : World) (base : Nat) (v : Value) (xs : List Value) : Prop := w.ownsRow base e 1 v xs.length xs
theorem Ocv.nil (e : TypeId) (w : World) (base : Nat) : Ocv e w base (.slice none 0 0) [] := World.ownsRow_nil w base _ _
theorem Ocv.row {e : TypeId} {w : World} {base : Nat} {v : Value} {xs : List Value} (h : Ocv e w base v xs) (hl : 0 < xs.length) : ∃ g c, v = .slice (some ⟨g, 0, none⟩) xs.length c ∧ base ≤ g ∧ g < w.heap.size ∧ (∀ j, j < xs.length → w.cell? ⟨g, j, none⟩ = xs[j]?) ∧ xs.length ≤ c := by
  rcases h.2 with ⟨_, h0⟩ | ⟨g, cap, cur, hv, hb, hg, hn, hm, hs, ht⟩
  · omega
  · refine ⟨g, cap, hv, hb, (Array.getElem?_eq_some_iff.1 hg).1, fun j hj => ?_, hn⟩
    rw [Nat.mul_one] at ht
    rw [← ht]
    simp [World.cell?, hg, List.getElem?_take, hj]
theorem Ocv.alloc {e : TypeId} {w : World} {base : Nat} {v : Value} {xs : List Value} (h : Ocv e w base v xs) (o : Obj) : Ocv e (w.alloc o) base v xs := World.ownsRow.alloc h o
theorem wp_appv (t e : TypeId) (z : Value) (bytes : Nat) (ht : Try.prog.underlying t = some (.slice e)) (hi : (Try.prog.info? e).map (fun i => (i.zero, i.size, i.bytes)) = some (some z, 1, bytes)) (hz : z.cells.size = 1) (hby : bytes ≤ 64) {o : Oper} {a : Act} {w : World} {K : Act → World → Prop} {Q : Exit → Act → World → Prop} (s x : Operand)
    (ho : o.op = .call { callee := .builtin .append, args := #[s, x], argTypes := #[t, t] })
    (base n : Nat) (v : Value) (xs : List Value) (hs : a.eval s = v) (hown : Ocv e w base v xs) (hn : n = xs.length)
    (b cx m : Nat) (ys : List Value) (hx : a.eval x = .slice (some ⟨b, 0, none⟩) m cx) (hm : m = ys.length) (hm0 : 0 < m) (hr : ∀ j, j < m → w.cell? ⟨b, j, none⟩ = ys[j]?) (hy : ∀ y ∈ ys, y.oneCell' = true) (hlen : n + m ≤ 1000000) (hbase : base ≤ w.heap.size)
    (h : ∀ g' c' w', Ocv e w' base (.slice (some ⟨g', 0, none⟩) (n + m) c') (xs ++ ys) → (∀ B w0, Below B w0 w → B ≤ base → Below B w0 w') → w.grownBy w' v.ownBlock → g' < w'.heap.size → K (a.put o.dst (.slice (some ⟨g', 0, none⟩) (n + m) c')) w') :
    o.wp Try.prog a w K Q := by
  obtain ⟨i0, hi0, hzz⟩ := Option.map_eq_some_iff.1 hi
  simp only [Prod.mk.injEq] at hzz
  obtain ⟨hz0, hz1, hz2⟩ := hzz
  subst hn
  subst hm
  have hown' : w.ownsRow base e 1 v xs.length xs := hown
  refine wp_append_lies w s x t ho base e i0 z 1 bytes ht hi0 hz0 hz1 hz2 hz (by decide) v xs.length xs hs hown' ⟨b, 0, none⟩ ys.length cx ys hx (by simp) (fun j u hu => ?_) hy hm0 (by unfold maxLen; omega) ?_ hbase _ rfl ?_
  · have hj : j < ys.length := by
      rcases Nat.lt_or_ge j ys.length with h | h
      · exact h
      · simp [List.getElem?_eq_none h] at hu
    have hadd : (⟨b, 0, none⟩ : Addr).add j = ⟨b, j, none⟩ := by unfold Addr.add; split <;> simp_all
    rw [hadd, hr j hj, hu]
  · have : (xs.length + ys.length) * bytes ≤ 1000000 * 64 := Nat.mul_le_mul hlen hby
    omega
  · intro g' c' w' hown2 hg hat hlt
    refine h g' c' w' ?_ (fun B w0 hB hBb => hB.grown hg (Nat.le_trans hBb hbase) (fun k hk => ?_)) hg hlt
    · unfold Ocv
      rw [List.length_append]
      exact hown2
    · exact Nat.le_trans hBb (World.ownsRow.lt hown' k hk).1
theorem wpList_appv (t e : TypeId) (z : Value) (bytes : Nat) (ht : Try.prog.underlying t = some (.slice e)) (hi : (Try.prog.info? e).map (fun i => (i.zero, i.size, i.bytes)) = some (some z, 1, bytes)) (hz : z.cells.size = 1) (hby : bytes ≤ 64) {ops : Array Oper} {rest : List Oper} {o : Oper} {a : Act} {w : World} {Q : Exit → Act → World → Prop} (hgd : o.guard = none) (s x : Operand)
    (ho : o.op = .call { callee := .builtin .append, args := #[s, x], argTypes := #[t, t] })
    (base n : Nat) (v : Value) (xs : List Value) (hs : a.eval s = v) (hown : Ocv e w base v xs) (hn : n = xs.length)
    (b cx m : Nat) (ys : List Value) (hx : a.eval x = .slice (some ⟨b, 0, none⟩) m cx) (hm : m = ys.length) (hm0 : 0 < m) (hr : ∀ j, j < m → w.cell? ⟨b, j, none⟩ = ys[j]?) (hy : ∀ y ∈ ys, y.oneCell' = true) (hlen : n + m ≤ 1000000) (hbase : base ≤ w.heap.size)
    (h : ∀ g' c' w', Ocv e w' base (.slice (some ⟨g', 0, none⟩) (n + m) c') (xs ++ ys) → (∀ B w0, Below B w0 w → B ≤ base → Below B w0 w') → w.grownBy w' v.ownBlock → g' < w'.heap.size → wpList Try.prog ops Q rest (a.put o.dst (.slice (some ⟨g', 0, none⟩) (n + m) c')) w') :
    wpList Try.prog ops Q (o :: rest) a w :=
  wpList_plain hgd fun _ hK => wp_appv t e z bytes ht hi hz hby s x ho base n v xs hs hown hn b cx m ys hx hm hm0 hr hy hlen hbase fun g' c' w' h1 h2 h3 h4 => hK _ _ (h g' c' w' h1 h2 h3 h4)
theorem infoIntP : (Try.prog.info? 3).map (fun i => (i.zero, i.size, i.bytes)) = some (some (.int .i64 0), 1, 8) := by kernel_rfl
theorem one_cell {w : World} {b : Nat} {y : Value} (h : w.cell? ⟨b, 0, none⟩ = some y) : ∀ j, j < 1 → w.cell? ⟨b, j, none⟩ = [y][j]? := fun j hj => by
  have e : j = 0 := by omega
  subst e
  exact h
theorem one_mem {y : Value} (h : y.oneCell' = true) : ∀ u ∈ [y], u.oneCell' = true := fun u hu => by
  rw [List.mem_singleton.1 hu]
  exact h
def vN (p : Nat) : Value := .int .i64 ((p : Nat) : Int)
theorem RdI.of_ocv {w : World} {base : Nat} {v : Value} {ps : List Nat} (h : Ocv 3 w base v (ps.map vN)) : ∃ A c, v = .slice A ps.length c ∧ RdI w A (ps.map fun p : Nat => (p : Int)) := by
  rcases Nat.eq_zero_or_pos ps.length with h0 | h0
  · rcases h.2 with ⟨hv, _⟩ | ⟨g, cap, cur, hv, hb, hg, hn, hm, hs, ht⟩
    · refine ⟨none, 0, by rw [hv, h0], fun hl => ?_⟩
      rw [List.length_map] at hl
      omega
    · refine ⟨_, _, by rw [hv, List.length_map], fun hl => ?_⟩
      rw [List.length_map] at hl
      omega
  · obtain ⟨g, c, hv, _, hlt, hc, _⟩ := h.row (by rw [List.length_map]; exact h0)
    rw [List.length_map] at hv hc
    refine ⟨_, _, hv, fun _ => ⟨g, 0, rfl, hlt, fun j hj => ?_⟩⟩
    rw [List.length_map] at hj
    rw [Nat.zero_add, hc j hj]
    unfold ci
    simp [List.getD_eq_getElem?_getD, hj, vN]
end Go.Proofs.Ytknfkhackmnnaaa
