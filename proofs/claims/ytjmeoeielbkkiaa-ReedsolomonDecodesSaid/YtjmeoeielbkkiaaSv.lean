import Derived.Lib.QuietBelow
import Derived.Test.YtjmeoeielbkkiaaQ6
import Derived.Test.YtjmeoeielbkkiaaSo
import Derived.Test.YtjmeoeielbkkiaaSc
set_option maxRecDepth 100000
set_option linter.unusedVariables false
set_option linter.unusedSimpArgs false
namespace Go.Proofs.Ytjmeoeielbkkiaa
open Go Go.RowKit Go.Deep Go.Sort
/-! a block of slices, each a row of bytes -/
theorem infoSlB : (Try.prog.info? 26).map (fun i => (i.zero, i.size, i.bytes)) = some (some (.slice none 0 0), 1, 24) := by kernel_rfl
def rowL (r : Nat → UInt8) (m : Nat) : List UInt8 := (List.range m).map r
theorem rowL_length (r : Nat → UInt8) (m : Nat) : (rowL r m).length = m := by simp [rowL]
theorem co_rowL (r : Nat → UInt8) {m j : Nat} (h : j < m) : Gf.co (rowL r m) j = r j := by
  rw [Gf.co_lt (by rw [rowL_length]; exact h)]
  simp [rowL]
theorem rowL_congr {r r' : Nat → UInt8} {m : Nat} (h : ∀ j, j < m → r j = r' j) : rowL r m = rowL r' m := List.map_congr_left fun j hj => h j (List.mem_range.1 hj)
def VRow (W : World) (g : Nat) (xs : List Value) : Prop := ∃ (rest : List Value), W.heap[g]? = some (.cells (xs ++ rest).toArray 26 (0, 0))
theorem VRow.lt {W : World} {g : Nat} {xs : List Value} (h : VRow W g xs) : g < W.heap.size := by
  obtain ⟨r, h⟩ := h
  exact (Array.getElem?_eq_some_iff.1 h).1
theorem VRow.cell {W : World} {g : Nat} {xs : List Value} (h : VRow W g xs) {j : Nat} (hj : j < xs.length) : W.cell? ⟨g, j, none⟩ = xs[j]? := by
  obtain ⟨r, h⟩ := h
  simp [World.cell?, h, List.getElem?_append, hj]
theorem VRow.free {W : World} {g : Nat} {xs : List Value} (h : VRow W g xs) (j : Nat) : W.frozen? ⟨g, j, none⟩ = false := by
  obtain ⟨r, h⟩ := h
  simp only [World.frozen?, h]
  simp
theorem VRow.set {W : World} {g : Nat} {xs : List Value} (h : VRow W g xs) {j : Nat} (hj : j < xs.length) (v : Value) : VRow (W.setCell ⟨g, j, none⟩ v) g (xs.set j v) := by
  obtain ⟨r, h⟩ := h
  refine ⟨r, ?_⟩
  simp [World.setCell, Array.getElem?_modify, h, hj]
theorem VRow.below {n : Nat} {W W' : World} {g : Nat} {xs : List Value} (h : VRow W g xs) (hb : Below n W W') (hn : g < n) : VRow W' g xs := by
  obtain ⟨r, h⟩ := h
  exact ⟨r, by rw [hb.block g hn, h]⟩
/-- a matrix in memory -/
def Mx (W : World) (g p m : Nat) (M : Nat → Nat → UInt8) : Prop := ∃ xs : List Value, xs.length = p ∧ VRow W g xs ∧ ∀ i, i < p → ∃ gi ci, xs[i]? = some (.slice (some ⟨gi, 0, none⟩) m ci) ∧ gi < W.heap.size ∧ gi ≠ g ∧ Rd W gi 0 (rowL (M i) m)
theorem Mx.lt {W : World} {g p m : Nat} {M : Nat → Nat → UInt8} (h : Mx W g p m M) : g < W.heap.size := by
  obtain ⟨xs, _, h, _⟩ := h
  exact h.lt
theorem Mx.get {W : World} {g p m : Nat} {M : Nat → Nat → UInt8} (h : Mx W g p m M) {i : Nat} (hi : i < p) : ∃ gi ci, W.cell? ⟨g, i, none⟩ = some (.slice (some ⟨gi, 0, none⟩) m ci) ∧ gi < W.heap.size ∧ gi ≠ g ∧ Rd W gi 0 (rowL (M i) m) := by
  obtain ⟨xs, hl, hv, hr⟩ := h
  obtain ⟨gi, ci, h1, h2, h3, h4⟩ := hr i hi
  exact ⟨gi, ci, by rw [hv.cell (by omega), h1], h2, h3, h4⟩
theorem Mx.free {W : World} {g p m : Nat} {M : Nat → Nat → UInt8} (h : Mx W g p m M) (i : Nat) : W.frozen? ⟨g, i, none⟩ = false := by
  obtain ⟨xs, _, h, _⟩ := h
  exact h.free i
theorem Mx.below {W W' : World} {g p m : Nat} {M : Nat → Nat → UInt8} (h : Mx W g p m M) (hB : Below W.heap.size W W') : Mx W' g p m M := by
  obtain ⟨xs, hl, hv, hr⟩ := h
  refine ⟨xs, hl, hv.below hB hv.lt, fun i hi => ?_⟩
  obtain ⟨gi, ci, h1, h2, h3, h4⟩ := hr i hi
  exact ⟨gi, ci, h1, Nat.lt_of_lt_of_le h2 hB.size, h3, h4.below hB h2⟩
theorem Rd.far {w : World} {b : Nat} {l : List UInt8} (h : Rd w b 0 l) {a : Addr} (ha : a.block ≠ b) (v : Value) : Rd (w.setCell a v) b 0 l := fun j hj => (World.cell?_setCell_far _ _ _ _ (by exact ha)).trans (h j hj)
theorem Mx.set {W : World} {g p m : Nat} {M : Nat → Nat → UInt8} (h : Mx W g p m M) {i g' c' : Nat} (hi : i < p) {r : Nat → UInt8} (hg : g' < W.heap.size) (hne : g' ≠ g) (hr' : Rd W g' 0 (rowL r m)) :
    Mx (W.setCell ⟨g, i, none⟩ (.slice (some ⟨g', 0, none⟩) m c')) g p m (fun i' => if i' = i then r else M i') := by
  obtain ⟨xs, hl, hv, hr⟩ := h
  refine ⟨_, by rw [List.length_set]; exact hl, hv.set (by omega) _, fun k hk => ?_⟩
  have hsz : (W.setCell ⟨g, i, none⟩ (.slice (some ⟨g', 0, none⟩) m c')).heap.size = W.heap.size := by simp [World.setCell]
  rw [hsz]
  by_cases e : k = i
  · subst e
    exact ⟨g', c', by rw [List.getElem?_set_self (by omega)], hg, hne, by simpa using hr'.far (fun h => hne h.symm) _⟩
  · obtain ⟨gi, ci, h1, h2, h3, h4⟩ := hr k hk
    exact ⟨gi, ci, by rw [List.getElem?_set_ne (fun h => e h.symm)]; exact h1, h2, h3, by simpa [e] using h4.far (fun h => h3 h.symm) _⟩
theorem Mx.congr {W : World} {g p m : Nat} {M M' : Nat → Nat → UInt8} (h : Mx W g p m M) (he : ∀ i, i < p → ∀ j, j < m → M i j = M' i j) : Mx W g p m M' := by
  obtain ⟨xs, hl, hv, hr⟩ := h
  refine ⟨xs, hl, hv, fun i hi => ?_⟩
  obtain ⟨gi, ci, h1, h2, h3, h4⟩ := hr i hi
  exact ⟨gi, ci, h1, h2, h3, by rw [← rowL_congr (he i hi)]; exact h4⟩
/-! rows that are collected -/
def Ri (w : World) (k m : Nat) (M : Nat → Nat → UInt8) (v : Value) (W : World) : Prop := ∃ xs : List Value, xs.length = k ∧ Oc 26 W w.heap.size v xs ∧ ∀ j, j < k → ∃ gj cj, xs[j]? = some (.slice (some ⟨gj, 0, none⟩) m cj) ∧ gj < W.heap.size ∧ v.ownBlock ≠ some gj ∧ Rd W gj 0 (rowL (M j) m)
theorem Ri.below {w : World} {k m : Nat} {M : Nat → Nat → UInt8} {v : Value} {W W' : World} (h : Ri w k m M v W) (hB : Below W.heap.size W W') : Ri w k m M v W' := by
  obtain ⟨xs, h1, h2, h3⟩ := h
  refine ⟨xs, h1, h2.below hB, fun j hj => ?_⟩
  obtain ⟨gj, cj, a, b, c, d⟩ := h3 j hj
  exact ⟨gj, cj, a, Nat.lt_of_lt_of_le b hB.size, c, d.below hB b⟩
theorem Ri.step {w : World} {k m g' c' gk ck : Nat} {M : Nat → Nat → UInt8} {v : Value} {W W' : World} {xs : List Value} (hl : xs.length = k) (hx : ∀ j, j < k → ∃ gj cj, xs[j]? = some (.slice (some ⟨gj, 0, none⟩) m cj) ∧ gj < W.heap.size ∧ v.ownBlock ≠ some gj ∧ Rd W gj 0 (rowL (M j) m))
    (hk : gk < W.heap.size) (hkv : v.ownBlock ≠ some gk) (hkr : Rd W gk 0 (rowL (M k) m))
    (hO : Oc 26 W' w.heap.size (.slice (some ⟨g', 0, none⟩) (k + 1) c') (xs ++ [.slice (some ⟨gk, 0, none⟩) m ck])) (hG : W.grownBy W' v.ownBlock) (hat : v.ownBlock = some g' ∨ g' = W.heap.size) : Ri w (k + 1) m M (.slice (some ⟨g', 0, none⟩) (k + 1) c') W' := by
  have keep : ∀ gj j, gj < W.heap.size → v.ownBlock ≠ some gj → Rd W gj 0 (rowL (M j) m) → gj < W'.heap.size ∧ (Value.slice (some ⟨g', 0, none⟩) (k + 1) c').ownBlock ≠ some gj ∧ Rd W' gj 0 (rowL (M j) m) := fun gj j h1 h2 h3 => by
    refine ⟨Nat.lt_of_lt_of_le h1 hG.size, fun e => ?_, fun i hi => (World.cell?_of_block (hG.block gj h1 (fun e => h2 e.symm))).trans (h3 i hi)⟩
    have e2 : g' = gj := Option.some.inj e
    rcases hat with h | h
    · exact h2 (by rw [h, e2])
    · omega
  refine ⟨_, by rw [List.length_append, hl]; rfl, hO, fun j hj => ?_⟩
  by_cases e : j < k
  · obtain ⟨gj, cj, a, b, c, d⟩ := hx j e
    obtain ⟨q1, q2, q3⟩ := keep gj j b c d
    exact ⟨gj, cj, by rw [List.getElem?_append_left (by omega)]; exact a, q1, q2, q3⟩
  · obtain rfl : j = k := by omega
    obtain ⟨q1, q2, q3⟩ := keep gk j hk hkv hkr
    exact ⟨gk, ck, by rw [List.getElem?_append_right (by omega), hl]; simp, q1, q2, q3⟩
theorem Ri.mx {w : World} {p m : Nat} {M : Nat → Nat → UInt8} {v : Value} {W : World} (h : Ri w p m M v W) (hp : 0 < p) : ∃ g c, v = .slice (some ⟨g, 0, none⟩) p c ∧ w.heap.size ≤ g ∧ Mx W g p m M := by
  obtain ⟨xs, hl, hO, hr⟩ := h
  rcases hO.2 with ⟨_, h0⟩ | ⟨g, cap, cur, hv, hb, hg, hn, hm, hs, ht⟩
  · omega
  · subst hv
    rw [Nat.mul_one] at ht
    refine ⟨g, cap, by rw [hl], hb, xs, hl, ⟨cur.toList.drop xs.length, ?_⟩, fun i hi => ?_⟩
    · have e : xs ++ cur.toList.drop xs.length = cur.toList := by
        have := List.take_append_drop xs.length cur.toList
        rw [ht] at this
        exact this
      rw [hg, e]
    · obtain ⟨gj, cj, a, b, c, d⟩ := hr i hi
      exact ⟨gj, cj, a, b, fun e => c (by rw [e]; rfl), d⟩
end Go.Proofs.Ytjmeoeielbkkiaa
