import Derived.Deep.SlicePairs
import Derived.ChangeArms
import Derived.OpenShut
import Derived.Test.YtknfkhackmnnaaaS9
set_option maxRecDepth 100000
set_option linter.unusedVariables false
set_option linter.unusedSimpArgs false
namespace Go.Proofs.Ytknfkhackmnnaaa
open Go Go.RowKit Go.Deep
/-! a slice of pairs of numbers that came in -/
def cp (zs : List (Int × Int)) (j : Nat) : Int × Int := zs.getD j (0, 0)
def RdP (w : World) (A : Option Addr) (zs : List (Int × Int)) : Prop := 0 < zs.length → ∃ b off, A = some ⟨b, off, none⟩ ∧ b < w.heap.size ∧ ∀ j, j < zs.length → w.cell? ⟨b, off + j * 2, none⟩ = some (.int .i64 (cp zs j).1) ∧ w.cell? ⟨b, off + j * 2 + 1, none⟩ = some (.int .i64 (cp zs j).2)
theorem RdP.below {w w' : World} {A : Option Addr} {zs : List (Int × Int)} {n : Nat} (h : RdP w A zs) (hb : Below n w w') (hn : w.heap.size ≤ n) : RdP w' A zs := fun hl => by
  obtain ⟨b, off, e, hlt, hc⟩ := h hl
  refine ⟨b, off, e, Nat.lt_of_lt_of_le hlt hb.size, fun j hj => ?_⟩
  obtain ⟨h1, h2⟩ := hc j hj
  exact ⟨(hb.cell (p := ⟨b, off + j * 2, none⟩) (Nat.lt_of_lt_of_le hlt hn)).trans h1, (hb.cell (p := ⟨b, off + j * 2 + 1, none⟩) (Nat.lt_of_lt_of_le hlt hn)).trans h2⟩
theorem RdP.nil (w : World) (A : Option Addr) : RdP w A [] := fun h => absurd h (Nat.lt_irrefl 0)
theorem pairs_of {w : World} {a : Addr} {len m : Nat} {V0 V1 : Nat → Value} (hlm : len ≤ m) (hc : ∀ i, i < m → w.cell? (a.add (i * 2)) = some (V0 i) ∧ w.cell? (a.add (i * 2 + 1)) = some (V1 i) ∧ (∃ x, V0 i = .int .i64 x) ∧ ∃ y, V1 i = .int .i64 y) :
    ∃ zs : List (Int × Int), zs.length = len ∧ RdP w (some a) zs := by
  obtain ⟨q, hq⟩ : ∃ q : Nat → Int × Int, ∀ i, i < m → V0 i = .int .i64 (q i).1 ∧ V1 i = .int .i64 (q i).2 := choose_lt (p := fun i (q : Int × Int) => V0 i = .int .i64 q.1 ∧ V1 i = .int .i64 q.2) fun i hi => by
    obtain ⟨_, _, ⟨x, hx⟩, ⟨y, hy⟩⟩ := hc i hi
    exact ⟨(x, y), hx, hy⟩
  refine ⟨(List.range len).map q, by simp, fun hl => ?_⟩
  have h0 := (hc 0 (by simp at hl; omega)).1
  rw [Nat.zero_mul] at h0
  obtain ⟨b, off, spot⟩ := a
  have hspot : spot = none := by simpa [Addr.add] using World.cell?_spot h0
  subst hspot
  refine ⟨b, off, rfl, World.block_lt_of_cell? w _ h0, fun j hj => ?_⟩
  rw [List.length_map, List.length_range] at hj
  obtain ⟨h1, h2, _, _⟩ := hc j (by omega)
  obtain ⟨e1, e2⟩ := hq j (by omega)
  have hcp : cp ((List.range len).map q) j = q j := by
    unfold cp
    simp [List.getD_eq_getElem?_getD, hj]
  rw [hcp, ← e1, ← e2, ← Go.WideShapes.add_plain, Nat.add_assoc, ← Go.WideShapes.add_plain]
  exact ⟨h1, h2⟩
/-- a slice of numbers that came in -/
theorem rdi_of {w : World} {x : Addr} {zs : List Int} (hc : ∀ i, i < zs.length → w.cell? (x.add i) = some (.int .i64 (zs.getD i 0))) (n : Nat) : RdI w (some x) (zs.take n) := fun hl => by
  have hp : 0 < zs.length := by rw [List.length_take] at hl; omega
  obtain ⟨b, off, rfl, h⟩ := ints_at hc hp
  refine ⟨b, off, rfl, World.block_lt_of_cell? w _ (h 0 hp), fun j hj => ?_⟩
  rw [List.length_take] at hj
  rw [h j (by omega)]
  unfold ci
  rw [List.getD_eq_getElem?_getD, List.getD_eq_getElem?_getD, List.getElem?_take, if_pos (by omega)]
end Go.Proofs.Ytknfkhackmnnaaa
