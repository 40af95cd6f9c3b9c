import Derived.Test.YtknfkhackmnnaaaD4
import Derived.Test.YtknfkhackmnnaaaRq
set_option maxRecDepth 100000
set_option linter.unusedVariables false
set_option linter.unusedSimpArgs false
namespace Go.Proofs.Ytknfkhackmnnaaa
open Go Go.RowKit Go.Deep
attribute [local go_sem] Oper.semAt_some
/-! all words once: the walk -/
theorem Row.own2 {t : TypeId} {W W' : World} {b : Nat} {L : List UInt8} {row : Option Nat} (h : Row t W b L) (hg : W.grownBy W' row) (hr : ∀ r, row = some r → ∃ o : Obj, W.heap[r]? = some o ∧ o.isCells = false) : Row t W' b L := by
  obtain ⟨rest, fr, hb, hf⟩ := h
  exact ⟨rest, fr, (grownBy_keeps_cells hg hr hb rfl).trans hb, hf⟩
/-- the variables of 'pass', and what lay before -/
structure PI (w0 : World) (n0 b cl mb nb f r3 : Nat) (L : List UInt8) (S : List Nat) (ch : Bool) (W : World) : Prop where
  c3 : W.cell? ⟨r3, 0, none⟩ = some (.slice (some ⟨b, 0, none⟩) 2352 cl)
  c4 : W.cell? ⟨r3 + 1, 0, none⟩ = some (.int .i64 (f : Int))
  c5 : W.cell? ⟨r3 + 2, 0, none⟩ = some (.map (some mb))
  c8 : W.cell? ⟨r3 + 3, 0, none⟩ = some (.bool ch)
  z8 : W.frozen? ⟨r3 + 3, 0, none⟩ = false
  row : Own W b L
  bs : BS W mb nb S
  bel : Below n0 w0 W
  siz : r3 + 4 ≤ W.heap.size
theorem frozen_own {W W' : World} {row : Option Nat} {a : Addr} {v : Value} (hc : W.cell? a = some v) (hz : W.frozen? a = false) (hg : W.grownBy W' row) (hr : ∀ r, row = some r → ∃ o : Obj, W.heap[r]? = some o ∧ o.isCells = false) : W'.frozen? a = false := by
  have hlt := World.block_lt_of_cell? W _ hc
  have hb : W'.heap[a.block]? = W.heap[a.block]? := by
    refine hg.block _ hlt fun e => ?_
    obtain ⟨o, ho, hoc⟩ := hr a.block (by rw [e])
    simp only [World.cell?, ho] at hc
    cases o <;> simp_all [Obj.isCells]
  simp only [World.frozen?, hb]
  exact hz
theorem PI.own {w0 : World} {n0 b cl mb nb f r3 : Nat} {L : List UInt8} {S : List Nat} {ch : Bool} {W W' : World} {row : Option Nat} {B : Nat} (hB : r3 + 4 ≤ B) (hm : mb < r3) (hn : n0 ≤ r3) (hw : n0 ≤ W.heap.size) (hs : PI w0 n0 b cl mb nb f r3 L S ch W) (hg : W.grownBy W' row) (hr : ∀ r, row = some r → B ≤ r ∧ ∃ o : Obj, W.heap[r]? = some o ∧ o.isCells = false) : PI w0 n0 b cl mb nb f r3 L S ch W' :=
  ⟨cell_kept hs.c3 hg (fun r e => (hr r e).2), cell_kept hs.c4 hg (fun r e => (hr r e).2), cell_kept hs.c5 hg (fun r e => (hr r e).2), cell_kept hs.c8 hg (fun r e => (hr r e).2), frozen_own hs.c8 hs.z8 hg (fun r e => (hr r e).2), Row.own2 hs.row hg (fun r e => (hr r e).2), hs.bs.of_block (hg.block _ hs.bs.lt (fun e => by have := (hr mb e.symm).1; omega)), hs.bel.grown hg hw (fun k e => by have := (hr k e).1; omega), Nat.le_trans hs.siz hg.size⟩
theorem PI.below {w0 : World} {n0 b cl mb nb f r3 : Nat} {L : List UInt8} {S : List Nat} {ch : Bool} {W W' : World} (hw : n0 ≤ W.heap.size) (h : PI w0 n0 b cl mb nb f r3 L S ch W) (hB : Below W.heap.size W W') : PI w0 n0 b cl mb nb f r3 L S ch W' :=
  ⟨cell_kept h.c3 (grown_of_below hB) (fun r e => by cases e), cell_kept h.c4 (grown_of_below hB) (fun r e => by cases e), cell_kept h.c5 (grown_of_below hB) (fun r e => by cases e), cell_kept h.c8 (grown_of_below hB) (fun r e => by cases e), frozen_own h.c8 h.z8 (grown_of_below hB) (fun r e => by cases e), Row.below h.row hB h.row.lt, h.bs.below hB h.bs.lt, h.bel.trans (hB.mono hw), Nat.le_trans h.siz hB.size⟩
theorem PI.put {w0 : World} {n0 b cl mb nb f r3 : Nat} {L L' : List UInt8} {S : List Nat} {ch : Bool} {W W' : World} (hb : b < r3) (hbm : b ≠ mb) (hn : n0 ≤ b) (hw : n0 ≤ W.heap.size) (h : PI w0 n0 b cl mb nb f r3 L S ch W) (hg : W.grownBy W' (some b)) (hr : Own W' b L') : PI w0 n0 b cl mb nb f r3 L' S ch W' := by
  have hc : ∀ (j : Nat) (v : Value), W.cell? ⟨r3 + j, 0, none⟩ = some v → W'.cell? ⟨r3 + j, 0, none⟩ = some v := fun j v hj => (World.cell?_of_block (hg.block _ (World.block_lt_of_cell? W _ hj) (fun e => by have := Option.some.inj e; dsimp only at this; omega))).trans hj
  exact ⟨hc 0 _ h.c3, hc 1 _ h.c4, hc 2 _ h.c5, hc 3 _ h.c8, by
    have hz := h.z8
    simp only [World.frozen?, hg.block _ (World.block_lt_of_cell? W _ h.c8) (fun e => by have := Option.some.inj e; dsimp only at this; omega)]
    exact hz, hr, h.bs.grown hg (fun e => hbm e.symm), h.bel.grown hg hw (fun k e => by have := Option.some.inj e; omega), Nat.le_trans h.siz hg.size⟩
theorem PI.rel {w0 : World} {n0 b cl mb nb f r3 : Nat} {L : List UInt8} {S S' : List Nat} {ch : Bool} {W W' : World} (hb : mb < r3) (hbm : b ≠ mb) (hn : n0 ≤ mb) (hw : n0 ≤ W.heap.size) (h : PI w0 n0 b cl mb nb f r3 L S ch W) (hg : W.grownBy W' (some mb)) (hr : BS W' mb nb S') : PI w0 n0 b cl mb nb f r3 L S' ch W' := by
  have hc : ∀ (j : Nat) (v : Value), W.cell? ⟨r3 + j, 0, none⟩ = some v → W'.cell? ⟨r3 + j, 0, none⟩ = some v := fun j v hj => (World.cell?_of_block (hg.block _ (World.block_lt_of_cell? W _ hj) (fun e => by have := Option.some.inj e; dsimp only at this; omega))).trans hj
  exact ⟨hc 0 _ h.c3, hc 1 _ h.c4, hc 2 _ h.c5, hc 3 _ h.c8, by
    have hz := h.z8
    simp only [World.frozen?, hg.block _ (World.block_lt_of_cell? W _ h.c8) (fun e => by have := Option.some.inj e; dsimp only at this; omega)]
    exact hz, row_block h.row (hg.block _ h.row.lt (fun e => hbm (Option.some.inj e))), hr, h.bel.grown hg hw (fun k e => by have := Option.some.inj e; omega), Nat.le_trans h.siz hg.size⟩
theorem PI.set {w0 : World} {n0 b cl mb nb f r3 : Nat} {L : List UInt8} {S : List Nat} {ch : Bool} {W : World} (hb : mb < r3) (hbb : b < r3) (hn : n0 ≤ r3) (h : PI w0 n0 b cl mb nb f r3 L S ch W) (ch' : Bool) : PI w0 n0 b cl mb nb f r3 L S ch' (W.setCell ⟨r3 + 3, 0, none⟩ (.bool ch')) :=
  ⟨(World.cell?_setCell_far _ _ _ _ (by simp)).trans h.c3, (World.cell?_setCell_far _ _ _ _ (by simp)).trans h.c4, (World.cell?_setCell_far _ _ _ _ (by simp)).trans h.c5, World.cell?_setCell_same' _ _ _ (by rw [h.c8]; rfl), by rw [World.frozen?_setCell]; exact h.z8, Row.other h.row (by simp; omega) _, h.bs.of_block (Below.heap_setCell W _ _ mb (by simp; omega)), h.bel.setCell (p := ⟨r3 + 3, 0, none⟩) (by simp; omega) _, by simp; exact h.siz⟩
noncomputable def stepD (dv : Option (List UInt8)) (f : Nat) (l : List UInt8) (S : List Nat) (ch : Bool) (os : List Nat) : List UInt8 × List Nat × Bool :=
  match dv with
  | none => (l, S, ch)
  | some cw => if insK cw f os os.length = true then (putK l f os cw os.length, relK S os os.length, chK l f os cw os.length || ch) else (l, S, ch)
theorem run_mf (fn : Fn) (first cap : Array Value) (w : World) : (Instr.makeFunc fn first cap).run Try.prog w = .ok (.func fn first cap) w := rfl
/-! the drawn region of a word -/
def upd (x : Nat → Value) (s : Nat) (v : Value) : Nat → Value := fun k => if k = s then v else x k
def rS : Nat → Nat
  | 0 => 20
  | 1 => 21
  | 2 => 22
  | 3 => 23
  | 4 => 24
  | 5 => 25
  | 6 => 26
  | 7 => 27
  | 8 => 19
  | 9 => 28
  | 10 => 29
  | 11 => 30
  | 12 => 11
  | 14 => 12
  | 15 => 13
  | _ => 0
def rV (R G F M T : Value) (o : ByteArray) (dn de : Int) : Nat → Value → Prop
  | 0, u => u = R
  | 1, u => u = G
  | 2, u => u = F
  | 3, u => u = T
  | 4, u => u = G
  | 5, u => u = M
  | 7, u => u = .tuple #[.string o, .int .i64 dn, .int .i64 de]
  | 8, u => u = .tuple #[.string o, .int .i64 dn, .int .i64 de]
  | 9, u => u = .string o
  | 10, u => u = .int .i64 dn
  | 11, u => u = .int .i64 de
  | 14, u => u = .int .i64 dn
  | 15, u => u = .int .i64 de
  | _, _ => True
structure RJ (wd : World) (R G F M T : Value) (o : ByteArray) (dn de : Int) (ps : List Nat) (l : Array Bool) (x : Nat → Value) (w : World) : Prop where
  bel : Below wd.heap.size wd w
  vals : ∀ j, l.getD j false = true → rV R G F M T o dn de j (x (rS j))
  h6 : l.getD 6 false = true → l.getD 13 false = false → ∃ A cp, x 26 = .slice A ps.length cp ∧ RdI w A (ps.map fun p : Nat => (p : Int))
  h12 : l.getD 12 false = true → ∃ r u, x 11 = .pointer (some ⟨r, 0, none⟩) ∧ wd.heap.size ≤ r ∧ w.cell? ⟨r, 0, none⟩ = some u ∧ w.frozen? ⟨r, 0, none⟩ = false ∧ (l.getD 13 false = true → u = .string o)
  o13 : l.getD 13 false = true → l.getD 12 false = true ∧ l.getD 7 false = true
section
variable {wd : World} {R G F M T : Value} {o : ByteArray} {dn de : Int} {ps : List Nat} {l l' : Array Bool} {x : Nat → Value} {w w' : World} {i : Nat} {v : Value}
theorem rS_inj (i j : Nat) (hi : i < 16) (hj : j < 16) (h13 : i ≠ 13) (hij : j ≠ i) : rS j ≠ rS i := by
  have h : ∀ i : Fin 16, ∀ j : Fin 16, i.val ≠ 13 → j.val ≠ i.val → rS j.val ≠ rS i.val := by decide
  exact h ⟨i, hi⟩ ⟨j, hj⟩ h13 hij
theorem rV_big {j : Nat} (h : 16 ≤ j) (u : Value) : rV R G F M T o dn de j u := by
  obtain ⟨k, rfl⟩ : ∃ k, j = k + 16 := ⟨j - 16, by omega⟩
  exact trivial
theorem RJ.vals_upd (h : RJ wd R G F M T o dn de ps l x w) (hi : i < 16) (h13 : i ≠ 13) (h1 : l'.getD i false = true) (h2 : ∀ j, j ≠ i → l'.getD j false = l.getD j false) (hv : rV R G F M T o dn de i v) : ∀ j, l'.getD j false = true → rV R G F M T o dn de j (upd x (rS i) v (rS j)) := fun j hj => by
  by_cases e : j = i
  · subst e
    simp only [upd, if_true]
    exact hv
  · rcases Nat.lt_or_ge j 16 with h16 | h16
    · simp only [upd, rS_inj i j hi h16 h13 e, if_false]
      exact h.vals j (by rw [← h2 j e]; exact hj)
    · exact rV_big h16 _
theorem RJ.o13_upd (h : RJ wd R G F M T o dn de ps l x w) (h13 : i ≠ 13) (h1 : l'.getD i false = true) (h2 : ∀ j, j ≠ i → l'.getD j false = l.getD j false) : l'.getD 13 false = true → l'.getD 12 false = true ∧ l'.getD 7 false = true := fun hl => by
  obtain ⟨a1, a2⟩ := h.o13 (by rw [← h2 13 (Ne.symm h13)]; exact hl)
  constructor
  · by_cases e : 12 = i
    · rw [e]; exact h1
    · rw [h2 12 e]; exact a1
  · by_cases e : 7 = i
    · rw [e]; exact h1
    · rw [h2 7 e]; exact a2
theorem un_false {l : Array Bool} {i : Nat} (h : l.getD i true = false) : ¬ l.getD i false = true := fun h2 => by
  rcases Nat.lt_or_ge i l.size with h' | h'
  · simp [h'] at h h2
    rw [h] at h2
    cases h2
  · simp [Array.getElem?_eq_none h'] at h2
theorem frozen_below {n : Nat} {w w' : World} {a : Addr} (h : Below n w w') (ha : a.block < n) : w'.frozen? a = w.frozen? a := by
  simp only [World.frozen?, h.block _ ha]
theorem RJ.call (h : RJ wd R G F M T o dn de ps l x w) (hi : i < 16) (h13 : i ≠ 13) (h6 : i ≠ 6) (h12 : i ≠ 12) (hn : Nx l l' i) (hv : rV R G F M T o dn de i v) (hB : Below w.heap.size w w') : RJ wd R G F M T o dn de ps l' (upd x (rS i) v) w' := by
  obtain ⟨h1, h2⟩ := hn
  refine ⟨h.bel.trans (hB.mono h.bel.size), h.vals_upd hi h13 h1 h2 hv, fun hl hl3 => ?_, fun hl => ?_, h.o13_upd h13 h1 h2⟩
  · obtain ⟨A, cp, e, hr⟩ := h.h6 (by rw [← h2 6 (Ne.symm h6)]; exact hl) (by rw [← h2 13 (Ne.symm h13)]; exact hl3)
    exact ⟨A, cp, by
      have hh : ¬ (26 = rS i) := rS_inj i 6 hi (by omega) h13 (Ne.symm h6)
      simp only [upd, hh, if_false]
      exact e, hr.below (Nat.le_refl _) hB⟩
  · obtain ⟨r, u, e, hr, hc, hz, ho⟩ := h.h12 (by rw [← h2 12 (Ne.symm h12)]; exact hl)
    have hlt := World.block_lt_of_cell? w _ hc
    exact ⟨r, u, by
      have hh : ¬ (11 = rS i) := rS_inj i 12 hi (by omega) h13 (Ne.symm h12)
      simp only [upd, hh, if_false]
      exact e, hr, (hB.cell (p := ⟨r, 0, none⟩) hlt).trans hc, (frozen_below hB hlt).trans hz, fun h => ho (by rw [← h2 13 (Ne.symm h13)]; exact h)⟩
theorem RJ.put (h : RJ wd R G F M T o dn de ps l x w) (hi : i < 16) (h13 : i ≠ 13) (h6 : i ≠ 6) (h12 : i ≠ 12) (hn : Nx l l' i) (hv : rV R G F M T o dn de i v) : RJ wd R G F M T o dn de ps l' (upd x (rS i) v) w :=
  h.call hi h13 h6 h12 hn hv (Below.refl _ _)
theorem RJ.six {A : Option Addr} {cp : Nat} (h : RJ wd R G F M T o dn de ps l x w) (hn : Nx l l' 6) (hr : RdI w' A (ps.map fun p : Nat => (p : Int))) (hB : Below w.heap.size w w') : RJ wd R G F M T o dn de ps l' (upd x 26 (.slice A ps.length cp)) w' := by
  obtain ⟨h1, h2⟩ := hn
  refine ⟨h.bel.trans (hB.mono h.bel.size), h.vals_upd (i := 6) (by omega) (by omega) h1 h2 trivial, fun hl _ => ⟨A, cp, rfl, hr⟩, fun hl => ?_, h.o13_upd (by omega) h1 h2⟩
  obtain ⟨r, u, e, hr, hc, hz, ho⟩ := h.h12 (by rw [← h2 12 (by omega)]; exact hl)
  have hlt := World.block_lt_of_cell? w _ hc
  exact ⟨r, u, e, hr, (hB.cell (p := ⟨r, 0, none⟩) hlt).trans hc, (frozen_below hB hlt).trans hz, fun h => ho (by rw [← h2 13 (by omega)]; exact h)⟩
theorem RJ.init {m : Nat} {x : Nat → Value} : RJ wd R G F M T o dn de ps (Array.replicate m false) x wd := by
  have hf : ∀ j, ¬ (Array.replicate m false).getD j false = true := fun j h => by
    simp only [Array.getD_eq_getD_getElem?, Array.getElem?_replicate] at h
    split at h <;> cases h
  exact ⟨Below.refl _ _, fun j h => absurd h (hf j), fun h => absurd h (hf 6), fun h => absurd h (hf 12), fun h => absurd h (hf 13)⟩
theorem RJ.new {t : TypeId} {u : Value} (h : RJ wd R G F M T o dn de ps l x w) (h13 : l.getD 13 false = false) (hn : Nx l l' 12) : RJ wd R G F M T o dn de ps l' (upd x 11 (.pointer (some ⟨w.heap.size, 0, none⟩))) (w.alloc (.cells #[u] t)) := by
  obtain ⟨h1, h2⟩ := hn
  have hB : Below w.heap.size w (w.alloc (.cells #[u] t)) := (Below.refl _ w).alloc (Nat.le_refl _) _
  refine ⟨h.bel.trans (hB.mono h.bel.size), h.vals_upd (i := 12) (by omega) (by omega) h1 h2 trivial, fun hl hl3 => ?_, fun hl => ?_, h.o13_upd (by omega) h1 h2⟩
  · obtain ⟨A, cp, e, hr⟩ := h.h6 (by rw [← h2 6 (by omega)]; exact hl) h13
    exact ⟨A, cp, e, hr.below (Nat.le_refl _) hB⟩
  · exact ⟨w.heap.size, u, rfl, h.bel.size, (new_cell w u t).1, (new_cell w u t).2, fun h => by rw [h2 13 (by omega), h13] at h; cases h⟩
theorem set_cell {w : World} {r : Nat} {u : Value} (h : w.cell? ⟨r, 0, none⟩ = some u) (v : Value) : (w.setCell ⟨r, 0, none⟩ v).cell? ⟨r, 0, none⟩ = some v ∧ (w.setCell ⟨r, 0, none⟩ v).frozen? ⟨r, 0, none⟩ = w.frozen? ⟨r, 0, none⟩ :=
  ⟨World.cell?_setCell_same' _ _ _ (by rw [h]; rfl), World.frozen?_setCell _ _ _ _⟩
theorem RJ.stored {r : Nat} (h : RJ wd R G F M T o dn de ps l x w) (h12 : l.getD 12 false = true) (h7 : l.getD 7 false = true) (hx : x 11 = .pointer (some ⟨r, 0, none⟩)) (hn : Nx l l' 13) : RJ wd R G F M T o dn de ps l' x (w.setCell ⟨r, 0, none⟩ (.string o)) := by
  obtain ⟨h1, h2⟩ := hn
  obtain ⟨r', u, e, hr, hc, hz, ho⟩ := h.h12 h12
  rw [hx] at e
  obtain rfl : r = r' := by injection e with e; injection e with e; injection e
  refine ⟨h.bel.setCell hr _, fun j hj => ?_, fun hl hl3 => (by rw [h1] at hl3; cases hl3), fun hl => ?_, fun hl => ⟨by rw [h2 12 (by omega)]; exact h12, by rw [h2 7 (by omega)]; exact h7⟩⟩
  · by_cases e : j = 13
    · subst e; exact trivial
    · exact h.vals j (by rw [← h2 j e]; exact hj)
  · obtain ⟨hc', hz'⟩ := set_cell hc (.string o)
    exact ⟨r, _, hx, hr, hc', hz'.trans hz, fun _ => rfl⟩
end
/-- the act of a round of 'pass' -/
def RIt (b cl f mb r3 sl r g n c : Nat) (x : Nat → Value) : Array Value := #[.slice (some ⟨b, 0, none⟩) 2352 cl, .int .i64 (f : Int), .map (some mb), .pointer (some ⟨r3, 0, none⟩), .pointer (some ⟨r3 + 1, 0, none⟩), .pointer (some ⟨r3 + 1 + 1, 0, none⟩), .bool false, .bool false, .pointer (some ⟨r3 + 1 + 1 + 1, 0, none⟩), .int .i64 (sl : Int), .pointer (some ⟨r, 0, none⟩), x 11, x 12, x 13, undef, .map (some mb), .int .i64 (sl : Int), .func (.func 60) #[] #[], .slice (some ⟨g, 0, none⟩) n c, x 19, x 20, x 21, x 22, x 23, x 24, x 25, x 26, x 27, x 28, x 29, x 30, undef, undef, undef, undef, undef, undef, undef, undef, undef, undef, undef, undef, undef, undef, undef, undef, undef, undef, undef, undef, undef, undef, undef, undef, undef, undef]
def RIv (b cl f mb r3 sl r g n c : Nat) (wd : World) (t o : ByteArray) (dn de : Int) (ps : List Nat) (l : Array Bool) (a : Act) (w : World) : Prop :=
  ∃ x : Nat → Value, a = { tmps := RIt b cl f mb r3 sl r g n c x, defers := [] } ∧ RJ wd (.slice (some ⟨b, 0, none⟩) 2352 cl) (.slice (some ⟨g, 0, none⟩) n c) (.int .i64 (f : Int)) (.map (some mb)) (.string t) o dn de ps l x w
theorem RIv.mk {b cl f mb r3 sl r g n c : Nat} {wd : World} {t o : ByteArray} {dn de : Int} {ps : List Nat} {l : Array Bool} {a : Act} {w : World} (x : Nat → Value) (h : a = { tmps := RIt b cl f mb r3 sl r g n c x, defers := [] }) (hJ : RJ wd (.slice (some ⟨b, 0, none⟩) 2352 cl) (.slice (some ⟨g, 0, none⟩) n c) (.int .i64 (f : Int)) (.map (some mb)) (.string t) o dn de ps l x w) : RIv b cl f mb r3 sl r g n c wd t o dn de ps l a w := ⟨x, h, hJ⟩
def RetPass (w0 : World) (n0 b mb nb f : Nat) (L : List UInt8) (S : List Nat) (e : Ending) (w' : World) : Prop :=
  e = .returned (.tuple #[.bool (passW f L S 138).2.2, .bool (decide ((passW f L S 138).2.1.length < S.length))]) ∧ Own w' b (passW f L S 138).1 ∧ BS w' mb nb (passW f L S 138).2.1 ∧ Below n0 w0 w'
set_option maxRecDepth 100000 in
set_option maxHeartbeats 20000000 in
theorem pass_any (w0 : World) (n0 b cl mb nb f : Nat) (hf : f ≤ 1000) (L : List UInt8) (hL : L.length = 2352) (S : List Nat) (w : World) (hn0 : n0 ≤ w.heap.size) (hbn : n0 ≤ b) (hmn : n0 ≤ mb) (hbm : b ≠ mb) (hO : Own w b L) (hS : BS w mb nb S) (hW : Below n0 w0 w) :
    Calls Try.prog 45 #[.slice (some ⟨b, 0, none⟩) 2352 cl, .int .i64 (f : Int), .map (some mb)] w fun e w' => RetPass w0 n0 b mb nb f L S e w' := by
  have hmf := run_mf
  have hlb := hO.lt
  have hlm := hS.lt
  have hlen := fun (W : World) (h : BS W mb nb S) ty => h.len ty
  refine (callsIn_wide (n := 3)).1 ?_
  refine callsIn_of_wp_marks Try.func45 rfl trivial ?_ rfl
  simp only [Try.ntmps45, List.size_toArray, List.length_cons, List.length_nil, Nat.reduceAdd, Nat.reduceSub, Array.replicate_succ, Array.replicate_zero, List.push_toArray, List.append_toArray, List.nil_append, List.cons_append]
  have hS3 : BS (((w.alloc (.cells #[.slice (some ⟨b, 0, none⟩) 2352 cl] 43)).alloc (.cells #[.int .i64 (f : Int)] 3)).alloc (.cells #[.map (some mb)] 44)) mb nb S := hS.below (((Below.refl _ w).alloc (Nat.le_refl _) _ |>.alloc (by simp) _).alloc (by simp; omega) _) hlm
  have hln := hS3.len 3
  gi_wp2_with (refine ⟨trivial, ?_⟩; gi_at_call 34; refine (callsIn_wide.2 (words_any _)).mono ?_; rintro e w' ⟨rfl, rfl⟩)
  have c3 := new_cell w (.slice (some ⟨b, 0, none⟩) 2352 cl) 43
  have c4 := new_cell (w.alloc (.cells #[.slice (some ⟨b, 0, none⟩) 2352 cl] 43)) (.int .i64 (f : Int)) 3
  have c5 := new_cell ((w.alloc (.cells #[.slice (some ⟨b, 0, none⟩) 2352 cl] 43)).alloc (.cells #[.int .i64 (f : Int)] 3)) (.map (some mb)) 44
  have c8 := new_cell (((w.alloc (.cells #[.slice (some ⟨b, 0, none⟩) 2352 cl] 43)).alloc (.cells #[.int .i64 (f : Int)] 3)).alloc (.cells #[.map (some mb)] 44)) (.bool false) 4
  simp only [World.size_alloc] at c4 c5 c8
  obtain ⟨r3, hr3⟩ : ∃ r3, r3 = w.heap.size := ⟨_, rfl⟩
  have hBel : Below n0 w0 ((((w.alloc (.cells #[.slice (some ⟨b, 0, none⟩) 2352 cl] 43)).alloc (.cells #[.int .i64 (f : Int)] 3)).alloc (.cells #[.map (some mb)] 44)).alloc (.cells #[.bool false] 4)) := (((hW.alloc hn0 _).alloc (by simp; omega) _).alloc (by simp; omega) _).alloc (by simp; omega) _
  have hz : ((((w.alloc (.cells #[.slice (some ⟨b, 0, none⟩) 2352 cl] 43)).alloc (.cells #[.int .i64 (f : Int)] 3)).alloc (.cells #[.map (some mb)] 44)).alloc (.cells #[.bool false] 4)).heap.size = r3 + 4 := by simp; omega
  rw [← hr3] at c3 c4 c5 c8
  have hPI : PI w0 n0 b cl mb nb f r3 L S false ((((w.alloc (.cells #[.slice (some ⟨b, 0, none⟩) 2352 cl] 43)).alloc (.cells #[.int .i64 (f : Int)] 3)).alloc (.cells #[.map (some mb)] 44)).alloc (.cells #[.bool false] 4)) :=
    ⟨old_cell _ (old_cell _ (old_cell _ c3.1)), old_cell _ (old_cell _ c4.1), old_cell _ c5.1, c8.1, c8.2, Row.alloc (Row.alloc (Row.alloc (Row.alloc hO _) _) _) _, hS3.below ((Below.refl _ _).alloc (Nat.le_refl _) _) (by simp; omega), hBel, by rw [hz]; exact Nat.le_refl _⟩
  clear c3 c4 c5 c8 hBel hln hS3 hlen
  rw [← hr3] at hlb hlm hn0 ⊢
  generalize ((((w.alloc (.cells #[.slice (some ⟨b, 0, none⟩) 2352 cl] 43)).alloc (.cells #[.int .i64 (f : Int)] 3)).alloc (.cells #[.map (some mb)] 44)).alloc (.cells #[.bool false] 4)) = W0 at hPI hz ⊢
  clear hO hS hW hr3 w
  have hmx : Try.prog.follows .mixedOrders = true := by kernel_rfl
  obtain ⟨tms, htms⟩ : ∃ tms : Value → Array Value, tms = fun p => #[.slice (some ⟨b, 0, none⟩) 2352 cl, .int .i64 (f : Int), .map (some mb), .pointer (some ⟨r3, 0, none⟩), .pointer (some ⟨r3 + 1, 0, none⟩), .pointer (some ⟨r3 + 1 + 1, 0, none⟩), .bool false, .bool false, .pointer (some ⟨r3 + 1 + 1 + 1, 0, none⟩), .int .i64 (S.length : Int), p] := ⟨_, rfl⟩
  refine rangeE rfl (show 1 ≤ 3 by omega) (gf := 60) (lb := #[]) rfl trivial (enters_of Try.func60 (by kernel_rfl) rfl) (words1_seq 2 (by omega) W0) (Below.refl _ _) rfl
    (fun k W => PI w0 n0 b cl mb nb f r3 (passW f L S k).1 (passW f L S k).2.1 (passW f L S k).2.2 W ∧ n0 ≤ W.heap.size) (fun c W => False)
    (fun k A B row hs hg hr => ⟨PI.own (by omega) hlm hn0 hs.2 hs.1 hg hr, Nat.le_trans hs.2 hg.size⟩) (fun c _ _ _ _ hs _ _ => hs) ⟨hPI, by omega⟩
    (fun k x a' W => Ew W0.heap.size k x W ∧ ∃ r, W0.heap.size ≤ r ∧ W.cell? ⟨r, 0, none⟩ = some x ∧ a' = { tmps := #[.slice (some ⟨b, 0, none⟩) 2352 cl, .int .i64 (f : Int), .map (some mb), .pointer (some ⟨r3, 0, none⟩), .pointer (some ⟨r3 + 1, 0, none⟩), .pointer (some ⟨r3 + 1 + 1, 0, none⟩), .bool false, .bool false, .pointer (some ⟨r3 + 1 + 1 + 1, 0, none⟩), .int .i64 (S.length : Int), .pointer (some ⟨r, 0, none⟩), undef, undef, undef, undef, .map (some mb), .int .i64 (S.length : Int), .func (.func 60) #[] #[], x, undef, undef, undef, undef, undef, undef, undef, undef, undef, undef, undef, undef, undef, undef, undef, undef, undef, undef, undef, undef, undef, undef, undef, undef, undef, undef, undef, undef, undef, undef, undef, undef, undef, undef, undef, undef, undef, undef], defers := [] })
    (fun k x a' => OwnFrom.and (Ew.own _ _ _ _) (fun s W W' row hs hg hr => by
      obtain ⟨r, h1, h2, h3⟩ := hs
      exact ⟨r, h1, cell_kept h2 hg (fun r e => (hr r e).2), h3⟩)) ?assign ?body ?done ?stop
  case assign =>
    intro lp k x W K hI hE hk hK
    obtain ⟨g, c, rfl, hgB, hgl, hgr, hgc⟩ := hE.at
    have HE := Lib.hid hE
    have HI := Lib.hid hI
    have HW0 : Hid (W0.heap.size ≤ W.heap.size) := by show _ ≤ _; omega
    clear hgr hgB hgc hE hI
    gi_wp2
    have hB : Below W.heap.size W (W.alloc (.cells #[.slice (some ⟨g, 0, none⟩) (wordN k).length c] 24)) := (Below.refl _ W).alloc (Nat.le_refl _) _
    exact hK _ _ (keeps_below _ hB) ⟨HI.out.1.below HI.out.2 hB, Nat.le_trans HI.out.2 hB.size⟩ ⟨Ew.own _ 0 k _ () W _ none HE.out (grown_of_below hB) (fun r e => by cases e), W.heap.size, HW0.out, (new_cell W _ _).1, rfl⟩
  case body =>
    rintro lp k x a' W ⟨hS, hsz⟩ ⟨hE, r, hr0, hrc, rfl⟩ hk
    obtain ⟨g, c, rfl, hgB, hgl, hgr, hgc⟩ := hE.at
    have hle := wordN_le k
    have hge : 3 ≤ (wordN k).length := by rw [wordN_length]; split <;> omega
    have hlen1 := passW_length f L S k
    have hst : passW f L S (k + 1) = stepD (dcd (tkL (passW f L S k).1 f (wordN k)) (posK (passW f L S k).2.1 (wordN k) (wordN k).length)) f (passW f L S k).1 (passW f L S k).2.1 (passW f L S k).2.2 (wordN k) := rfl
    have HST := Lib.hid hst
    clear hst
    show Code.wpIn _ _ _ _ _ _ _
    revert hS hlen1 HST
    generalize (passW f L S k).1 = l1
    generalize (passW f L S k).2.1 = S1
    generalize (passW f L S k).2.2 = ch1
    intro hS hlen1 HST
    rw [hL] at hlen1
    have hos : ∀ j, j < (wordN k).length → (wordN k).getD j 0 < l1.length := fun j hj => by rw [hlen1]; exact wordN_lt hk hj
    have hos2 : ∀ j, j < (wordN k).length → (wordN k).getD j 0 ≤ 100000 := fun j hj => by have := wordN_lt hk hj; omega
    have hwd : ∀ w', Below W.heap.size W.drew w' → Below W.heap.size W w' := fun w' h => (Below.refl _ W).drew.trans h
    have hSd : PI w0 n0 b cl mb nb f r3 l1 S1 ch1 W.drew := ⟨hS.c3, hS.c4, hS.c5, hS.c8, hS.z8, Row.drew hS.row, hS.bs, hS.bel.drew, hS.siz⟩
    have hgd : RdN W.drew g (wordN k) := hgr
    have HTK : Hid (∀ w', Below W.drew.heap.size W.drew w' → Calls Try.prog 35 #[.slice (some ⟨b, 0, none⟩) 2352 cl, .slice (some ⟨g, 0, none⟩) (wordN k).length c, .int .i64 (f : Int)] w' fun e w'' => Ret1 w' (.string (str (tkL l1 f (wordN k)))) e w'') := fun w' hB => by
      have hs2 := PI.below (W := W.drew) hsz hSd hB
      have h := take_any l1 (wordN k) f hos (by omega) (by omega) hf b 0 cl g c w' (Row.rd hs2.row) hs2.row.lt (hgd.below hB hgl) (Nat.lt_of_lt_of_le hgl hB.size)
      rw [hlen1] at h
      exact h
    have HP : Hid (∀ w', Below W.drew.heap.size W.drew w' → Calls Try.prog 46 #[.slice (some ⟨g, 0, none⟩) (wordN k).length c, .map (some mb)] w' fun e w'' => RetPos w' (posK S1 (wordN k) (wordN k).length) e w'') := fun w' hB =>
      positionsP_any (wordN k) S1 nb hos2 (by omega) g c mb w' (hgd.below hB hgl) (Nat.lt_of_lt_of_le hgl hB.size) (PI.below (W := W.drew) hsz hSd hB).bs
    obtain ⟨dn, hdn⟩ := dec_word (tkL l1 f (wordN k)) S1 (wordN k) (tkL_length _ _ _) hge (by omega)
    have hdl : ∀ cw, dcd (tkL l1 f (wordN k)) (posK S1 (wordN k) (wordN k).length) = some cw → cw.length = (wordN k).length := fun cw h => by
      rw [(dcd_some h).1, tkL_length]
    revert hdn hdl HST
    generalize dcd (tkL l1 f (wordN k)) (posK S1 (wordN k) (wordN k).length) = dv
    intro HST hdn hdl
    have HD := Lib.hid hdn
    have HDL := Lib.hid hdl
    have HT := Lib.hid HTK.out
    have HZ : Hid (r3 < W.drew.heap.size ∧ r3 + 1 < W.drew.heap.size ∧ r3 + 2 < W.drew.heap.size ∧ r < W.drew.heap.size) := ⟨World.block_lt_of_cell? W _ hS.c3, World.block_lt_of_cell? W _ hS.c4, World.block_lt_of_cell? W _ hS.c5, World.block_lt_of_cell? W _ hrc⟩
    have HC : Hid (W.drew.cell? ⟨r3, 0, none⟩ = some (.slice (some ⟨b, 0, none⟩) 2352 cl) ∧ W.drew.cell? ⟨r3 + 1, 0, none⟩ = some (.int .i64 (f : Int)) ∧ W.drew.cell? ⟨r3 + 2, 0, none⟩ = some (.map (some mb)) ∧ W.drew.cell? ⟨r, 0, none⟩ = some (.slice (some ⟨g, 0, none⟩) (wordN k).length c)) := ⟨hS.c3, hS.c4, hS.c5, hrc⟩
    have HS := Lib.hid hSd
    have HG := Lib.hid hgd
    have HE := Lib.hid hE
    have HRC := Lib.hid hrc
    have HOS := Lib.hid hos2
    have HOS1 := Lib.hid hos
    have HGR := Lib.hid hgr
    have HB0 := Lib.hid hgB
    clear hS hSd hgd hE hrc hos hos2 hdn HTK hgr hwd hgB hdl
    gi_wp2
    refine wpIn_region_inv hmx (RIv b cl f mb r3 S.length r g (wordN k).length c W.drew (str (tkL l1 f (wordN k))) (outD dv) dn (errD dv) (posK S1 (wordN k) (wordN k).length)) (by kernel_rfl) (RIv.mk (fun _ => undef) rfl RJ.init) ?steps ?rend
    case steps =>
      simp only [InvSteps, Nat.reduceAdd]
      refine ⟨?_, ?_, ?_, ?_, ?_, ?_, ?_, ?_, ?_, ?_, ?_, ?_, ?_, ?_, ?_, ?_, trivial⟩
      · intro l a w1 hu ha hI Q' hQ
        obtain ⟨x, rfl, hJ⟩ := hI
        unfold RIt
        have hc := (hJ.bel.cell (p := ⟨r3, 0, none⟩) HZ.out.1).trans HC.out.1
        have HJ := Lib.hid hJ
        clear hJ ha hu
        gi_wp2
        exact fun l' hn => RIv.mk (upd x 20 _) rfl (HJ.out.put (i := 0) (by omega) (by omega) (by omega) (by omega) hn rfl)
      · intro l a w1 hu ha hI Q' hQ
        obtain ⟨x, rfl, hJ⟩ := hI
        unfold RIt
        have hc := (hJ.bel.cell (p := ⟨r, 0, none⟩) HZ.out.2.2.2).trans HC.out.2.2.2
        have HJ := Lib.hid hJ
        clear hJ ha hu
        gi_wp2
        exact fun l' hn => RIv.mk (upd x 21 _) rfl (HJ.out.put (i := 1) (by omega) (by omega) (by omega) (by omega) hn rfl)
      · intro l a w1 hu ha hI Q' hQ
        obtain ⟨x, rfl, hJ⟩ := hI
        unfold RIt
        have hc := (hJ.bel.cell (p := ⟨r3 + 1, 0, none⟩) HZ.out.2.1).trans HC.out.2.1
        have HJ := Lib.hid hJ
        clear hJ ha hu
        gi_wp2
        exact fun l' hn => RIv.mk (upd x 22 _) rfl (HJ.out.put (i := 2) (by omega) (by omega) (by omega) (by omega) hn rfl)
      · intro l a w1 hu ha hI Q' hQ
        obtain ⟨x, rfl, hJ⟩ := hI
        unfold RIt
        have d0 : x 20 = _ := hJ.vals 0 (ha { on := 0, ground := .data } (by simp) rfl)
        have d1 : x 21 = _ := hJ.vals 1 (ha { on := 1, ground := .data } (by simp) rfl)
        have d2 : x 22 = _ := hJ.vals 2 (ha { on := 2, ground := .data } (by simp) rfl)
        have HTT := Lib.hid (HT.out w1 hJ.bel)
        have HJ := Lib.hid hJ
        clear hJ ha hu
        gi_wp2_with (refine ⟨trivial, ?_⟩; gi_at_call 35; refine (CallsIn.inRound lp (callsIn_wide.2 HTT.out)).mono ?_; rintro e w9 ⟨rfl, hB9⟩)
        exact fun l' hn => RIv.mk (upd x 23 _) (by simp [RIt, upd, d0, d1, d2]) (HJ.out.call (i := 3) (by omega) (by omega) (by omega) (by omega) hn rfl hB9)
      · intro l a w1 hu ha hI Q' hQ
        obtain ⟨x, rfl, hJ⟩ := hI
        unfold RIt
        have hc := (hJ.bel.cell (p := ⟨r, 0, none⟩) HZ.out.2.2.2).trans HC.out.2.2.2
        have HJ := Lib.hid hJ
        clear hJ ha hu
        gi_wp2
        exact fun l' hn => RIv.mk (upd x 24 _) rfl (HJ.out.put (i := 4) (by omega) (by omega) (by omega) (by omega) hn rfl)
      · intro l a w1 hu ha hI Q' hQ
        obtain ⟨x, rfl, hJ⟩ := hI
        unfold RIt
        have hc := (hJ.bel.cell (p := ⟨r3 + 2, 0, none⟩) HZ.out.2.2.1).trans HC.out.2.2.1
        have HJ := Lib.hid hJ
        clear hJ ha hu
        gi_wp2
        exact fun l' hn => RIv.mk (upd x 25 _) rfl (HJ.out.put (i := 5) (by omega) (by omega) (by omega) (by omega) hn rfl)
      · intro l a w1 hu ha hI Q' hQ
        obtain ⟨x, rfl, hJ⟩ := hI
        unfold RIt
        have d0 : x 24 = _ := hJ.vals 4 (ha { on := 4, ground := .data } (by simp) rfl)
        have d1 : x 25 = _ := hJ.vals 5 (ha { on := 5, ground := .data } (by simp) rfl)
        have HTT := Lib.hid (HP.out w1 hJ.bel)
        have HJ := Lib.hid hJ
        clear hJ ha hu
        gi_wp2_with (refine ⟨trivial, ?_⟩; gi_at_call 46; refine (CallsIn.inRound lp (callsIn_wide.2 HTT.out)).mono ?_; rintro e w9 ⟨A, cp, rfl, hr9, hB9⟩)
        exact fun l' hn => RIv.mk (upd x 26 (.slice A _ cp)) (by simp [RIt, upd, d0, d1]) (HJ.out.six hn hr9 hB9)
      · intro l a w1 hu ha hI Q' hQ
        obtain ⟨x, rfl, hJ⟩ := hI
        unfold RIt
        have d0 : x 23 = _ := hJ.vals 3 (ha { on := 3, ground := .data } (by simp) rfl)
        have h13 : l.getD 13 false = false := by
          cases hq : l.getD 13 false with
          | false => rfl
          | true => exact absurd (hJ.o13 hq).2 (un_false hu)
        obtain ⟨A, cp, d1, hr9⟩ := hJ.h6 (ha { on := 6, ground := .data } (by simp) rfl) h13
        have HTT := Lib.hid (HD.out A cp w1 hr9)
        have HJ := Lib.hid hJ
        clear hJ ha hu h13 hr9
        gi_wp2_with (refine ⟨trivial, ?_⟩; gi_at_call 68; refine (CallsIn.inRound lp (callsIn_wide.2 HTT.out)).mono ?_; rintro e w9 ⟨rfl, hB9⟩)
        exact fun l' hn => RIv.mk (upd x 27 _) (by simp [RIt, upd, d0, d1]) (HJ.out.call (i := 7) (by omega) (by omega) (by omega) (by omega) hn rfl hB9)
      · intro l a w1 hu ha hI Q' hQ
        obtain ⟨x, rfl, hJ⟩ := hI
        unfold RIt
        have d0 : x 27 = _ := hJ.vals 7 (ha { on := 7, ground := .data } (by simp) rfl)
        have HJ := Lib.hid hJ
        clear hJ ha hu
        gi_wp2
        exact fun l' hn => RIv.mk (upd x 19 _) (by simp [RIt, upd, d0]) (HJ.out.put (i := 8) (by omega) (by omega) (by omega) (by omega) hn rfl)
      · intro l a w1 hu ha hI Q' hQ
        obtain ⟨x, rfl, hJ⟩ := hI
        unfold RIt
        have d0 : x 19 = _ := hJ.vals 8 (ha { on := 8, ground := .data } (by simp) rfl)
        have HJ := Lib.hid hJ
        clear hJ ha hu
        gi_wp2
        exact fun l' hn => RIv.mk (upd x 28 _) (by simp [RIt, upd, d0]) (HJ.out.put (i := 9) (by omega) (by omega) (by omega) (by omega) hn rfl)
      · intro l a w1 hu ha hI Q' hQ
        obtain ⟨x, rfl, hJ⟩ := hI
        unfold RIt
        have d0 : x 19 = _ := hJ.vals 8 (ha { on := 8, ground := .data } (by simp) rfl)
        have HJ := Lib.hid hJ
        clear hJ ha hu
        gi_wp2
        exact fun l' hn => RIv.mk (upd x 29 _) (by simp [RIt, upd, d0]) (HJ.out.put (i := 10) (by omega) (by omega) (by omega) (by omega) hn rfl)
      · intro l a w1 hu ha hI Q' hQ
        obtain ⟨x, rfl, hJ⟩ := hI
        unfold RIt
        have d0 : x 19 = _ := hJ.vals 8 (ha { on := 8, ground := .data } (by simp) rfl)
        have HJ := Lib.hid hJ
        clear hJ ha hu
        gi_wp2
        exact fun l' hn => RIv.mk (upd x 30 _) (by simp [RIt, upd, d0]) (HJ.out.put (i := 11) (by omega) (by omega) (by omega) (by omega) hn rfl)
      · intro l a w1 hu ha hI Q' hQ
        obtain ⟨x, rfl, hJ⟩ := hI
        unfold RIt
        have h13 : l.getD 13 false = false := by
          cases hq : l.getD 13 false with
          | false => rfl
          | true => exact absurd (hJ.o13 hq).1 (un_false hu)
        have HJ := Lib.hid hJ
        have H13 := Lib.hid h13
        clear hJ ha hu h13
        gi_wp2
        exact fun l' hn => RIv.mk (upd x 11 _) rfl (HJ.out.new H13.out hn)
      · intro l a w1 hu ha hI Q' hQ
        obtain ⟨x, rfl, hJ⟩ := hI
        unfold RIt
        have d0 : x 28 = _ := hJ.vals 9 (ha { on := 9, ground := .data } (by simp) rfl)
        have h12 := ha { on := 12, ground := .data } (by simp) rfl
        have h7 := ha { on := 7, ground := .chain } (by simp) rfl
        obtain ⟨q, u, d1, hq0, hq1, hq2, _⟩ := hJ.h12 h12
        have HJ := Lib.hid hJ
        have H12 := Lib.hid h12
        have H7 := Lib.hid h7
        clear hJ ha hu h12 h7
        gi_wp2
        exact fun l' hn => RIv.mk (x) (by simp [RIt, d0, d1]) (HJ.out.stored H12.out H7.out d1 hn)
      · intro l a w1 hu ha hI Q' hQ
        obtain ⟨x, rfl, hJ⟩ := hI
        unfold RIt
        have d0 : x 29 = _ := hJ.vals 10 (ha { on := 10, ground := .data } (by simp) rfl)
        have HJ := Lib.hid hJ
        clear hJ ha hu
        gi_wp2
        exact fun l' hn => RIv.mk (upd x 12 _) (by simp [RIt, upd, d0]) (HJ.out.put (i := 14) (by omega) (by omega) (by omega) (by omega) hn rfl)
      · intro l a w1 hu ha hI Q' hQ
        obtain ⟨x, rfl, hJ⟩ := hI
        unfold RIt
        have d0 : x 30 = _ := hJ.vals 11 (ha { on := 11, ground := .data } (by simp) rfl)
        have HJ := Lib.hid hJ
        clear hJ ha hu
        gi_wp2
        exact fun l' hn => RIv.mk (upd x 13 _) (by simp [RIt, upd, d0]) (HJ.out.put (i := 15) (by omega) (by omega) (by omega) (by omega) hn rfl)
    case rend =>
      rintro l a w1 hall ⟨x, rfl, hJ⟩
      have d12 : x 12 = _ := hJ.vals 14 (hall 14 (by simp))
      have d13 : x 13 = _ := hJ.vals 15 (hall 15 (by simp))
      obtain ⟨q, u, d11, hq0, hqc, hqz, hqo⟩ := hJ.h12 (hall 12 (by simp))
      rw [hqo (hall 13 (by simp))] at hqc
      have hBw := hJ.bel
      unfold RIt
      rw [d11, d12, d13]
      clear d11 d12 d13 hJ hall hqo
      generalize x 19 = x19
      generalize x 20 = x20
      generalize x 21 = x21
      generalize x 22 = x22
      generalize x 23 = x23
      generalize x 24 = x24
      generalize x 25 = x25
      generalize x 26 = x26
      generalize x 27 = x27
      generalize x 28 = x28
      generalize x 29 = x29
      generalize x 30 = x30
      clear x
      have hP1 : PI w0 n0 b cl mb nb f r3 l1 S1 ch1 w1 := PI.below (W := W.drew) hsz HS.out hBw
      have hn1 : n0 ≤ w1.heap.size := Nat.le_trans hsz hBw.size
      have hrc1 : w1.cell? ⟨r, 0, none⟩ = some (.slice (some ⟨g, 0, none⟩) (wordN k).length c) := (hBw.cell (p := ⟨r, 0, none⟩) HZ.out.2.2.2).trans HC.out.2.2.2
      have hg1 : RdN w1 g (wordN k) := HG.out.below hBw hgl
      have hgl1 : g < w1.heap.size := Nat.lt_of_lt_of_le hgl hBw.size
      have hK1 : KeepsFrom W0.heap.size W w1 := ((KeepsOthers.drew W).from _).trans (keeps_below _ hBw)
      clear HD HT HP HC HZ HE HRC HGR
      cases dv with
      | none =>
        have HP1 := Lib.hid hP1
        have HG1 := Lib.hid hg1
        have HK1 := Lib.hid hK1
        clear hP1 hg1 hK1
        rw [show errD none = 11 from rfl]
        gi_wp2
        refine ⟨trivial, ?_⟩
        gi_wp2
        refine ⟨HK1.out, ?_, hn1⟩
        rw [HST.out]
        exact HP1.out
      | some cw =>
        have hcl := HDL.out cw rfl
        have hall := all_any (str cw) f hf (wordN k) HOS.out (by omega) (by rw [str_size, hcl]; exact Nat.le_refl _) r (r3 + 1) q g c w1 hrc1 hP1.c4 hqc hg1
        rw [bl_str] at hall
        have hst2 := HST.out
        rw [show stepD (some cw) f l1 S1 ch1 (wordN k) = if insK cw f (wordN k) (wordN k).length = true then (putK l1 f (wordN k) cw (wordN k).length, relK S1 (wordN k) (wordN k).length, chK l1 f (wordN k) cw (wordN k).length || ch1) else (l1, S1, ch1) from rfl] at hst2
        rw [show errD (some cw) = 0 from rfl]
        have HP1 := Lib.hid hP1
        have HG1 := Lib.hid hg1
        have HK1 := Lib.hid hK1
        have HAL := Lib.hid hall
        have HST2 := Lib.hid hst2
        clear hP1 hg1 hK1 hall hst2 HST
        cases hi : insK cw f (wordN k) (wordN k).length with
        | false =>
          rw [hi] at HAL HST2
          gi_wp2_with (refine ⟨trivial, ?_⟩; gi_at_call 70; refine (CallsIn.inRound lp (callsIn_wide.2 HAL.out)).mono ?_; rintro e w2 ⟨rfl, m2, rfl⟩)
          have hB2 : Below w1.heap.size w1 (w1.drewN m2) := pw_below_drewN' (Below.refl _ w1) m2
          refine ⟨HK1.out.trans (keeps_below _ hB2), ?_, Nat.le_trans hn1 hB2.size⟩
          rw [HST2.out]
          exact HP1.out.below hn1 hB2
        | true =>
          rw [hi] at HAL HST2
          rw [if_pos rfl] at HST2
          have hgb : g ≠ b := by have := HB0.out; omega
          have hgm : g ≠ mb := by have := HB0.out; omega
          have hput : ∀ w2, Below w1.heap.size w1 w2 → Calls Try.prog 37 #[.slice (some ⟨b, 0, none⟩) 2352 cl, .slice (some ⟨g, 0, none⟩) (wordN k).length c, .int .i64 (f : Int), .string (str cw)] w2 fun e w' => e = .returned (.bool (chK l1 f (wordN k) cw (wordN k).length)) ∧ Own w' b (putK l1 f (wordN k) cw (wordN k).length) ∧ w2.grownBy w' (some b) := fun w2 hB => by
            have h := put_any l1 (wordN k) f (str cw) HOS1.out (by omega) (by rw [str_size, hcl]; exact Nat.le_refl _) (by omega) hf b cl g c w2 (HP1.out.below hn1 hB).row (HG1.out.below hB hgl1) (Nat.lt_of_lt_of_le hgl1 hB.size) hgb
            rw [hlen1] at h
            exact h
          have HPUT := Lib.hid hput
          have HGB := Lib.hid hgb
          have HGM := Lib.hid hgm
          have HRC1 := Lib.hid hrc1
          have HQC := Lib.hid hqc
          clear hput hgb hgm hqc hqz hi
          have hrel : ∀ w4, RdN w4 g (wordN k) → g < w4.heap.size → BS w4 mb nb S1 → Calls Try.prog 47 #[.slice (some ⟨g, 0, none⟩) (wordN k).length c, .map (some mb)] w4 fun e w' => (∃ v, e = .returned v) ∧ BS w' mb nb (relK S1 (wordN k) (wordN k).length) ∧ w4.grownBy w' (some mb) := fun w4 h1 h2 h3 =>
            release_any (wordN k) S1 nb HOS.out (by omega) g c mb w4 h1 h2 h3 HGM.out
          have HREL := Lib.hid hrel
          clear hrel
          have hqr : r < w1.heap.size ∧ q < w1.heap.size := ⟨World.block_lt_of_cell? w1 _ HRC1.out, World.block_lt_of_cell? w1 _ HQC.out⟩
          have HQR := Lib.hid hqr
          clear hqr
          have fin : ∀ (ch2 : Bool) (w2 w3 w5 : World), ch2 = (chK l1 f (wordN k) cw (wordN k).length || ch1) → Below w1.heap.size w1 w2 → w2.grownBy w3 (some b) → Own w3 b (putK l1 f (wordN k) cw (wordN k).length) → BS w5 mb nb (relK S1 (wordN k) (wordN k).length) → (w3.setCell ⟨r3 + 3, 0, none⟩ (.bool ch2)).grownBy w5 (some mb) → KeepsFrom W0.heap.size W w5 ∧ (PI w0 n0 b cl mb nb f r3 (passW f L S (k + 1)).1 (passW f L S (k + 1)).2.1 (passW f L S (k + 1)).2.2 w5 ∧ n0 ≤ w5.heap.size) := fun ch2 w2 w3 w5 hch hB2 hG3 hO3 hS5 hG5 => by
            have hn2 := Nat.le_trans hn1 hB2.size
            have hn3 := Nat.le_trans hn2 hG3.size
            have hP3 := PI.put hlb hbm hbn hn2 (HP1.out.below hn1 hB2) hG3 hO3
            have hP4 := PI.set hlm hlb hn0 hP3 ch2
            have hn4 : n0 ≤ (w3.setCell ⟨r3 + 3, 0, none⟩ (.bool ch2)).heap.size := by simp; exact hn3
            have hP5 := PI.rel hlm hbm hmn hn4 hP4 hG5 hS5
            refine ⟨(((HK1.out.trans (keeps_below _ hB2)).trans (KeepsFrom.of_grownBy hG3 (fun j e => by have := Option.some.inj e; omega))).trans ((KeepsOthers.setCell _ _ _).from _)).trans (KeepsFrom.of_grownBy hG5 (fun j e => by have := Option.some.inj e; omega)), ?_, Nat.le_trans hn4 hG5.size⟩
            rw [HST2.out, ← hch]
            exact hP5
          have FIN := Lib.hid fin
          clear fin
          have rd4 : ∀ (v : Value) (w2 w3 : World), Below w1.heap.size w1 w2 → w2.grownBy w3 (some b) → RdN (w3.setCell ⟨r3 + 3, 0, none⟩ v) g (wordN k) ∧ g < (w3.setCell ⟨r3 + 3, 0, none⟩ v).heap.size ∧ (w3.setCell ⟨r3 + 3, 0, none⟩ v).cell? ⟨r, 0, none⟩ = some (.slice (some ⟨g, 0, none⟩) (wordN k).length c) := fun v w2 w3 hB2 hG3 => by
            have hg2 := HG1.out.below hB2 hgl1
            have hl2 := Nat.lt_of_lt_of_le hgl1 hB2.size
            have hW0 := HB0.out
            refine ⟨fun j hj => ?_, by simp; exact Nat.lt_of_lt_of_le hl2 hG3.size, ?_⟩
            · rw [World.cell?_setCell_far _ _ _ _ (by simp; omega), World.cell?_of_block (hG3.block g hl2 (fun e => HGB.out (Option.some.inj e)))]
              exact hg2 j hj
            · rw [World.cell?_setCell_far _ _ _ _ (by simp; omega), World.cell?_of_block (hG3.block r (Nat.lt_of_lt_of_le HQR.out.1 hB2.size) (fun e => by have := Option.some.inj e; omega))]
              exact (hB2.cell (p := ⟨r, 0, none⟩) HQR.out.1).trans HRC1.out
          have RD4 := Lib.hid rd4
          clear rd4
          cases hch : chK l1 f (wordN k) cw (wordN k).length with
          | true =>
            rw [hch] at HPUT FIN
            gi_wp2_with (first | (refine ⟨trivial, ?_⟩; gi_at_call 70; refine (CallsIn.inRound lp (callsIn_wide.2 HAL.out)).mono ?_; rintro e w2 ⟨rfl, hm2⟩; have hB2 : Below w1.heap.size w1 w2 := (by obtain ⟨m2, rfl⟩ := hm2; exact pw_below_drewN' (Below.refl _ w1) m2); have hP2 := HP1.out.below hn1 hB2; have f3 := hP2.c3; have f4 := hP2.c4; have fr := (hB2.cell (p := ⟨r, 0, none⟩) HQR.out.1).trans HRC1.out; have fq := (hB2.cell (p := ⟨q, 0, none⟩) HQR.out.2).trans HQC.out; have HP2 := Lib.hid hP2; clear hm2 hP2 hrc1) | (refine ⟨trivial, ?_⟩; gi_at_call 37; refine (CallsIn.inRound lp (callsIn_wide.2 (HPUT.out _ hB2))).mono ?_; rintro e w3 ⟨rfl, hO3, hG3⟩; have hP3 := PI.put hlb hbm hbn (Nat.le_trans hn1 hB2.size) HP2.out hG3 hO3; have f8 := hP3.c8; have z8 := hP3.z8; have f5 := (PI.set hlm hlb hn0 hP3 true).c5; have r5 := (PI.set hlm hlb hn0 hP3 true).bs; have q5 := RD4.out (.bool true) _ _ hB2 hG3; have fr2 := q5.2.2; have Q5 := Lib.hid q5; have R5 := Lib.hid r5; have HO3 := Lib.hid hO3; have HG3 := Lib.hid hG3; clear f3 f4 fr fq hP3 r5 q5 hO3 hG3) | (refine ⟨trivial, ?_⟩; gi_at_call 47; refine (CallsIn.inRound lp (callsIn_wide.2 (HREL.out _ Q5.out.1 Q5.out.2.1 R5.out))).mono ?_; rintro e w5 ⟨⟨v5, rfl⟩, hS5, hG5⟩))
            exact FIN.out true _ _ _ rfl hB2 HG3.out HO3.out hS5 hG5
          | false =>
            rw [hch] at HPUT FIN
            gi_wp2_with (first | (refine ⟨trivial, ?_⟩; gi_at_call 70; refine (CallsIn.inRound lp (callsIn_wide.2 HAL.out)).mono ?_; rintro e w2 ⟨rfl, hm2⟩; have hB2 : Below w1.heap.size w1 w2 := (by obtain ⟨m2, rfl⟩ := hm2; exact pw_below_drewN' (Below.refl _ w1) m2); have hP2 := HP1.out.below hn1 hB2; have f3 := hP2.c3; have f4 := hP2.c4; have fr := (hB2.cell (p := ⟨r, 0, none⟩) HQR.out.1).trans HRC1.out; have fq := (hB2.cell (p := ⟨q, 0, none⟩) HQR.out.2).trans HQC.out; have HP2 := Lib.hid hP2; clear hm2 hP2 hrc1) | (refine ⟨trivial, ?_⟩; gi_at_call 37; refine (CallsIn.inRound lp (callsIn_wide.2 (HPUT.out _ hB2))).mono ?_; rintro e w3 ⟨rfl, hO3, hG3⟩; have hP3 := PI.put hlb hbm hbn (Nat.le_trans hn1 hB2.size) HP2.out hG3 hO3; have f8 := hP3.c8; have z8 := hP3.z8; have f5 := (PI.set hlm hlb hn0 hP3 ch1).c5; have r5 := (PI.set hlm hlb hn0 hP3 ch1).bs; have q5 := RD4.out (.bool ch1) _ _ hB2 hG3; have fr2 := q5.2.2; have Q5 := Lib.hid q5; have R5 := Lib.hid r5; have HO3 := Lib.hid hO3; have HG3 := Lib.hid hG3; clear f3 f4 fr fq hP3 r5 q5 hO3 hG3) | (refine ⟨trivial, ?_⟩; gi_at_call 47; refine (CallsIn.inRound lp (callsIn_wide.2 (HREL.out _ Q5.out.1 Q5.out.2.1 R5.out))).mono ?_; rintro e w5 ⟨⟨v5, rfl⟩, hS5, hG5⟩))
            exact FIN.out ch1 _ _ _ rfl hB2 HG3.out HO3.out hS5 hG5
  case done =>
    rintro D W hD ⟨hS, hsz⟩ hK
    have f8 := hS.c8
    have f5 := hS.c5
    have hln := hS.bs.len 3
    have HS := Lib.hid hS
    clear hS
    gi_wp2
    refine ⟨by simp, .inl ⟨_, _, rfl, run_takeDeferred hK, ?_⟩⟩
    have hP2 := PI.own (B := W0.heap.size) (by omega) hlm hn0 hsz HS.out (grownBy_putObj' W D (.deferred none)) (fun r e => by cases e; exact ⟨hD, _, hK, rfl⟩)
    refine ⟨_, by simp [results, Try.f45, go_sem], rfl, hP2.row, hP2.bs, hP2.bel⟩
  case stop =>
    rintro D c W hD h hK
    exact h.elim
end Go.Proofs.Ytknfkhackmnnaaa
