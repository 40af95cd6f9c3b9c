import Derived.Test.YtjmeoeielbkkiaaQ5
set_option maxRecDepth 100000
set_option linter.unusedVariables false
set_option linter.unusedSimpArgs false
namespace Go.Proofs.Ytjmeoeielbkkiaa
open Go.RowKit Go.Deep
/-! slices of one-cell elements that grow -/
/-- a slice of the call's own: nil, or the head of a row -/
def Oc (e : TypeId) (w : World) (base : Nat) (v : Value) (xs : List Value) : Prop := w.ownsRow base e 1 v xs.length xs
theorem Oc.row {e : TypeId} {w : World} {base : Nat} {v : Value} {xs : List Value} (h : Oc e w base v xs) (hl : 0 < xs.length) : ∃ g c, v = .slice (some ⟨g, 0, none⟩) xs.length c ∧ base ≤ g ∧ g < w.heap.size ∧ ∀ j, j < xs.length → w.cell? ⟨g, j, none⟩ = xs[j]? := by
  rcases h.2 with ⟨_, h0⟩ | ⟨g, cap, cur, hv, hb, hg, hn, hm, hs, ht⟩
  · omega
  · refine ⟨g, cap, hv, hb, (Array.getElem?_eq_some_iff.1 hg).1, fun j hj => ?_⟩
    rw [Nat.mul_one] at ht
    rw [← ht]
    simp [World.cell?, hg, List.getElem?_take, hj]
theorem Oc.empty {e : TypeId} {w : World} {base : Nat} (hb : base ≤ w.heap.size) : Oc e (w.alloc (.cells #[] e)) base (.slice (some ⟨w.heap.size, 0, none⟩) 0 0) [] :=
  ⟨by simp, .inr ⟨w.heap.size, 0, #[], rfl, hb, heap_alloc_new w _, by simp, by simp, by simp, by simp⟩⟩
theorem Oc.alloc {e : TypeId} {w : World} {base : Nat} {v : Value} {xs : List Value} (h : Oc e w base v xs) (o : Obj) : Oc e (w.alloc o) base v xs := World.ownsRow.alloc h o
theorem Oc.below {e : TypeId} {w w' : World} {base : Nat} {v : Value} {xs : List Value} (h : Oc e w base v xs) (hb : Below w.heap.size w w') : Oc e w' base v xs :=
  World.ownsRow.kept (row := none) h ⟨hb.os, hb.tape, hb.output, hb.size, fun k hk _ => hb.block k hk⟩ (by
    rcases h' : v.ownBlock with _ | k
    · exact .inl rfl
    · exact .inr (by simp))
theorem wp_appc (t e : TypeId) (z : Value) (bytes : Nat) (ht : Try.prog.underlying t = some (.slice e)) (hi : (Try.prog.info? e).map (fun i => (i.zero, i.size, i.bytes)) = some (some z, 1, bytes)) (hz : z.cells.size = 1) (hby : bytes ≤ 64) {o : Oper} {a : Act} {w : World} {K : Act → World → Prop} {Q : Exit → Act → World → Prop} (s x : Operand)
    (ho : o.op = .call { callee := .builtin .append, args := #[s, x], argTypes := #[t, t] })
    (base g n c : Nat) (xs : List Value) (hs : a.eval s = .slice (some ⟨g, 0, none⟩) n c) (hown : Oc e w base (.slice (some ⟨g, 0, none⟩) n c) xs) (hn : n = xs.length)
    (b cx : Nat) (y : Value) (hx : a.eval x = .slice (some ⟨b, 0, none⟩) 1 cx) (hr : w.cell? ⟨b, 0, none⟩ = some y) (hy : y.oneCell' = true) (hlen : n < 1000000) (hbase : base ≤ w.heap.size)
    (h : ∀ g' c' w', Oc e w' base (.slice (some ⟨g', 0, none⟩) (n + 1) c') (xs ++ [y]) → (∀ B w0, Below B w0 w → B ≤ base → Below B w0 w') → w.grownBy w' (some g) → g' < w'.heap.size → K (a.put o.dst (.slice (some ⟨g', 0, none⟩) (n + 1) c')) w') :
    o.wp Try.prog a w K Q := by
  obtain ⟨i0, hi0, hzz⟩ := Option.map_eq_some_iff.1 hi
  simp only [Prod.mk.injEq] at hzz
  obtain ⟨hz0, hz1, hz2⟩ := hzz
  subst hn
  have hown' : w.ownsRow base e 1 (.slice (some ⟨g, 0, none⟩) xs.length c) xs.length xs := hown
  refine wp_append_lies w s x t ho base e i0 z 1 bytes ht hi0 hz0 hz1 hz2 hz (by decide) _ xs.length xs hs hown' ⟨b, 0, none⟩ 1 cx [y] hx (by simp) (fun j u hu => ?_) (fun u hu => ?_) (by decide) (by unfold maxLen; omega) ?_ hbase _ rfl ?_
  · rcases j with _ | j
    · simp at hu
      subst hu
      have hadd : (⟨b, 0, none⟩ : Addr).add 0 = ⟨b, 0, none⟩ := by unfold Addr.add; split <;> simp_all
      rw [hadd, hr]
    · simp at hu
  · obtain rfl : u = y := by simpa using hu
    exact hy
  · have : (xs.length + 1) * bytes ≤ 1000001 * 64 := Nat.mul_le_mul (by omega) hby
    omega
  · intro g' c' w' hown2 hg hat hlt
    refine h g' c' w' ?_ (fun B w0 hB hBb => hB.grown hg (Nat.le_trans hBb hbase) (fun k hk => ?_)) hg hlt
    · unfold Oc
      rw [List.length_append]
      exact hown2
    · exact Nat.le_trans hBb (World.ownsRow.lt hown' k hk).1
theorem wpList_appc (t e : TypeId) (z : Value) (bytes : Nat) (ht : Try.prog.underlying t = some (.slice e)) (hi : (Try.prog.info? e).map (fun i => (i.zero, i.size, i.bytes)) = some (some z, 1, bytes)) (hz : z.cells.size = 1) (hby : bytes ≤ 64) {ops : Array Oper} {rest : List Oper} {o : Oper} {a : Act} {w : World} {Q : Exit → Act → World → Prop} (hgd : o.guard = none) (s x : Operand)
    (ho : o.op = .call { callee := .builtin .append, args := #[s, x], argTypes := #[t, t] })
    (base g n c : Nat) (xs : List Value) (hs : a.eval s = .slice (some ⟨g, 0, none⟩) n c) (hown : Oc e w base (.slice (some ⟨g, 0, none⟩) n c) xs) (hn : n = xs.length)
    (b cx : Nat) (y : Value) (hx : a.eval x = .slice (some ⟨b, 0, none⟩) 1 cx) (hr : w.cell? ⟨b, 0, none⟩ = some y) (hy : y.oneCell' = true) (hlen : n < 1000000) (hbase : base ≤ w.heap.size)
    (h : ∀ g' c' w', Oc e w' base (.slice (some ⟨g', 0, none⟩) (n + 1) c') (xs ++ [y]) → (∀ B w0, Below B w0 w → B ≤ base → Below B w0 w') → w.grownBy w' (some g) → g' < w'.heap.size → wpList Try.prog ops Q rest (a.put o.dst (.slice (some ⟨g', 0, none⟩) (n + 1) c')) w') :
    wpList Try.prog ops Q (o :: rest) a w :=
  wpList_plain hgd fun _ hK => wp_appc t e z bytes ht hi hz hby s x ho base g n c xs hs hown hn b cx y hx hr hy hlen hbase fun g' c' w' h1 h2 h3 h4 => hK _ _ (h g' c' w' h1 h2 h3 h4)
theorem infoInt : (Try.prog.info? 3).map (fun i => (i.zero, i.size, i.bytes)) = some (some (.int .i64 0), 1, 8) := by kernel_rfl
/-- a growing slice of numbers -/
abbrev Oi (w : World) (base : Nat) (v : Value) (l : List Int) : Prop := Oc 3 w base v (l.map (Value.int .i64))
theorem Oi.rdi {w : World} {base g n c : Nat} {l : List Int} (h : Oi w base (.slice (some ⟨g, 0, none⟩) n c) l) : RdI w (some ⟨g, 0, none⟩) l := fun hl => by
  obtain ⟨g', c', e, _, hlt, hc⟩ := Oc.row h (by rw [List.length_map]; exact hl)
  cases e
  refine ⟨g, 0, rfl, hlt, fun j hj => ?_⟩
  rw [Nat.zero_add, hc j (by rw [List.length_map]; exact hj), List.getElem?_map, List.getElem?_eq_getElem hj, ci_lt hj]
  rfl
/-- a number laid into an increasing list, after k elements -/
def mgN (l : List Int) (n : Int) : Nat → List Int × Bool
  | 0 => ([], false)
  | k + 1 => if (mgN l n k).2 = false ∧ n < ci l k then ((mgN l n k).1 ++ [n] ++ [ci l k], true) else ((mgN l n k).1 ++ [ci l k], (mgN l n k).2)
def mgL (l : List Int) (n : Int) : List Int := if (mgN l n l.length).2 = true then (mgN l n l.length).1 else (mgN l n l.length).1 ++ [n]
theorem mgN_length (l : List Int) (n : Int) (k : Nat) : (mgN l n k).1.length = k + (if (mgN l n k).2 = true then 1 else 0) := by
  induction k with
  | zero => simp [mgN]
  | succ k ih =>
    unfold mgN
    split
    · next h => rw [h.1] at ih; simp [ih]
    · simp only [List.length_append, List.length_singleton, ih]; omega
theorem mgL_length (l : List Int) (n : Int) : (mgL l n).length = l.length + 1 := by
  unfold mgL
  have h := mgN_length l n l.length
  split
  · next h1 => rw [h, if_pos h1]
  · next h1 => rw [List.length_append, h, if_neg h1]; rfl
/-- a new list of numbers is handed back -/
def RetInts (w : World) (l : List Int) (e : Ending) (w' : World) : Prop :=
  ∃ b c, e = .returned (.slice (some ⟨b, 0, none⟩) l.length c) ∧ RdI w' (some ⟨b, 0, none⟩) l ∧ w.heap.size ≤ b ∧ b < w'.heap.size ∧ Below w.heap.size w w'
set_option maxRecDepth 100000 in
set_option maxHeartbeats 1000000 in
theorem merged_any (l : List Int) (v : Int) (A : Option Addr) (c : Nat) (hl : l.length ≤ 100000) (w : World) (h : RdI w A l) :
    Calls Try.prog 72 #[.slice A l.length c, .int .i64 v] w fun e w' => RetInts w (mgL l v) e w' := by
  go_enter Try.func72, Try.ntmps72
  go_wp2
  go_loopw [5, 6, 7] (fun x d i wr => ∃ (k n g c : Nat) (L : List Int) (D : Bool), k ≤ l.length ∧ i = .int .i64 k ∧ x = .slice (some ⟨g, 0, none⟩) n c ∧ d = .bool D ∧ n = L.length ∧ n ≤ k + 1 ∧ w.heap.size ≤ g ∧ g < wr.heap.size ∧ Oi wr w.heap.size x L ∧ Hid (mgN l v k = (L, D)) ∧ Below w.heap.size w wr) (fun _ _ i _ => l.length - (intOf i).toNat)
  case atStart => exact ⟨0, 0, _, 0, [], false, by omega, rfl, rfl, rfl, rfl, by omega, Nat.le_refl _, by rw [World.size_alloc]; exact Nat.lt_succ_self _, Oc.empty (Nat.le_refl _), rfl, (Below.refl _ _).alloc (Nat.le_refl _) _⟩
  case round =>
    obtain ⟨k, n, g, c2, L, D, hk, rfl, rfl, rfl, hn, hnk, hg0, hg1, hOi, hm, hB⟩ := hrel
    have HN := Lib.hid hn
    clear hn
    by_cases hlt : k < l.length
    · obtain ⟨b, off, rfl, hb, hr⟩ := h (by omega)
      have hc : wr.cell? ⟨b, off + k, none⟩ = some (.int .i64 (ci l k)) := (hB.cell (p := ⟨b, off + k, none⟩) hb).trans (hr k hlt)
      have HC := Lib.hid (fun w' (hb' : Below w.heap.size w w') => (hb'.cell (p := ⟨b, off + k, none⟩) hb).trans (hr k hlt))
      have HO := Lib.hid hOi
      have HB := Lib.hid hB
      have hsz := hB.size
      clear hr hOi hB
      rcases D with _ | _
      · have hnk' : n ≤ k := by
          have h9 := mgN_length l v k
          rw [hm.out] at h9
          simp at h9
          have := HN.out
          omega
        by_cases hv : v < ci l k
        · have hnx : Hid (mgN l v (k + 1) = (L ++ [v] ++ [ci l k], true)) := by
            show _ = _
            rw [mgN, hm.out, if_pos ⟨rfl, hv⟩]
          go_wp2_with (first | (at_builtin; refine wpList_appc 34 3 (.int .i64 0) 8 Try.underlying34 infoInt rfl (by omega) rfl _ _ rfl w.heap.size g n c2 (L.map (Value.int .i64)) rfl (HO.out.alloc _) (by rw [List.length_map]; exact HN.out) _ _ (.int .i64 v) rfl (cell_new _ _ _) rfl (by omega) (by rw [World.size_alloc]; omega) ?_; intro g2 c3 w4 hO4 hK4 _ hg4; have hB4 := hK4 _ _ (HB.out.alloc hsz _) (Nat.le_refl _); have hc4 := HC.out w4 hB4; have hs4 := hB4.size) | (at_builtin; refine wpList_appc 34 3 (.int .i64 0) 8 Try.underlying34 infoInt rfl (by omega) rfl _ _ rfl w.heap.size g2 (n + 1) c3 _ rfl (hO4.alloc _) (by simp [HN.out]) _ _ (.int .i64 (ci l k)) rfl (cell_new _ _ _) rfl (by omega) (by rw [World.size_alloc]; omega) ?_; intro g5 c5 w5 hO5 hK5 _ hg5; have hB5 := hK5 _ _ (hB4.alloc hs4 _) (Nat.le_refl _)))
          have hg5b : w.heap.size ≤ g5 := by
            obtain ⟨g', c', e, hb', _⟩ := Oc.row hO5 (by simp)
            injection e with e1
            injection e1 with e2
            injection e2 with e3
            omega
          clear hc hc4
          go_wp2
          go_roundw
          case rel => exact ⟨k + 1, n + 1 + 1, g5, c5, L ++ [v] ++ [ci l k], true, by omega, by go_num, rfl, rfl, by simp [HN.out], by omega, hg5b, hg5, by simpa [Oi] using hO5, hnx, hB5⟩
          case measure => simp [intOf]; omega
        · have hnx : Hid (mgN l v (k + 1) = (L ++ [ci l k], false)) := by
            show _ = _
            rw [mgN, hm.out, if_neg (fun h => hv h.2)]
          go_wp2_with ((at_builtin; refine wpList_appc 34 3 (.int .i64 0) 8 Try.underlying34 infoInt rfl (by omega) rfl _ _ rfl w.heap.size g n c2 (L.map (Value.int .i64)) rfl (HO.out.alloc _) (by rw [List.length_map]; exact HN.out) _ _ (.int .i64 (ci l k)) rfl (cell_new _ _ _) rfl (by omega) (by rw [World.size_alloc]; omega) ?_; intro g2 c3 w4 hO4 hK4 _ hg4; have hB4 := hK4 _ _ (HB.out.alloc hsz _) (Nat.le_refl _); have hc4 := HC.out w4 hB4; have hs4 := hB4.size))
          have hg4b : w.heap.size ≤ g2 := by
            obtain ⟨g', c', e, hb', _⟩ := Oc.row hO4 (by simp)
            injection e with e1
            injection e1 with e2
            injection e2 with e3
            omega
          clear hc hc4
          go_wp2
          go_roundw
          case rel => exact ⟨k + 1, n + 1, g2, c3, L ++ [ci l k], false, by omega, by go_num, rfl, rfl, by simp [HN.out], by omega, hg4b, hg4, by simpa [Oi] using hO4, hnx, hB4⟩
          case measure => simp [intOf]; omega
      · have hnk' : n ≤ k + 1 := hnk
        have hnx : Hid (mgN l v (k + 1) = (L ++ [ci l k], true)) := by
          show _ = _
          rw [mgN, hm.out, if_neg (fun h => by cases h.1)]
        go_wp2_with ((at_builtin; refine wpList_appc 34 3 (.int .i64 0) 8 Try.underlying34 infoInt rfl (by omega) rfl _ _ rfl w.heap.size g n c2 (L.map (Value.int .i64)) rfl (HO.out.alloc _) (by rw [List.length_map]; exact HN.out) _ _ (.int .i64 (ci l k)) rfl (cell_new _ _ _) rfl (by omega) (by rw [World.size_alloc]; omega) ?_; intro g2 c3 w4 hO4 hK4 _ hg4; have hB4 := hK4 _ _ (HB.out.alloc hsz _) (Nat.le_refl _); have hc4 := HC.out w4 hB4; have hs4 := hB4.size))
        have hg4b : w.heap.size ≤ g2 := by
          obtain ⟨g', c', e, hb', _⟩ := Oc.row hO4 (by simp)
          injection e with e1
          injection e1 with e2
          injection e2 with e3
          omega
        clear hc hc4
        go_wp2
        go_roundw
        case rel => exact ⟨k + 1, n + 1, g2, c3, L ++ [ci l k], true, by omega, by go_num, rfl, rfl, by simp [HN.out], by omega, hg4b, hg4, by simpa [Oi] using hO4, hnx, hB4⟩
        case measure => simp [intOf]; omega
    · have hkp : k = l.length := by omega
      have HK := Lib.hid hkp
      have HO := Lib.hid hOi
      have HB := Lib.hid hB
      have hsz := hB.size
      clear hkp hOi hB
      rcases D with _ | _
      · have hfin : Hid (mgL l v = L ++ [v]) := by
          show _ = _
          unfold mgL
          rw [← HK.out, hm.out]
          rfl
        go_wp2_with (at_builtin; refine wpList_appc 34 3 (.int .i64 0) 8 Try.underlying34 infoInt rfl (by omega) rfl _ _ rfl w.heap.size g n c2 (L.map (Value.int .i64)) rfl (HO.out.alloc _) (by rw [List.length_map]; exact HN.out) _ _ (.int .i64 v) rfl (cell_new _ _ _) rfl (by omega) (by rw [World.size_alloc]; omega) ?_; intro g2 c3 w4 hO4 hK4 _ hg4)
        have hB4 := hK4 _ _ (HB.out.alloc hsz _) (Nat.le_refl _)
        have hg4b : w.heap.size ≤ g2 := by
          obtain ⟨g', c', e, hb', _⟩ := Oc.row hO4 (by simp)
          injection e with e1
          injection e1 with e2
          injection e2 with e3
          omega
        have hO4' : Oi w4 w.heap.size (.slice (some ⟨g2, 0, none⟩) (n + 1) c3) (L ++ [v]) := by simpa [Oi] using hO4
        go_wp2
        go_ret
        exact ⟨g2, c3, by rw [hfin.out, List.length_append, ← HN.out]; rfl, by rw [hfin.out]; exact hO4'.rdi, hg4b, hg4, hB4⟩
      · have hfin : Hid (mgL l v = L) := by
          show _ = _
          unfold mgL
          rw [← HK.out, hm.out]
          rfl
        go_wp2
        go_ret
        exact ⟨g, c2, by rw [hfin.out, ← HN.out]; rfl, by rw [hfin.out]; exact HO.out.rdi, hg0, hg1, HB.out⟩
end Go.Proofs.Ytjmeoeielbkkiaa
