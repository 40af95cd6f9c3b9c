import Derived.Test.YtknfkhackmnnaaaP3
import Derived.Test.YtknfkhackmnnaaaW3
set_option maxRecDepth 100000
set_option linter.unusedVariables false
set_option linter.unusedSimpArgs false
namespace Go.Proofs.Ytknfkhackmnnaaa
open Go Go.RowKit Go.Deep
/-! the reference's list of all words, and its symbols of a word -/
theorem infoSlI : (Try.prog.info? 24).map (fun i => (i.zero, i.size, i.bytes)) = some (some (.slice none 0 0), 1, 24) := by kernel_rfl
theorem wpList_appw (t e : TypeId) (z : Value) (bytes : Nat) (ht : Try.prog.underlying t = some (.slice e)) (hi : (Try.prog.info? e).map (fun i => (i.zero, i.size, i.bytes)) = some (some z, 1, bytes)) (hz : z.cells.size = 1) (hby : bytes ≤ 64) {ops : Array Oper} {rest : List Oper} {o : Oper} {a : Act} {w : World} {Q : Exit → Act → World → Prop} (hgd : o.guard = none) (s x : Operand)
    (ho : o.op = .call { callee := .builtin .append, args := #[s, x], argTypes := #[t, t] })
    (base n : Nat) (v : Value) (xs : List Value) (hs : a.eval s = v) (hown : Ocv e w base v xs) (hn : n = xs.length)
    (b cx : Nat) (y : Value) (hx : a.eval x = .slice (some ⟨b, 0, none⟩) 1 cx) (hr : w.cell? ⟨b, 0, none⟩ = some y) (hy : y.oneCell' = true) (hlen : n + 1 ≤ 1000000) (hbase : base ≤ w.heap.size)
    (h : ∀ g' c' w', Ocv e w' base (.slice (some ⟨g', 0, none⟩) (n + 1) c') (xs ++ [y]) → w.grownBy w' v.ownBlock → (v.ownBlock = some g' ∨ g' = w.heap.size) → g' < w'.heap.size → wpList Try.prog ops Q rest (a.put o.dst (.slice (some ⟨g', 0, none⟩) (n + 1) c')) w') :
    wpList Try.prog ops Q (o :: rest) a w :=
  wpList_plain hgd fun K hK => by
    obtain ⟨i0, hi0, hzz⟩ := Option.map_eq_some_iff.1 hi
    simp only [Prod.mk.injEq] at hzz
    obtain ⟨hz0, hz1, hz2⟩ := hzz
    subst hn
    refine wp_append_lies w s x t ho base e i0 z 1 bytes ht hi0 hz0 hz1 hz2 hz (by decide) v xs.length xs hs hown ⟨b, 0, none⟩ 1 cx [y] hx (by simp) (fun j u hu => ?_) (one_mem hy) (by omega) (by unfold maxLen; omega) ?_ hbase _ rfl ?_
    · have hj : j = 0 := by
        rcases Nat.eq_zero_or_pos j with h | h
        · exact h
        · rw [List.getElem?_eq_none (by show 1 ≤ j; omega)] at hu
          cases hu
      subst hj
      have hadd : (⟨b, 0, none⟩ : Addr).add 0 = ⟨b, 0, none⟩ := by unfold Addr.add; split <;> simp_all
      rw [hadd, hr]
      exact hu
    · have : (xs.length + 1) * bytes ≤ 1000000 * 64 := Nat.mul_le_mul hlen hby
      omega
    · intro g' c' w' hown2 hg hat hlt
      refine hK _ _ (h g' c' w' ?_ hg hat hlt)
      unfold Ocv
      rw [List.length_append]
      exact hown2
theorem Ocv.below {e : TypeId} {w w' : World} {base : Nat} {v : Value} {xs : List Value} (h : Ocv e w base v xs) (hb : Below w.heap.size w w') : Ocv e w' base v xs :=
  World.ownsRow.kept (row := none) h ⟨hb.os, hb.tape, hb.output, hb.size, fun k hk _ => hb.block k hk⟩ (by
    rcases h' : v.ownBlock with _ | k
    · exact .inl rfl
    · exact .inr (by simp))
/-- a word in memory, not in the block of v -/
def Wg (base k : Nat) (x v : Value) (W : World) : Prop := ∃ g c, x = .slice (some ⟨g, 0, none⟩) (wordN k).length c ∧ base ≤ g ∧ g < W.heap.size ∧ RdN W g (wordN k) ∧ (wordN k).length ≤ c ∧ v.ownBlock ≠ some g
theorem Wg.below {base k : Nat} {x v : Value} {W W' : World} (h : Wg base k x v W) (hB : Below W.heap.size W W') : Wg base k x v W' := by
  obtain ⟨g, c, rfl, h1, h2, h3, h4, h5⟩ := h
  exact ⟨g, c, rfl, h1, Nat.lt_of_lt_of_le h2 hB.size, h3.below hB h2, h4, h5⟩
theorem Wg.grown {base k g' : Nat} {x v v' : Value} {W W' : World} (h : Wg base k x v W) (hg : W.grownBy W' v.ownBlock) (hv : v'.ownBlock = some g') (hat : v.ownBlock = some g' ∨ g' = W.heap.size) : Wg base k x v' W' := by
  obtain ⟨g, c, rfl, h1, h2, h3, h4, h5⟩ := h
  refine ⟨g, c, rfl, h1, Nat.lt_of_lt_of_le h2 hg.size, fun j hj => (World.cell?_of_block (hg.block g h2 (fun e => h5 e.symm))).trans (h3 j hj), h4, fun e => ?_⟩
  rw [hv] at e
  cases e
  rcases hat with h | h
  · exact h5 h
  · omega
/-- so many words are collected -/
def WI (w : World) (k : Nat) (v : Value) (W : World) : Prop := ∃ xs : List Value, xs.length = k ∧ Ocv 24 W w.heap.size v xs ∧ ∀ j, j < k → ∃ x, xs[j]? = some x ∧ Wg w.heap.size j x v W
theorem WI.below {w : World} {k : Nat} {v : Value} {W W' : World} (h : WI w k v W) (hB : Below W.heap.size W W') : WI w k v W' := by
  obtain ⟨xs, h1, h2, h3⟩ := h
  refine ⟨xs, h1, h2.below hB, fun j hj => ?_⟩
  obtain ⟨x, hx, hw⟩ := h3 j hj
  exact ⟨x, hx, hw.below hB⟩
theorem WI.step {w : World} {k g' c' : Nat} {v x : Value} {W W' : World} {xs : List Value} (hl : xs.length = k) (hx : ∀ j, j < k → ∃ x, xs[j]? = some x ∧ Wg w.heap.size j x v W) (hw : Wg w.heap.size k x v W)
    (hO : Ocv 24 W' w.heap.size (.slice (some ⟨g', 0, none⟩) (k + 1) c') (xs ++ [x])) (hG : W.grownBy W' v.ownBlock) (hat : v.ownBlock = some g' ∨ g' = W.heap.size) : WI w (k + 1) (.slice (some ⟨g', 0, none⟩) (k + 1) c') W' := by
  refine ⟨xs ++ [x], by simp [hl], hO, fun j hj => ?_⟩
  by_cases e : j < k
  · obtain ⟨y, hy, hyw⟩ := hx j e
    exact ⟨y, by rw [List.getElem?_append_left (by omega)]; exact hy, hyw.grown hG rfl hat⟩
  · obtain rfl : j = k := by omega
    exact ⟨x, by rw [List.getElem?_append_right (by omega), hl]; simp, hw.grown hG rfl hat⟩
theorem wg_new {w : World} {k g c n : Nat} {xs : List Value} {v : Value} {W W' : World} (hv : ∀ b, v.ownBlock = some b → b < W.heap.size) (hx : xs = (wordN k).map vI) (hn : n = xs.length) (hs : w.heap.size ≤ W.heap.size) (h0 : W.heap.size ≤ g) (h1 : g < W'.heap.size) (hc : ∀ j, j < xs.length → W'.cell? ⟨g, j, none⟩ = xs[j]?) (hcc : xs.length ≤ c) : Wg w.heap.size k (.slice (some ⟨g, 0, none⟩) n c) v W' := by
  have hl : xs.length = (wordN k).length := by rw [hx, List.length_map]
  refine ⟨g, c, by rw [hn, hl], by omega, h1, fun j hj => ?_, by rw [← hl]; exact hcc, fun e => by have := hv g e; omega⟩
  rw [hc j (by rw [hl]; exact hj), hx, List.getElem?_map, List.getD_eq_getElem?_getD, List.getElem?_eq_getElem hj]
  rfl
theorem wordN_p {k : Nat} (h : k < 86) : pwI k 26 = (wordN k).map vI := by rw [← wordL_p h, wordL_map]
theorem wordN_q {k : Nat} : qwL k = (wordN (86 + k)).map vI := by rw [← wordL_q, wordL_map]
/-- the list of all words -/
def RetWs (w : World) (e : Ending) (w' : World) : Prop := ∃ g c, e = .returned (.slice (some ⟨g, 0, none⟩) 138 c) ∧ w.heap.size ≤ g ∧ g < w'.heap.size ∧ (∀ k, k < 138 → ∃ x, w'.cell? ⟨g, k, none⟩ = some x ∧ Wg w.heap.size k x (.slice (some ⟨g, 0, none⟩) 138 c) w') ∧ Below w.heap.size w w'
set_option maxRecDepth 100000 in
set_option maxHeartbeats 4000000 in
theorem wordsr_any (w : World) : Calls Try.prog 39 #[] w fun e w' => RetWs w e w' := by
  go_enter Try.func39, Try.ntmps39
  go_wp2
  go_loopw [1, 2] (fun v i wr => ∃ k : Nat, k ≤ 86 ∧ i = .int .i64 k ∧ Hid (WI w k v wr) ∧ Below w.heap.size w wr) (fun _ i _ => 86 - (intOf i).toNat)
  case atStart => exact ⟨0, by omega, rfl, ⟨[], rfl, Ocv.empty (Nat.le_refl _), fun j hj => by omega⟩, (Below.refl _ _).alloc (Nat.le_refl _) _⟩
  case round =>
    obtain ⟨k, hk, rfl, hW, hB⟩ := hrel
    by_cases hlt : k < 86
    · obtain ⟨xs, hxl, hO, hx⟩ := hW
      have HO := Lib.hid hO
      have HX := Lib.hid hx
      have HL := Lib.hid hxl
      have HB := Lib.hid hB
      have hsz := hB.size
      clear hO hx hxl hB
      go_wp2_with (first | (go_at_call 14; refine (pwordr_yes k hlt wr).mono ?_; rintro e w1 ⟨g, c, rfl, hg0, hg1, hc, hb1, hcc⟩; have hw1 := Lib.hid (wg_new (w := w) (n := (pwI k 26).length) (World.ownsRow.lt HO.out · · |>.2) (wordN_p hlt) rfl hsz hg0 hg1 hc hcc); have hz1 := hb1.size) | (at_builtin; refine wpList_appw 63 24 (.slice none 0 0) 24 Try.underlying63 infoSlI rfl (by omega) rfl _ _ rfl w.heap.size k _ xs rfl ((HO.out.below hb1).alloc _) HL.out.symm _ _ (.slice (some ⟨g, 0, none⟩) (pwI k 26).length c) rfl (cell_new _ _ _) rfl (by omega) (by rw [World.size_alloc]; omega) ?_; intro g2 c3 w4 hO4 hG4 hat4 hlt4))
      have hal := fun o => (Below.refl w1.heap.size w1).alloc (Nat.le_refl _) o
      have hst := WI.step HL.out (fun j hj => by
        obtain ⟨x, hx, hw⟩ := HX.out j hj
        exact ⟨x, hx, (hw.below hb1).below (hal _)⟩) (hw1.out.below (hal _)) hO4 hG4 hat4
      have hB4 : Below w.heap.size w w4 := ((HB.out.trans (hb1.mono hsz)).trans ((hal _).mono (by omega))).grown hG4 (by rw [World.size_alloc]; omega) (fun b hb => (World.ownsRow.lt HO.out b hb).1)
      clear hO4 hG4 hat4 hc hcc
      go_wp2
      go_roundw
      case rel => exact ⟨k + 1, by omega, by go_num, hst, hB4⟩
      case measure => simp [intOf]; omega
    · have e86 : k = 86 := by omega
      rw [e86] at hW
      have e86' : ((k : Nat) : Int) = 86 := by omega
      rw [e86']
      clear hk hlt e86 e86'
      go_wp2
      go_loopw [1, 5] (fun v i wr => ∃ k : Nat, k ≤ 52 ∧ i = .int .i64 k ∧ Hid (WI w (86 + k) v wr) ∧ Below w.heap.size w wr) (fun _ i _ => 52 - (intOf i).toNat)
      case atStart => exact ⟨0, by omega, rfl, hW, hB⟩
      case round =>
        clear hW hB
        obtain ⟨k, hk, rfl, hW, hB⟩ := hrel
        by_cases hlt : k < 52
        · obtain ⟨xs, hxl, hO, hx⟩ := hW
          have HO := Lib.hid hO
          have HX := Lib.hid hx
          have HL := Lib.hid hxl
          have HB := Lib.hid hB
          have hsz := hB.size
          clear hO hx hxl hB
          go_wp2_with (first | (go_at_call 15; refine (qwordr_yes k hlt wr).mono ?_; rintro e w1 ⟨g, c, rfl, hg0, hg1, hc, hb1, hcc⟩; have hw1 := Lib.hid (wg_new (w := w) (n := (qwL k).length) (World.ownsRow.lt HO.out · · |>.2) wordN_q rfl hsz hg0 hg1 hc hcc); have hz1 := hb1.size) | (at_builtin; refine wpList_appw 63 24 (.slice none 0 0) 24 Try.underlying63 infoSlI rfl (by omega) rfl _ _ rfl w.heap.size (86 + k) _ xs rfl ((HO.out.below hb1).alloc _) HL.out.symm _ _ (.slice (some ⟨g, 0, none⟩) (qwL k).length c) rfl (cell_new _ _ _) rfl (by omega) (by rw [World.size_alloc]; omega) ?_; intro g2 c3 w4 hO4 hG4 hat4 hlt4))
          have hal := fun o => (Below.refl w1.heap.size w1).alloc (Nat.le_refl _) o
          have hst := WI.step HL.out (fun j hj => by
            obtain ⟨x, hx, hw⟩ := HX.out j hj
            exact ⟨x, hx, (hw.below hb1).below (hal _)⟩) (hw1.out.below (hal _)) hO4 hG4 hat4
          have hB4 : Below w.heap.size w w4 := ((HB.out.trans (hb1.mono hsz)).trans ((hal _).mono (by omega))).grown hG4 (by rw [World.size_alloc]; omega) (fun b hb => (World.ownsRow.lt HO.out b hb).1)
          clear hO4 hG4 hat4 hc hcc
          go_wp2
          go_roundw
          case rel => exact ⟨k + 1, by omega, by go_num, hst, hB4⟩
          case measure => simp [intOf]; omega
        · have e52 : k = 52 := by omega
          rw [e52] at hW
          obtain ⟨xs, hxl, hO, hx⟩ := hW
          obtain ⟨g, c, rfl, hg0, hg1, hc, hcc⟩ := hO.row (by omega)
          rw [hxl] at hx hc ⊢
          go_wp2
          go_ret
          refine ⟨g, c, rfl, hg0, hg1, fun k hk => ?_, hB⟩
          obtain ⟨x, h1, h2⟩ := hx k hk
          exact ⟨x, by rw [hc k hk, h1], h2⟩
/-! symbols -/
theorem tk_next (l : List UInt8) (f : Nat) (os : List Nat) {k : Nat} (hk : k < os.length) : (tkL l f os).take (k + 1) = (tkL l f os).take k ++ [if f ≤ os.getD k 0 then Gf.co l (os.getD k 0) else 0] := by
  rw [List.take_add_one, List.getElem?_eq_getElem (by rw [tkL_length]; exact hk)]
  have h : (tkL l f os)[k]'(by rw [tkL_length]; exact hk) = if f ≤ os.getD k 0 then Gf.co l (os.getD k 0) else 0 := by
    simp [tkL, List.getD_eq_getElem?_getD, List.getElem?_eq_getElem hk]
  rw [h]
  rfl
set_option maxRecDepth 100000 in
set_option maxHeartbeats 2000000 in
theorem symr_any (l : List UInt8) (os : List Nat) (f : Nat) (hos : ∀ j, j < os.length → os.getD j 0 < l.length) (hn : os.length ≤ 1000) (hll : l.length ≤ 100000) (hf : f ≤ 1000) (b o cl g c : Nat) (w : World) (hl : Rd w b o l) (hb : b < w.heap.size) (hg : RdN w g os) (hgw : g < w.heap.size) :
    Calls Try.prog 41 #[.slice (some ⟨b, o, none⟩) l.length cl, .slice (some ⟨g, 0, none⟩) os.length c, .int .i64 (f : Int)] w fun e w' => Ret1 w (.string (str (tkL l f os))) e w' := by
  obtain ⟨n, hnn⟩ : ∃ n, n = os.length := ⟨_, rfl⟩
  rw [← hnn] at hn ⊢
  have HN := Lib.hid hnn
  have hos' : ∀ j, j < n → os.getD j 0 < l.length := fun j hj => hos j (by rw [← hnn]; exact hj)
  have hg' : ∀ j, j < n → w.cell? ⟨g, j, none⟩ = some (.int .i64 ((os.getD j 0 : Nat) : Int)) := fun j hj => hg j (by rw [← hnn]; exact hj)
  have hlen : ∀ k, k ≤ n → ((tkL l f os).take k).length = k := fun k hk => by rw [List.length_take, tkL_length]; omega
  have HLEN := Lib.hid hlen
  clear hnn hos hg hlen
  go_enter Try.func41, Try.ntmps41
  go_wp2
  go_loopw [7, 8] (fun v i wr => ∃ k g2 c2 : Nat, k ≤ n ∧ i = .int .i64 k ∧ v = .slice (some ⟨g2, 0, none⟩) k c2 ∧ Ob wr w.heap.size v ((tkL l f os).take k) ∧ Below w.heap.size w wr) (fun _ i _ => n - (intOf i).toNat)
  case atStart => exact ⟨0, _, 0, by omega, rfl, rfl, Ob.empty (Nat.le_refl _), (Below.refl _ _).alloc (Nat.le_refl _) _⟩
  case round =>
    obtain ⟨k, g2, c2, hk, rfl, rfl, hO, hB⟩ := hrel
    by_cases hlt : k < n
    · have hck := (hB.cell (p := ⟨g, k, none⟩) hgw).trans (hg' k hlt)
      have hxl := hos' k hlt
      have hnx := tk_next l f os (k := k) (by rw [← HN.out]; exact hlt)
      revert hck hxl hnx
      generalize os.getD k 0 = x
      intro hck hxl hnx
      have HO := Lib.hid hO
      have HB := Lib.hid hB
      have hsz := hB.size
      by_cases hfx : x < f
      · rw [if_neg (by omega)] at hnx
        have HX := Lib.hid hnx
        clear hO hB hnx
        go_wp2_with (at_builtin; refine wpList_app1 43 Try.underlying43 rfl _ _ rfl w.heap.size g2 k c2 ((tkL l f os).take k) rfl (HO.out.alloc _) (by rw [HLEN.out k hk]) _ _ 0 rfl (cell_new _ _ _) (by omega) (by rw [World.size_alloc]; omega) ?_; intro g4 c4 w4 hO4 hK4 _)
        have hB4 := hK4 _ _ (HB.out.alloc hsz _) (Nat.le_refl _)
        rw [← HX.out] at hO4
        clear hK4
        go_wp2
        go_roundw
        case rel => exact ⟨k + 1, g4, c4, by omega, by go_num, rfl, hO4, hB4⟩
        case measure => simp [intOf]; omega
      · have hcx := (hB.cell (p := ⟨b, o + x, none⟩) hb).trans (hl x hxl)
        rw [if_pos (by omega)] at hnx
        have HX := Lib.hid hnx
        clear hO hB hnx
        go_wp2_with (at_builtin; refine wpList_app1 43 Try.underlying43 rfl _ _ rfl w.heap.size g2 k c2 ((tkL l f os).take k) rfl (HO.out.alloc _) (by rw [HLEN.out k hk]) _ _ (Gf.co l x) rfl (cell_new _ _ _) (by omega) (by rw [World.size_alloc]; omega) ?_; intro g4 c4 w4 hO4 hK4 _)
        have hB4 := hK4 _ _ (HB.out.alloc hsz _) (Nat.le_refl _)
        rw [← HX.out] at hO4
        clear hK4
        go_wp2
        go_roundw
        case rel => exact ⟨k + 1, g4, c4, by omega, by go_num, rfl, hO4, hB4⟩
        case measure => simp [intOf]; omega
    · have hkn : k = n := by omega
      have hcv := conv_string (hO.rdAt (by rw [HLEN.out k hk])) c2
      rw [HLEN.out k hk] at hcv
      have HE : Hid ((tkL l f os).take k = tkL l f os) := by
        show _ = _
        rw [List.take_of_length_le (by rw [tkL_length, ← HN.out]; omega)]
      have HCV := Lib.hid hcv
      have hcv2 := HCV.out
      clear hkn
      go_wp2
      go_ret
      exact ⟨by rw [HE.out]; rfl, hB⟩
end Go.Proofs.Ytknfkhackmnnaaa
