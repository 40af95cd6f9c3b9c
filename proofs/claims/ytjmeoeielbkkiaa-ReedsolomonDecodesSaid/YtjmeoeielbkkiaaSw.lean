import Derived.Deep.CutBlock
import Derived.Deep.CutRange
import Derived.Deep.RegionHeld3
import Derived.Test.YtjmeoeielbkkiaaSv
set_option maxRecDepth 100000
set_option linter.unusedVariables false
set_option linter.unusedSimpArgs false
namespace Go.Proofs.Ytjmeoeielbkkiaa
open Go Go.RowKit Go.Deep Go.Sort
/-! the reference's solve -/
theorem wpList_appw (t e : TypeId) (z : Value) (bytes : Nat) (ht : Try.prog.underlying t = some (.slice e)) (hi : (Try.prog.info? e).map (fun i => (i.zero, i.size, i.bytes)) = some (some z, 1, bytes)) (hz : z.cells.size = 1) (hby : bytes ≤ 64) {ops : Array Oper} {rest : List Oper} {o : Oper} {a : Act} {w : World} {Q : Exit → Act → World → Prop} (hgd : o.guard = none) (s x : Operand)
    (ho : o.op = .call { callee := .builtin .append, args := #[s, x], argTypes := #[t, t] })
    (base n : Nat) (v : Value) (xs : List Value) (hs : a.eval s = v) (hown : Oc e w base v xs) (hn : n = xs.length)
    (b cx : Nat) (y : Value) (hx : a.eval x = .slice (some ⟨b, 0, none⟩) 1 cx) (hr : w.cell? ⟨b, 0, none⟩ = some y) (hy : y.oneCell' = true) (hlen : n + 1 ≤ 1000000) (hbase : base ≤ w.heap.size)
    (h : ∀ g' c' w', Oc e w' base (.slice (some ⟨g', 0, none⟩) (n + 1) c') (xs ++ [y]) → w.grownBy w' v.ownBlock → (v.ownBlock = some g' ∨ g' = w.heap.size) → g' < w'.heap.size → wpList Try.prog ops Q rest (a.put o.dst (.slice (some ⟨g', 0, none⟩) (n + 1) c')) w') :
    wpList Try.prog ops Q (o :: rest) a w :=
  wpList_plain hgd fun K hK => by
    obtain ⟨i0, hi0, hzz⟩ := Option.map_eq_some_iff.1 hi
    simp only [Prod.mk.injEq] at hzz
    obtain ⟨hz0, hz1, hz2⟩ := hzz
    subst hn
    refine wp_append_lies w s x t ho base e i0 z 1 bytes ht hi0 hz0 hz1 hz2 hz (by decide) v xs.length xs hs hown ⟨b, 0, none⟩ 1 cx [y] hx (by simp) (fun j u hu => ?_) (fun u hu => by rw [List.mem_singleton.1 hu]; exact hy) (by omega) (by unfold maxLen; omega) ?_ hbase _ rfl ?_
    · have hj : j = 0 := by
        rcases Nat.eq_zero_or_pos j with h | h
        · exact h
        · rw [List.getElem?_eq_none (by show 1 ≤ j; omega)] at hu
          cases hu
      subst hj
      have hadd : (⟨b, 0, none⟩ : Addr).add 0 = ⟨b, 0, none⟩ := by unfold Addr.add; split <;> simp_all
      rw [hadd, hr]
      exact hu
    · have : (xs.length + 1) * bytes ≤ 1000000 * 64 := Nat.mul_le_mul hlen hby
      omega
    · intro g' c' w' hown2 hg hat hlt
      refine hK _ _ (h g' c' w' ?_ hg hat hlt)
      unfold Oc
      rw [List.length_append]
      exact hown2
theorem scL_rowL (r : Nat → UInt8) (f : UInt8) (m : Nat) : scL (rowL r m) f m = rowL (fun j => Gf.mul (r j) f) m := by
  refine Gf.co_ext (by rw [scL_length, rowL_length]) fun i hi => ?_
  rw [scL_length] at hi
  rw [co_scL _ _ _ _ hi, co_rowL _ hi, co_rowL _ hi]
theorem adL_rowL (r q : Nat → UInt8) (m : Nat) : adL (rowL r m) (rowL q m) m = rowL (fun j => r j ^^^ q j) m := by
  refine Gf.co_ext (by rw [adL_length, rowL_length]) fun i hi => ?_
  rw [adL_length] at hi
  rw [co_adL _ _ _ _ hi, co_rowL _ hi, co_rowL _ hi, co_rowL _ hi]
theorem cell_set_other (w : World) {a b : Addr} (h : a ≠ b) (v : Value) : (w.setCell a v).cell? b = w.cell? b := by
  first
    | exact World.cell?_setCell_other h
    | exact World.cell?_setCell_other _ h
    | exact World.cell?_setCell_other _ _ h
    | exact World.cell?_setCell_other _ _ _ h
    | exact World.cell?_setCell_other _ _ _ _ h
theorem rowL_succ (r : Nat → UInt8) (m : Nat) : rowL r (m + 1) = rowL r m ++ [r m] := by simp [rowL, List.range_succ]
theorem erN_at {er : List Int} {j : Nat} (h : j < er.length) : (erN er).getD j 0 = (ci er j).toNat := by
  rw [List.getD_eq_getElem?_getD, List.getElem?_eq_getElem (by rw [erN_length]; exact h)]
  exact erN_get h
theorem atOk_of {n : Nat} {er : List Int} (h : posN n er er.length) : AtOk n (erN er) := by
  have hlt : ∀ i j, i < j → j < er.length → ci er i < ci er j := fun i j hij => by
    induction j with
    | zero => omega
    | succ j ih =>
      intro hj
      have h2 := (h (j + 1) hj).2.2 (by omega)
      rw [Nat.add_sub_cancel] at h2
      rcases Nat.lt_or_ge i j with h3 | h3
      · have := ih h3 (by omega)
        omega
      · rw [show i = j by omega]; exact h2
  refine ⟨fun j hj => ?_, fun i j hi hj e => ?_⟩
  · rw [erN_length] at hj
    rw [erN_at hj]
    have := h j hj
    omega
  · rw [erN_length] at hi hj
    rw [erN_at hi, erN_at hj] at e
    have h1 := h i hi
    have h2 := h j hj
    rcases Nat.lt_trichotomy i j with h3 | h3 | h3
    · have := hlt i j h3 hj
      omega
    · exact h3.symm
    · have := hlt j i h3 hi
      omega
def RetSolve (w : World) (s : ByteArray) (p : Nat) (er : List Int) (e : Ending) (w' : World) : Prop :=
  Below w.heap.size w w' ∧ ((∃ cw, FillsN (bl s) p (erN er) cw ∧ e = .returned (.tuple #[.string (str cw), .bool true])) ∨ ((¬ ∃ cw, FillsN (bl s) p (erN er) cw) ∧ e = .returned (.tuple #[.string (str []), .bool false])))
set_option maxRecDepth 100000 in
set_option maxHeartbeats 8000000 in
theorem solve_any (s : ByteArray) (p : Nat) (er : List Int) (A : Option Addr) (c : Nat) (h : shp s.size p = true) (hP : posN s.size er er.length) (hle : er.length ≤ p) (w : World) (hr : RdI w A er) :
    Calls Try.prog 48 #[.string s, .int .i64 (p : Int), .slice A er.length c] w fun e w' => RetSolve w s p er e w' := by
  obtain ⟨h1, h2, h3, h4, h5⟩ := shp_true h
  have H := Lib.hid h
  have HAT := Lib.hid (atOk_of hP)
  have HP := Lib.hid hP
  obtain ⟨n, hn⟩ : ∃ n, n = er.length := ⟨_, rfl⟩
  have HN := Lib.hid hn
  have hnl : (erN er).length = n := by rw [erN_length, hn]
  have HNL := Lib.hid hnl
  obtain ⟨M, hM⟩ : ∃ M, M = M0 (bl s) (erN er) := ⟨_, rfl⟩
  have HM := Lib.hid hM
  have HMn : Hid (∀ i, M i n = Gf.hor (bl s) (Gf.al i)) := fun i => by rw [hM]; unfold M0; rw [hnl, if_neg (Nat.lt_irrefl _)]
  have HMj : Hid (∀ i j, j < n → M i j = Gf.al (i * (s.size - 1 - (ci er j).toNat))) := fun i j hj => by
    rw [hM]
    unfold M0
    rw [hnl, if_pos hj, bl_length, erN_at (by omega)]
  have HR : Hid (∀ j, j < n → ∃ b o t : Nat, A = some ⟨b, o, none⟩ ∧ b < w.heap.size ∧ w.cell? ⟨b, o + j, none⟩ = some (.int .i64 (t : Int)) ∧ t = (ci er j).toNat ∧ t < s.size) := fun j hj => by
    obtain ⟨b, o, hA, hb, hc⟩ := hr (by omega)
    have hp := hP j (by omega)
    refine ⟨b, o, (ci er j).toNat, hA, hb, ?_, rfl, by omega⟩
    rw [hc j (by omega), Int.toNat_of_nonneg hp.1]
  rw [← hn]
  have hle' : n ≤ p := by omega
  clear h hP hr hnl hM hn hle
  go_enter Try.func48, Try.ntmps48
  go_wp2_with fail
  refine (synr_yes s p H.out _).mono ?_
  rintro e w1 ⟨bs, cs, rfl, hRs, hbs, hB1⟩
  rw [syn_length]
  have hO1 : Oc 26 w1 w.heap.size (.slice (some ⟨w.heap.size, 0, none⟩) 0 0) [] := (Oc.empty (Nat.le_refl _)).below hB1
  have hB1' : Below w.heap.size w w1 := ((Below.refl _ w).alloc (Nat.le_refl _) _).trans (hB1.mono (by rw [World.size_alloc]; omega))
  have hne0 : (Value.slice (some ⟨w.heap.size, 0, none⟩) 0 0).ownBlock ≠ some bs := fun e => by
    have e1 : w.heap.size = bs := Option.some.inj e
    have h0 := hRs 0 (by rw [syn_length]; omega)
    have h1 := hB1.cell (p := ⟨w.heap.size, 0, none⟩) (by rw [World.size_alloc]; exact Nat.lt_succ_self _)
    have h2 : (w.alloc (.cells #[] 26)).cell? ⟨w.heap.size, 0, none⟩ = none := by
      have h3 : (w.alloc (.cells #[] 26)).heap[w.heap.size]? = some (.cells #[] 26) := World.alloc_heap_new w _
      unfold World.cell?
      simp only [h3]
      rfl
    rw [← e1, Nat.zero_add] at h0
    have h4 := h0.symm.trans (h1.trans h2)
    cases h4
  clear hB1
  go_wp2
  go_loopw [8, 11] (fun v i wr => ∃ k : Nat, k ≤ p ∧ i = .int .i64 k ∧ Hid (Ri w k (n + 1) M v wr) ∧ Below w.heap.size w wr ∧ Rd wr bs 0 (syn (bl s) p) ∧ bs < wr.heap.size ∧ Hid (v.ownBlock ≠ some bs)) (fun _ i _ => p - (intOf i).toNat)
  case atStart => exact ⟨0, by omega, rfl, ⟨[], rfl, hO1, fun j hj => by omega⟩, hB1', hRs, hbs, hne0⟩
  case round =>
    clear hO1 hB1' hRs hbs hne0
    obtain ⟨k, hk, rfl, hRi, hB, hRs, hbs, hne⟩ := hrel
    by_cases hlt : k < p
    · go_wp2
      obtain ⟨wo, rfl⟩ : ∃ wo : World, wo = wr := ⟨_, rfl⟩
      have hB' := hB
      have hRi' := hRi
      have hRs' := hRs
      have hbs' := hbs
      clear hB hRi hRs hbs
      go_loopw [12, 13] (fun x i wi => ∃ j g2 c2 : Nat, j ≤ n ∧ i = .int .i64 j ∧ x = .slice (some ⟨g2, 0, none⟩) j c2 ∧ wo.heap.size ≤ g2 ∧ g2 < wi.heap.size ∧ Ob wi wo.heap.size x (rowL (M k) j) ∧ Below wo.heap.size wo wi) (fun _ i _ => n - (intOf i).toNat)
      case atStart => exact ⟨0, _, 0, by omega, rfl, rfl, Nat.le_refl _, by rw [World.size_alloc]; exact Nat.lt_succ_self _, Ob.empty (Nat.le_refl _), (Below.refl _ _).alloc (Nat.le_refl _) _⟩
      case round =>
        obtain ⟨j, g2, c2, hj, rfl, rfl, hg0, hg1, hO, hB2⟩ := hrel
        by_cases hlt2 : j < n
        · obtain ⟨b, o, t, rfl, hb, hc, hte, hts⟩ := HR.out j hlt2
          have hcj := ((hB'.trans (hB2.mono hB'.size)).cell (p := ⟨b, o + j, none⟩) hb).trans hc
          have hkt : k * (s.size - 1 - t) ≤ 16 * 255 := Nat.mul_le_mul (by omega) (by omega)
          have hex := expr_any (k * (s.size - 1 - t)) (by omega)
          have hce : ((k * (s.size - 1 - t) : Nat) : Int) = (k : Int) * ((s.size : Int) - 1 - (t : Int)) := by
            rw [Int.natCast_mul]
            congr 1
            omega
          have hMv : Hid (Gf.al (k * (s.size - 1 - t)) = M k j) := by
            show _ = _
            rw [HMj.out k j hlt2, hte]
          rw [hce, hMv.out] at hex
          have hwr : IntKind.i64.wrap ((k : Int) * ((s.size : Int) - 1 - (t : Int))) = (k : Int) * ((s.size : Int) - 1 - (t : Int)) := IntWalk.i64_in _ (by rw [← hce]; omega)
          have hwr2 : IntKind.i64.wrap ((s.size : Int) - 1) = (s.size : Int) - 1 := IntWalk.i64_in _ (by omega)
          have hwr3 : IntKind.i64.wrap ((s.size : Int) - 1 - (t : Int)) = (s.size : Int) - 1 - (t : Int) := IntWalk.i64_in _ (by omega)
          have HEX := Lib.hid hex
          have HO := Lib.hid hO
          have HB2 := Lib.hid hB2
          have hsz := hB2.size
          clear hex hO hB2 hce hkt hc hte hMv
          go_wp2_with (first | (go_at_call 38; refine (HEX.out _).mono ?_; rintro e w' ⟨rfl, rfl⟩) | (at_builtin; refine wpList_app1 26 Try.underlying26 rfl _ _ rfl wo.heap.size g2 j c2 (rowL (M k) j) rfl (HO.out.alloc _) (by rw [rowL_length]) _ _ (M k j) rfl (cell_new _ _ _) (by omega) (by rw [World.size_alloc]; omega) ?_; intro g4 c4 w4 hO4 hK4 _))
          have hB4 := hK4 _ _ (HB2.out.alloc hsz _) (Nat.le_refl _)
          rw [← rowL_succ] at hO4
          have hlt4 := hO4.ltAt (by rw [rowL_length]) (by omega)
          clear hK4 hwr hwr2 hwr3
          go_wp2
          go_roundw
          case rel => exact ⟨j + 1, g4, c4, by omega, by go_num, rfl, hlt4.2, hlt4.1, hO4, hB4⟩
          case measure => simp [intOf]; omega
        · have hjn : j = n := by omega
          subst hjn
          have hRs2 := hRs'.below hB2 hbs'
          have hcs := hRs2 k (by rw [syn_length]; exact hlt)
          rw [Nat.zero_add, co_syn _ _ _ hlt, ← HMn.out] at hcs
          obtain ⟨xs, hxl, hOx, hxr⟩ := hRi'
          have HOX := Lib.hid hOx
          have HXR := Lib.hid hxr
          have HXL := Lib.hid hxl
          have HO := Lib.hid hO
          have HB2 := Lib.hid hB2
          have HB := Lib.hid hB'
          have HRS := Lib.hid hRs'
          have hsz := hB2.size
          have hszo := hB'.size
          clear hOx hxr hxl hO hB2 hB' hRs2 hRs'
          go_wp2_with (first | (at_builtin; refine wpList_app1 26 Try.underlying26 rfl _ _ rfl wo.heap.size g2 j c2 (rowL (M k) j) rfl (HO.out.alloc _) (by rw [rowL_length]) _ _ (M k j) rfl (cell_new _ _ _) (by omega) (by rw [World.size_alloc]; omega) ?_; clear HO; intro g4 c4 w4 hO4 hK4 _; have hB4 := hK4 _ _ (HB2.out.alloc hsz _) (Nat.le_refl _); have hz4 := hB4.size) | (at_builtin; refine wpList_appw 82 26 (.slice none 0 0) 24 Try.underlying82 infoSlB rfl (by omega) rfl _ _ rfl w.heap.size k _ xs rfl ((HOX.out.below hB4).alloc _) HXL.out.symm _ _ (.slice (some ⟨g4, 0, none⟩) (j + 1) c4) rfl (cell_new _ _ _) rfl (by omega) (by rw [World.size_alloc]; omega) ?_; intro g6 c6 w6 hO6 hG6 hat6 hlt6))
          have hal := fun o => (Below.refl w4.heap.size w4).alloc (Nat.le_refl _) o
          rw [← rowL_succ] at hO4
          have hrd4 := hO4.rdAt (by rw [rowL_length])
          have hlt4 := hO4.ltAt (by rw [rowL_length]) (by omega)
          have hown : u8.ownBlock ≠ some g4 := fun e => by
            have := (World.ownsRow.lt HOX.out g4 e).2
            omega
          have hst := Ri.step HXL.out (fun i hi => by
            obtain ⟨gj, cj, q1, q2, q3, q4⟩ := HXR.out i hi
            have q5 := q4.below hB4 q2
            have q6 := Nat.lt_of_lt_of_le q2 hz4
            exact ⟨gj, cj, q1, Nat.lt_of_lt_of_le q6 (hal _).size, q3, q5.below (hal _) q6⟩) (Nat.lt_of_lt_of_le hlt4.1 (hal _).size) hown (hrd4.below (hal _) hlt4.1) hO6 hG6 hat6
          have hbs4 : bs < w4.heap.size := Nat.lt_of_lt_of_le hbs' hz4
          have hB6 : Below w.heap.size w w6 := ((HB.out.trans (hB4.mono hszo)).trans ((hal _).mono (by omega))).grown hG6 (by rw [World.size_alloc]; omega) (fun b hb => (World.ownsRow.lt HOX.out b hb).1)
          have hRs5 := (HRS.out.below hB4 hbs').below (hal (.cells #[.slice (some ⟨g4, 0, none⟩) (j + 1) c4] 26)) hbs4
          have hRs6 : Rd w6 bs 0 (syn (bl s) p) := fun i hi => (World.cell?_of_block (hG6.block bs (by rw [World.size_alloc]; omega) (fun e => hne.out e.symm))).trans (hRs5 i hi)
          have hz6 := hG6.size
          rw [World.size_alloc] at hz6 hat6
          refine ⟨⟨k + 1, by omega, by go_num, hst, hB6, hRs6, by omega, fun e => ?_⟩, by simp [intOf]; omega⟩
          have e2 : g6 = bs := Option.some.inj e
          rcases hat6 with h | h
          · exact hne.out ((show u8.ownBlock = some g6 from h).trans (by rw [e2]))
          · omega
    · have hkp : k = p := by omega
      have hkp2 : ((k : Nat) : Int) = (p : Int) := by omega
      rw [hkp] at hRi
      rw [hkp2]
      obtain ⟨g, cg, rfl, hg0, hMx⟩ := hRi.out.mx (by omega)
      clear hlt hRi hRs hbs hne hkp hkp2 hk k
      go_wp2
      go_loopw [14] (fun i wr => ∃ (k : Nat) (N : Nat → Nat → UInt8), k ≤ n ∧ i = .int .i64 k ∧ Hid (Eqv p n M N ∧ Un p k N) ∧ Mx wr g p (n + 1) N ∧ Below w.heap.size w wr) (fun i _ => n - (intOf i).toNat)
      case atStart => exact ⟨0, M, by omega, rfl, ⟨Eqv.refl _ _ _, fun i _ j hj => by omega⟩, hMx, hB⟩
      case round =>
        clear hMx hB
        obtain ⟨k, N, hk, rfl, hE, hX, hB⟩ := hrel
        by_cases hlt : k < n
        · -- the pivot
          go_upto_block 6 with fail
          go_cut [15, 16] from 66 to 154 (fun q i wx => wx = wr ∧ ∃ d : Nat, q = .int .i64 d ∧ k ≤ d ∧ d < p ∧ Hid (N d k ≠ 0))
          case first =>
            go_wp2_with fail
            go_loopw [15, 16] (fun q i wi => ∃ t : Nat, k ≤ t ∧ t ≤ p ∧ i = .int .i64 t ∧ ((q = .int .i64 (-1) ∧ Hid (∀ r, k ≤ r → r < t → N r k = 0)) ∨ ∃ d : Nat, q = .int .i64 d ∧ k ≤ d ∧ d < p ∧ Hid (N d k ≠ 0)) ∧ wi = wr) (fun _ i _ => p - (intOf i).toNat)
            case atStart => exact ⟨k, Nat.le_refl _, by omega, rfl, .inl ⟨rfl, fun r h1 h2 => by omega⟩, rfl⟩
            case round =>
              obtain ⟨t, ht1, ht2, rfl, hq, rfl⟩ := hrel
              rcases hq with ⟨rfl, hz⟩ | ⟨d, rfl, hd1, hd2, hd3⟩
              · by_cases hlt2 : t < p
                · obtain ⟨gi, ci, hci, hgi, hne, hrd⟩ := hX.get hlt2
                  have hcb := hrd k (by rw [rowL_length]; omega)
                  rw [Nat.zero_add, co_rowL _ (by omega)] at hcb
                  by_cases h0 : N t k = 0
                  · have hb : (((N t k).toNat : Int) != 0) = false := by rw [h0]; rfl
                    have hz2 : Hid (∀ r, k ≤ r → r < t + 1 → N r k = 0) := fun r h1 h2 => by
                      rcases Nat.lt_or_ge r t with h | h
                      · exact hz.out r h1 h
                      · rw [show r = t by omega]; exact h0
                    clear h0 hrd
                    go_wp2
                    go_roundw
                    case rel => exact ⟨t + 1, by omega, by omega, by go_num, .inl ⟨rfl, hz2⟩, trivial⟩
                    case measure => simp [intOf]; omega
                  · have hb : (((N t k).toNat : Int) != 0) = true := by rw [bne_iff_ne]; exact fun e => h0 (UInt8.toNat_inj.1 (by simpa using e))
                    have H0 := Lib.hid h0
                    clear h0 hrd
                    go_wp2
                    go_roundw
                    case rel => exact ⟨t + 1, by omega, by omega, by go_num, .inr ⟨t, rfl, ht1, hlt2, H0⟩, trivial⟩
                    case measure => simp [intOf]; omega
                · exfalso
                  have hzz : ∀ i, k ≤ i → i < p → N i k = 0 := fun i h1 h2 => hz.out i h1 (by omega)
                  obtain ⟨y, y1, y2, y3⟩ := no_pivot hlt hE.out.2 hzz
                  have y4 := (hE.out.1 y).2 y3
                  rw [HM.out] at y4
                  have hat : AtOk (bl s).length (erN er) := by rw [bl_length]; exact HAT.out
                  rw [← HNL.out] at y2 y4
                  have := zr_null hat (by rw [bl_length]; omega) (by rw [HNL.out]; omega) y2 y4 (k := k) (by rw [HNL.out]; exact hlt)
                  rw [y1] at this
                  exact absurd this (by decide)
              · have hdn : ¬ (d : Int) < 0 := by omega
                by_cases hlt2 : t < p
                · go_wp2
                  go_meet
                  exact ⟨rfl, d, rfl, hd1, hd2, hd3⟩
                · go_wp2
                  go_meet
                  exact ⟨rfl, d, rfl, hd1, hd2, hd3⟩
          case rest =>
            obtain ⟨rfl, d, rfl, hd1, hd2, hd3⟩ := hcut
            have hdn : ¬ (d : Int) < 0 := by omega
            obtain ⟨gd, cd, hcd, hgd, hned, hrd⟩ := hX.get hd2
            have hkp : k < p := by omega
            obtain ⟨gk, ck, hck, hgk, hnek, hrk⟩ := hX.get hkp
            have hcd' : wc.drew.cell? ⟨g, d, none⟩ = some (.slice (some ⟨gd, 0, none⟩) (n + 1) cd) := hcd
            have hck' : wc.drew.cell? ⟨g, k, none⟩ = some (.slice (some ⟨gk, 0, none⟩) (n + 1) ck) := hck
            have hfd : wc.drew.frozen? ⟨g, d, none⟩ = false := hX.free d
            have hfk : wc.drew.frozen? ⟨g, k, none⟩ = false := hX.free k
            have hfd2 : wc.frozen? ⟨g, d, none⟩ = false := hX.free d
            have hfk2 : wc.frozen? ⟨g, k, none⟩ = false := hX.free k
            have hcd2 : (wc.setCell ⟨g, k, none⟩ (.slice (some ⟨gd, 0, none⟩) (n + 1) cd)).cell? ⟨g, d, none⟩ = some (.slice (some ⟨gd, 0, none⟩) (n + 1) cd) := by
              by_cases e : d = k
              · rw [e]
                exact World.cell?_setCell_same' _ _ _ (by rw [hck]; rfl)
              · have ha : (⟨g, k, none⟩ : Addr) ≠ ⟨g, d, none⟩ := fun h => e (by cases h; rfl)
                exact (cell_set_other _ ha _).trans hcd
            have hj1 : (d : Int) < (p : Int) := by omega
            have hj2 : (k : Int) < (p : Int) := by omega
            have hj3 : 0 ≤ (d : Int) := by omega
            have hj4 : 0 ≤ (k : Int) := by omega
            have hX2 : Hid (Mx ((wc.setCell ⟨g, k, none⟩ (.slice (some ⟨gd, 0, none⟩) (n + 1) cd)).setCell ⟨g, d, none⟩ (.slice (some ⟨gk, 0, none⟩) (n + 1) ck)).drew g p (n + 1) (swapM N k d)) := by
              have h1 := hX.set (c' := cd) hkp hgd hned hrd
              have h2 := h1.set (c' := ck) hd2 (g' := gk) (r := N k) (by simpa [World.setCell] using hgk) hnek (Rd.far (w := wc) hrk (fun e => hnek e.symm) _)
              exact h2
            have hB2 : Hid (Below w.heap.size w ((wc.setCell ⟨g, k, none⟩ (.slice (some ⟨gd, 0, none⟩) (n + 1) cd)).setCell ⟨g, d, none⟩ (.slice (some ⟨gk, 0, none⟩) (n + 1) ck)).drew) := ((hB.setCell (p := ⟨g, k, none⟩) hg0 _).setCell (p := ⟨g, d, none⟩) hg0 _).drew
            have HX := Lib.hid hX
            have HBB := Lib.hid hB
            clear hX hB hrd hrk
            go_wp2
            clear hcd hck
            go_region
            revert hX2 hB2
            generalize ((wc.setCell ⟨g, k, none⟩ (.slice (some ⟨gd, 0, none⟩) (n + 1) cd)).setCell ⟨g, d, none⟩ (.slice (some ⟨gk, 0, none⟩) (n + 1) ck)).drew = w3
            intro hX2 hB2
            obtain ⟨S1, hS1⟩ : ∃ S1, S1 = swapM N k d := ⟨_, rfl⟩
            have hS1k : S1 k k = N d k := by rw [hS1, swapM_k]
            rw [← hS1] at hX2
            have HS1 := Lib.hid hS1
            obtain ⟨g1, c1, hc1, hg1, hne1, hr1⟩ := hX2.out.get hkp
            have hb1 := hr1 k (by rw [rowL_length]; omega)
            rw [Nat.zero_add, co_rowL _ (by omega), hS1k] at hb1
            have hsc := scaled_any (rowL (S1 k) (n + 1)) (Gf.inv (N d k)) (by rw [rowL_length]; omega) (by rw [rowL_length]; omega) g1 0 c1 w3 hr1
            rw [rowL_length] at hsc
            have HSC := Lib.hid hsc
            have HIN := Lib.hid (invr_any (N d k) hd3.out)
            have hgl3 := hX2.out.lt
            clear hr1 hsc hS1 hS1k HX HBB
            go_wp2_with (first | (go_at_call 56; refine (HIN.out _).mono ?_; rintro e w' ⟨rfl, rfl⟩) | (go_at_call 69; refine HSC.out.mono ?_; rintro e w4 ⟨b4, c4, rfl, hr4, hl4, hu4, hB4⟩; rw [scL_length]; have hX4 := Lib.hid (hX2.out.below hB4); have hf4 := hX4.out.free k; have hc4 := (hB4.cell (p := ⟨g, k, none⟩) hgl3).trans hc1; clear hc1 hb1))
            rw [scL_rowL] at hr4
            have hX5 := hX4.out.set (c' := c4) hkp hu4 (by omega) hr4
            have hB5 := (hB2.out.trans (hB4.mono hB2.out.size)).setCell (p := ⟨g, k, none⟩) hg0 (.slice (some ⟨b4, 0, none⟩) (n + 1) c4)
            obtain ⟨T, hT⟩ : ∃ T, T = scaleM S1 k (Gf.inv (N d k)) := ⟨_, rfl⟩
            have hX6 : Mx (w4.setCell ⟨g, k, none⟩ (.slice (some ⟨b4, 0, none⟩) (n + 1) c4)) g p (n + 1) (clearM T k 0) := by rw [hT]; exact hX5
            have HT := Lib.hid hT
            clear hX5 hr4 hX4 hf4 hc4 hX2 hB2 hT
            revert hX6 hB5
            generalize w4.setCell ⟨g, k, none⟩ (.slice (some ⟨b4, 0, none⟩) (n + 1) c4) = w5
            intro hX6 hB5
            go_loopw [19] (fun i wi => ∃ a : Nat, a ≤ p ∧ i = .int .i64 a ∧ Mx wi g p (n + 1) (clearM T k a) ∧ Below w.heap.size w wi) (fun i _ => p - (intOf i).toNat)
            case atStart => exact ⟨0, by omega, rfl, by assumption, by assumption⟩
            case round =>
              clear hX6 hB5
              obtain ⟨a, ha, rfl, hX, hB⟩ := hrel
              by_cases hap : a < p
              · by_cases hak : a = k
                · have hn1 : clearM T k (a + 1) = clearM T k a := if_pos hak
                  rw [← hn1] at hX
                  have hbb : ((a : Int) != (k : Int)) = false := by rw [hak]; simp
                  clear hn1 hak
                  go_wp2
                  go_roundw
                  case rel => exact ⟨a + 1, by omega, by go_num, hX, hB⟩
                  case measure => simp [intOf]; omega
                · have hn1 : Hid (clearM T k (a + 1) = addMx (clearM T k a) k a) := if_neg hak
                  have hbb : ((a : Int) != (k : Int)) = true := by rw [bne_iff_ne]; omega
                  obtain ⟨C, hC⟩ : ∃ C, C = clearM T k a := ⟨_, rfl⟩
                  rw [← hC] at hX hn1
                  obtain ⟨ga, ca, hca, hga, hnea, hra⟩ := hX.get hap
                  obtain ⟨gb, cb, hcb, hgb, hneb, hrb⟩ := hX.get hkp
                  have hbyte := hra k (by rw [rowL_length]; omega)
                  rw [Nat.zero_add, co_rowL _ (by omega)] at hbyte
                  have hca' : wr.drew.cell? ⟨g, a, none⟩ = some (.slice (some ⟨ga, 0, none⟩) (n + 1) ca) := hca
                  have hcb' : wr.drew.cell? ⟨g, k, none⟩ = some (.slice (some ⟨gb, 0, none⟩) (n + 1) cb) := hcb
                  have hbyte' : wr.drew.cell? ⟨ga, k, none⟩ = some (B (C a k)) := hbyte
                  have hsc := scaled_any (rowL (C k) (n + 1)) (C a k) (by rw [rowL_length]; omega) (by rw [rowL_length]; omega) gb 0 cb wr.drew hrb
                  rw [rowL_length] at hsc
                  have HSC2 := Lib.hid hsc
                  have HXX := Lib.hid (show Mx wr.drew g p (n + 1) C from hX)
                  have HBB2 := Lib.hid (show Below w.heap.size w wr.drew from hB.drew)
                  have HRA := Lib.hid (show Rd wr.drew ga 0 (rowL (C a) (n + 1)) from hra)
                  have hk1 : (a : Int) < (p : Int) := by omega
                  have hk2 : 0 ≤ (a : Int) := by omega
                  have hk3 : (k : Int) < (n : Int) + 1 := by omega
                  have hgl4 : g < wr.drew.heap.size := hX.lt
                  have hga4 : ga < wr.drew.heap.size := hga
                  have HGL := Lib.hid hgl4
                  have HGA := Lib.hid hga4
                  clear hX hB hra hrb hsc hgl4 hga4 hga hgb hak hC
                  go_wp2
                  clear hca hcb hbyte
                  go_region_with ((first | (go_at_call 69; refine HSC2.out.mono ?_; rintro e w6 ⟨b6, c6, rfl, hr6, hl6, hu6, hB6⟩; rw [scL_length]; have hca6 := (hB6.cell (p := ⟨g, a, none⟩) HGL.out).trans hca'; have had := added_any (rowL (C a) (n + 1)) (scL (rowL (C k) (n + 1)) (C a k) (n + 1)) (by rw [rowL_length]; omega) (by rw [rowL_length]; omega) (by rw [rowL_length, scL_length]) ga 0 ca b6 0 c6 w6 (HRA.out.below hB6 HGA.out) hr6; rw [rowL_length, scL_length] at had; have HAD := Lib.hid had; clear had) | (go_at_call 70; refine HAD.out.mono ?_; rintro e w7 ⟨b7, c7, rfl, hr7, hl7, hu7, hB7⟩; rw [adL_length]; have hB67 := hB6.trans (hB7.mono hB6.size); have hX7 := Lib.hid (HXX.out.below hB67); have hf7 := hX7.out.free a; have hc7 := (hB67.cell (p := ⟨g, a, none⟩) HGL.out).trans hca')))
                  all_goals
                    rw [scL_rowL, adL_rowL] at hr7
                    have hX8 := hX7.out.set (c' := c7) hap hu7 (by have := HGL.out; have := hB6.size; omega) hr7
                    have hB8 := (HBB2.out.trans (hB67.mono HBB2.out.size)).setCell (p := ⟨g, a, none⟩) hg0 (.slice (some ⟨b7, 0, none⟩) (n + 1) c7)
                    have hX9 : Mx (w7.setCell ⟨g, a, none⟩ (.slice (some ⟨b7, 0, none⟩) (n + 1) c7)) g p (n + 1) (clearM T k (a + 1)) := by
                      rw [hn1.out]
                      exact hX8
                    clear hX8 hr7 hX7 hf7 hc7
                    go_wp2
                    go_roundw
                    case rel => exact ⟨a + 1, by omega, by go_num, hX9, hB8⟩
                    case measure => simp [intOf]; omega
              · have hap' : a = p := by omega
                have hfin : clearM T k p = stepM N p k d := by
                  unfold stepM
                  rw [HT.out, HS1.out]
                rw [hap', hfin] at hX
                have hE2 : Hid (Eqv p n M (stepM N p k d) ∧ Un p (k + 1) (stepM N p k d)) := ⟨hE.out.1.trans (eqv_step N hkp hd2 hd3.out), un_step hE.out.2 hkp hd1 hd2 hd3.out⟩
                clear hap' hfin
                go_wp2
                go_roundw
                case rel => exact ⟨k + 1, _, by omega, by go_num, hE2, hX, hB⟩
                case measure => simp [intOf]; omega
        · have hkn : k = n := by omega
          rw [hkn] at hE
          have hkb := conv_bytes s
          have hE3 := Lib.hid (show Un p n N ∧ Eqv p n M N from ⟨hE.out.2, hE.out.1⟩)
          obtain ⟨y, hy⟩ : ∃ y : Nat → UInt8, y = fun i => if i < n then N i n else 1 := ⟨_, rfl⟩
          have HY := Lib.hid hy
          clear hkn hE hy
          go_wp2
          have hbw := bytesWorld_row wr s
          have hbb := bytesWorld_below wr s
          obtain ⟨wz, hwz⟩ : ∃ wz : World, wz = wr := ⟨_, rfl⟩
          rw [← hwz] at hbw hbb hX hB ⊢
          clear hwz
          have hX0 := Lib.hid hX
          have hB0 := Lib.hid hB
          revert hbw hbb
          generalize Lib.bytesWorld wz 5 s = w2
          intro hbb hbw
          clear hX hB
          obtain ⟨go, hgoe⟩ : ∃ go, go = wz.heap.size := ⟨_, rfl⟩
          rw [← hgoe] at hbw ⊢
          have HGO := Lib.hid hgoe
          clear hgoe
          go_loopw [21] (fun i wi => ∃ a : Nat, a ≤ p ∧ i = .int .i64 a ∧ Own wi go (patchN (bl s) (erN er) y (min a n)) ∧ Below wz.heap.size wz wi ∧ Hid (∀ r, n ≤ r → r < a → N r n = 0)) (fun i _ => p - (intOf i).toNat)
          case atStart => exact ⟨0, by omega, rfl, by rw [Nat.zero_min]; exact hbw, hbb, fun r h1 h2 => by omega⟩
          case round =>
            clear hbw hbb
            obtain ⟨a, ha, rfl, hO, hBB, hz⟩ := hrel
            have hX := hX0.out.below hBB
            have hB := hB0.out.trans (hBB.mono hB0.out.size)
            by_cases hap : a < p
            · obtain ⟨ga, ca, hca, hga, hnea, hra⟩ := hX.get hap
              have hlast := hra n (by rw [rowL_length]; omega)
              rw [Nat.zero_add, co_rowL _ (by omega)] at hlast
              have hk4 : (n : Int) < (n : Int) + 1 := by omega
              by_cases han : a < n
              · obtain ⟨b, o, t, rfl, hb, hc, hte, hts⟩ := HR.out a han
                have hmin1 : min a n = a := by omega
                have hmin2 : min (a + 1) n = a + 1 := by omega
                rw [hmin1] at hO
                have hpl : (patchN (bl s) (erN er) y a).length = s.size := by rw [patchN_length, bl_length]
                have hya : y a = N a n := by rw [HY.out]; exact if_pos han
                have hat : (erN er).getD a 0 = t := by rw [erN_at (by rw [← HN.out]; exact han), hte]
                have hps : Hid (patchN (bl s) (erN er) y (a + 1) = (patchN (bl s) (erN er) y a).set t (Gf.co (patchN (bl s) (erN er) y a) t ^^^ N a n)) := by
                  show _ = _
                  rw [patchN, hat, hya]
                obtain ⟨L, hL⟩ : ∃ L, L = patchN (bl s) (erN er) y a := ⟨_, rfl⟩
                rw [← hL] at hO hpl hps
                have hcj := (hB.cell (p := ⟨b, o + a, none⟩) hb).trans hc
                have hcj' : wr.drew.cell? ⟨b, o + a, none⟩ = some (.int .i64 (t : Int)) := hcj
                have hco' : wr.drew.cell? ⟨go, t, none⟩ = some (B (Gf.co L t)) := hO.cell (j := t) (by omega)
                have hfo' : wr.drew.frozen? ⟨go, t, none⟩ = false := hO.free (j := t) (by omega)
                have hts' : (t : Int) < (s.size : Int) := by omega
                have hts0 : 0 ≤ (t : Int) := by omega
                have HO := Lib.hid (show Own wr.drew go L from hO)
                have HB := Lib.hid (show Below wz.heap.size wz wr.drew from hBB.drew)
                clear hO hX hB hBB hra hc hte hya hat hL hmin1
                go_wp2
                clear hca hlast hcj
                refine wp_region_still_tail 15 (by kernel_rfl) (by kernel_rfl) ?_
                simp only [List.take_succ_cons, List.take_zero, List.drop_succ_cons, List.drop_zero]
                change wpStill _ _ wr.drew (fun a' => wpList _ _ _ _ a' wr.drew) _ _
                revert hcj' hco' hfo' HO HB
                generalize wr.drew = w6
                intro hcj' hco' hfo' HO HB
                repeat still_step
                refine wpStill_nil ?_
                go_wp2
                rw [b_xor]
                have hO9 := HO.out.set (j := t) (by rw [hpl]; omega) (Gf.co L t ^^^ N a n)
                rw [← hps.out, ← hmin2] at hO9
                have hB9 := HB.out.setCell (p := ⟨go, t, none⟩) (by rw [HGO.out]; exact Nat.le_refl _) (B (Gf.co L t ^^^ N a n))
                have hz9 : Hid (∀ r, n ≤ r → r < a + 1 → N r n = 0) := fun r h1 h2 => by omega
                exact ⟨⟨a + 1, by omega, by go_num, hO9, hB9, hz9⟩, by simp [intOf]; omega⟩
              · have hmin1 : min a n = n := by omega
                have hmin2 : min (a + 1) n = n := by omega
                have hnt : (n : Int) ≤ (a : Int) := by omega
                by_cases h0 : N a n = 0
                · have hbz : (((N a n).toNat : Int) != 0) = false := by rw [h0]; rfl
                  have hz9 : Hid (∀ r, n ≤ r → r < a + 1 → N r n = 0) := fun r h1 h2 => by
                    rcases Nat.lt_or_ge r a with h | h
                    · exact hz.out r h1 h
                    · rw [show r = a by omega]; exact h0
                  rw [hmin1, ← hmin2] at hO
                  have HO := Lib.hid hO
                  have HB := Lib.hid hBB
                  clear h0 hO hX hB hBB hra hmin1 hmin2
                  go_wp2
                  go_roundw
                  case rel => exact ⟨a + 1, by omega, by go_num, HO.out, HB.out, hz9⟩
                  case measure => simp [intOf]; omega
                · have hbz : (((N a n).toNat : Int) != 0) = true := by rw [bne_iff_ne]; exact fun e => h0 (UInt8.toNat_inj.1 (by simpa using e))
                  have hno : Hid (¬ ∃ cw, FillsN (bl s) p (erN er) cw) := fun ⟨cw, hcw⟩ => by
                    have hat : AtOk (bl s).length (erN er) := by rw [bl_length]; exact HAT.out
                    have h := fills_no (M := N) hat (by rw [HNL.out]; exact hle') (by rw [HNL.out, ← HM.out]; exact hE3.out.2) (by rw [HNL.out]; exact hE3.out.1) hcw a (by rw [HNL.out]; omega) hap
                    rw [HNL.out] at h
                    exact h0 h
                  have HB := Lib.hid hB
                  clear h0 hO hX hB hBB hra hmin1 hmin2
                  go_wp2
                  go_ret2
                  exact ⟨HB.out, .inr ⟨hno.out, rfl⟩⟩
            · have hap' : a = p := by omega
              have hmin1 : min a n = n := by omega
              rw [hmin1] at hO
              rw [hap'] at hz
              have hpl : (patchN (bl s) (erN er) y n).length = s.size := by rw [patchN_length, bl_length]
              have hcv := conv_string hO.rd (grownCap wz s.size 0 5)
              rw [hpl] at hcv
              have hyes : Hid (FillsN (bl s) p (erN er) (patchN (bl s) (erN er) y n)) := by
                have hat : AtOk (bl s).length (erN er) := by rw [bl_length]; exact HAT.out
                have h := fills_yes (M := N) hat (p := p) (by rw [HNL.out]; exact hle') (by rw [HNL.out, ← HM.out]; exact hE3.out.2) (by rw [HNL.out]; exact hE3.out.1) (by rw [HNL.out]; exact hz.out)
                rw [HNL.out, ← HY.out] at h
                exact h
              have HB := Lib.hid hB
              clear hap' hmin1 hO hX hB hBB hz hpl
              go_wp2
              go_ret2
              exact ⟨HB.out, .inl ⟨_, hyes.out, rfl⟩⟩
end Go.Proofs.Ytjmeoeielbkkiaa
