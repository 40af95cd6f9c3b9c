import Derived.Lib.QuietBelow
import Derived.Test.YtknfkhackmnnaaaE1
import Derived.Test.YtknfkhackmnnaaaPr
set_option maxRecDepth 100000
set_option linter.unusedVariables false
set_option linter.unusedSimpArgs false
namespace Go.Proofs.Ytknfkhackmnnaaa
open Go Go.RowKit Go.Deep Go.Sort
/-! the law ProductcodeErrors -/
theorem difK_set {C x : List UInt8} {o : Nat} {v : UInt8} (ho : o < x.length) (h1 : Gf.co x o = Gf.co C o) (h2 : v ≠ Gf.co C o) : ∀ n, difK C (x.set o v) n = difK C x n + if o < n then 1 else 0
  | 0 => by simp [difK]
  | n + 1 => by
    rw [difK_succ, difK_succ, difK_set ho h1 h2 n, Gf.co_set ho]
    by_cases e : n = o
    · subst e
      have h3 : ¬ (Gf.co C n ≠ Gf.co x n) := fun h => h h1.symm
      have h4 : Gf.co C n ≠ v := fun h => h2 h.symm
      simp only [if_true, h3, h4, if_false, ne_eq, not_false_eq_true, Nat.lt_irrefl, Nat.lt_succ_self]
    · rw [if_neg e]
      have e3 : (o < n + 1) ↔ (o < n) := by omega
      simp only [e3]
      omega
def keyN (o : Nat) : Nat := if 2248 ≤ o then 1000 + (o - 2248) % 52 else (o - 12) % 86
structure ErI (C : List UInt8) (f : Nat) (x : List UInt8) (U : List Nat) : Prop where
  len : x.length = 2352
  wr : ∀ o, o < 2352 → Gf.co x o ≠ Gf.co C o → f ≤ o ∧ keyN o ∈ U
  one : ∀ o o', o < 2352 → o' < 2352 → Gf.co x o ≠ Gf.co C o → Gf.co x o' ≠ Gf.co C o' → keyN o = keyN o' → o = o'
  cnt : difK C x 2352 = U.length
theorem ErI.start {C : List UInt8} {f : Nat} (h : C.length = 2352) : ErI C f C [] := ⟨h, fun o _ h => absurd rfl h, fun o _ _ _ h => absurd rfl h, by
  unfold difK
  rw [filter_none (fun i => by simp)]⟩
theorem ErI.put {C x : List UInt8} {f o : Nat} {U : List Nat} {v : UInt8} (h : ErI C f x U) (hf : f ≤ o) (ho : o < 2352) (hv : v ≠ 0) (hk : ¬ keyN o ∈ U) : ErI C f (x.set o (Gf.co x o ^^^ v)) (U ++ [keyN o]) := by
  have hl : o < x.length := by rw [h.len]; exact ho
  have h1 : Gf.co x o = Gf.co C o := Classical.byContradiction fun hne => hk (h.wr o ho hne).2
  have h2 : Gf.co x o ^^^ v ≠ Gf.co C o := fun e => hv (by
    rw [h1] at e
    have := congrArg (fun z => Gf.co C o ^^^ z) e
    simpa [← UInt8.xor_assoc] using this)
  refine ⟨by rw [List.length_set]; exact h.len, fun q hq hne => ?_, fun q q' hq hq' hne hne' he => ?_, ?_⟩
  · rw [Gf.co_set hl] at hne
    by_cases e : q = o
    · subst e
      exact ⟨hf, by simp⟩
    · rw [if_neg e] at hne
      obtain ⟨a, b⟩ := h.wr q hq hne
      exact ⟨a, List.mem_append_left _ b⟩
  · rw [Gf.co_set hl] at hne hne'
    by_cases e : q = o
    · by_cases e' : q' = o
      · rw [e, e']
      · rw [if_neg e'] at hne'
        refine absurd (h.wr q' hq' hne').2 ?_
        rw [← he, e]
        exact hk
    · rw [if_neg e] at hne
      by_cases e' : q' = o
      · refine absurd (h.wr q hq hne).2 ?_
        rw [he, e']
        exact hk
      · rw [if_neg e'] at hne'
        exact h.one q q' hq hq' hne hne' he
  · rw [difK_set hl h1 h2, if_pos ho, h.cnt, List.length_append]
    rfl
theorem ErI.dec {s : ByteArray} {C x : List UInt8} {m : Int} {U : List Nat} (h : ErI C (frM m) x U) (hm : okM m = true) (h12 : 12 ≤ frM m) (hC : EncOf (bl s) (frM m) C) : decV (str x) m [] = .tuple #[.string (str C), .int .i64 (U.length : Nat), .int .i64 0] := by
  have hd : decP (frM m) (bl (str x)) (erN []) = (C, []) := by
    rw [bl_str]
    refine error_fix hC.2.2 hC.1 h.len h12 (fun o ho hne => (h.wr o ho hne).1) (fun o o' ho ho' hne hne' he => h.one o o' (by omega) (by omega) hne hne' ?_) (fun o o' ho ho' hq hq' hne hne' he => h.one o o' hq hq' hne hne' ?_)
    · unfold keyN
      rw [if_neg (by omega), if_neg (by omega)]
      exact he
    · unfold keyN
      rw [if_pos ho, if_pos ho', he]
  rw [decV_fix hm (by rw [str_size, h.len]) hC.2.2 ⟨fun j hj => absurd hj (Nat.not_lt_zero _), fun j hj => absurd hj (Nat.not_lt_zero _)⟩ hd, bl_str, h.cnt]
theorem pair_new (w : World) (y z : Value) (t : TypeId) : (w.alloc (.cells #[y, z] t)).cell? ⟨w.heap.size, 0, none⟩ = some y ∧ (w.alloc (.cells #[y, z] t)).cell? ⟨w.heap.size, 1, none⟩ = some z := by
  unfold World.cell?
  dsimp only
  rw [heap_alloc_new]
  exact ⟨rfl, rfl⟩
theorem keyN_le (o : Nat) : keyN o ≤ 100000 := by
  unfold keyN
  split <;> omega
set_option maxRecDepth 100000 in
set_option maxHeartbeats 4000000 in
theorem perrors_law (s : ByteArray) (m : Int) (zs : List (Int × Int)) (A : Option Addr) (c : Nat) (w : World) (hr : RdP w A zs) :
    Calls Try.prog 8 #[.string s, .int .i64 m, .slice A zs.length c] w fun e w' => Ret1 w (.bool true) e w' := by
  by_cases h : okM m = true ∧ s.size = 2352
  · by_cases hz : zs.length ≤ 100
    · obtain ⟨hm, hs⟩ := h
      have HM := Lib.hid hm
      have HS := Lib.hid hs
      have hF := firstr_any m hm
      have hfr := frM_le m
      have hf12 : 12 ≤ frM m := by
        have h : m = 0 ∨ m = 1 := by simpa [okM] using hm
        rcases h with rfl | rfl <;> decide
      have HF := Lib.hid hF
      have HR := Lib.hid hr
      clear hF hm hs hr
      obtain ⟨f, hf⟩ : ∃ f, f = frM m := ⟨_, rfl⟩
      rw [← hf] at HF hfr hf12
      have HFM := Lib.hid hf
      clear hf
      have hmk := run_map0
      go_enter Try.func8, Try.ntmps8
      go_wp2_with (go_at_call 11; refine (pawake_any _).mono ?_; rintro e w1 ⟨rfl, hB1⟩)
      refine (penc_yes s m HM.out HS.out _).mono ?_
      rintro e w2 ⟨C, rfl, hx, hB2⟩
      have hB12 := hB1.trans (hB2.mono hB1.size)
      clear hB1 hB2
      have hCs : (str C).size = 2352 := by rw [str_size, hx.1]
      have hcb := conv_bytes (str C)
      have hbw := bytesWorld_row w2 (str C)
      have hbb := bytesWorld_below w2 (str C)
      rw [bl_str] at hbw
      rw [hCs] at hcb
      have HX := Lib.hid hx
      clear hx
      go_wp2_with (go_at_call 22; refine (HF.out _).mono ?_; rintro e w3 ⟨rfl, rfl⟩)
      have hms := BS.made (Lib.bytesWorld w2 5 (str C))
      have hB0 := hB12.trans (hbb.mono hB12.size)
      have hsb := hbw.lt
      have hBm : Below w.heap.size w ((Lib.bytesWorld w2 5 (str C)).alloc (.map #[] 0)) := hB0.alloc hB0.size _
      have hOm := hbw.alloc (.map #[] 0)
      have hbn := hB12.size
      have hmn := hB0.size
      obtain ⟨cap, hcap⟩ : ∃ cap, cap = grownCap w2 2352 0 5 := ⟨_, rfl⟩
      rw [← hcap]
      obtain ⟨bb, hbb2⟩ : ∃ bb, bb = w2.heap.size := ⟨_, rfl⟩
      rw [← hbb2] at hOm hsb hbn ⊢
      obtain ⟨mb, hmb2⟩ : ∃ mb, mb = (Lib.bytesWorld w2 5 (str C)).heap.size := ⟨_, rfl⟩
      rw [← hmb2] at hms hsb hmn ⊢
      have hW0 : Hid (∃ x U, Own ((Lib.bytesWorld w2 5 (str C)).alloc (.map #[] 0)) bb x ∧ BS ((Lib.bytesWorld w2 5 (str C)).alloc (.map #[] 0)) mb 0 U ∧ ErI C f x U) := ⟨C, [], hOm, hms, ErI.start HX.out.1⟩
      clear hOm hms hcap hbb2 hmb2 hbw hbb hB12 hB0 hcb hmk
      generalize (Lib.bytesWorld w2 5 (str C)).alloc (.map #[] 0) = W0 at hW0 hBm ⊢
      go_loopw [44] (fun i wr => ∃ k : Nat, k ≤ zs.length ∧ i = .int .i64 k ∧ Hid (∃ x U n, n ≤ k ∧ Own wr bb x ∧ BS wr mb n U ∧ ErI C f x U) ∧ Hid (Below w.heap.size w wr)) (fun i _ => zs.length - (intOf i).toNat)
      case atStart =>
        obtain ⟨x, U, h1, h2, h3⟩ := hW0.out
        exact ⟨0, by omega, rfl, ⟨x, U, 0, Nat.le_refl _, h1, h2, h3⟩, hBm⟩
      case round =>
        obtain ⟨k, hk, rfl, hI, hB⟩ := hrel
        clear hW0 hBm
        by_cases hlt : k < zs.length
        · obtain ⟨b, off, rfl, hbl, hcz⟩ := HR.out (by omega)
          obtain ⟨hc1, hc2⟩ := hcz k hlt
          have hd1 := (hB.out.cell (p := ⟨b, off + k * 2, none⟩) hbl).trans hc1
          have hd2 := (hB.out.cell (p := ⟨b, off + k * 2 + 1, none⟩) hbl).trans hc2
          clear hcz hc1 hc2
          revert hd1 hd2
          generalize (cp zs k).1 = z1
          generalize (cp zs k).2 = z2
          intro hd1 hd2
          have k1 : ∀ nn, ((wr.alloc (.cells #[.int .i64 z1, .int .i64 z2] 46)).drewN nn).cell? ⟨wr.heap.size, 0, none⟩ = some (.int .i64 z1) := fun nn => (pair_new _ _ _ _).1
          have k2 : ∀ nn, ((wr.alloc (.cells #[.int .i64 z1, .int .i64 z2] 46)).drewN nn).cell? ⟨wr.heap.size, 1, none⟩ = some (.int .i64 z2) := fun nn => (pair_new _ _ _ _).2
          obtain ⟨x, U, n, hnk, hO, hS, hE⟩ := hI.out
          have hBa : Below wr.heap.size wr (wr.alloc (.cells #[.int .i64 z1, .int .i64 z2] 46)) := (Below.refl _ wr).alloc (Nat.le_refl _) _
          have hO2 := hO.below hBa hO.lt
          have hS2 := hS.below hBa hS.lt
          have hB2 := hB.out.trans (hBa.mono hB.out.size)
          have hsz := hB.out.size
          have hE' := Lib.hid hE
          clear hI hB hO hS hBa hE
          obtain ⟨v, hv⟩ : ∃ v : UInt8, IntKind.u8.wrap z2 = (v.toNat : Int) := ⟨UInt8.ofNat (IntKind.u8.wrap z2).toNat, by
            have h1 : 0 ≤ IntKind.u8.wrap z2 ∧ IntKind.u8.wrap z2 < 256 := by
              rw [IntKind.wrap_u8]
              omega
            simp
            omega⟩
          go_wp2
          go_quiet (fail)
          have hO3 : Own ((wr.alloc (.cells #[.int .i64 z1, .int .i64 z2] 46)).drewN nq) bb x := hO2
          have hS3 := hS2.drewN nq
          have hB3 := pw_below_drewN' hB2 nq
          clear hO2 hS2 hB2 k1 k2 hd1 hd2 hv
          generalize (wr.alloc (.cells #[.int .i64 z1, .int .i64 z2] 46)).drewN nq = W3 at hO3 hS3 hB3 ⊢
          have HGO : Hid (∃ x U n, n ≤ k + 1 ∧ Own W3 bb x ∧ BS W3 mb n U ∧ ErI C f x U) := ⟨x, U, n, by omega, hO3, hS3, hE'.out⟩
          have HB3 := Lib.hid hB3
          by_cases h1 : z1 < (f : Int)
          · clear hO3 hS3 hB3 hE'
            go_wp2
            go_roundw
            case rel => exact ⟨k + 1, by omega, by go_num, HGO, HB3⟩
            case measure => simp [intOf]; omega
          · by_cases h2 : (2352 : Int) ≤ z1
            · clear hO3 hS3 hB3 hE'
              go_wp2
              go_roundw
              case rel => exact ⟨k + 1, by omega, by go_num, HGO, HB3⟩
              case measure => simp [intOf]; omega
            · by_cases h3 : v = 0
              · have hv0 : ((v.toNat : Int) == 0) = true := by rw [h3]; rfl
                clear hO3 hS3 hB3 hE' h3
                go_wp2
                go_roundw
                case rel => exact ⟨k + 1, by omega, by go_num, HGO, HB3⟩
                case measure => simp [intOf]; omega
              · have hv0 : ((v.toNat : Int) == 0) = false := by
                  rw [beq_eq_false_iff_ne]
                  exact fun e => h3 (u8_inj e)
                have HV := Lib.hid h3
                obtain ⟨o, ho⟩ : ∃ o : Nat, z1 = o := ⟨z1.toNat, by omega⟩
                subst ho
                have hof : f ≤ o := by omega
                have ho2 : o < 2352 := by omega
                obtain ⟨ky, hky⟩ : ∃ ky, ky = keyN o := ⟨_, rfl⟩
                have hkl := keyN_le o
                rw [← hky] at hkl
                have hlk := hS3.look hkl
                have hE'' := hE'
                have hmem : (ky ∈ U ∧ ky ∈ U) ∨ (¬ ky ∈ U ∧ ¬ ky ∈ U) := by
                  by_cases h : ky ∈ U
                  · exact .inl ⟨h, h⟩
                  · exact .inr ⟨h, h⟩
                have hcase : ((2248 : Int) ≤ (o : Int) ∧ (1000 : Int) + ((o : Int) - 2248) % 52 = (ky : Int)) ∨ ((o : Int) < 2248 ∧ ((o : Int) - 12) % 86 = (ky : Int)) := by
                  unfold keyN at hky
                  by_cases h : 2248 ≤ o
                  · rw [if_pos h] at hky
                    exact .inl ⟨by omega, by omega⟩
                  · rw [if_neg h] at hky
                    exact .inr ⟨by omega, by omega⟩
                have HKY := Lib.hid hky
                have ho0 : (0 : Int) ≤ (o : Int) := by omega
                have ho1 : (o : Int) < 2352 := by omega
                have hbx : bits .xor .u8 ((Gf.co x o).toNat : Int) (v.toNat : Int) = ((Gf.co x o ^^^ v).toNat : Int) := b_xor _ _
                have hl := hE'.out.len
                have HL := Lib.hid hl
                clear hky h3 hE' hl
                rcases hmem with ⟨hme, _⟩ | ⟨hme, _⟩
                · rw [decide_eq_true hme] at hlk
                  clear hme hO3 hS3 hB3
                  rcases hcase with ⟨hq1, hq2⟩ | ⟨hq1, hq2⟩
                  all_goals
                    go_wp2
                    go_roundw
                    case rel => exact ⟨k + 1, by omega, by go_num, HGO, HB3⟩
                    case measure => simp [intOf]; omega
                · rw [decide_eq_false hme] at hlk
                  have HME := Lib.hid hme
                  have HS3 := Lib.hid hS3
                  have HO3 := Lib.hid hO3
                  clear hme hB3 HGO hS3 hO3
                  rcases hcase with ⟨hq1, hq2⟩ | ⟨hq1, hq2⟩
                  all_goals
                    go_wp2_with (at_mapUpdate; (refine wpList_bs_store rfl _ _ _ rfl mb n U rfl HS3.out (by omega) ky (by first | rfl | exact congrArg (Value.int .i64) hq2) hkl rfl HME.out ?_; intro w5 hS5 hG5; have hO5 : Own w5 bb x := row_block HO3.out (hG5.block bb HO3.out.lt (fun e => by have := Option.some.inj e; omega)); have hcl := hO5.cell (j := o) (by rw [HL.out]; exact ho2); have hfl := hO5.free (j := o) (by rw [HL.out]; exact ho2); have HO5 := Lib.hid hO5; have HS5 := Lib.hid hS5; have HG5 := Lib.hid hG5; clear hO5 hS5 hG5 hlk))
                    have he : Value.int .u8 (((Gf.co x o).toNat ^^^ v.toNat : Nat) : Int) = B (Gf.co x o ^^^ v) := by
                      rw [← UInt8.toNat_xor]
                    rw [he]
                    go_roundw
                    case rel =>
                      refine ⟨k + 1, by omega, by go_num, ⟨_, _, n + 1, by omega, HO5.out.set (j := o) (by rw [HL.out]; exact ho2) _, HS5.out.of_block (Below.heap_setCell w5 _ _ mb (by simp; omega)), ?_⟩, ?_⟩
                      · have := hE''.out.put hof ho2 HV.out (by rw [← HKY.out]; exact HME.out)
                        rwa [← HKY.out] at this
                      · have hB5 := HB3.out.grown HG5.out HB3.out.size (fun q e => by have := Option.some.inj e; omega)
                        exact hB5.setCell (p := ⟨bb, o, none⟩) (by show _ ≤ bb; omega) _
                    case measure => simp [intOf]; omega
        · have hkp : k = zs.length := by omega
          subst hkp
          obtain ⟨x, U, n, hnk, hO, hS, hE⟩ := hI.out
          have hxs : (str x).size = 2352 := by rw [str_size, hE.len]
          have hcv := conv_string hO.rd cap
          rw [hE.len] at hcv
          have hdv : decV (str x) m [] = .tuple #[.string (str C), .int .i64 (U.length : Nat), .int .i64 0] := by
            have hE2 := hE
            have hf12' := hf12
            rw [HFM.out] at hE2 hf12'
            exact hE2.dec HM.out hf12' HX.out
          have hD := pdec_any (str x) m [] none 0 (by decide) wr (RdI.nil _ _)
          rw [hdv] at hD
          have HD := Lib.hid hD
          have HS := Lib.hid hS
          have hB1 := hB.out
          have hxx : ((str C).toList == (str C).toList) = true := beq_self_eq_true _
          clear hE hO hI hdv hD hS hB
          go_wp2_with (go_at_call 24; refine HD.out.mono ?_; rintro e w5 ⟨rfl, hB5⟩; have hln := (HS.out.below hB5 HS.out.lt).len 3)
          go_ret
          exact ⟨rfl, hB1.trans (hB5.mono hB1.size)⟩
    · have hz1 : (100 : Int) < (zs.length : Int) := by omega
      obtain ⟨hm, hs⟩ := h
      have HM := Lib.hid hm
      have HS := Lib.hid hs
      clear hm hs hz hr
      go_enter Try.func8, Try.ntmps8
      go_wp2_with (go_at_call 11; refine (pawake_any _).mono ?_; rintro e w1 ⟨rfl, hB1⟩)
      refine (penc_yes s m HM.out HS.out _).mono ?_
      rintro e w2 ⟨C, rfl, hx, hB2⟩
      have hB12 := hB1.trans (hB2.mono hB1.size)
      clear hB1 hB2 hx
      go_wp2
      go_ret
      exact ⟨rfl, hB12⟩
  · have HE := Lib.hid (fun w => penc_no s m h w)
    clear h hr
    go_enter Try.func8, Try.ntmps8
    go_wp2_with (first | (go_at_call 11; refine (pawake_any _).mono ?_; rintro e w1 ⟨rfl, hB1⟩) | (go_at_call 17; refine (HE.out _).mono ?_; rintro e w2 ⟨rfl, hB2⟩))
    go_ret
    exact ⟨rfl, hB1.trans (hB2.mono hB1.size)⟩
end Go.Proofs.Ytknfkhackmnnaaa
