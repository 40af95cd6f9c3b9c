import Derived.Deep.LoopGhost
import Derived.Test.YtknfkhackmnnaaaD5
import Derived.Test.YtknfkhackmnnaaaW4
set_option maxRecDepth 100000
set_option linter.unusedVariables false
set_option linter.unusedSimpArgs false
namespace Go.Proofs.Ytknfkhackmnnaaa
open Go Go.RowKit Go.Deep
/-! Decode of the product code -/
/-- the passes -/
noncomputable def decL (f : Nat) : Nat → List UInt8 → List Nat → Nat → List UInt8 × List Nat
  | 0, l, S, _ => (l, S)
  | n + 1, l, S, i => if 16 ≤ i then (l, S) else if (passW f l S 138).2.1.length < S.length then decL f n (passW f l S 138).1 (passW f l S 138).2.1 0 else if (passW f l S 138).2.2 = true then decL f n (passW f l S 138).1 (passW f l S 138).2.1 (i + 1) else ((passW f l S 138).1, (passW f l S 138).2.1)
theorem decL_end {f n i : Nat} {l : List UInt8} {S : List Nat} (h : 16 ≤ i) : decL f (n + 1) l S i = (l, S) := by simp only [decL, h, if_true]
theorem decL_fewer {f n i : Nat} {l : List UInt8} {S : List Nat} (h : ¬ 16 ≤ i) (h1 : (passW f l S 138).2.1.length < S.length) : decL f (n + 1) l S i = decL f n (passW f l S 138).1 (passW f l S 138).2.1 0 := by simp only [decL, h, h1, if_true, if_false]
theorem decL_changed {f n i : Nat} {l : List UInt8} {S : List Nat} (h : ¬ 16 ≤ i) (h1 : ¬ (passW f l S 138).2.1.length < S.length) (h2 : (passW f l S 138).2.2 = true) : decL f (n + 1) l S i = decL f n (passW f l S 138).1 (passW f l S 138).2.1 (i + 1) := by simp only [decL, h, h1, h2, if_true, if_false]
theorem decL_idle {f n i : Nat} {l : List UInt8} {S : List Nat} (h : ¬ 16 ≤ i) (h1 : ¬ (passW f l S 138).2.1.length < S.length) (h2 : (passW f l S 138).2.2 = false) : decL f (n + 1) l S i = ((passW f l S 138).1, (passW f l S 138).2.1) := by simp only [decL, h, h1, h2, if_false, Bool.false_eq_true]
noncomputable def decP (f : Nat) (l : List UInt8) (S : List Nat) : List UInt8 × List Nat := decL f (17 * S.length + 17) l S 0
theorem stepW_le (f : Nat) (l : List UInt8) (S : List Nat) (ch : Bool) (os : List Nat) : (stepW f l S ch os).2.1.length ≤ S.length := by
  unfold stepW
  split
  · exact Nat.le_refl _
  · split
    · exact List.length_filter_le _ _
    · exact Nat.le_refl _
theorem passW_le (f : Nat) (l : List UInt8) (S : List Nat) : ∀ k, (passW f l S k).2.1.length ≤ S.length
  | 0 => Nat.le_refl _
  | k + 1 => Nat.le_trans (stepW_le _ _ _ _ _) (passW_le f l S k)
open Classical in
noncomputable def decV (s : ByteArray) (m : Int) (er : List Int) : Value :=
  if (okM m = true ∧ s.size = 2352) ∧ stN (frM m) er er.length then
    if (decP (frM m) (bl s) (erN er)).2 = [] ∧ sndL (decP (frM m) (bl s) (erN er)).1 (frM m) = true then .tuple #[.string (str (decP (frM m) (bl s) (erN er)).1), .int .i64 (difK (decP (frM m) (bl s) (erN er)).1 (bl s) 2352 : Nat), .int .i64 0]
    else .tuple #[.string (str []), .int .i64 0, .int .i64 11]
  else .tuple #[.string (str []), .int .i64 0, .int .i64 1]
set_option maxRecDepth 100000 in
set_option maxHeartbeats 4000000 in
theorem pdec_any (s : ByteArray) (m : Int) (er : List Int) (A : Option Addr) (c : Nat) (hl : er.length ≤ 100000) (w : World) (h : RdI w A er) :
    Calls Try.prog 24 #[.string s, .int .i64 m, .slice A er.length c] w fun e w' => Ret1 w (decV s m er) e w' := by
  have hfr := frM_le m
  have hfi := first_any m w
  have hse := set_any (frM m) (by omega) er A c hl w h
  by_cases hk : okM m = true
  · by_cases hs : s.size = 2352
    · by_cases hst : stN (frM m) er er.length
      · have hv : decV s m er = if (decP (frM m) (bl s) (erN er)).2 = [] ∧ sndL (decP (frM m) (bl s) (erN er)).1 (frM m) = true then .tuple #[.string (str (decP (frM m) (bl s) (erN er)).1), .int .i64 (difK (decP (frM m) (bl s) (erN er)).1 (bl s) 2352 : Nat), .int .i64 0] else .tuple #[.string (str []), .int .i64 0, .int .i64 11] := by
          unfold decV
          rw [if_pos ⟨⟨hk, hs⟩, hst⟩]
        have HV := Lib.hid hv
        rw [hk] at hfi
        have HF := Lib.hid hfi
        obtain ⟨f, hf⟩ : ∃ f, f = frM m := ⟨_, rfl⟩
        rw [← hf] at HF hfr hst HV hse
        have HSE := Lib.hid hse
        have HST := Lib.hid hst
        have HS := Lib.hid hs
        have hbl : (bl s).length = 2352 := by rw [bl_length, hs]
        have HBL := Lib.hid hbl
        have hbs : ((s.size : Int) != 2352) = false := by rw [hs]; rfl
        have hcb := conv_bytes s
        rw [hs] at hcb
        have hnl : (erN er).length = er.length := by unfold erN; rw [List.length_map]
        have HNL := Lib.hid hnl
        clear hv hfi hse hst hs hbl hnl hk hf h
        go_enter Try.func24, Try.ntmps24
        go_wp2_with (first | (go_at_call 33; refine HF.out.mono ?_; rintro e w' ⟨rfl, rfl⟩) | (go_at_call 44; refine HSE.out.mono ?_; rintro e w1 ⟨hB1, ⟨hno, -⟩ | ⟨-, mb, rfl, hmb, hBS⟩⟩; exact absurd HST.out hno))
        have hO0 := bytesWorld_row w1 s
        have hBb := bytesWorld_below w1 s
        have hS0 := hBS.below hBb hBS.lt
        have hB0 := hB1.trans (hBb.mono hB1.size)
        have hbm : w1.heap.size ≠ mb := by have := hBS.lt; omega
        have hbn : w.heap.size ≤ w1.heap.size := hB1.size
        obtain ⟨cap, hcap⟩ : ∃ cap, cap = grownCap w1 2352 0 5 := ⟨_, rfl⟩
        rw [← hcap]
        obtain ⟨bb, hbb⟩ : ∃ bb, bb = w1.heap.size := ⟨_, rfl⟩
        rw [← hbb] at hbm hbn hO0 ⊢
        obtain ⟨R, hR⟩ : ∃ R, R = decP f (bl s) (erN er) := ⟨_, rfl⟩
        rw [← hR] at HV
        have HR := Lib.hid hR
        clear hR hcap hBS hB1 hBb hcb HF HSE HST
        generalize Lib.bytesWorld w1 5 s = W0 at hO0 hS0 hB0 ⊢
        clear hbb
        go_loopg [13] (17 * er.length + 17) (fun k vi wr => ∃ (L : List UInt8) (S : List Nat) (i : Nat), vi = .int .i64 (i : Int) ∧ i ≤ 16 ∧ Own wr bb L ∧ BS wr mb er.length S ∧ Below w.heap.size w wr ∧ Hid (L.length = 2352 ∧ decL f k L S i = R ∧ 17 * S.length + 16 - i < k))
        case atStart =>
          refine ⟨bl s, erN er, 0, rfl, by omega, hO0, hS0, hB0, HBL.out, ?_, ?_⟩
          · rw [HR.out, decP, HNL.out]
          · rw [HNL.out]; omega
        case round =>
          obtain ⟨L, S, i, rfl, hi, hO, hS, hB, hI⟩ := hrel
          clear hO0 hS0 hB0
          obtain ⟨k', hk'⟩ : ∃ k', gk = k' + 1 := ⟨gk - 1, by have := hI.out.2.2; omega⟩
          subst hk'
          have HLl := Lib.hid hI.out.1
          by_cases h16 : i < 16
          · have hpa := pass_any w w.heap.size bb cap mb er.length f (by omega) L HLl.out S wr hB.size hbn hmb hbm hO hS hB
            have hpl := passW_length f L S 138
            rw [HLl.out] at hpl
            have hple := passW_le f L S 138
            have h16' : ¬ 16 ≤ i := by omega
            unfold RetPass at hpa
            by_cases hfw : (passW f L S 138).2.1.length < S.length
            · have hde := decL_fewer (n := k') h16' hfw
              rw [hI.out.2.1] at hde
              have HDE : Hid (R = decL f k' (passW f L S 138).1 (passW f L S 138).2.1 0 ∧ (passW f L S 138).2.1.length < S.length ∧ (passW f L S 138).1.length = 2352) := ⟨hde, hfw, hpl⟩
              rw [decide_eq_true hfw] at hpa
              revert hpa HDE
              clear hde hfw hpl hple
              generalize (passW f L S 138).1 = L2
              generalize (passW f L S 138).2.1 = S2
              generalize (passW f L S 138).2.2 = ch
              intro hpa HDE
              have HPA := Lib.hid hpa
              clear hpa
              cases ch
              all_goals
                go_wp2_with (go_at_call 45; refine HPA.out.mono ?_; rintro e w2 ⟨rfl, hO2, hS2, hB2⟩)
                go_roundg k'
                case measure => omega
                case rel => exact ⟨L2, S2, 0, rfl, by omega, hO2, hS2, hB2, HDE.out.2.2, HDE.out.1.symm, by have := HDE.out.2.1; have := hI.out.2.2; omega⟩
            · cases hch : (passW f L S 138).2.2 with
              | true =>
                have hde := decL_changed (n := k') h16' hfw hch
                rw [hI.out.2.1] at hde
                have HDE : Hid (R = decL f k' (passW f L S 138).1 (passW f L S 138).2.1 (i + 1) ∧ (passW f L S 138).2.1.length ≤ S.length ∧ (passW f L S 138).1.length = 2352) := ⟨hde, hple, hpl⟩
                rw [decide_eq_false hfw, hch] at hpa
                revert hpa HDE
                clear hde hfw hpl hple hch
                generalize (passW f L S 138).1 = L2
                generalize (passW f L S 138).2.1 = S2
                intro hpa HDE
                have HPA := Lib.hid hpa
                clear hpa
                go_wp2_with (go_at_call 45; refine HPA.out.mono ?_; rintro e w2 ⟨rfl, hO2, hS2, hB2⟩)
                go_roundg k'
                case measure => omega
                case rel => exact ⟨L2, S2, i + 1, by go_num, by omega, hO2, hS2, hB2, HDE.out.2.2, HDE.out.1.symm, by have := HDE.out.2.1; have := hI.out.2.2; omega⟩
              | false =>
                have hde := decL_idle (n := k') h16' hfw hch
                rw [hI.out.2.1] at hde
                rw [decide_eq_false hfw, hch] at hpa
                revert hpl hpa hde
                clear hfw hple hch
                generalize (passW f L S 138).1 = L2
                generalize (passW f L S 138).2.1 = S2
                intro hpa hpl hde
                subst hde
                have HPA := Lib.hid hpa
                have HL2 := Lib.hid hpl
                clear hpa hpl
                by_cases hne : S2 = []
                · have HNE := Lib.hid hne
                  clear hne
                  cases hsn : sndL L2 f with
                  | false =>
                    have HSN := Lib.hid hsn
                    clear hsn
                    have hfin : Hid (decV s m er = .tuple #[.string (str []), .int .i64 0, .int .i64 11]) := by
                      show _ = _
                      rw [HV.out, if_neg (fun hh => by have := hh.2; rw [HSN.out] at this; cases this)]
                    go_wp2_with (first | (go_at_call 45; refine HPA.out.mono ?_; rintro e w2 ⟨rfl, hO2, hS2, hB2⟩; have hln := hS2.len 3; rw [HNE.out] at hln; have hso := sound_any L2 HL2.out f (by omega) bb cap w2 hO2.rd hO2.lt; rw [HSN.out] at hso; have HSO := Lib.hid hso; clear hso) | (go_at_call 42; refine HSO.out.mono ?_; rintro e w3 ⟨rfl, hB3⟩))
                    go_ret3
                    exact ⟨by rw [hfin.out]; rfl, hB2.trans (hB3.mono hB2.size)⟩
                  | true =>
                    have HSN := Lib.hid hsn
                    clear hsn
                    have hfin : Hid (decV s m er = .tuple #[.string (str L2), .int .i64 (difK L2 (bl s) 2352 : Nat), .int .i64 0]) := by
                      show _ = _
                      rw [HV.out, if_pos ⟨HNE.out, HSN.out⟩]
                    go_wp2_with (first | (go_at_call 45; refine HPA.out.mono ?_; rintro e w2 ⟨rfl, hO2, hS2, hB2⟩; have hln := hS2.len 3; rw [HNE.out] at hln; have hso := sound_any L2 HL2.out f (by omega) bb cap w2 hO2.rd hO2.lt; rw [HSN.out] at hso; have HSO := Lib.hid hso; clear hso) | (go_at_call 42; refine HSO.out.mono ?_; rintro e w3 ⟨rfl, hB3⟩))
                    have hO3 := hO2.below hB3 hO2.lt
                    have hB4 := hB2.trans (hB3.mono hB2.size)
                    have HO3 := Lib.hid hO3
                    clear hln hB3 hO3
                    go_loopw [16, 17, 69] (fun x _ i wr => ∃ k d : Nat, k ≤ 2352 ∧ i = .int .i64 k ∧ x = .int .i64 d ∧ d ≤ k ∧ Hid (d = difK L2 (bl s) k) ∧ ∃ mm, wr = w3.drewN mm) (fun _ _ i _ => 2352 - (intOf i).toNat)
                    case atStart => exact ⟨0, 0, by omega, rfl, rfl, by omega, rfl, 0, rfl⟩
                    case round =>
                      obtain ⟨k, d, hk2, rfl, rfl, hd, hdo, mm, rfl⟩ := hrel
                      by_cases hlt : k < 2352
                      · have hlt2 : k < s.size := by rw [HS.out]; exact hlt
                        have eb := byte_at s k hlt2
                        have hck : ∀ nn, (w3.drewN nn).cell? ⟨bb, k, none⟩ = some (.int .u8 ((Gf.co L2 k).toNat : Int)) := fun nn => HO3.out.cell (by rw [HL2.out]; exact hlt)
                        have hi0 : (0 : Int) ≤ (k : Int) := by omega
                        have hi1 : (k : Int) < (s.size : Int) := by omega
                        have hi2 : (k : Int) < 2352 := by omega
                        have hds := difK_succ L2 (bl s) k
                        by_cases he : Gf.co L2 k = Gf.co (bl s) k
                        · have hb1 : (((Gf.co L2 k).toNat : Int) != ((Gf.co (bl s) k).toNat : Int)) = false := by rw [he]; simp
                          have hn : Hid (d = difK L2 (bl s) (k + 1)) := by
                            show _ = _
                            rw [hds, if_neg (by simpa using he)]
                            exact hdo.out
                          clear hds he
                          go_wp2
                          go_quiet (fail)
                          clear eb
                          go_wp2
                          go_roundw
                          case rel => exact ⟨k + 1, d, by omega, by go_num, rfl, by omega, hn, _, rfl⟩
                          case measure => simp [intOf]; omega
                        · have hb1 : (((Gf.co L2 k).toNat : Int) != ((Gf.co (bl s) k).toNat : Int)) = true := by rw [bne_iff_ne]; exact fun e => he (u8_inj e)
                          have hn : Hid (d + 1 = difK L2 (bl s) (k + 1)) := by
                            show _ = _
                            rw [hds, if_pos he]
                            have := hdo.out
                            omega
                          clear hds he
                          go_wp2
                          go_quiet (fail)
                          clear eb
                          go_wp2
                          go_roundw
                          case rel => exact ⟨k + 1, d + 1, by omega, by go_num, by go_num, by omega, hn, _, rfl⟩
                          case measure => simp [intOf]; omega
                      · have hkp : k = 2352 := by omega
                        subst hkp
                        have hcv2 := (conv_string (W := w3.drewN mm) (l := L2) (b := bb) (off := 0) HO3.out.rd cap)
                        rw [HL2.out] at hcv2
                        go_wp2
                        go_ret3
                        exact ⟨by rw [hfin.out, hdo.out]; rfl, pw_below_drewN' hB4 _⟩
                · have hpos : 0 < S2.length := Nat.pos_of_ne_zero (fun h0 => hne (List.length_eq_zero_iff.1 h0))
                  have hfin : Hid (decV s m er = .tuple #[.string (str []), .int .i64 0, .int .i64 11]) := by
                    show _ = _
                    rw [HV.out, if_neg (fun hh => hne hh.1)]
                  clear hne
                  go_wp2_with (go_at_call 45; refine HPA.out.mono ?_; rintro e w2 ⟨rfl, hO2, hS2, hB2⟩; have hln := hS2.len 3)
                  go_ret3
                  exact ⟨by rw [hfin.out]; rfl, hB2⟩
          · have hi16 : i = 16 := by omega
            have hde := decL_end (f := f) (n := k') (l := L) (S := S) (i := i) (by omega)
            rw [hI.out.2.1] at hde
            subst hde
            subst hi16
            by_cases hne : S = []
            · have hln := hS.len 3
              rw [hne] at hln
              have HNE := Lib.hid hne
              clear hne
              cases hsn : sndL L f with
              | false =>
                have HSN := Lib.hid hsn
                have hso := sound_any L HLl.out f (by omega) bb cap wr hO.rd hO.lt
                rw [hsn] at hso
                have HSO := Lib.hid hso
                clear hso hsn
                have hfin : Hid (decV s m er = .tuple #[.string (str []), .int .i64 0, .int .i64 11]) := by
                  show _ = _
                  rw [HV.out, if_neg (fun hh => by have := hh.2; rw [HSN.out] at this; cases this)]
                go_wp2_with (go_at_call 42; refine HSO.out.mono ?_; rintro e w3 ⟨rfl, hB3⟩)
                go_ret3
                exact ⟨by rw [hfin.out]; rfl, hB.trans (hB3.mono hB.size)⟩
              | true =>
                have HSN := Lib.hid hsn
                have hso := sound_any L HLl.out f (by omega) bb cap wr hO.rd hO.lt
                rw [hsn] at hso
                have HSO := Lib.hid hso
                clear hso hsn
                have hfin : Hid (decV s m er = .tuple #[.string (str L), .int .i64 (difK L (bl s) 2352 : Nat), .int .i64 0]) := by
                  show _ = _
                  rw [HV.out, if_pos ⟨HNE.out, HSN.out⟩]
                go_wp2_with (go_at_call 42; refine HSO.out.mono ?_; rintro e w3 ⟨rfl, hB3⟩)
                have hO3 := hO.below hB3 hO.lt
                have hB4 := hB.trans (hB3.mono hB.size)
                have HO3 := Lib.hid hO3
                clear hln hB3 hO3
                go_loopw [16, 17, 69] (fun x _ i wr => ∃ k d : Nat, k ≤ 2352 ∧ i = .int .i64 k ∧ x = .int .i64 d ∧ d ≤ k ∧ Hid (d = difK L (bl s) k) ∧ ∃ mm, wr = w3.drewN mm) (fun _ _ i _ => 2352 - (intOf i).toNat)
                case atStart => exact ⟨0, 0, by omega, rfl, rfl, by omega, rfl, 0, rfl⟩
                case round =>
                  obtain ⟨k, d, hk2, rfl, rfl, hd, hdo, mm, rfl⟩ := hrel
                  by_cases hlt : k < 2352
                  · have hlt2 : k < s.size := by rw [HS.out]; exact hlt
                    have eb := byte_at s k hlt2
                    have hck : ∀ nn, (w3.drewN nn).cell? ⟨bb, k, none⟩ = some (.int .u8 ((Gf.co L k).toNat : Int)) := fun nn => HO3.out.cell (by rw [HLl.out]; exact hlt)
                    have hi0 : (0 : Int) ≤ (k : Int) := by omega
                    have hi1 : (k : Int) < (s.size : Int) := by omega
                    have hi2 : (k : Int) < 2352 := by omega
                    have hds := difK_succ L (bl s) k
                    by_cases he : Gf.co L k = Gf.co (bl s) k
                    · have hb1 : (((Gf.co L k).toNat : Int) != ((Gf.co (bl s) k).toNat : Int)) = false := by rw [he]; simp
                      have hn : Hid (d = difK L (bl s) (k + 1)) := by
                        show _ = _
                        rw [hds, if_neg (by simpa using he)]
                        exact hdo.out
                      clear hds he
                      go_wp2
                      go_quiet (fail)
                      clear eb
                      go_wp2
                      go_roundw
                      case rel => exact ⟨k + 1, d, by omega, by go_num, rfl, by omega, hn, _, rfl⟩
                      case measure => simp [intOf]; omega
                    · have hb1 : (((Gf.co L k).toNat : Int) != ((Gf.co (bl s) k).toNat : Int)) = true := by rw [bne_iff_ne]; exact fun e => he (u8_inj e)
                      have hn : Hid (d + 1 = difK L (bl s) (k + 1)) := by
                        show _ = _
                        rw [hds, if_pos he]
                        have := hdo.out
                        omega
                      clear hds he
                      go_wp2
                      go_quiet (fail)
                      clear eb
                      go_wp2
                      go_roundw
                      case rel => exact ⟨k + 1, d + 1, by omega, by go_num, by go_num, by omega, hn, _, rfl⟩
                      case measure => simp [intOf]; omega
                  · have hkp : k = 2352 := by omega
                    subst hkp
                    have hcv2 := (conv_string (W := w3.drewN mm) (l := L) (b := bb) (off := 0) HO3.out.rd cap)
                    rw [HLl.out] at hcv2
                    go_wp2
                    go_ret3
                    exact ⟨by rw [hfin.out, hdo.out]; rfl, pw_below_drewN' hB4 _⟩
            · have hln := hS.len 3
              have hpos : 0 < S.length := Nat.pos_of_ne_zero (fun h0 => hne (List.length_eq_zero_iff.1 h0))
              have hfin : Hid (decV s m er = .tuple #[.string (str []), .int .i64 0, .int .i64 11]) := by
                show _ = _
                rw [HV.out, if_neg (fun hh => hne hh.1)]
              clear hne
              go_wp2
              go_ret3
              exact ⟨by rw [hfin.out]; rfl, hB⟩
      · have hv : decV s m er = .tuple #[.string (str []), .int .i64 0, .int .i64 1] := by
          unfold decV
          rw [if_neg (fun hh => hst hh.2)]
        have HV := Lib.hid hv
        rw [hk] at hfi
        have HF := Lib.hid hfi
        have HSE := Lib.hid hse
        have HST := Lib.hid hst
        have hbs : ((s.size : Int) != 2352) = false := by rw [hs]; rfl
        clear hv hfi hse hst hs hk h
        go_enter Try.func24, Try.ntmps24
        go_wp2_with (first | (go_at_call 33; refine HF.out.mono ?_; rintro e w' ⟨rfl, rfl⟩) | (go_at_call 44; refine HSE.out.mono ?_; rintro e w1 ⟨hB1, ⟨-, rfl⟩ | ⟨hyes, -⟩⟩; rotate_left; exact absurd hyes HST.out))
        go_ret3
        exact ⟨by rw [HV.out]; rfl, hB1⟩
    · have hv : decV s m er = .tuple #[.string (str []), .int .i64 0, .int .i64 1] := by
        unfold decV
        rw [if_neg (fun hh => hs hh.1.2)]
      have HV := Lib.hid hv
      rw [hk] at hfi
      have HF := Lib.hid hfi
      have hbs : ((s.size : Int) != 2352) = true := by rw [bne_iff_ne]; omega
      clear hv hfi hse hs hk h
      go_enter Try.func24, Try.ntmps24
      go_wp2_with (go_at_call 33; refine HF.out.mono ?_; rintro e w' ⟨rfl, rfl⟩)
      go_ret3
      exact ⟨by rw [HV.out]; rfl, Below.refl _ _⟩
  · have hv : decV s m er = .tuple #[.string (str []), .int .i64 0, .int .i64 1] := by
      unfold decV
      rw [if_neg (fun hh => hk hh.1.1)]
    have HV := Lib.hid hv
    rw [show okM m = false by simpa using hk] at hfi
    have HF := Lib.hid hfi
    clear hv hfi hse hk h
    go_enter Try.func24, Try.ntmps24
    go_wp2_with (go_at_call 33; refine HF.out.mono ?_; rintro e w' ⟨rfl, rfl⟩)
    go_ret3
    exact ⟨by rw [HV.out]; rfl, Below.refl _ _⟩
end Go.Proofs.Ytknfkhackmnnaaa
