import Derived.Test.YtknfkhackmnnaaaE1
import Derived.Test.YtknfkhackmnnaaaP8
import Derived.Test.YtknfkhackmnnaaaPr
set_option maxRecDepth 100000
set_option linter.unusedVariables false
set_option linter.unusedSimpArgs false
namespace Go.Proofs.Ytknfkhackmnnaaa
open Go Go.RowKit Go.Deep Go.Sort
/-! the law ProductcodeErasures -/
open Classical in
theorem stN_false {f : Nat} {er : List Int} (h : ¬ stN f er er.length) : decide (stN f er er.length) = false := decide_eq_false h
open Classical in
set_option maxRecDepth 100000 in
set_option maxHeartbeats 2000000 in
theorem erased_any (m : Int) (hm : okM m = true) (er : List Int) (A : Option Addr) (c : Nat) (hl : er.length ≤ 100000) (w : World) (h : RdI w A er) :
    Calls Try.prog 29 #[.int .i64 m, .slice A er.length c] w fun e w' => e = .returned (.bool (decide (stN (frM m) er er.length))) ∧ Below w.heap.size w w' := by
  have hF : ∀ (W : World) (n : Nat), Calls Try.prog 22 #[.int .i64 m] (W.drewN n) fun e w' => e = .returned (.int .i64 (frM m : Int)) ∧ ∃ q, w' = W.drewN q := fun W n => (firstr_any m hm _).mono (fun e w' ⟨he, hw⟩ => ⟨he, n, hw.symm⟩)
  have hm2 : (m == 0) = true ∨ ((m == 0) = false ∧ (m == 1) = true) := by
    have h : m = 0 ∨ m = 1 := by simpa [okM] using hm
    rcases h with rfl | rfl
    · exact .inl rfl
    · exact .inr ⟨rfl, rfl⟩
  have hfr := frM_le m
  obtain ⟨f, hf⟩ : ∃ f, f = frM m := ⟨_, rfl⟩
  rw [← hf] at hF hfr ⊢
  clear hf hm
  have HF := Lib.hid hF
  clear hF
  go_enter Try.func29, Try.ntmps29
  go_wp2
  go_loopw [5] (fun i wr => ∃ k : Nat, k ≤ er.length ∧ i = .int .i64 k ∧ Hid (stN f er k) ∧ Below w.heap.size w wr) (fun i _ => er.length - (intOf i).toNat)
  case atStart => exact ⟨0, by omega, rfl, stN_zero f er, Below.refl _ _⟩
  case round =>
    obtain ⟨k, hk, rfl, hP, hB⟩ := hrel
    by_cases hlt : k < er.length
    · obtain ⟨ba, oa, rfl, hba, hr⟩ := h (by omega)
      have hcn : ∀ j, j < er.length → wr.cell? ⟨ba, oa + j, none⟩ = some (.int .i64 (ci er j)) := fun j hj => (hB.cell (p := ⟨ba, oa + j, none⟩) hba).trans (hr j hj)
      have hck := hcn k hlt
      have HCN := Lib.hid hcn
      have HB : Hid (∀ n, Below w.heap.size w (wr.drewN n)) := fun n => pw_below_drewN' hB n
      clear hcn hr hB
      have hk0 : (0 : Int) ≤ (k : Int) := by omega
      have hk1 : (k : Int) < (er.length : Int) := by omega
      by_cases h0 : ci er k < (f : Int)
      · have hnP : Hid (decide (stN f er er.length) = false) := decide_eq_false fun hh => by have := hh.2 k hlt; omega
        have hd : decide (ci er k < (f : Int)) = true := decide_eq_true h0
        go_wp2
        go_quiet (exact HF.out _ _)
        go_wp2
        go_ret
        exact ⟨by rw [hnP.out]; rfl, HB.out _⟩
      · have hd : decide (ci er k < (f : Int)) = false := decide_eq_false h0
        by_cases h1 : (2352 : Int) ≤ ci er k
        · have hnP : Hid (decide (stN f er er.length) = false) := decide_eq_false fun hh => by have := (hh.1 k hlt).2.1; omega
          have hd1 : decide ((2352 : Int) ≤ ci er k) = true := decide_eq_true h1
          go_wp2
          go_quiet (exact HF.out _ _)
          go_wp2
          go_ret
          exact ⟨by rw [hnP.out]; rfl, HB.out _⟩
        · have hd1 : decide ((2352 : Int) ≤ ci er k) = false := decide_eq_false h1
          rcases k with _ | j
          · have hn : Hid (stN f er (0 + 1)) := stN_step hP.out (by omega) (by omega) (fun h => absurd h (Nat.lt_irrefl 0))
            rw [Nat.add_zero] at hck
            clear h0 h1
            go_wp2
            go_quiet (exact HF.out _ _)
            go_wp2
            go_roundw
            case rel => exact ⟨0 + 1, by omega, by go_num, hn, HB.out _⟩
            case measure => simp [intOf]; omega
          · have hcj := HCN.out j (by omega)
            have hj0 : (0 : Int) ≤ (j : Int) := by omega
            have hj1 : (j : Int) < (er.length : Int) := by omega
            have hj2 : (((j + 1 : Nat) : Int) - 1) = (j : Int) := by omega
            by_cases h2 : ci er (j + 1) ≤ ci er j
            · have hnP : Hid (decide (stN f er er.length) = false) := decide_eq_false fun hh => by have := (hh.1 (j + 1) hlt).2.2 (by omega); rw [Nat.add_sub_cancel] at this; omega
              have hd2 : decide (ci er (j + 1) ≤ ci er j) = true := decide_eq_true h2
              clear h0 h1 h2
              go_wp2
              go_quiet (exact HF.out _ _)
              go_wp2
              go_ret
              exact ⟨by rw [hnP.out]; rfl, HB.out _⟩
            · have hn : Hid (stN f er (j + 1 + 1)) := stN_step hP.out (by omega) (by omega) (fun _ => by rw [Nat.add_sub_cancel]; omega)
              have hd2 : decide (ci er (j + 1) ≤ ci er j) = false := decide_eq_false h2
              clear h0 h1 h2
              go_wp2
              go_quiet (exact HF.out _ _)
              go_wp2
              go_roundw
              case rel => exact ⟨j + 1 + 1, by omega, by go_num, hn, HB.out _⟩
              case measure => simp [intOf]; omega
    · have hkp : k = er.length := by omega
      have hY : Hid (decide (stN f er er.length) = true) := decide_eq_true (by rw [← hkp]; exact hP.out)
      clear hkp
      rcases hm2 with hm2 | ⟨hm2, hm3⟩
      all_goals
        go_wp2
        go_ret
        exact ⟨by rw [hY.out]; rfl, hB⟩
theorem stN_mem {f : Nat} {er : List Int} (h : stN f er er.length) {x : Nat} (hx : x ∈ erN er) : f ≤ x ∧ x < 2352 := by
  unfold erN at hx
  obtain ⟨z, hz, rfl⟩ := List.mem_map.1 hx
  obtain ⟨i, hi, rfl⟩ := List.getElem_of_mem hz
  have h1 := h.1 i hi
  have h2 := h.2 i hi
  have hci : ci er i = er[i] := by simp [ci, List.getD_eq_getElem?_getD, hi]
  rw [hci] at h1 h2
  omega
/-- a byte is changed at so many of the erased offsets -/
structure XrI (C : List UInt8) (er : List Int) (k : Nat) (x : List UInt8) : Prop where
  len : x.length = 2352
  ag : ∀ o, o < 2352 → Gf.co x o ≠ Gf.co C o → o ∈ erN (er.take k)
theorem XrI.step {C : List UInt8} {er : List Int} {k o : Nat} {x : List UInt8} (h : XrI C er k x) (hk : k < er.length) (ho : ci er k = (o : Int)) (ho2 : o < 2352) (v : UInt8) : XrI C er (k + 1) (x.set o v) := by
  refine ⟨by rw [List.length_set]; exact h.len, fun q hq hne => ?_⟩
  rw [erN_take_succ hk, ho]
  rw [Gf.co_set (by rw [h.len]; exact ho2)] at hne
  by_cases e : q = o
  · subst e
    simp
  · rw [if_neg e] at hne
    exact List.mem_append_left _ (h.ag q hq hne)
open Classical in
set_option maxRecDepth 100000 in
set_option maxHeartbeats 4000000 in
theorem perasures_law (s : ByteArray) (m : Int) (er : List Int) (A : Option Addr) (c : Nat) (v : UInt8) (w : World) (hr : RdI w A er) :
    Calls Try.prog 10 #[.string s, .int .i64 m, .slice A er.length c, .int .u8 (v.toNat : Int)] w fun e w' => Ret1 w (.bool true) e w' := by
  by_cases h : okM m = true ∧ s.size = 2352
  · obtain ⟨hm, hs⟩ := h
    have HM := Lib.hid hm
    have HS := Lib.hid hs
    have hf12 : 12 ≤ frM m := by
      have h : m = 0 ∨ m = 1 := by simpa [okM] using hm
      rcases h with rfl | rfl <;> decide
    have HR := Lib.hid hr
    clear hm hs hr
    by_cases hz : er.length ≤ 600
    · have hE := fun w h => erased_any m HM.out er A c (by omega) w h
      by_cases hst : stN (frM m) er er.length
      · rw [decide_eq_true hst] at hE
        have HE := Lib.hid hE
        have HST := Lib.hid hst
        have hpl := fun w h => peel_yes m er A c (by omega) w h HM.out hst
        have HPL := Lib.hid hpl
        have hzi : (er.length : Int) ≤ 600 := by omega
        clear hE hst hpl
        go_enter Try.func10, Try.ntmps10
        go_wp2_with (go_at_call 11; refine (pawake_any _).mono ?_; rintro e w1 ⟨rfl, hB1⟩)
        refine (penc_yes s m HM.out HS.out _).mono ?_
        rintro e w2 ⟨C, rfl, hx, hB2⟩
        have hB12 := hB1.trans (hB2.mono hB1.size)
        clear hB1 hB2
        have hCs : (str C).size = 2352 := by rw [str_size, hx.1]
        have HX := Lib.hid hx
        have HR2 := Lib.hid (HR.out.below (Nat.le_refl _) hB12)
        clear hx
        by_cases hT : peelR (erN er) = []
        · rw [hT] at HPL
          have HT := Lib.hid hT
          have hcb := conv_bytes (str C)
          rw [hCs] at hcb
          clear hT
          go_wp2_with (first | (go_at_call 29; refine (HE.out _ HR2.out).mono ?_; rintro e w3 ⟨rfl, hB3⟩; have hB13 := hB12.trans (hB3.mono hB12.size); have HR3 := Lib.hid (HR.out.below (Nat.le_refl _) hB13)) | (go_at_call 26; refine (HPL.out _ HR3.out).mono ?_; rintro e w4 ⟨hB4, rA, rc, rfl, hrr⟩))
          have hB14 := hB13.trans (hB4.mono hB13.size)
          have hbw := bytesWorld_row w4 (str C)
          have hbb := bytesWorld_below w4 (str C)
          rw [bl_str] at hbw
          have hB0 := hB14.trans (hbb.mono hB14.size)
          obtain ⟨cap, hcap⟩ : ∃ cap, cap = grownCap w4 2352 0 5 := ⟨_, rfl⟩
          rw [← hcap]
          obtain ⟨bb, hbb2⟩ : ∃ bb, bb = w4.heap.size := ⟨_, rfl⟩
          have hbn := hB14.size
          rw [← hbb2] at hbw hbn ⊢
          clear hcap hbb2 hbb hrr hB3 hB4 hB13 hB14 HR2 HR3 hcb hB12
          generalize Lib.bytesWorld w4 5 (str C) = W0 at hbw hB0 ⊢
          have HI0 : Hid (∃ x, Own W0 bb x ∧ XrI C er 0 x) := ⟨C, hbw, HX.out.1, fun o _ h => absurd rfl h⟩
          have HB0 := Lib.hid hB0
          clear hbw hB0
          go_loopw [58] (fun i wr => ∃ k : Nat, k ≤ er.length ∧ i = .int .i64 k ∧ Hid (∃ x, Own wr bb x ∧ XrI C er k x) ∧ Hid (Below w.heap.size w wr)) (fun i _ => er.length - (intOf i).toNat)
          case atStart => exact ⟨0, by omega, rfl, HI0, HB0⟩
          case round =>
            obtain ⟨k, hk, rfl, hI, hB⟩ := hrel
            clear HI0 HB0
            by_cases hlt : k < er.length
            · obtain ⟨b, off, rfl, hbl, hcz⟩ := HR.out (by omega)
              have hck := (hB.out.cell (p := ⟨b, off + k, none⟩) hbl).trans (hcz k hlt)
              obtain ⟨o, ho⟩ : ∃ o : Nat, ci er k = o := Int.eq_ofNat_of_zero_le (HST.out.1 k hlt).1
              have ho2 : o < 2352 := by have := (HST.out.1 k hlt).2.1; omega
              have HO := Lib.hid ho
              rw [ho] at hck
              obtain ⟨x, hx, hxi⟩ := hI.out
              have hxl := hxi.len
              have hcl := hx.cell (j := o) (by rw [hxl]; exact ho2)
              have hfl := hx.free (j := o) (by rw [hxl]; exact ho2)
              have ho0 : (0 : Int) ≤ (o : Int) := by omega
              have ho1 : (o : Int) < 2352 := by omega
              have hk0 : (0 : Int) ≤ (k : Int) := by omega
              have hk1 : (k : Int) < (er.length : Int) := by omega
              have HXI := Lib.hid hxi
              have HXO := Lib.hid hx
              have HXL := Lib.hid hxl
              clear hcz ho hI hx hxi hxl
              obtain ⟨u, hu⟩ : ∃ u : UInt8, ((v.toNat : Int) + 7 * (k : Int)) % 256 = (u.toNat : Int) := ⟨UInt8.ofNat ((v.toNat + 7 * k) % 256), by
                rw [UInt8.toNat_ofNat']
                omega⟩
              have HU := Lib.hid hu
              clear hu
              go_wp2
              rw [HU.out, b_xor]
              have hst : Hid (∃ y, Own (wr.setCell ⟨bb, o, none⟩ (.int .u8 ((Gf.co x o ^^^ u).toNat : Int))) bb y ∧ XrI C er (k + 1) y) := ⟨_, HXO.out.set (j := o) (by rw [HXL.out]; exact ho2) _, HXI.out.step hlt HO.out ho2 _⟩
              go_roundw
              case rel => exact ⟨k + 1, by omega, by go_num, hst, hB.out.setCell (p := ⟨bb, o, none⟩) (by show _ ≤ bb; omega) _⟩
              case measure => simp [intOf]; omega
            · have hkp : k = er.length := by omega
              subst hkp
              obtain ⟨x, hx, hxi⟩ := hI.out
              have hxs : (str x).size = 2352 := by rw [str_size, hxi.len]
              have hcv := conv_string hx.rd cap
              rw [hxi.len] at hcv
              have hera : EraI C (frM m) x (erN er) := ⟨hxi.len, fun o ho hne => by have := hxi.ag o ho hne; rwa [List.take_length] at this, fun o ho => stN_mem HST.out ho⟩
              have hdv : decV (str x) m er = .tuple #[.string (str C), .int .i64 (difK C x 2352 : Nat), .int .i64 0] := by
                have := decV_fix (Z := str x) (er := er) HM.out hxs HX.out.2.2 HST.out (by rw [bl_str]; exact era_fix HX.out.2.2 HX.out.1 hera HT.out)
                rwa [bl_str] at this
              have hD := pdec_any (str x) m er A c (by omega) wr (HR.out.below (Nat.le_refl _) hB.out)
              rw [hdv] at hD
              have hdf : ∀ w, Calls Try.prog 25 #[.string (str x), .string (str C)] w fun e w' => Ret1 w (.int .i64 (difK C x 2352 : Nat)) e w' := fun w => by
                have h := differ_any (str x) (str C) (by rw [hxs, hCs]) (by omega) w
                rw [bl_str, bl_str, hxs, difK_symm] at h
                exact h
              have HD := Lib.hid hD
              have HDF := Lib.hid hdf
              have HXR := Lib.hid hx
              have HXL := Lib.hid hxi.len
              have hB1 := hB.out
              have hxx : ((str C).toList == (str C).toList) = true := beq_self_eq_true _
              clear hera hdv hD hdf hxi hx hI hB
              go_wp2_with (first | (go_at_call 24; refine HD.out.mono ?_; rintro e w5 ⟨rfl, hB5⟩; have hcv2 := conv_string (HXR.out.below hB5 HXR.out.lt).rd cap; rw [HXL.out] at hcv2) | (go_at_call 25; refine (HDF.out _).mono ?_; rintro e w6 ⟨rfl, hB6⟩))
              go_ret
              exact ⟨rfl, (hB1.trans (hB5.mono hB1.size)).trans (hB6.mono (hB1.trans (hB5.mono hB1.size)).size)⟩
        · have hTp : 0 < (peelR (erN er)).length := Nat.pos_of_ne_zero (fun h0 => hT (List.length_eq_zero_iff.1 h0))
          clear hT
          go_wp2_with (first | (go_at_call 29; refine (HE.out _ HR2.out).mono ?_; rintro e w3 ⟨rfl, hB3⟩; have hB13 := hB12.trans (hB3.mono hB12.size); have HR3 := Lib.hid (HR.out.below (Nat.le_refl _) hB13)) | (go_at_call 26; refine (HPL.out _ HR3.out).mono ?_; rintro e w4 ⟨hB4, rA, rc, rfl, hrr⟩))
          go_ret
          exact ⟨rfl, hB13.trans (hB4.mono hB13.size)⟩
      · rw [decide_eq_false hst] at hE
        have HE := Lib.hid hE
        have hzi : (er.length : Int) ≤ 600 := by omega
        clear hE hst
        go_enter Try.func10, Try.ntmps10
        go_wp2_with (go_at_call 11; refine (pawake_any _).mono ?_; rintro e w1 ⟨rfl, hB1⟩)
        refine (penc_yes s m HM.out HS.out _).mono ?_
        rintro e w2 ⟨C, rfl, hx, hB2⟩
        have hB12 := hB1.trans (hB2.mono hB1.size)
        have HR2 := Lib.hid (HR.out.below (Nat.le_refl _) hB12)
        clear hB1 hB2 hx
        go_wp2_with (go_at_call 29; refine (HE.out _ HR2.out).mono ?_; rintro e w3 ⟨rfl, hB3⟩)
        go_ret
        exact ⟨rfl, hB12.trans (hB3.mono hB12.size)⟩
    · have hzi : (600 : Int) < (er.length : Int) := by omega
      clear hz
      go_enter Try.func10, Try.ntmps10
      go_wp2_with (go_at_call 11; refine (pawake_any _).mono ?_; rintro e w1 ⟨rfl, hB1⟩)
      refine (penc_yes s m HM.out HS.out _).mono ?_
      rintro e w2 ⟨C, rfl, hx, hB2⟩
      have hB12 := hB1.trans (hB2.mono hB1.size)
      clear hB1 hB2 hx
      go_wp2
      go_ret
      exact ⟨rfl, hB12⟩
  · have HE := Lib.hid (fun w => penc_no s m h w)
    clear h hr
    go_enter Try.func10, Try.ntmps10
    go_wp2_with (first | (go_at_call 11; refine (pawake_any _).mono ?_; rintro e w1 ⟨rfl, hB1⟩) | (go_at_call 17; refine (HE.out _).mono ?_; rintro e w2 ⟨rfl, hB2⟩))
    go_ret
    exact ⟨rfl, hB1.trans (hB2.mono hB1.size)⟩
theorem perasures_lawI (s : ByteArray) (m : Int) (er : List Int) (A : Option Addr) (c : Nat) (v : Int) (w : World) (hr : RdI w A er) (hv : (Lit.int .u8 v).wf = true) :
    Calls Try.prog 10 #[.string s, .int .i64 m, .slice A er.length c, .int .u8 v] w fun e w' => Ret1 w (.bool true) e w' := by
  have hv2 : 0 ≤ v ∧ v < 256 := by
    simp only [Lit.wf, Bool.and_eq_true, decide_eq_true_eq] at hv
    have e1 : IntKind.u8.min = 0 := by decide
    have e2 : IntKind.u8.max = 255 := by decide
    omega
  obtain ⟨x, rfl⟩ : ∃ x : UInt8, v = x.toNat := ⟨UInt8.ofNat v.toNat, by
    simp
    omega⟩
  exact perasures_law s m er A c x w hr
end Go.Proofs.Ytknfkhackmnnaaa
