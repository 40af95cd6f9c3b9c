import Derived.Lib.QuietBelow
import Derived.Test.YtknfkhackmnnaaaW5
import Derived.Test.YtknfkhackmnnaaaRa
import Derived.Test.YtknfkhackmnnaaaW7
set_option maxRecDepth 100000
set_option linter.unusedVariables false
set_option linter.unusedSimpArgs false
namespace Go.Proofs.Ytknfkhackmnnaaa
open Go Go.RowKit Go.Deep Go.Sort
/-! the law ProductcodeLinear -/
theorem okM_cases {m : Int} (h : okM m = true) : m = 0 ∨ m = 1 := by simpa [okM] using h
theorem frM_lt (m : Int) : frM m ≤ 2000 := Nat.le_trans (frM_le m) (by omega)
theorem pvl_enc {a L : List UInt8} {m : Int} (hm : okM m = true) (h : EncOf a (frM m) L) : pvl (str L) m = true := by
  unfold pvl
  rw [hm, str_size, h.1, bl_str, h.2.2]
  rfl
theorem EncOf.self {a L : List UInt8} {f : Nat} (h : EncOf a f L) : EncOf L f L := ⟨h.1, fun o _ => rfl, h.2.2⟩
theorem enc_head {s : ByteArray} {L : List UInt8} {f : Nat} (hs : s.size = 2352) (h : EncOf (bl s) f L) : ((str L).extract 0 2076).toList = (s.extract 0 2076).toList := by
  rw [ByteArray.toList_eq, ByteArray.toList_eq]
  have e : L.take 2076 = (bl s).take 2076 := by
    refine Gf.co_ext (by rw [List.length_take, List.length_take, bl_length, h.1, hs]) fun i hi => ?_
    rw [List.length_take, h.1] at hi
    rw [Gf.co_take (by omega), Gf.co_take (by omega), h.2.1 i (by omega)]
  simpa [bl, str] using e
set_option maxRecDepth 100000 in
set_option maxHeartbeats 4000000 in
theorem plinear_law (a b : ByteArray) (m : Int) (ha : a.size ≤ 140737488351232) (hb : b.size ≤ 140737488351232) (w : World) :
    Calls Try.prog 6 #[.string a, .string b, .int .i64 m] w fun e w' => Ret1 w (.bool true) e w' := by
  by_cases hA : a.size = 2352
  · by_cases hB : b.size = 2352
    · by_cases hm : okM m = true
      · have hm2 := okM_cases hm
        have hm3 : (m != 0) = false ∨ ((m != 0) = true ∧ (m != 1) = false) := by
          rcases hm2 with h | h <;> subst h
          · exact .inl rfl
          · exact .inr ⟨rfl, rfl⟩
        have HA := Lib.hid hA
        have HB := Lib.hid hB
        have HM := Lib.hid hm
        have HX : Hid (∀ w, Calls Try.prog 21 #[.string a, .string b] w fun e w' => Ret1 w (.string (str (Gf.xorL (bl a) (bl b)))) e w') := fun w => xor_any a b (by rw [hA, hB]) (by omega) w
        have HXs : Hid ((str (Gf.xorL (bl a) (bl b))).size = 2352) := by
          show _ = _
          rw [str_size, Gf.xorL_length (by rw [bl_length, bl_length, hA, hB]), bl_length, hA]
        clear hm hm2 ha hb
        go_enter Try.func6, Try.ntmps6
        go_wp2_with (go_at_call 11; refine (pawake_any _).mono ?_; rintro e w1 ⟨rfl, hB1⟩)
        refine (penc_yes a m HM.out HA.out _).mono ?_
        rintro e w2 ⟨x, rfl, hx, hB2⟩
        have hB12 := hB1.trans (hB2.mono hB1.size)
        clear hB1 hB2
        rcases hm3 with hm3 | ⟨hm4, hm3⟩
        all_goals
          go_wp2_with fail
          refine (penc_yes b m HM.out HB.out _).mono ?_
          rintro e w3 ⟨y, rfl, hy, hB3⟩
          have hB13 := hB12.trans (hB3.mono hB12.size)
          clear hB12 hB3
          go_wp2_with fail
          refine (HX.out _).mono ?_
          rintro e w4 ⟨rfl, hB4⟩
          have hB14 := hB13.trans (hB4.mono hB13.size)
          clear hB13 hB4
          go_wp2_with fail
          refine (penc_yes (str (Gf.xorL (bl a) (bl b))) m HM.out HXs.out _).mono ?_
          rintro e w5 ⟨z, rfl, hz, hB5⟩
          have hB15 := hB14.trans (hB5.mono hB14.size)
          clear hB14 hB5
          rw [bl_str] at hz
          have hze : z = Gf.xorL x y := hz.unique (frM_lt m) (hx.xor (by rw [bl_length, bl_length, HA.out, HB.out]) hy) (fun o _ => rfl)
          subst hze
          go_wp2_with fail
          refine (penc_yes (str x) m HM.out (by rw [str_size, hx.1]) _).mono ?_
          rintro e w6 ⟨t, rfl, ht, hB6⟩
          have hB16 := hB15.trans (hB6.mono hB15.size)
          clear hB15 hB6
          rw [bl_str] at ht
          have hte : t = x := ht.unique (frM_lt m) hx.self (fun o _ => rfl)
          subst hte
          have hXs : (str t).size = 2352 := by rw [str_size, hx.1]
          have hYs : (str y).size = 2352 := by rw [str_size, hy.1]
          have hXe := enc_head HA.out hx
          have hxx := fun w => xor_any (str t) (str y) (by rw [hXs, hYs]) (by omega) w
          rw [bl_str, bl_str] at hxx
          have hpv : ∀ w, Calls Try.prog 19 #[.string (str t), .int .i64 m] w fun e w' => Ret1 w (.bool true) e w' := fun w => by
            have h := pvalid_any (str t) m w
            rw [pvl_enc HM.out hx] at h
            exact h
          have hA' := HA.out
          generalize str (Gf.xorL t y) = Z at hxx ⊢
          generalize str t = X at hXs hXe hxx hpv ⊢
          generalize str y = Y at hYs hxx ⊢
          have cV : ∀ W d os, Calls Try.prog 19 #[.string X, .int .i64 m] (grow (redrawn W d) os) fun e w'' => e = .returned (.bool true) ∧ ∃ p : Regrown, w'' = grow (redrawn W p.d) p.os := fun W d os => Calls.regrown_of (hpv _)
          have cX : ∀ W d os, Calls Try.prog 21 #[.string X, .string Y] (grow (redrawn W d) os) fun e w'' => e = .returned (.string Z) ∧ ∃ p : Regrown, w'' = grow (redrawn W p.d) p.os := fun W d os => Calls.regrown_of (hxx _)
          have hXe2 : ((X.extract 0 2076).toList == (a.extract 0 2076).toList) = true := by rw [hXe]; exact beq_self_eq_true _
          clear hx hy hz ht hxx hpv hXe HX HXs HA HB
          go_wp2
          refine wp_region_quiet_below (by kernel_rfl) (by kernel_rfl) ?_
          repeat (quiet_step (first | exact cV _ _ _ | exact cX _ _ _))
          refine wpQuiet_nil ?_
          intro _ hw'
          obtain ⟨⟨dq, osq⟩, hw''⟩ := hw'
          subst hw''
          go_wp2
          go_ret
          exact ⟨rfl, hB16.trans ((below_regrown w6 dq osq).mono hB16.size)⟩
      · have hm1 : okM m = false := by simpa using hm
        have h0 : (m != 0) = true := by rw [bne_iff_ne]; intro e; subst e; exact hm rfl
        have h1 : (m != 1) = true := by rw [bne_iff_ne]; intro e; subst e; exact hm rfl
        have hpv : ∀ w, Calls Try.prog 19 #[.string a, .int .i64 m] w fun e w' => Ret1 w (.bool false) e w' := fun w => by
          have h := pvalid_any a m w
          rw [show pvl a m = false by unfold pvl; rw [hm1]; rfl] at h
          exact h
        have HE := Lib.hid (fun w => penc_no a m (fun h => hm h.1) w)
        have HV := Lib.hid hpv
        have hst : (str []).toList.isEmpty = true := by rw [ByteArray.toList_eq]; rfl
        clear hm hm1 hpv
        go_enter Try.func6, Try.ntmps6
        go_wp2_with (first | (go_at_call 11; refine (pawake_any _).mono ?_; rintro e w1 ⟨rfl, hB1⟩) | (go_at_call 17; refine (HE.out _).mono ?_; rintro e w2 ⟨rfl, hB2⟩) | (go_at_call 19; refine (HV.out _).mono ?_; rintro e w3 ⟨rfl, hB3⟩))
        go_ret
        exact ⟨rfl, (hB1.trans (hB2.mono hB1.size)).trans (hB3.mono (hB1.trans (hB2.mono hB1.size)).size)⟩
    · have hb1 : ((b.size : Int) != 2352) = true := by rw [bne_iff_ne]; omega
      clear hB
      go_enter Try.func6, Try.ntmps6
      go_wp2_with (go_at_call 11; refine (pawake_any _).mono ?_; rintro e w1 ⟨rfl, hB1⟩)
      go_ret
      exact ⟨rfl, hB1⟩
  · have hb1 : ((a.size : Int) != 2352) = true := by rw [bne_iff_ne]; omega
    clear hA
    go_enter Try.func6, Try.ntmps6
    go_wp2_with (go_at_call 11; refine (pawake_any _).mono ?_; rintro e w1 ⟨rfl, hB1⟩)
    go_ret
    exact ⟨rfl, hB1⟩
end Go.Proofs.Ytknfkhackmnnaaa
