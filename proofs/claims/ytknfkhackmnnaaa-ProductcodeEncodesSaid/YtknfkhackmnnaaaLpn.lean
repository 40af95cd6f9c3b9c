import Derived.Test.YtknfkhackmnnaaaW5
import Derived.Test.YtknfkhackmnnaaaW7
import Derived.Test.YtknfkhackmnnaaaP6
set_option maxRecDepth 100000
set_option linter.unusedVariables false
set_option linter.unusedSimpArgs false
namespace Go.Proofs.Ytknfkhackmnnaaa
open Go Go.RowKit Go.Deep
/-! the law ProductcodeEncodes -/
set_option maxRecDepth 100000 in
set_option maxHeartbeats 4000000 in
theorem pencodes_law (s : ByteArray) (m : Int) (hs : s.size ≤ 140737488351232) (w : World) :
    Calls Try.prog 5 #[.string s, .int .i64 m] w fun e w' => Ret1 w (.bool true) e w' := by
  by_cases hl : s.size ≤ 2400
  · have hnl : ¬ (2400 : Int) < (s.size : Int) := by omega
    have hpe : ∀ b : Bool, (b == b) = true := fun b => by cases b <;> rfl
    have HV : Hid (∀ w, Calls Try.prog 19 #[.string s, .int .i64 m] w fun e w' => Ret1 w (.bool (pvl s m)) e w') := pvalid_any s m
    have HVR : Hid (∀ w, Calls Try.prog 20 #[.string s, .int .i64 m] w fun e w' => Ret1 w (.bool (pvl s m)) e w') := pvalidr_any s m
    revert HV HVR
    generalize pvl s m = v
    intro HV HVR
    by_cases h : okM m = true ∧ s.size = 2352
    · have H := Lib.hid h
      clear h
      go_enter Try.func5, Try.ntmps5
      go_wp2_with (go_at_call 11; refine (pawake_any _).mono ?_; rintro e w1 ⟨rfl, hB1⟩)
      refine (penc_yes s m H.out.1 H.out.2 _).mono ?_
      rintro e w2 ⟨x, rfl, hx, hB2⟩
      have hB12 := hB1.trans (hB2.mono hB1.size)
      clear hB1 hB2
      go_wp2_with fail
      refine (pencr_yes s m H.out.1 H.out.2 _).mono ?_
      rintro e w3 ⟨y, rfl, hy, hB3⟩
      have hB13 := hB12.trans (hB3.mono hB12.size)
      clear hB12 hB3
      have hxy : y = x := hy.unique (Nat.le_trans (frM_le m) (by omega)) hx (fun o _ => rfl)
      subst hxy
      clear hx hy
      generalize str y = X
      cases v with
      | true =>
        go_wp2_with (first | (go_at_call 19; refine (HV.out _).mono ?_; rintro e w4 ⟨rfl, hB4⟩) | (go_at_call 20; refine (HVR.out _).mono ?_; rintro e w5 ⟨rfl, hB5⟩))
        go_ret
        exact ⟨rfl, (hB13.trans (hB4.mono hB13.size)).trans (hB5.mono (hB13.trans (hB4.mono hB13.size)).size)⟩
      | false =>
        go_wp2_with (first | (go_at_call 19; refine (HV.out _).mono ?_; rintro e w4 ⟨rfl, hB4⟩) | (go_at_call 20; refine (HVR.out _).mono ?_; rintro e w5 ⟨rfl, hB5⟩))
        go_ret
        exact ⟨rfl, (hB13.trans (hB4.mono hB13.size)).trans (hB5.mono (hB13.trans (hB4.mono hB13.size)).size)⟩
    · have H := Lib.hid h
      clear h
      go_enter Try.func5, Try.ntmps5
      go_wp2_with (go_at_call 11; refine (pawake_any _).mono ?_; rintro e w1 ⟨rfl, hB1⟩)
      refine (penc_no s m H.out _).mono ?_
      rintro e w2 ⟨rfl, hB2⟩
      have hB12 := hB1.trans (hB2.mono hB1.size)
      clear hB1 hB2
      go_wp2_with fail
      refine (pencr_no s m H.out _).mono ?_
      rintro e w3 ⟨rfl, hB3⟩
      have hB13 := hB12.trans (hB3.mono hB12.size)
      clear hB12 hB3
      generalize str [] = X
      cases v with
      | true =>
        go_wp2_with (first | (go_at_call 19; refine (HV.out _).mono ?_; rintro e w4 ⟨rfl, hB4⟩) | (go_at_call 20; refine (HVR.out _).mono ?_; rintro e w5 ⟨rfl, hB5⟩))
        go_ret
        exact ⟨rfl, (hB13.trans (hB4.mono hB13.size)).trans (hB5.mono (hB13.trans (hB4.mono hB13.size)).size)⟩
      | false =>
        go_wp2_with (first | (go_at_call 19; refine (HV.out _).mono ?_; rintro e w4 ⟨rfl, hB4⟩) | (go_at_call 20; refine (HVR.out _).mono ?_; rintro e w5 ⟨rfl, hB5⟩))
        go_ret
        exact ⟨rfl, (hB13.trans (hB4.mono hB13.size)).trans (hB5.mono (hB13.trans (hB4.mono hB13.size)).size)⟩
  · have hnl : (2400 : Int) < (s.size : Int) := by omega
    clear hl
    go_enter Try.func5, Try.ntmps5
    go_wp2_with (go_at_call 11; refine (pawake_any _).mono ?_; rintro e w1 ⟨rfl, hB1⟩)
    go_ret
    exact ⟨rfl, hB1⟩
end Go.Proofs.Ytknfkhackmnnaaa
