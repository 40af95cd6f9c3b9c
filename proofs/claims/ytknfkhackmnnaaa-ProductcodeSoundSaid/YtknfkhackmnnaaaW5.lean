import Derived.Test.YtknfkhackmnnaaaW4
set_option maxRecDepth 100000
set_option linter.unusedVariables false
set_option linter.unusedSimpArgs false
namespace Go.Proofs.Ytknfkhackmnnaaa
open Go Go.RowKit Go.Deep
/-! the examples of the chapter -/
theorem zero_rep (w : World) : ∃ Z : ByteArray, Z = str (List.replicate 2352 0) ∧ ∀ w : World, Calls Try.prog 30 #[.string ⟨#[0]⟩, .int .i64 2352] w fun e w' => Ret1 w (.string Z) e w' := by
  refine ⟨_, rfl, fun w => (Try.strings_Repeat ⟨#[0]⟩ 2352 w (by omega) (by decide)).mono ?_⟩
  rintro e w' ⟨rfl, hB⟩
  refine ⟨?_, hB⟩
  have h := Lib.repeatL_replicate (0 : UInt8) 1 2352
  rw [Nat.mul_one] at h
  show Ending.returned (.string ⟨(Lib.repeatL (List.replicate 1 0) 2352).toArray⟩) = _
  rw [h]
  rfl
theorem pw0 : ∀ w : World, Calls Try.prog 12 #[.int .i64 0] w fun e w' => ∃ b c, e = .returned (.tuple #[.slice (some ⟨b, 0, none⟩) 26 c, .int .i64 0]) ∧ b < w'.heap.size ∧ w'.cell? ⟨b, 0, none⟩ = some (.int .i64 12) ∧ w'.cell? ⟨b, 1, none⟩ = some (.int .i64 98) ∧ w'.cell? ⟨b, 25, none⟩ = some (.int .i64 2162) ∧ Below w.heap.size w w' := fun w => by
  refine (pword_yes 0 (by omega) w).mono ?_
  rintro e w' ⟨b, c, rfl, h0, h1, hc, hB, _⟩
  rw [pwI_length] at hc ⊢
  exact ⟨b, c, rfl, h1, hc 0 (by omega), hc 1 (by omega), hc 25 (by omega), hB⟩
theorem qw0 : ∀ w : World, Calls Try.prog 13 #[.int .i64 0] w fun e w' => ∃ b c, e = .returned (.tuple #[.slice (some ⟨b, 0, none⟩) 45 c, .int .i64 0]) ∧ b < w'.heap.size ∧ w'.cell? ⟨b, 1, none⟩ = some (.int .i64 100) ∧ w'.cell? ⟨b, 43, none⟩ = some (.int .i64 2248) ∧ w'.cell? ⟨b, 44, none⟩ = some (.int .i64 2300) ∧ Below w.heap.size w w' := fun w => by
  refine (qword_yes 0 (by omega) w).mono ?_
  rintro e w' ⟨b, c, rfl, h0, h1, hc, hB, _⟩
  rw [qwL_length] at hc ⊢
  exact ⟨b, c, rfl, h1, hc 1 (by omega), hc 43 (by omega), hc 44 (by omega), hB⟩
set_option maxRecDepth 100000 in
set_option maxHeartbeats 2000000 in
theorem pawake_any (w : World) : Calls Try.prog 11 #[] w fun e w' => Ret1 w (.bool true) e w' := by
  obtain ⟨Z, hZ, hR⟩ := zero_rep w
  have hV : ∀ w : World, Calls Try.prog 19 #[.string Z, .int .i64 0] w fun e w' => Ret1 w (.bool true) e w' := fun w => by
    have h := pvalid_any Z 0 w
    have hp : pvl Z 0 = true := by
      unfold pvl
      rw [hZ, str_size, List.length_replicate, bl_str, snd_zero]
      decide
    rw [hp] at h
    exact h
  have HR := Lib.hid hR
  have HV := Lib.hid hV
  clear hZ hR hV
  go_enter Try.func11, Try.ntmps11
  go_wp2_with fail
  refine (pw0 _).mono ?_
  rintro e w1 ⟨b1, c1, rfl, hb1, p0, p1, p25, hB1⟩
  go_wp2_with fail
  refine (qw0 _).mono ?_
  rintro e w2 ⟨b2, c2, rfl, hb2, q1, q43, q44, hB2⟩
  go_wp2_with fail
  refine (HR.out _).mono ?_
  rintro e w3 ⟨rfl, hB3⟩
  have hB23 := hB2.trans (hB3.mono hB2.size)
  have P0 := (hB23.cell (p := ⟨b1, 0, none⟩) hb1).trans p0
  have P1 := (hB23.cell (p := ⟨b1, 1, none⟩) hb1).trans p1
  have P25 := (hB23.cell (p := ⟨b1, 25, none⟩) hb1).trans p25
  have Q1 := (hB3.cell (p := ⟨b2, 1, none⟩) hb2).trans q1
  have Q43 := (hB3.cell (p := ⟨b2, 43, none⟩) hb2).trans q43
  have Q44 := (hB3.cell (p := ⟨b2, 44, none⟩) hb2).trans q44
  have hB := hB1.trans (hB23.mono hB1.size)
  clear p0 p1 p25 q1 q43 q44 hB1 hB2 hB3 hB23
  go_wp2_with (go_at_call 19; refine (HV.out _).mono ?_; rintro e w4 ⟨rfl, hB4⟩)
  go_ret
  exact ⟨rfl, hB.trans (hB4.mono hB.size)⟩
end Go.Proofs.Ytknfkhackmnnaaa
