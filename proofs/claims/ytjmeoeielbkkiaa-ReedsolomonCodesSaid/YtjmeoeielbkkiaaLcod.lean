/- Encode, Syndromes and Valid return what the definitions specify: for every input. -/
import Derived.Test.YtjmeoeielbkkiaaQ4
import Derived.Test.YtjmeoeielbkkiaaAw
set_option linter.unusedVariables false
set_option linter.unusedSimpArgs false
namespace Go.Proofs.Ytjmeoeielbkkiaa
open Go.RowKit Go.Deep
theorem conv_nil (W : World) : (convert 26 9 (.slice none 0 0)).run Try.prog W = .ok (.string (str [])) W := by kernel_rfl
set_option maxRecDepth 100000 in
theorem bytesr_nil (w : World) : Calls Try.prog 16 #[.slice none 0 0, .slice none 0 0] w fun e w' => e = .returned (.bool true) ∧ w = w' := by
  have hc := conv_nil
  go_enter Try.func16, Try.ntmps16
  go_wp2
  go_ret
  exact ⟨rfl, rfl⟩
set_option maxRecDepth 100000 in
set_option maxHeartbeats 2000000 in
theorem law_codes (a : ByteArray) (p : Int) (w : World) (ha : a.size ≤ 140737488351232) :
    Calls Try.prog 3 #[.string a, .int .i64 p] w fun e w' => Ret1 w (.bool true) e w' := by
  go_enter Try.func3, Try.ntmps3
  go_wp2_with fail
  refine (awake_any _).mono ?_
  rintro e w1 ⟨rfl, hB1⟩
  by_cases hal : a.size ≤ 60
  · have hna : ¬ (60 : Int) < (a.size : Int) := by omega
    have hsyn : Hid ((∃ q : Nat, p = q ∧ shp a.size q = true) ∨ shp a.size p = false) := by
      by_cases h : shp a.size p = true
      · obtain ⟨q, rfl⟩ : ∃ q : Nat, p = q := Int.eq_ofNat_of_zero_le (by have := shp_true h; omega)
        exact .inl ⟨q, rfl, h⟩
      · exact .inr (by simpa using h)
    have henc : ∃ (X : ByteArray) (v : Int), (∀ W, Calls Try.prog 12 #[.string a, .int .i64 p] W fun e w' => Ret1 W (.tuple #[.string X, .int .i64 v]) e w') ∧ (∀ W, Calls Try.prog 13 #[.string a, .int .i64 p] W fun e w' => Ret1 W (.tuple #[.string X, .int .i64 v]) e w') := by
      by_cases hp : encOk a.size p = true
      · obtain ⟨q, rfl⟩ : ∃ q : Nat, p = q := Int.eq_ofNat_of_zero_le (by have := encOk_true hp; omega)
        obtain ⟨hq1, hq2, hq3, hq4⟩ := encOk_true hp
        by_cases hex : ∃ r : List UInt8, r.length = q ∧ Gf.IsCw (bl a ++ r) q
        · obtain ⟨r0, h1, h2⟩ := hex
          refine ⟨str (bl a ++ r0), 0, fun W => ?_, fun W => ?_⟩
          · refine (encode_yes a q hp W).mono ?_
            rintro e w' ⟨r, rfl, hr, hc, hB⟩
            rw [Gf.enc_unique (p := q) (by rw [bl_length]; omega) hr h1 hc h2]
            exact ⟨rfl, hB⟩
          · refine (encr_yes a q hp W).mono ?_
            rintro e w' ⟨r, rfl, hr, hc, hB⟩
            rw [Gf.enc_unique (p := q) (by rw [bl_length]; omega) hr h1 hc h2]
            exact ⟨rfl, hB⟩
        · refine ⟨str [], 0, fun W => ?_, fun W => ?_⟩
          · refine (encode_yes a q hp W).mono ?_
            rintro e w' ⟨r, rfl, hr, hc, hB⟩
            exact absurd ⟨r, hr, hc⟩ hex
          · refine (encr_yes a q hp W).mono ?_
            rintro e w' ⟨r, rfl, hr, hc, hB⟩
            exact absurd ⟨r, hr, hc⟩ hex
      · have hp1 : encOk a.size p = false := by simpa using hp
        refine ⟨str [], 1, fun W => ?_, fun W => ?_⟩
        · refine (encode_no a p hp1 ha W).mono ?_
          rintro e w' ⟨rfl, rfl⟩
          exact ⟨rfl, Below.refl _ _⟩
        · refine (encr_no a p hp1 ha W).mono ?_
          rintro e w' ⟨rfl, rfl⟩
          exact ⟨rfl, Below.refl _ _⟩
    obtain ⟨X, v, hE1, hE2⟩ := henc
    have HE1 := Lib.hid hE1
    have HE2 := Lib.hid hE2
    clear hE1 hE2
    go_wp2_with fail
    refine (HE1.out _).mono ?_
    rintro e w2 ⟨rfl, hB2⟩
    have hB3 := hB1.trans (hB2.mono hB1.size)
    clear hB1 hB2
    go_wp2_with fail
    refine (HE2.out _).mono ?_
    rintro e w3 ⟨rfl, hB4⟩
    have hB5 := hB3.trans (hB4.mono hB3.size)
    clear hB3 hB4
    rcases hsyn.out with ⟨q, rfl, hs⟩ | hs
    · have HS := Lib.hid hs
      clear hs
      go_wp2_with fail
      refine (syndromes_yes a q HS.out _).mono ?_
      rintro e w4 ⟨b4, c4, rfl, hO4, hb4, hc4, hB6⟩
      have hB7 := hB5.trans (hB6.mono hB5.size)
      clear hB5 hB6
      go_wp2_with fail
      refine (synr_yes a q HS.out _).mono ?_
      rintro e w5 ⟨b5, c5, rfl, hR5, hb5, hB8⟩
      have hB9 := hB7.trans (hB8.mono hB7.size)
      have hO5 := hO4.below hB8 hO4.lt
      have hby := bytesr_any (syn (bl a) q) (syn (bl a) q) b4 0 c4 b5 0 c5 w5 hO5.rd hR5 rfl
      have HBY := Lib.hid hby
      clear hB7 hB8 hby hO4
      go_wp2_with fail
      refine HBY.out.mono ?_
      rintro e w6 ⟨rfl, rfl⟩
      go_wp2_with fail
      refine (valid_any _ _ _).mono ?_
      rintro e w7 ⟨rfl, hB10⟩
      go_wp2_with fail
      refine (validr_any _ _ _).mono ?_
      rintro e w8 ⟨rfl, hB11⟩
      have hB12 := hB9.trans (hB10.mono hB9.size)
      go_wp2_with fail
      go_ret
      exact ⟨rfl, hB12.trans (hB11.mono hB12.size)⟩
    · have HS := Lib.hid hs
      clear hs
      go_wp2_with fail
      refine (syndromes_no a p HS.out _).mono ?_
      rintro e w4 ⟨rfl, rfl⟩
      go_wp2_with fail
      refine (synr_no a p HS.out _).mono ?_
      rintro e w5 ⟨rfl, rfl⟩
      go_wp2_with fail
      refine (bytesr_nil _).mono ?_
      rintro e w6 ⟨rfl, rfl⟩
      go_wp2_with fail
      refine (valid_any _ _ _).mono ?_
      rintro e w7 ⟨rfl, hB10⟩
      go_wp2_with fail
      refine (validr_any _ _ _).mono ?_
      rintro e w8 ⟨rfl, hB11⟩
      have hB12 := hB5.trans (hB10.mono hB5.size)
      go_wp2_with fail
      go_ret
      exact ⟨rfl, hB12.trans (hB11.mono hB12.size)⟩
  · go_wp2_with fail
    go_ret
    exact ⟨rfl, hB1⟩
end Go.Proofs.Ytjmeoeielbkkiaa
