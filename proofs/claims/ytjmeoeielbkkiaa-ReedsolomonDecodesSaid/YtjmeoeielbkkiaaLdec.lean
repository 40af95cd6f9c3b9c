/- Fill and Decode return what the definitions specify: for every input. -/
import Derived.Test.YtjmeoeielbkkiaaSf
import Derived.Test.YtjmeoeielbkkiaaAw
set_option maxRecDepth 100000
set_option linter.unusedVariables false
set_option linter.unusedSimpArgs false
namespace Go.Proofs.Ytjmeoeielbkkiaa
open Go.RowKit Go.Deep
theorem fill_det (s : ByteArray) (p : Nat) (er : List Int) (h : shp s.size p = true) : ∃ (F : ByteArray) (fe : Int), ∀ w e w', RetFill w s p er e w' → Ret1 w (.tuple #[.string F, .int .i64 fe]) e w' := by
  obtain ⟨h1, h2, h3, h4, h5⟩ := shp_true h
  by_cases hP : posN s.size er er.length
  · by_cases hx : er.length ≤ p ∧ ∃ cw, Fills (bl s) p er cw
    · obtain ⟨hle, cw, hc⟩ := hx
      refine ⟨str cw, 0, ?_⟩
      rintro w e w' ⟨hB, ⟨hn, rfl⟩ | ⟨_, _, cw', hc', rfl⟩ | ⟨_, hn, rfl⟩⟩
      · exact absurd hP hn
      · have hPb : posN (bl s).length er er.length := by rw [bl_length]; exact hP
        have e1 := fill_eq (by rw [bl_length]; omega) (by omega) hPb hle hc
        have e2 := fill_eq (by rw [bl_length]; omega) (by omega) hPb hle hc'
        rw [← e1, e2]
        exact ⟨rfl, hB⟩
      · exact absurd ⟨cw, hc⟩ (hn hle)
    · refine ⟨str [], 11, ?_⟩
      rintro w e w' ⟨hB, ⟨hn, rfl⟩ | ⟨_, hle, cw', hc', rfl⟩ | ⟨_, hn, rfl⟩⟩
      · exact absurd hP hn
      · exact absurd ⟨hle, cw', hc'⟩ hx
      · exact ⟨rfl, hB⟩
  · refine ⟨str [], 1, ?_⟩
    rintro w e w' ⟨hB, ⟨hn, rfl⟩ | ⟨hP', _⟩ | ⟨hP', _⟩⟩
    · exact ⟨rfl, hB⟩
    · exact absurd hP' hP
    · exact absurd hP' hP
theorem dec_det (s : ByteArray) (p : Nat) (er : List Int) (h : shp s.size p = true) : ∃ (F : ByteArray) (dn de : Int), ∀ w e w', RetDec w s p er e w' → Ret1 w (.tuple #[.string F, .int .i64 dn, .int .i64 de]) e w' := by
  obtain ⟨h1, h2, h3, h4, h5⟩ := shp_true h
  by_cases hP : posN s.size er er.length
  · by_cases hx : ∃ cw, Gf.Near (bl s) p (erN er) cw
    · obtain ⟨cw, hc⟩ := hx
      refine ⟨str cw, (Gf.difs (bl s) cw : Nat), 0, ?_⟩
      rintro w e w' ⟨hB, ⟨hn, rfl⟩ | ⟨_, cw', hc', rfl⟩ | ⟨_, hn, rfl⟩⟩
      · exact absurd hP hn
      · have e1 := Gf.near_unique (w := bl s) (by rw [bl_length]; omega) (by rw [bl_length]; exact pos_of hP) hc' hc
        subst e1
        exact ⟨rfl, hB⟩
      · exact absurd ⟨cw, hc⟩ hn
    · refine ⟨str [], 0, 11, ?_⟩
      rintro w e w' ⟨hB, ⟨hn, rfl⟩ | ⟨_, cw', hc', rfl⟩ | ⟨_, hn, rfl⟩⟩
      · exact absurd hP hn
      · exact absurd ⟨cw', hc'⟩ hx
      · exact ⟨rfl, hB⟩
  · refine ⟨str [], 0, 1, ?_⟩
    rintro w e w' ⟨hB, ⟨hn, rfl⟩ | ⟨hP', _⟩ | ⟨hP', _⟩⟩
    · exact ⟨rfl, hB⟩
    · exact absurd hP' hP
    · exact absurd hP' hP
theorem dec_key (s : ByteArray) (p : Int) (er : List Int) (A : Option Addr) (c : Nat) (hl : er.length ≤ 20) :
    ∃ (F D : ByteArray) (fe dn de : Int), ∀ w, RdI w A er →
      Calls Try.prog 24 #[.string s, .int .i64 p, .slice A er.length c] w (fun e w' => Ret1 w (.tuple #[.string F, .int .i64 fe]) e w') ∧
      Calls Try.prog 25 #[.string s, .int .i64 p, .slice A er.length c] w (fun e w' => Ret1 w (.tuple #[.string F, .int .i64 fe]) e w') ∧
      Calls Try.prog 21 #[.string s, .int .i64 p, .slice A er.length c] w (fun e w' => Ret1 w (.tuple #[.string D, .int .i64 dn, .int .i64 de]) e w') ∧
      Calls Try.prog 26 #[.string s, .int .i64 p, .slice A er.length c] w (fun e w' => Ret1 w (.tuple #[.string D, .int .i64 dn, .int .i64 de]) e w') := by
  by_cases h : shp s.size p = true
  · obtain ⟨q, rfl⟩ : ∃ q : Nat, p = q := Int.eq_ofNat_of_zero_le (by have := shp_true h; omega)
    obtain ⟨F, fe, hF⟩ := fill_det s q er h
    obtain ⟨D, dn, de, hD⟩ := dec_det s q er h
    exact ⟨F, D, fe, dn, de, fun w hr => ⟨(fill_yes s q er A c h (by omega) w hr).mono (fun e w' => hF w e w'), (fillr_yes s q er A c h (by omega) w hr).mono (fun e w' => hF w e w'), (decode_yes s q er A c h (by omega) w hr).mono (fun e w' => hD w e w'), (decr_yes s q er A c h (by omega) w hr).mono (fun e w' => hD w e w')⟩⟩
  · have h' : shp s.size p = false := by simpa using h
    refine ⟨str [], str [], 1, 0, 1, fun w _ => ⟨(fill_no s p A _ c h' w).mono ?_, (fillr_no s p A _ c h' w).mono ?_, (decode_no s p A _ c h' w).mono ?_, (decr_no s p A _ c h' w).mono ?_⟩⟩ <;>
    · rintro e w' ⟨rfl, rfl⟩
      exact ⟨rfl, Below.refl _ _⟩
set_option maxRecDepth 100000 in
set_option maxHeartbeats 2000000 in
theorem law_decodes (s : ByteArray) (p : Int) (er : List Int) (A : Option Addr) (c : Nat) (w : World) (hr : RdI w A er) :
    Calls Try.prog 8 #[.string s, .int .i64 p, .slice A er.length c] w fun e w' => Ret1 w (.bool true) e w' := by
  have HR := Lib.hid hr
  clear hr
  go_enter Try.func8, Try.ntmps8
  go_wp2_with (go_at_call 11; refine (awake_any _).mono ?_; rintro e w1 ⟨rfl, hB1⟩)
  refine (few_any s p er A c w1).mono ?_
  rintro e w2 ⟨⟨b, rfl, hb⟩, rfl⟩
  cases b with
  | false =>
    go_wp2
    go_ret
    exact ⟨rfl, hB1⟩
  | true =>
    obtain ⟨hs, hl⟩ := hb.out rfl
    clear hb
    obtain ⟨F, D, fe, dn, de, hk⟩ := dec_key s p er A c hl
    have HK := Lib.hid hk
    have hr1 := HR.out.below (Nat.le_refl _) hB1
    clear hk
    go_wp2_with fail
    refine (HK.out w1 hr1).1.mono ?_
    rintro e w3 ⟨rfl, hB3⟩
    have hB13 := hB1.trans (hB3.mono hB1.size)
    go_wp2_with fail
    refine (HK.out w3 (HR.out.below (Nat.le_refl _) hB13)).2.1.mono ?_
    rintro e w4 ⟨rfl, hB4⟩
    have hB14 := hB13.trans (hB4.mono hB13.size)
    go_wp2_with fail
    refine (HK.out w4 (HR.out.below (Nat.le_refl _) hB14)).2.2.1.mono ?_
    rintro e w5 ⟨rfl, hB5⟩
    have hB15 := hB14.trans (hB5.mono hB14.size)
    go_wp2_with fail
    refine (HK.out w5 (HR.out.below (Nat.le_refl _) hB15)).2.2.2.mono ?_
    rintro e w6 ⟨rfl, hB6⟩
    have hB16 := hB15.trans (hB6.mono hB15.size)
    clear hr1 hB1 hB3 hB13 hB4 hB14 hB5 hB15 hB6
    go_wp2
    go_ret
    exact ⟨rfl, hB16⟩
end Go.Proofs.Ytjmeoeielbkkiaa
