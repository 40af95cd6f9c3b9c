/- Encoding is linear and systematic, and a codeword is valid: for every input. -/
import Derived.Test.YtjmeoeielbkkiaaAw
import Derived.Test.YtjmeoeielbkkiaaRa
set_option linter.unusedVariables false
set_option linter.unusedSimpArgs false
namespace Go.Proofs.Ytjmeoeielbkkiaa
open Go.RowKit Go.Deep
theorem xorL_append {a b c d : List UInt8} (h : a.length = b.length) : Gf.xorL (a ++ c) (b ++ d) = Gf.xorL a b ++ Gf.xorL c d := by
  unfold Gf.xorL
  exact List.zipWith_append h
theorem enc_xor {a b r r' r'' : List UInt8} {q : Nat} (h : a.length = b.length) (hn : a.length + q ≤ 255) (h1 : r.length = q) (h2 : r'.length = q) (h3 : r''.length = q) (hc : Gf.IsCw (a ++ r) q) (hc' : Gf.IsCw (b ++ r') q) (hc'' : Gf.IsCw (Gf.xorL a b ++ r'') q) :
    Gf.xorL a b ++ r'' = Gf.xorL (a ++ r) (b ++ r') := by
  rw [xorL_append h]
  congr 1
  refine Gf.enc_unique (p := q) (by rw [Gf.xorL_length h]; exact hn) h3 (by rw [Gf.xorL_length (h1.trans h2.symm), h1]) hc'' ?_
  rw [← xorL_append h]
  exact Gf.IsCw.xor (by rw [List.length_append, List.length_append, h, h1, h2]) hc hc'
set_option maxRecDepth 100000 in
set_option maxHeartbeats 1000000 in
theorem law_linear (a b : ByteArray) (p : Int) (w : World) (ha : a.size ≤ 140737488351232) (hb : b.size ≤ 140737488351232) :
    Calls Try.prog 4 #[.string a, .string b, .int .i64 p] w fun e w' => Ret1 w (.bool true) e w' := by
  go_enter Try.func4, Try.ntmps4
  by_cases hab : a.size = b.size
  · by_cases hal : a.size ≤ 100
    · have hbl : b.size ≤ 100 := by omega
      have hnb : ¬ (100 : Int) < (b.size : Int) := by omega
      have hna : ¬ (100 : Int) < (a.size : Int) := by omega
      have HAB := Lib.hid hab
      have hxl : (Gf.xorL (bl a) (bl b)).length = a.size := by rw [Gf.xorL_length (by rw [bl_length, bl_length, hab]), bl_length]
      have HXL := Lib.hid hxl
      have hxs : (str (Gf.xorL (bl a) (bl b))).size = a.size := by rw [str_size, hxl]
      have HXS := Lib.hid hxs
      clear hxl hxs
      by_cases hp : encOk a.size p = true
      · obtain ⟨q, rfl⟩ : ∃ q : Nat, p = q := Int.eq_ofNat_of_zero_le (by have := encOk_true hp; omega)
        obtain ⟨hq1, hq2, hq3, hq4⟩ := encOk_true hp
        have HP := Lib.hid hp
        clear hp
        go_wp2_with fail
        refine (awake_any _).mono ?_
        rintro e w1 ⟨rfl, hB1⟩
        go_wp2_with fail
        refine (encode_yes a q HP.out _).mono ?_
        rintro e w2 ⟨r, rfl, hr, hc, hB2⟩
        have hB3 := hB1.trans (hB2.mono hB1.size)
        clear hB1 hB2
        go_wp2_with fail
        refine (encode_yes b q (by rw [← HAB.out]; exact HP.out) _).mono ?_
        rintro e w3 ⟨r', rfl, hr', hc', hB4⟩
        have hB5 := hB3.trans (hB4.mono hB3.size)
        clear hB3 hB4
        go_wp2_with fail
        refine (xor_any a b HAB.out (by omega) _).mono ?_
        rintro e w4 ⟨rfl, hB6⟩
        have hB7 := hB5.trans (hB6.mono hB5.size)
        clear hB5 hB6
        go_wp2_with fail
        refine (encode_yes _ q (by rw [HXS.out]; exact HP.out) _).mono ?_
        rintro e w5 ⟨r2, rfl, hr2, hc2, hB8⟩
        have hB9 := hB7.trans (hB8.mono hB7.size)
        clear hB7 hB8
        rw [bl_str] at hc2
        have hz := enc_xor (q := q) (by rw [bl_length, bl_length, HAB.out]) (by rw [bl_length]; omega) hr hr' hr2 hc hc' hc2
        rw [bl_str, hz]
        have hXs : (str (bl a ++ r)).size = a.size + q := by rw [str_size, List.length_append, bl_length, hr]
        have hYs : (str (bl b ++ r')).size = a.size + q := by rw [str_size, List.length_append, bl_length, hr', ← HAB.out]
        have hxx := xor_any (str (bl a ++ r)) (str (bl b ++ r')) (by rw [hXs, hYs]) (by omega) w5
        rw [bl_str, bl_str] at hxx
        have HXX := Lib.hid hxx
        have hv : Hid (vld (str (bl a ++ r)) q = true) := (vld_iff _ _).2 ⟨by rw [hXs]; simp [shp]; omega, by rw [bl_str]; exact hc⟩
        clear hxx hz hc2 hc' hc hab
        have hXe : ((str (bl a ++ r)).extract 0 a.size).toList = a.toList := by
          rw [ByteArray.toList_eq, ByteArray.toList_eq]
          simp [bl, str]
        generalize hX0 : str (bl a ++ r) = X at hXs HXX hv hXe ⊢
        generalize str (bl b ++ r') = Y at hYs HXX ⊢
        generalize str (Gf.xorL (bl a ++ r) (bl b ++ r')) = Z at HXX ⊢
        clear hX0 HXL HXS
        go_wp2_with (first | (go_at_call 19; refine HXX.out.mono ?_; rintro e w6 ⟨rfl, hB10⟩) | (go_at_call 17; refine (valid_any _ _ _).mono ?_; rintro e w7 ⟨rfl, hB11⟩; rw [hv.out]))
        go_ret
        exact ⟨rfl, (hB9.trans (hB10.mono hB9.size)).trans (hB11.mono (hB9.trans (hB10.mono hB9.size)).size)⟩
      · have hp1 : encOk a.size p = false := by simpa using hp
        have HP1 := Lib.hid hp1
        clear hp hp1
        go_wp2_with fail
        refine (awake_any _).mono ?_
        rintro e w1 ⟨rfl, hB1⟩
        go_wp2_with fail
        refine (encode_no _ _ HP1.out ha _).mono ?_
        rintro e w2 ⟨rfl, rfl⟩
        go_wp2_with fail
        refine (encode_no _ _ (by rw [← HAB.out]; exact HP1.out) hb _).mono ?_
        rintro e w2 ⟨rfl, rfl⟩
        go_wp2_with fail
        refine (xor_any a b HAB.out (by omega) _).mono ?_
        rintro e w4 ⟨rfl, hB6⟩
        have hB7 := hB1.trans (hB6.mono hB1.size)
        go_wp2_with fail
        refine (encode_no _ _ (by rw [HXS.out]; exact HP1.out) (by rw [HXS.out]; exact ha) _).mono ?_
        rintro e w2 ⟨rfl, rfl⟩
        have h0 : (str [] ++ str [] ++ str []).toList.isEmpty = true := by rw [str_append, str_append, ByteArray.toList_eq]; rfl
        go_wp2
        go_ret
        exact ⟨rfl, hB7⟩
    · go_wp2_with (go_at_call 11; refine (awake_any _).mono ?_; rintro e w1 ⟨rfl, hB1⟩)
      go_ret
      exact ⟨rfl, hB1⟩
  · go_wp2_with (go_at_call 11; refine (awake_any _).mono ?_; rintro e w1 ⟨rfl, hB1⟩)
    go_ret
    exact ⟨rfl, hB1⟩
end Go.Proofs.Ytjmeoeielbkkiaa
