/- Zero bytes in front of data do not change its parity symbols, and a codeword with zero bytes in front is one: for every input. -/
import Derived.Test.YtjmeoeielbkkiaaAw
import Derived.Test.YtjmeoeielbkkiaaRa
set_option linter.unusedVariables false
set_option linter.unusedSimpArgs false
namespace Go.Proofs.Ytjmeoeielbkkiaa
open Go.RowKit Go.Deep
theorem cw_zeros {l : List UInt8} {p : Nat} (n : Nat) (h : Gf.IsCw l p) : Gf.IsCw (List.replicate n 0 ++ l) p := fun j hj => by
  rw [Gf.hor_append, Gf.hor_zeros, Gf.zero_mul, UInt8.zero_xor, h j hj]
theorem enc_zeros {a r r2 : List UInt8} {n q : Nat} (hn : n + a.length + q ≤ 255) (h1 : r.length = q) (h2 : r2.length = q) (hc : Gf.IsCw (a ++ r) q) (hc2 : Gf.IsCw ((List.replicate n 0 ++ a) ++ r2) q) : (List.replicate n 0 ++ a) ++ r2 = List.replicate n 0 ++ (a ++ r) := by
  have h := cw_zeros n hc
  rw [← List.append_assoc] at h
  rw [Gf.enc_unique (p := q) (by simp; omega) h2 h1 hc2 h, List.append_assoc]
set_option maxRecDepth 100000 in
set_option maxHeartbeats 1000000 in
theorem law_shortens (a : ByteArray) (p z : Int) (w : World) (ha : a.size ≤ 140737488351232) (hz : 0 ≤ z) (hz2 : z ≤ 255) :
    Calls Try.prog 7 #[.string a, .int .i64 p, .int .u8 z] w fun e w' => Ret1 w (.bool true) e w' := by
  obtain ⟨z, rfl⟩ := Int.eq_ofNat_of_zero_le hz
  obtain ⟨n, hn⟩ : ∃ n, n = z % 40 := ⟨_, rfl⟩
  have hn40 : n < 40 := by omega
  have hni : (z : Int).tmod 40 = (n : Int) := by rw [hn]; rfl
  have HN := Lib.hid hn
  have hmk := make_u8 n (by omega)
  clear hn hz
  go_enter Try.func7, Try.ntmps7
  by_cases hp : encOk a.size p = true
  · obtain ⟨q, rfl⟩ : ∃ q : Nat, p = q := Int.eq_ofNat_of_zero_le (by have := encOk_true hp; omega)
    obtain ⟨hq1, hq2, hq3, hq4⟩ := encOk_true hp
    have HP := Lib.hid hp
    clear hp
    go_wp2_with fail
    refine (awake_any _).mono ?_
    rintro e w1 ⟨rfl, hB1⟩
    go_wp2_with fail
    refine (encode_yes a q HP.out _).mono ?_
    rintro e w2 ⟨r, rfl, hr, hc, hB2⟩
    have hB3 := hB1.trans (hB2.mono hB1.size)
    clear hB1 hB2
    have hXs : (str (bl a ++ r)).size = a.size + q := by rw [str_size, List.length_append, bl_length, hr]
    by_cases hlim : a.size + q + n ≤ 255
    · have hcv := conv_string (Own.made w2 n).rd n
      rw [List.length_replicate] at hcv
      have hB4 := hB3.alloc hB3.size (.cells (madeCells #[.int .u8 0] n) 5)
      have hZs : (str (List.replicate n 0)).size = n := by rw [str_size, List.length_replicate]
      have hZa : (str (List.replicate n 0) ++ a).size = n + a.size := by rw [ByteArray.size_append, hZs]
      have hbz : bl (str (List.replicate n 0) ++ a) = List.replicate n 0 ++ bl a := by rw [bl_append, bl_str]
      have hok : encOk (str (List.replicate n 0) ++ a).size q = true := by rw [hZa]; unfold encOk; exact decide_eq_true ⟨by omega, by omega, by omega, by omega⟩
      have henc := encode_yes (str (List.replicate n 0) ++ a) q hok (w2.alloc (.cells (madeCells #[.int .u8 0] n) 5))
      have HE := Lib.hid henc
      have HBZ := Lib.hid hbz
      have HZA := Lib.hid hZa
      have hcat : str (List.replicate n 0) ++ str (bl a ++ r) = str (List.replicate n 0 ++ (bl a ++ r)) := str_append _ _
      have HCAT := Lib.hid hcat
      clear hok henc hbz hZa hB3 hcat
      generalize hZ0 : str (List.replicate n 0) = Z at hcv hZs HE HBZ HZA HCAT
      clear hZ0
      generalize hX0 : str (bl a ++ r) = X at hXs HCAT ⊢
      clear hX0
      go_wp2_with fail
      refine HE.out.mono ?_
      rintro e w3 ⟨r2, rfl, hr2, hc2, hB5⟩
      rw [HBZ.out] at hc2
      have hY := enc_zeros (n := n) (by rw [bl_length]; omega) hr hr2 hc hc2
      rw [HBZ.out, hY]
      have hB6 := hB4.trans (hB5.mono hB4.size)
      have hv : Hid (vld (str (List.replicate n 0 ++ (bl a ++ r))) q = true) := (vld_iff _ _).2 ⟨by rw [str_size]; simp [shp, bl_length, hr]; omega, by rw [bl_str]; exact cw_zeros n hc⟩
      have hcat := HCAT.out
      clear hY hc2 hr2 HCAT HBZ HE hc hr
      generalize str (List.replicate n 0 ++ (bl a ++ r)) = Y at hv hcat ⊢
      clear hB4 hB5
      go_wp2_with (go_at_call 17; refine (valid_any _ _ _).mono ?_; rintro e w7 ⟨rfl, hB11⟩; rw [hv.out])
      go_ret
      exact ⟨rfl, hB6.trans (hB11.mono hB6.size)⟩
    · go_wp2_with fail
      go_ret
      exact ⟨rfl, hB3⟩
  · have hp1 : encOk a.size p = false := by simpa using hp
    have HP1 := Lib.hid hp1
    clear hp hp1
    go_wp2_with fail
    refine (awake_any _).mono ?_
    rintro e w1 ⟨rfl, hB1⟩
    go_wp2_with fail
    refine (encode_no _ _ HP1.out ha _).mono ?_
    rintro e w2 ⟨rfl, rfl⟩
    go_wp2
    go_ret
    exact ⟨rfl, hB1⟩
end Go.Proofs.Ytjmeoeielbkkiaa
