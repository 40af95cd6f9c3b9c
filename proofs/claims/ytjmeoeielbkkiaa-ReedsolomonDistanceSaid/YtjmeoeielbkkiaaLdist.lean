/- The codewords of different data of equal length differ in more than parity positions: for every input. -/
import Derived.Test.YtjmeoeielbkkiaaAw
import Derived.Test.YtjmeoeielbkkiaaRa
set_option linter.unusedVariables false
set_option linter.unusedSimpArgs false
namespace Go.Proofs.Ytjmeoeielbkkiaa
open Go.RowKit Go.Deep
theorem dist_lt {x y : List UInt8} {p : Nat} (hn : x.length ≤ 255) (hl : x.length = y.length) (hx : Gf.IsCw x p) (hy : Gf.IsCw y p) (hne : x ≠ y) : p < difK x y x.length := by
  rcases Nat.lt_or_ge p (difK x y x.length) with h | h
  · exact h
  · refine absurd (Gf.cw_unique hn hl hx hy (T := (List.range x.length).filter fun i => decide (Gf.co x i ≠ Gf.co y i)) (fun k hk => ?_) h (fun i hi hd => ?_)) hne
    · exact List.mem_range.1 (List.mem_filter.1 hk).1
    · exact List.mem_filter.2 ⟨List.mem_range.2 hi, by simpa using hd⟩
set_option maxRecDepth 100000 in
set_option maxHeartbeats 1000000 in
theorem law_distance (a b : ByteArray) (p : Int) (w : World) (ha : a.size ≤ 140737488351232) (hb : b.size ≤ 140737488351232) :
    Calls Try.prog 6 #[.string a, .string b, .int .i64 p] w fun e w' => Ret1 w (.bool true) e w' := by
  go_enter Try.func6, Try.ntmps6
  by_cases hab : a.size = b.size
  · by_cases hal : a.size ≤ 100
    · by_cases he : a = b
      · subst he
        clear hb
        go_wp2_with (go_at_call 11; refine (awake_any _).mono ?_; rintro e w1 ⟨rfl, hB1⟩)
        go_ret
        exact ⟨rfl, hB1⟩
      · have hbl : b.size ≤ 100 := by omega
        have hbe := strs_ne he
        have hnb : ¬ (100 : Int) < (b.size : Int) := by omega
        have hna : ¬ (100 : Int) < (a.size : Int) := by omega
        have HE := Lib.hid he
        have HAB := Lib.hid hab
        by_cases hp : encOk a.size p = true
        · obtain ⟨q, rfl⟩ : ∃ q : Nat, p = q := Int.eq_ofNat_of_zero_le (by have := encOk_true hp; omega)
          obtain ⟨hq1, hq2, hq3, hq4⟩ := encOk_true hp
          have HP := Lib.hid hp
          clear hp he
          go_wp2_with fail
          refine (awake_any _).mono ?_
          rintro e w1 ⟨rfl, hB1⟩
          go_wp2_with fail
          refine (encode_yes a q HP.out _).mono ?_
          rintro e w2 ⟨r, rfl, hr, hc, hB2⟩
          have hB3 := hB1.trans (hB2.mono hB1.size)
          clear hB1 hB2
          go_wp2_with fail
          refine (encode_yes b q (by rw [← HAB.out]; exact HP.out) _).mono ?_
          rintro e w3 ⟨r', rfl, hr', hc', hB4⟩
          have hB5 := hB3.trans (hB4.mono hB3.size)
          clear hB3 hB4
          have hxs : (str (bl a ++ r)).size = a.size + q := by rw [str_size, List.length_append, bl_length, hr]
          have hys : (str (bl b ++ r')).size = a.size + q := by rw [str_size, List.length_append, bl_length, hr', ← HAB.out]
          have hne : bl a ++ r ≠ bl b ++ r' := fun e => HE.out (bl_inj (List.append_inj_left e (by rw [bl_length, bl_length, HAB.out])))
          have hlen : (bl a ++ r).length = a.size + q := by rw [List.length_append, bl_length, hr]
          have hd := dist_lt (p := q) (by rw [hlen]; omega) (by rw [hlen]; rw [List.length_append, bl_length, hr', ← HAB.out]) hc hc' hne
          rw [hlen] at hd
          have hdf := differ_any (str (bl a ++ r)) (str (bl b ++ r')) (by rw [hxs, hys]) (by omega) w3
          rw [hxs, bl_str, bl_str] at hdf
          obtain ⟨d, hd0⟩ : ∃ d, d = difK (bl a ++ r) (bl b ++ r') (a.size + q) := ⟨_, rfl⟩
          have hdl := difK_le (bl a ++ r) (bl b ++ r') (a.size + q)
          rw [← hd0] at hd hdf hdl
          have HD := Lib.hid hdf
          clear hd0 hdf hne hlen hc hc' hr hr' hab
          generalize str (bl a ++ r) = x at hxs HD ⊢
          generalize str (bl b ++ r') = y at hys HD ⊢
          go_wp2_with (go_at_call 22; refine HD.out.mono ?_; rintro e w4 ⟨rfl, hB6⟩)
          go_ret
          exact ⟨rfl, hB5.trans (hB6.mono hB5.size)⟩
        · have hp1 : encOk a.size p = false := by simpa using hp
          have HP1 := Lib.hid hp1
          clear hp hp1 he
          clear hal hbl
          go_wp2_with (first | (go_at_call 11; refine (awake_any _).mono ?_; rintro e w1 ⟨rfl, hB1⟩) | (go_at_call 12; refine (encode_no _ _ (by first | exact HP1.out | (rw [← HAB.out]; exact HP1.out)) (by assumption) _).mono ?_; rintro e w2 ⟨rfl, rfl⟩))
          go_ret
          exact ⟨rfl, hB1⟩
    · go_wp2_with (go_at_call 11; refine (awake_any _).mono ?_; rintro e w1 ⟨rfl, hB1⟩)
      go_ret
      exact ⟨rfl, hB1⟩
  · go_wp2_with (go_at_call 11; refine (awake_any _).mono ?_; rintro e w1 ⟨rfl, hB1⟩)
    go_ret
    exact ⟨rfl, hB1⟩
end Go.Proofs.Ytjmeoeielbkkiaa
