import Derived.Test.YtjmeoeielbkkiaaRa
set_option maxRecDepth 100000
set_option linter.unusedVariables false
set_option linter.unusedSimpArgs false
namespace Go.Proofs.Ytjmeoeielbkkiaa
open Go.RowKit Go.Deep
/-! the field of the definitions -/
theorem i64_xor_nat (a b : Nat) (ha : a < 1024) (hb : b < 1024) : bits .xor .i64 (a : Int) (b : Int) = ((a ^^^ b : Nat) : Int) := by
  have hx : a ^^^ b < 2 ^ 10 := Nat.xor_lt_two_pow (by omega) (by omega)
  have h1 : (BitVec.ofInt 64 (a : Int)).toNat = a := by
    rw [BitVec.ofInt_natCast, BitVec.toNat_ofNat]; exact Nat.mod_eq_of_lt (by omega)
  have h2 : (BitVec.ofInt 64 (b : Int)).toNat = b := by
    rw [BitVec.ofInt_natCast, BitVec.toNat_ofNat]; exact Nat.mod_eq_of_lt (by omega)
  show IntKind.i64.wrap ((BitVec.ofInt 64 (a : Int) ^^^ BitVec.ofInt 64 (b : Int)).toNat : Int) = _
  rw [BitVec.toNat_xor, h1, h2]
  exact IntWalk.i64_in _ (by omega)
theorem i64_xor_u8 (a b : UInt8) : bits .xor .i64 (a.toNat : Int) (b.toNat : Int) = ((a ^^^ b).toNat : Int) := by
  have h1 := a.toNat_lt
  have h2 := b.toNat_lt
  rw [i64_xor_nat _ _ (by omega) (by omega), UInt8.toNat_xor]
theorem dbl_ref (a : UInt8) (h : 128 ≤ a.toNat) : bits .xor .i64 (2 * (a.toNat : Int)) 285 = ((Gf.dbl a).toNat : Int) := by
  have h1 := a.toNat_lt
  rw [show 2 * (a.toNat : Int) = ((2 * a.toNat : Nat) : Int) from by omega, show (285 : Int) = ((285 : Nat) : Int) from rfl, i64_xor_nat _ _ (by omega) (by omega)]
  congr 1
  refine Gf.forall8 (p := fun a => 128 ≤ a.toNat → (2 * a.toNat) ^^^ 285 = (Gf.dbl a).toNat) ?_ a h
  decide +kernel
theorem dbl_ref_lo (a : UInt8) (h : ¬ 128 ≤ a.toNat) : 2 * (a.toNat : Int) = ((Gf.dbl a).toNat : Int) := by
  rw [Gf.dbl, if_neg (by rw [UInt8.le_iff_toNat_le]; exact h), UInt8.toNat_add]
  omega
theorem mulL_odd (k : Nat) (o x y : UInt8) (h : y.toNat < 2 ^ k) (h1 : y.toNat % 2 = 1) : ∃ k', k = k' + 1 ∧ (y / 2).toNat < 2 ^ k' ∧ Gf.mulL k' (o ^^^ x) (Gf.dbl x) (y / 2) = Gf.mulL k o x y := by
  obtain ⟨k', rfl⟩ : ∃ k', k = k' + 1 := ⟨k - 1, by rcases k with _ | k; simp at h; omega; rfl⟩
  have h2 : y % 2 = 1 := UInt8.toNat_inj.1 (by rw [UInt8.toNat_mod]; exact h1)
  refine ⟨k', rfl, ?_, by rw [Gf.mulL, if_pos h2]⟩
  rw [UInt8.toNat_div, Nat.pow_succ] at *; show y.toNat / 2 < _; omega
theorem mulL_even (k : Nat) (o x y : UInt8) (h : y.toNat < 2 ^ k) (h0 : 0 < y.toNat) (h1 : ¬ y.toNat % 2 = 1) : ∃ k', k = k' + 1 ∧ (y / 2).toNat < 2 ^ k' ∧ Gf.mulL k' o (Gf.dbl x) (y / 2) = Gf.mulL k o x y := by
  obtain ⟨k', rfl⟩ : ∃ k', k = k' + 1 := ⟨k - 1, by rcases k with _ | k; simp at h; omega; rfl⟩
  have h2 : ¬ y % 2 = 1 := fun e => h1 (by have := congrArg UInt8.toNat e; rwa [UInt8.toNat_mod] at this)
  refine ⟨k', rfl, ?_, by rw [Gf.mulL, if_neg h2]⟩
  rw [UInt8.toNat_div, Nat.pow_succ] at *; show y.toNat / 2 < _; omega
set_option maxRecDepth 100000 in
set_option maxHeartbeats 1000000 in
theorem mulr_any (a b : UInt8) (w : World) : Calls Try.prog 57 #[B a, B b] w fun e w' => e = .returned (B (Gf.mul a b)) ∧ w = w' := by
  have ha256 : (a.toNat : Int) < 256 := by have := a.toNat_lt; omega
  have hb256 : (b.toNat : Int) < 256 := by have := b.toNat_lt; omega
  have wa : wrap64 (a.toNat : Int) = (a.toNat : Int) := IntWalk.wrap64_in _ ⟨by omega, by omega⟩
  have wb : wrap64 (b.toNat : Int) = (b.toNat : Int) := IntWalk.wrap64_in _ ⟨by omega, by omega⟩
  go_enter Try.func57, Try.ntmps57
  go_wp2
  go_loop [5, 6, 7] (fun x y o => ∃ (k : Nat) (x' y' o' : UInt8), x = .int .i64 (x'.toNat : Int) ∧ y = .int .i64 (y'.toNat : Int) ∧ o = .int .i64 (o'.toNat : Int) ∧ y'.toNat < 2 ^ k ∧ Hid (Gf.mulL k o' x' y' = Gf.mul a b)) (fun _ y _ => (intOf y).toNat)
  case atStart => exact ⟨8, a, b, 0, rfl, rfl, rfl, b.toNat_lt, rfl⟩
  case round =>
    obtain ⟨k, x, y, o, rfl, rfl, rfl, hk, hm⟩ := hrel
    have hx256 := x.toNat_lt
    have hy256 := y.toNat_lt
    by_cases hy : 0 < y.toNat
    · have hyi : (0 : Int) < (y.toNat : Int) := by omega
      have hd2 : Hid ((y.toNat : Int) / 2 = ((y / 2).toNat : Int)) := by show _ = _; rw [UInt8.toNat_div]; rfl
      have hlt : Hid ((y / 2).toNat < y.toNat) := by show _ < _; rw [UInt8.toNat_div]; show y.toNat / 2 < _; omega
      by_cases h1 : y.toNat % 2 = 1
      · obtain ⟨k', hk1, hy2, hm1⟩ := mulL_odd k o x y hk h1
        have h1i : (y.toNat : Int) % 2 = 1 := by omega
        have HM := Lib.hid hm1
        have HY := Lib.hid hy2
        clear hm1 hk1 hy2 h1 hy hk
        by_cases hx : 128 ≤ x.toNat
        · have hxi : (255 : Int) < 2 * (x.toNat : Int) := by omega
          have HD := Lib.hid (dbl_ref x hx)
          clear hx
          go_wp2
          rw [hd2.out, HD.out, i64_xor_u8]
          go_round
          case rel => exact ⟨k', Gf.dbl x, y / 2, o ^^^ x, rfl, rfl, rfl, HY.out, HM.out.trans hm.out⟩
          case measure => have := hlt.out; simp only [intOf]; omega
        · have hxi : ¬ (255 : Int) < 2 * (x.toNat : Int) := by omega
          have HD := Lib.hid (dbl_ref_lo x hx)
          clear hx
          go_wp2
          rw [hd2.out, HD.out, i64_xor_u8]
          go_round
          case rel => exact ⟨k', Gf.dbl x, y / 2, o ^^^ x, rfl, rfl, rfl, HY.out, HM.out.trans hm.out⟩
          case measure => have := hlt.out; simp only [intOf]; omega
      · obtain ⟨k', hk1, hy2, hm1⟩ := mulL_even k o x y hk hy h1
        have h1i : (y.toNat : Int) % 2 = 0 := by omega
        have HM := Lib.hid hm1
        have HY := Lib.hid hy2
        clear hm1 hk1 hy2 h1 hy hk
        by_cases hx : 128 ≤ x.toNat
        · have hxi : (255 : Int) < 2 * (x.toNat : Int) := by omega
          have HD := Lib.hid (dbl_ref x hx)
          clear hx
          go_wp2
          rw [hd2.out, HD.out]
          go_round
          case rel => exact ⟨k', Gf.dbl x, y / 2, o, rfl, rfl, rfl, HY.out, HM.out.trans hm.out⟩
          case measure => have := hlt.out; simp only [intOf]; omega
        · have hxi : ¬ (255 : Int) < 2 * (x.toNat : Int) := by omega
          have HD := Lib.hid (dbl_ref_lo x hx)
          clear hx
          go_wp2
          rw [hd2.out, HD.out]
          go_round
          case rel => exact ⟨k', Gf.dbl x, y / 2, o, rfl, rfl, rfl, HY.out, HM.out.trans hm.out⟩
          case measure => have := hlt.out; simp only [intOf]; omega
    · have hy0 : y.toNat = 0 := by omega
      have hyi : ¬ (0 : Int) < (y.toNat : Int) := by omega
      have HZ : Hid ((y.toNat : Int) = 0) := by show _ = _; omega
      have ho := o.toNat_lt
      have hoi : (o.toNat : Int) % 256 = (o.toNat : Int) := by omega
      clear hy hy0
      go_wp2
      go_ret
      exact ⟨by rw [← hm.out, mulL_done k o x y HZ.out]; rfl, rfl⟩
theorem pw_sq (a : UInt8) (n : Nat) : Gf.pw (Gf.mul a a) n = Gf.pw a (2 * n) := by
  rw [Gf.pw_mul, ← Gf.pw_add, show n + n = 2 * n from by omega]
theorem pow_odd (o a : UInt8) (n : Nat) (h : n % 2 = 1) : Gf.mul (Gf.mul o a) (Gf.pw (Gf.mul a a) (n / 2)) = Gf.mul o (Gf.pw a n) := by
  have e : n = 2 * (n / 2) + 1 := by omega
  rw [pw_sq, Gf.mul_assoc]
  congr 1
  conv => rhs; rw [e, Gf.pw_add]
  rw [Gf.mul_comm]
  congr 1
  rw [Gf.pw, Gf.pw, Gf.one_mul]
theorem pow_even (o a : UInt8) (n : Nat) (h : ¬ n % 2 = 1) : Gf.mul o (Gf.pw (Gf.mul a a) (n / 2)) = Gf.mul o (Gf.pw a n) := by
  have e : n = 2 * (n / 2) := by omega
  rw [pw_sq, ← e]
set_option maxRecDepth 100000 in
set_option maxHeartbeats 1000000 in
theorem powr_any (a : UInt8) (n : Nat) (hn : n ≤ 100000) (w : World) : Calls Try.prog 61 #[B a, .int .i64 (n : Int)] w fun e w' => e = .returned (B (Gf.pw a n)) ∧ w = w' := by
  go_enter Try.func61, Try.ntmps61
  go_wp2
  go_loop [0, 1, 5] (fun x y o => ∃ (x' o' : UInt8) (k : Nat), x = B x' ∧ y = .int .i64 (k : Int) ∧ o = B o' ∧ k ≤ n ∧ Hid (Gf.mul o' (Gf.pw x' k) = Gf.pw a n)) (fun _ y _ => (intOf y).toNat)
  case atStart => exact ⟨a, 1, n, rfl, rfl, rfl, Nat.le_refl _, Gf.one_mul _⟩
  case round =>
    obtain ⟨x, o, k, rfl, rfl, rfl, hk, hm⟩ := hrel
    by_cases hk0 : 0 < k
    · have hki : (0 : Int) < (k : Int) := by omega
      have hd2 : Hid ((k : Int) / 2 = ((k / 2 : Nat) : Int)) := by show _ = _; rfl
      by_cases h1 : k % 2 = 1
      · have h1i : (k : Int) % 2 = 1 := by omega
        have HM := Lib.hid (pow_odd o x k h1)
        clear h1
        go_wp2_with (go_at_call 57; refine (mulr_any _ _ _).mono ?_; rintro e w' ⟨rfl, rfl⟩)
        rw [hd2.out]
        go_round
        case rel => exact ⟨Gf.mul x x, Gf.mul o x, k / 2, rfl, rfl, rfl, by omega, HM.out.trans hm.out⟩
        case measure => simp only [intOf]; omega
      · have h1i : (k : Int) % 2 = 0 := by omega
        have HM := Lib.hid (pow_even o x k h1)
        clear h1
        go_wp2_with (go_at_call 57; refine (mulr_any _ _ _).mono ?_; rintro e w' ⟨rfl, rfl⟩)
        rw [hd2.out]
        go_round
        case rel => exact ⟨Gf.mul x x, o, k / 2, rfl, rfl, rfl, by omega, HM.out.trans hm.out⟩
        case measure => simp only [intOf]; omega
    · have hki : ¬ (0 : Int) < (k : Int) := by omega
      have HZ : Hid (k = 0) := by show _ = _; omega
      clear hk0
      go_wp2
      go_ret
      exact ⟨by rw [← hm.out, HZ.out, Gf.pw, Gf.mul_one]; rfl, rfl⟩
theorem pw_inv {a : UInt8} (h : a ≠ 0) : Gf.pw a 254 = Gf.inv a := by
  refine Gf.mul_cancel h ?_
  rw [Gf.mul_inv h]
  have h1 := (Gf.lg_spec a h).1
  have h2 : Gf.mul (Gf.pw a 1) (Gf.pw a 254) = 1 := by
    rw [← Gf.pw_add, ← h1, Gf.pw_al, ← Gf.al_mod, show Gf.lg a * (1 + 254) % 255 = 0 from by omega]
    rfl
  rwa [Gf.pw, Gf.pw, Gf.one_mul] at h2
set_option maxRecDepth 100000 in
theorem invr_any (a : UInt8) (h : a ≠ 0) (w : World) : Calls Try.prog 56 #[B a] w fun e w' => e = .returned (.tuple #[B (Gf.inv a), .int .i64 0]) ∧ w = w' := by
  have h3 : ((a.toNat : Int) == 0) = false := by rw [beq_eq_false_iff_ne]; exact fun e => h (u8_inj e)
  have h4 : (a.toNat == 0) = false := by rw [beq_eq_false_iff_ne]; exact fun e => h (UInt8.toNat_inj.1 e)
  have HI := Lib.hid (pw_inv h)
  have hp := powr_any a 254 (by omega) w
  rw [show ((254 : Nat) : Int) = 254 from rfl, HI.out] at hp
  have HP := Lib.hid hp
  clear h hp
  go_enter Try.func56, Try.ntmps56
  go_wp2_with (go_at_call 61; refine HP.out.mono ?_; rintro e w' ⟨rfl, rfl⟩)
  go_ret2
  exact ⟨rfl, rfl⟩
set_option maxRecDepth 100000 in
theorem expr_any (n : Nat) (hn : n ≤ 100000) (w : World) : Calls Try.prog 38 #[.int .i64 (n : Int)] w fun e w' => e = .returned (B (Gf.al n)) ∧ w = w' := by
  have hp := powr_any 2 (n % 255) (by omega) w
  rw [Gf.pw_two, Gf.al_mod] at hp
  have HP := Lib.hid hp
  have hr2 : ((n : Int) % 255 + 255) % 255 = ((n % 255 : Nat) : Int) := by omega
  clear hp
  go_enter Try.func38, Try.ntmps38
  go_wp2_with (go_at_call 61; refine HP.out.mono ?_; rintro e w' ⟨rfl, rfl⟩)
  go_ret
  exact ⟨rfl, rfl⟩
end Go.Proofs.Ytjmeoeielbkkiaa
