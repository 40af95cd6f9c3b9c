import Derived.Test.YtjmeoeielbkkiaaB
set_option maxRecDepth 100000
set_option linter.unusedVariables false
set_option linter.unusedSimpArgs false
namespace Go.Proofs.Ytjmeoeielbkkiaa
open Go.RowKit Go.Deep

theorem dbl_hi (a : UInt8) (h : 128 ≤ a.toNat) : bits .xor .u8 ((a.toNat : Int) * 2 % 256) 29 = ((Gf.dbl a).toNat : Int) := by
  have h2 : (a.toNat : Int) * 2 % 256 = ((a + a).toNat : Int) := by simp [UInt8.toNat_add]; omega
  have h3 : (29 : Int) = ((29 : UInt8).toNat : Int) := rfl
  rw [h2, h3, b_xor, Gf.dbl, if_pos (by rw [UInt8.le_iff_toNat_le]; exact h)]
theorem dbl_lo (a : UInt8) (h : ¬ 128 ≤ a.toNat) : (a.toNat : Int) * 2 = ((Gf.dbl a).toNat : Int) := by
  rw [Gf.dbl, if_neg (by rw [UInt8.le_iff_toNat_le]; exact h), UInt8.toNat_add]
  omega
set_option maxRecDepth 100000 in
theorem double_any (a : UInt8) (w : World) : Calls Try.prog 60 #[B a] w fun e w' => e = .returned (B (Gf.dbl a)) ∧ w = w' := by
  have ha := a.toNat_lt
  by_cases h : 128 ≤ a.toNat
  · go_enter Try.func60, Try.ntmps60
    go_wp2
    go_ret
    exact ⟨ret_u8 (dbl_hi a h), rfl⟩
  · go_enter Try.func60, Try.ntmps60
    go_wp2
    go_ret
    exact ⟨ret_u8 (dbl_lo a h), rfl⟩

theorem and_mod (y : UInt8) : y &&& 1 = y % 2 := by
  apply UInt8.toNat_inj.1
  rw [UInt8.toNat_mod, UInt8.toNat_and]
  exact Nat.and_two_pow_sub_one_eq_mod y.toNat 1
theorem mulL_one (k : Nat) (o x y : UInt8) (h : y.toNat < 2 ^ k) (hy : ((y.toNat : Int) != 0) = true) (h1 : (bits .and .u8 (y.toNat : Int) 1 == 1) = true) :
    ∃ k' y', k = k' + 1 ∧ (y.toNat : Int) / 2 = ((y' : UInt8).toNat : Int) ∧ y'.toNat < 2 ^ k' ∧ y'.toNat < y.toNat ∧ Gf.mulL k' (o ^^^ x) (Gf.dbl x) y' = Gf.mulL k o x y := by
  have hy0 : y.toNat ≠ 0 := fun e => by rw [e] at hy; simp at hy
  obtain ⟨k', rfl⟩ : ∃ k', k = k' + 1 := ⟨k - 1, by rcases k with _ | k; simp at h; omega; rfl⟩
  have h2 : y % 2 = 1 := by
    have h3 : (1 : Int) = ((1 : UInt8).toNat : Int) := rfl
    rw [h3, b_and] at h1
    have h4 : y &&& 1 = 1 := u8_inj (by simpa using h1)
    rwa [and_mod] at h4
  refine ⟨k', y / 2, rfl, by rw [UInt8.toNat_div]; rfl, ?_, ?_, ?_⟩
  · rw [UInt8.toNat_div, Nat.pow_succ] at *; show y.toNat / 2 < _; omega
  · rw [UInt8.toNat_div]; show y.toNat / 2 < _; omega
  · rw [Gf.mulL, if_pos h2]
theorem mulL_zero (k : Nat) (o x y : UInt8) (h : y.toNat < 2 ^ k) (hy : ((y.toNat : Int) != 0) = true) (h1 : (bits .and .u8 (y.toNat : Int) 1 == 1) = false) :
    ∃ k' y', k = k' + 1 ∧ (y.toNat : Int) / 2 = ((y' : UInt8).toNat : Int) ∧ y'.toNat < 2 ^ k' ∧ y'.toNat < y.toNat ∧ Gf.mulL k' o (Gf.dbl x) y' = Gf.mulL k o x y := by
  have hy0 : y.toNat ≠ 0 := fun e => by rw [e] at hy; simp at hy
  obtain ⟨k', rfl⟩ : ∃ k', k = k' + 1 := ⟨k - 1, by rcases k with _ | k; simp at h; omega; rfl⟩
  have h2 : ¬ y % 2 = 1 := fun e => by
    have h3 : (1 : Int) = ((1 : UInt8).toNat : Int) := rfl
    rw [h3, b_and] at h1
    rw [and_mod, e] at h1
    simp at h1
  refine ⟨k', y / 2, rfl, by rw [UInt8.toNat_div]; rfl, ?_, ?_, ?_⟩
  · rw [UInt8.toNat_div, Nat.pow_succ] at *; show y.toNat / 2 < _; omega
  · rw [UInt8.toNat_div]; show y.toNat / 2 < _; omega
  · rw [Gf.mulL, if_neg h2]
theorem mulL_done (k : Nat) (o x y : UInt8) (h : (y.toNat : Int) = 0) : Gf.mulL k o x y = o := by
  have hy : y = 0 := u8_inj (by simpa using h)
  subst hy
  induction k generalizing x with
  | zero => rfl
  | succ k ih => rw [Gf.mulL, if_neg (by decide)]; exact ih _
set_option maxRecDepth 100000 in
theorem mul_any (a b : UInt8) (w : World) : Calls Try.prog 34 #[B a, B b] w fun e w' => e = .returned (B (Gf.mul a b)) ∧ w = w' := by
  go_enter Try.func34, Try.ntmps34
  go_wp2
  go_loop [0, 1, 5] (fun x y o => ∃ (k : Nat) (x' y' o' : UInt8), x = B x' ∧ y = B y' ∧ o = B o' ∧ y'.toNat < 2 ^ k ∧ Hid (Gf.mulL k o' x' y' = Gf.mul a b)) (fun _ y _ => (intOf y).toNat)
  case atStart => exact ⟨8, a, b, 0, rfl, rfl, rfl, b.toNat_lt, rfl⟩
  case round =>
    obtain ⟨k, x, y, o, rfl, rfl, rfl, hk, hm⟩ := hrel
    by_cases hy : ((y.toNat : Int) != 0) = true
    · by_cases h1 : (bits .and .u8 (y.toNat : Int) 1 == 1) = true
      · obtain ⟨k', y', hk1, hy1, hy2, hy3, hm1⟩ := mulL_one k o x y hk hy h1
        have HY := Lib.hid hy1
        have HK := Lib.hid hk1
        have HM := Lib.hid hm1
        clear hy1 hk1 hm1
        go_wp2_with (go_at_call 60; refine (double_any _ _).mono ?_; rintro e w' ⟨rfl, rfl⟩)
        go_round
        case rel => exact ⟨k', Gf.dbl x, y', o ^^^ x, rfl, by rw [HY.out], by rw [b_xor], hy2, HM.out.trans hm.out⟩
        case measure => rw [HY.out]; simp [intOf]; omega
      · have h1 : (bits .and .u8 (y.toNat : Int) 1 == 1) = false := by simpa using h1
        obtain ⟨k', y', hk1, hy1, hy2, hy3, hm1⟩ := mulL_zero k o x y hk hy h1
        have HY := Lib.hid hy1
        have HK := Lib.hid hk1
        have HM := Lib.hid hm1
        clear hy1 hk1 hm1
        go_wp2_with (go_at_call 60; refine (double_any _ _).mono ?_; rintro e w' ⟨rfl, rfl⟩)
        go_round
        case rel => exact ⟨k', Gf.dbl x, y', o, rfl, by rw [HY.out], rfl, hy2, HM.out.trans hm.out⟩
        case measure => rw [HY.out]; simp [intOf]; omega
    · have hy0 : ((y.toNat : Int) != 0) = false := by simpa using hy
      have HZ0 : (y.toNat : Int) = 0 := by simpa using hy0
      have HZ := Lib.hid HZ0
      clear HZ0
      go_wp2
      go_ret
      exact ⟨by rw [← hm.out, mulL_done k o x y HZ.out]; rfl, rfl⟩
end Go.Proofs.Ytjmeoeielbkkiaa
