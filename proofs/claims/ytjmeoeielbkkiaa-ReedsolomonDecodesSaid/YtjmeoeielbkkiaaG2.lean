import Derived.Test.YtjmeoeielbkkiaaG1
set_option maxRecDepth 100000
set_option linter.unusedVariables false
set_option linter.unusedSimpArgs false
namespace Go.Proofs.Ytjmeoeielbkkiaa
open Go.RowKit Go.Deep
theorem PW_at {k : Nat} (hk : k < 255) : PW[k]? = some (B (Gf.al k)) := by
  have h : k < PW.size := by rw [PW_size]; exact hk
  rw [Array.getElem?_eq_getElem h]
  simp [PW, alList]
theorem index_PW {k : Nat} (hk : k < 255) : ∀ W : World, (Instr.index 93 (.agg PW) (.int .i64 (k : Int))).run Try.prog W = .ok (B (Gf.al k)) W := fun W => by
  have hs : (sizeOf 5).run Try.prog W = .ok 1 W := by kernel_rfl
  have hag : (isAgg 5).run Try.prog W = .ok false W := by kernel_rfl
  simp [Instr.index, asIntOf, Sem.run_bind, run_underlying Try.underlying93, hs, part, hag, PW_at hk]
  omega
/-- two results; old memory as it was -/
def Ret2 (w : World) (a b : Value) (e : Ending) (w' : World) : Prop := e = .returned (.tuple #[a, b]) ∧ Below w.heap.size w w'
def Ret1 (w : World) (a : Value) (e : Ending) (w' : World) : Prop := e = .returned a ∧ Below w.heap.size w w'
set_option maxRecDepth 100000 in
theorem log_any (a : UInt8) (ha : a ≠ 0) (w : World) : Calls Try.prog 73 #[B a] w fun e w' => Ret2 w (.int .i64 (Gf.lg a : Nat)) (.int .i64 0) e w' := by
  have ⟨hl1, hl2⟩ := Gf.lg_spec a ha
  have H1 := Lib.hid hl1
  have H2 := Lib.hid hl2
  clear hl1 hl2
  go_enter Try.func73, Try.ntmps73
  go_wp2_with (go_at_call 78; refine (powers_any _).mono ?_; rintro e w1 ⟨rfl, hB⟩)
  have HB := Lib.hid hB
  clear hB
  go_loop [7] (fun i => ∃ k : Nat, k ≤ 255 ∧ i = .int .i64 k ∧ Hid (∀ j, j < k → Gf.al j ≠ a)) (fun i => 255 - (intOf i).toNat)
  case atStart => exact ⟨0, by omega, rfl, fun j hj => by omega⟩
  case round =>
    obtain ⟨k, hk, rfl, hj⟩ := hrel
    by_cases hlt : k < 255
    · have hi := index_PW hlt
      by_cases he : Gf.al k = a
      · have he' : (((Gf.al k).toNat : Int) == (a.toNat : Int)) = true := by rw [he]; simp
        have HE := Lib.hid he
        clear he
        go_wp2
        go_ret2
        have : k = Gf.lg a := Gf.al_inj hlt H2.out (HE.out.trans H1.out.symm)
        exact ⟨by rw [← this]; rfl, HB.out⟩
      · have he' : (((Gf.al k).toNat : Int) == (a.toNat : Int)) = false := by
          rw [beq_eq_false_iff_ne]; exact fun h => he (u8_inj h)
        have HE := Lib.hid he
        clear he
        go_wp2
        go_round
        case rel => exact ⟨k + 1, by omega, by go_num, fun j hj' => by
          rcases Nat.lt_or_ge j k with h | h
          · exact hj.out j h
          · obtain rfl : j = k := by omega
            exact HE.out⟩
        case measure => simp [intOf]; omega
    · exact absurd H1.out (hj.out _ (by have := H2.out; omega))
set_option maxRecDepth 100000 in
theorem log_zero (a : UInt8) (HA : Hid (a = 0)) (w : World) : Calls Try.prog 73 #[B a] w fun e w' => Ret2 w (.int .i64 0) (.int .i64 1) e w' := by
  go_enter Try.func73, Try.ntmps73
  go_wp2_with (go_at_call 78; refine (powers_any _).mono ?_; rintro e w1 ⟨rfl, hB⟩)
  have HB := Lib.hid hB
  clear hB
  go_loop [7] (fun i => ∃ k : Nat, k ≤ 255 ∧ i = .int .i64 k) (fun i => 255 - (intOf i).toNat)
  case atStart => exact ⟨0, by omega, rfl⟩
  case round =>
    obtain ⟨k, hk, rfl⟩ := hrel
    by_cases hlt : k < 255
    · have hi := index_PW hlt
      have he' : (((Gf.al k).toNat : Int) == (a.toNat : Int)) = false := by
        rw [beq_eq_false_iff_ne]; exact fun h => Gf.al_ne k ((u8_inj h).trans HA.out)
      go_wp2
      go_round
      case rel => exact ⟨k + 1, by omega, by go_num⟩
      case measure => simp [intOf]; omega
    · go_wp2
      go_ret2
      exact ⟨rfl, HB.out⟩
set_option maxRecDepth 100000 in
theorem exp_nat (n : Nat) (hn : n ≤ 100000) (w : World) : Calls Try.prog 51 #[.int .i64 (n : Int)] w fun e w' => e = .returned (B (Gf.al n)) ∧ w = w' := by
  have hm : n % 255 < 255 := Nat.mod_lt _ (by omega)
  obtain ⟨m, hx⟩ : ∃ m, m = n % 255 := ⟨_, rfl⟩
  have hx' : ((n : Int) % 255) = (m : Int) := by omega
  have HX := Lib.hid hx'
  have HM := Lib.hid hx
  rw [← hx] at hm
  clear hx hx'
  go_enter Try.func51, Try.ntmps51
  go_wp2
  rw [HX.out]
  go_loop [3, 11] (fun a i => ∃ k : Nat, k ≤ m ∧ i = .int .i64 k ∧ a = B (Gf.al k)) (fun _ i => m - (intOf i).toNat)
  case atStart => exact ⟨0, by omega, rfl, rfl⟩
  case round =>
    obtain ⟨k, hk, rfl, rfl⟩ := hrel
    by_cases hlt : k < m
    · go_wp2_with (go_at_call 60; refine (double_any _ _).mono ?_; rintro e w' ⟨rfl, rfl⟩)
      go_round
      case rel => exact ⟨k + 1, by omega, by go_num, rfl⟩
      case measure => simp [intOf]; omega
    · have hk' : k = m := by omega
      have HK := Lib.hid hk'
      clear hk'
      go_wp2
      go_ret
      exact ⟨by rw [← Gf.al_mod n, ← HM.out, ← HK.out]; rfl, rfl⟩
set_option maxRecDepth 100000 in
theorem exp_neg (n : Nat) (hn : n < 255) (w : World) : Calls Try.prog 51 #[.int .i64 (-(n : Int))] w fun e w' => e = .returned (B (Gf.al (255 - n))) ∧ w = w' := by
  rcases Nat.eq_zero_or_pos n with rfl | h0
  · exact (exp_nat 0 (by omega) w).mono fun e w' ⟨h1, h2⟩ => ⟨by rw [h1, Nat.sub_zero, Gf.al_255]; rfl, h2⟩
  · have ht : (-(n : Int)).tmod 255 = -(n : Int) := by rw [Int.neg_tmod, Int.tmod_eq_emod_of_nonneg (by omega)]; omega
    obtain ⟨m, hx⟩ : ∃ m, m = 255 - n := ⟨_, rfl⟩
    have hx' : (-(n : Int) + 255) = (m : Int) := by omega
    have hm : m ≤ 255 := by omega
    have HX := Lib.hid hx'
    have HM := Lib.hid hx
    clear hx hx'
    go_enter Try.func51, Try.ntmps51
    go_wp2
    rw [HX.out]
    go_loop [3, 11] (fun a i => ∃ k : Nat, k ≤ m ∧ i = .int .i64 k ∧ a = B (Gf.al k)) (fun _ i => m - (intOf i).toNat)
    case atStart => exact ⟨0, by omega, rfl, rfl⟩
    case round =>
      obtain ⟨k, hk, rfl, rfl⟩ := hrel
      by_cases hlt : k < m
      · go_wp2_with (go_at_call 60; refine (double_any _ _).mono ?_; rintro e w' ⟨rfl, rfl⟩)
        go_round
        case rel => exact ⟨k + 1, by omega, by go_num, rfl⟩
        case measure => simp [intOf]; omega
      · have hk' : k = m := by omega
        have HK := Lib.hid hk'
        clear hk'
        go_wp2
        go_ret
        exact ⟨by rw [← HM.out, ← HK.out]; rfl, rfl⟩
set_option maxRecDepth 100000 in
/-- the inverse; of 0 it is (0, ErrArg) -/
theorem inv_any (a : UInt8) (w : World) : Calls Try.prog 53 #[B a] w fun e w' => Ret2 w (B (Gf.inv a)) (.int .i64 (if a = 0 then 1 else 0)) e w' := by
  by_cases ha : a = 0
  · have HA := Lib.hid ha
    clear ha
    go_enter Try.func53, Try.ntmps53
    go_wp2_with (go_at_call 73; refine (log_zero _ HA _).mono ?_; rintro e w' ⟨rfl, hB⟩)
    go_ret2
    exact ⟨rfl, hB⟩
  · have ⟨hl1, hl2⟩ := Gf.lg_spec a ha
    clear hl1
    have HA := Lib.hid ha
    have hv : Hid (Gf.inv a = Gf.al (255 - Gf.lg a)) := by unfold Gf.inv; rw [if_neg ha]; exact Lib.hid rfl
    clear ha
    go_enter Try.func53, Try.ntmps53
    go_wp2_with (first | (go_at_call 73; refine (log_any _ HA.out _).mono ?_; rintro e w' ⟨rfl, hB⟩) | (go_at_call 51; refine (exp_neg _ hl2 _).mono ?_; rintro e w' ⟨rfl, rfl⟩))
    go_ret2
    exact ⟨by rw [hv.out]; rfl, hB⟩
theorem inv_ne_any (a : UInt8) (HA : Hid (a ≠ 0)) (w : World) : Calls Try.prog 53 #[B a] w fun e w' => Ret2 w (B (Gf.inv a)) (.int .i64 0) e w' := by
  have h := inv_any a w
  rw [if_neg HA.out] at h
  exact h
/-- the inverse, and some error code -/
def RetInv (w : World) (a : UInt8) (e : Ending) (w' : World) : Prop := ∃ c : Int, Ret2 w (B (Gf.inv a)) (.int .i64 c) e w'
theorem inv_some (a : UInt8) (w : World) : Calls Try.prog 53 #[B a] w fun e w' => RetInv w a e w' := (inv_any a w).mono fun _ _ h => ⟨_, h⟩
end Go.Proofs.Ytjmeoeielbkkiaa
