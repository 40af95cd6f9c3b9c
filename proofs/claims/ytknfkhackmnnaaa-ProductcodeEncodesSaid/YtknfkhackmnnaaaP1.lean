import Derived.Test.YtknfkhackmnnaaaOc
set_option maxRecDepth 100000
set_option linter.unusedVariables false
set_option linter.unusedSimpArgs false
namespace Go.Proofs.Ytknfkhackmnnaaa
open Go.RowKit Go.Deep
/-! the words of the product code -/
theorem infoIntP : (Try.prog.info? 3).map (fun i => (i.zero, i.size, i.bytes)) = some (some (.int .i64 0), 1, 8) := by kernel_rfl
def pwI (n k : Nat) : List Value := (List.range k).map fun i => Value.int .i64 ((12 + 2 * (n / 2 + 43 * i) + n % 2 : Nat) : Int)
theorem pwI_length (n k : Nat) : (pwI n k).length = k := by simp [pwI]
theorem pwI_succ (n k : Nat) : pwI n (k + 1) = pwI n k ++ [Value.int .i64 ((12 + 2 * (n / 2 + 43 * k) + n % 2 : Nat) : Int)] := by simp [pwI, List.range_succ]
set_option maxRecDepth 100000 in
theorem offset_any (a k : Nat) (ha : a ≤ 10) (hk : k ≤ 100000) (w : World) : Calls Try.prog 31 #[.int .i64 (a : Int), .int .i64 (k : Int)] w fun e w' => e = .returned (.int .i64 ((12 + 2 * k + a : Nat) : Int)) ∧ w = w' := by
  go_enter Try.func31, Try.ntmps31
  go_wp2
  go_ret
  exact ⟨ret_i64 (by omega), rfl⟩
set_option maxRecDepth 100000 in
theorem pword_no (n : Int) (h : ¬ (0 ≤ n ∧ n < 86)) (w : World) : Calls Try.prog 12 #[.int .i64 n] w fun e w' => e = .returned (.tuple #[.slice none 0 0, .int .i64 2]) ∧ w = w' := by
  by_cases h0 : n < 0
  · go_enter Try.func12, Try.ntmps12
    go_wp2
    go_ret2
    exact ⟨rfl, rfl⟩
  · have h1 : 86 ≤ n := by omega
    go_enter Try.func12, Try.ntmps12
    go_wp2
    go_ret2
    exact ⟨rfl, rfl⟩
/-- a new slice with a second result -/
def RetVals (w : World) (xs : List Value) (v : Value) (e : Ending) (w' : World) : Prop :=
  ∃ b c, e = .returned (.tuple #[.slice (some ⟨b, 0, none⟩) xs.length c, v]) ∧ w.heap.size ≤ b ∧ b < w'.heap.size ∧ (∀ j, j < xs.length → w'.cell? ⟨b, j, none⟩ = xs[j]?) ∧ Below w.heap.size w w' ∧ xs.length ≤ c
set_option maxRecDepth 100000 in
set_option maxHeartbeats 1000000 in
theorem pword_yes (n : Nat) (h : n < 86) (w : World) : Calls Try.prog 12 #[.int .i64 (n : Int)] w fun e w' => RetVals w (pwI n 26) (.int .i64 0) e w' := by
  have d1 : ¬ (n : Int) < 0 := by omega
  have hq : Hid ((n : Int) / 2 = ((n / 2 : Nat) : Int)) := by show _ = _; rfl
  have hm : Hid ((n : Int) % 2 = ((n % 2 : Nat) : Int)) := by show _ = _; rfl
  go_enter Try.func12, Try.ntmps12
  go_wp2
  go_loopw [4, 12] (fun v i wr => ∃ k : Nat, k ≤ 26 ∧ i = .int .i64 k ∧ Ocv 3 wr w.heap.size v (pwI n k) ∧ Below w.heap.size w wr) (fun _ i _ => 26 - (intOf i).toNat)
  case atStart => exact ⟨0, by omega, rfl, Ocv.nil _ _ _, Below.refl _ _⟩
  case round =>
    obtain ⟨k, hk, rfl, hO, hB⟩ := hrel
    by_cases hlt : k < 26
    · have HX := Lib.hid (pwI_succ n k)
      have hsz := hB.size
      have hv : Hid (Value.int .i64 (12 + 2 * ((n : Int) / 2 + 43 * (k : Int)) + (n : Int) % 2) = Value.int .i64 ((12 + 2 * (n / 2 + 43 * k) + n % 2 : Nat) : Int)) := by
        show _ = _
        congr 1
      have hof := offset_any (n % 2) (n / 2 + 43 * k) (by omega) (by omega) wr
      rw [show (((n % 2 : Nat)) : Int) = (n : Int) % 2 from rfl, show ((n / 2 + 43 * k : Nat) : Int) = (n : Int) / 2 + 43 * (k : Int) from by omega, ← hv.out] at hof
      have HOF := Lib.hid hof
      have HO := Lib.hid hO
      have HB := Lib.hid hB
      clear hO hB hof
      go_wp2_with (first | (go_at_call 31; refine HOF.out.mono ?_; rintro e w' ⟨rfl, rfl⟩) | (at_builtin; refine wpList_appv 24 3 (.int .i64 0) 8 Try.underlying24 infoIntP rfl (by omega) rfl _ _ rfl w.heap.size k _ (pwI n k) rfl (HO.out.alloc _) (by rw [pwI_length]) _ _ 1 [Value.int .i64 (12 + 2 * ((n : Int) / 2 + 43 * (k : Int)) + (n : Int) % 2)] rfl rfl (by omega) (fun j hj => by obtain rfl : j = 0 := by omega
                                                                                                                                                                                                                                                                                                                                                                                                 exact cell_new _ _ _) (fun y hy => by obtain rfl : y = _ := by simpa using hy
                                                                                                                                                                                                                                                                                                                                                                                                                                       rfl) (by omega) (by rw [World.size_alloc]; omega) ?_; intro g2 c3 w4 hO4 hK4 _ hg4))
      have hB4 := hK4 _ _ (HB.out.alloc hsz _) (Nat.le_refl _)
      rw [hv.out, ← HX.out] at hO4
      clear hK4
      go_wp2
      go_roundw
      case rel => exact ⟨k + 1, by omega, by go_num, hO4, hB4⟩
      case measure => simp [intOf]; omega
    · have hkp : k = 26 := by omega
      subst hkp
      obtain ⟨g, c, rfl, hg0, hg1, hc, hcc⟩ := hO.row (by rw [pwI_length]; omega)
      rw [pwI_length] at hc hcc ⊢
      go_wp2
      go_ret2
      exact ⟨g, c, by rw [pwI_length]; rfl, hg0, hg1, by rw [pwI_length]; exact hc, hB, by rw [pwI_length]; exact hcc⟩
end Go.Proofs.Ytknfkhackmnnaaa
