import Derived.Test.YtknfkhackmnnaaaP2
set_option maxRecDepth 100000
set_option linter.unusedVariables false
set_option linter.unusedSimpArgs false
namespace Go.Proofs.Ytknfkhackmnnaaa
open Go.RowKit Go.Deep
/-! the words of the reference -/
theorem Ocv.empty {e : TypeId} {w : World} {base : Nat} (hb : base ≤ w.heap.size) : Ocv e (w.alloc (.cells #[] e)) base (.slice (some ⟨w.heap.size, 0, none⟩) 0 0) [] :=
  ⟨by simp, .inr ⟨w.heap.size, 0, #[], rfl, hb, heap_alloc_new w _, Nat.le_refl 0, by unfold maxLen; omega, by simp, by simp⟩⟩
set_option maxRecDepth 100000 in
theorem offsetr_any (a k : Nat) (ha : a ≤ 10) (hk : k ≤ 100000) (w : World) : Calls Try.prog 32 #[.int .i64 (k : Int), .int .i64 (a : Int)] w fun e w' => e = .returned (.int .i64 ((12 + 2 * k + a : Nat) : Int)) ∧ w = w' := by
  go_enter Try.func32, Try.ntmps32
  go_wp2
  go_ret
  exact ⟨ret_i64 (by omega), rfl⟩
set_option maxRecDepth 100000 in
theorem pwordr_no (n : Int) (h : ¬ (0 ≤ n ∧ n < 86)) (w : World) : Calls Try.prog 14 #[.int .i64 n] w fun e w' => e = .returned (.tuple #[.slice none 0 0, .int .i64 2]) ∧ w = w' := by
  by_cases h0 : n < 0
  · go_enter Try.func14, Try.ntmps14
    go_wp2
    go_ret2
    exact ⟨rfl, rfl⟩
  · have h1 : 86 ≤ n := by omega
    go_enter Try.func14, Try.ntmps14
    go_wp2
    go_ret2
    exact ⟨rfl, rfl⟩
set_option maxRecDepth 100000 in
set_option maxHeartbeats 1000000 in
theorem pwordr_yes (n : Nat) (h : n < 86) (w : World) : Calls Try.prog 14 #[.int .i64 (n : Int)] w fun e w' => RetVals w (pwI n 26) (.int .i64 0) e w' := by
  have d1 : ¬ (n : Int) < 0 := by omega
  have hq : Hid ((n : Int) / 2 = ((n / 2 : Nat) : Int)) := by show _ = _; rfl
  have hm : Hid ((n : Int) % 2 = ((n % 2 : Nat) : Int)) := by show _ = _; rfl
  go_enter Try.func14, Try.ntmps14
  go_wp2
  go_loopw [4, 5] (fun v i wr => ∃ k : Nat, k ≤ 26 ∧ i = .int .i64 k ∧ Ocv 3 wr w.heap.size v (pwI n k) ∧ Below w.heap.size w wr) (fun _ i _ => 26 - (intOf i).toNat)
  case atStart => exact ⟨0, by omega, rfl, Ocv.empty (Nat.le_refl _), (Below.refl _ _).alloc (Nat.le_refl _) _⟩
  case round =>
    obtain ⟨k, hk, rfl, hO, hB⟩ := hrel
    by_cases hlt : k < 26
    · have HX := Lib.hid (pwI_succ n k)
      have hsz := hB.size
      have hv : Hid (Value.int .i64 (12 + 2 * ((n : Int) / 2 + 43 * (k : Int)) + (n : Int) % 2) = Value.int .i64 ((12 + 2 * (n / 2 + 43 * k) + n % 2 : Nat) : Int)) := by
        show _ = _
        congr 1
      have hof := offsetr_any (n % 2) (n / 2 + 43 * k) (by omega) (by omega) wr
      rw [show (((n % 2 : Nat)) : Int) = (n : Int) % 2 from rfl, show ((n / 2 + 43 * k : Nat) : Int) = (n : Int) / 2 + 43 * (k : Int) from by omega, ← hv.out] at hof
      have HOF := Lib.hid hof
      have HO := Lib.hid hO
      have HB := Lib.hid hB
      clear hO hB hof
      go_wp2_with (first | (go_at_call 32; refine HOF.out.mono ?_; rintro e w' ⟨rfl, rfl⟩) | (at_builtin; refine wpList_appv 24 3 (.int .i64 0) 8 Try.underlying24 infoIntP rfl (by omega) rfl _ _ rfl w.heap.size k _ (pwI n k) rfl (HO.out.alloc _) (by rw [pwI_length]) _ _ 1 [Value.int .i64 (12 + 2 * ((n : Int) / 2 + 43 * (k : Int)) + (n : Int) % 2)] rfl rfl (by omega) (fun j hj => by obtain rfl : j = 0 := by omega
                                                                                                                                                                                                                                                                                                                                                                                                 exact cell_new _ _ _) (fun y hy => by obtain rfl : y = _ := by simpa using hy
                                                                                                                                                                                                                                                                                                                                                                                                                                       rfl) (by omega) (by rw [World.size_alloc]; omega) ?_; intro g2 c3 w4 hO4 hK4 _ hg4))
      have hB4 := hK4 _ _ (HB.out.alloc hsz _) (Nat.le_refl _)
      rw [hv.out, ← HX.out] at hO4
      clear hK4
      go_wp2
      go_roundw
      case rel => exact ⟨k + 1, by omega, by go_num, hO4, hB4⟩
      case measure => simp [intOf]; omega
    · have hkp : k = 26 := by omega
      subst hkp
      obtain ⟨g, c, rfl, hg0, hg1, hc, hcc⟩ := hO.row (by rw [pwI_length]; omega)
      rw [pwI_length] at hc hcc ⊢
      go_wp2
      go_ret2
      exact ⟨g, c, by rw [pwI_length]; rfl, hg0, hg1, by rw [pwI_length]; exact hc, hB, by rw [pwI_length]; exact hcc⟩
set_option maxRecDepth 100000 in
theorem qwordr_no (n : Int) (h : ¬ (0 ≤ n ∧ n < 52)) (w : World) : Calls Try.prog 15 #[.int .i64 n] w fun e w' => e = .returned (.tuple #[.slice none 0 0, .int .i64 2]) ∧ w = w' := by
  by_cases h0 : n < 0
  · go_enter Try.func15, Try.ntmps15
    go_wp2
    go_ret2
    exact ⟨rfl, rfl⟩
  · have h1 : 52 ≤ n := by omega
    go_enter Try.func15, Try.ntmps15
    go_wp2
    go_ret2
    exact ⟨rfl, rfl⟩
set_option maxRecDepth 100000 in
set_option maxHeartbeats 1000000 in
theorem qwordr_yes (n : Nat) (h : n < 52) (w : World) : Calls Try.prog 15 #[.int .i64 (n : Int)] w fun e w' => RetVals w (qwL n) (.int .i64 0) e w' := by
  have d1 : ¬ (n : Int) < 0 := by omega
  go_enter Try.func15, Try.ntmps15
  go_wp2
  go_loopw [4, 5] (fun v i wr => ∃ k : Nat, k ≤ 43 ∧ i = .int .i64 k ∧ Ocv 3 wr w.heap.size v (qwI n k) ∧ Below w.heap.size w wr) (fun _ i _ => 43 - (intOf i).toNat)
  case atStart => exact ⟨0, by omega, rfl, Ocv.empty (Nat.le_refl _), (Below.refl _ _).alloc (Nat.le_refl _) _⟩
  case round =>
    obtain ⟨k, hk, rfl, hO, hB⟩ := hrel
    by_cases hlt : k < 43
    · have HX := Lib.hid (qwI_succ n k)
      have hsz := hB.size
      have hv : Hid (Value.int .i64 (12 + 2 * ((44 * (k : Int) + 43 * ((n : Int) / 2)) % 1118) + (n : Int) % 2) = Value.int .i64 ((12 + 2 * ((44 * k + 43 * (n / 2)) % 1118) + n % 2 : Nat) : Int)) := by
        show _ = _
        congr 1
      have hof := offsetr_any (n % 2) ((44 * k + 43 * (n / 2)) % 1118) (by omega) (by omega) wr
      rw [show (((n % 2 : Nat)) : Int) = (n : Int) % 2 from rfl, show (((44 * k + 43 * (n / 2)) % 1118 : Nat) : Int) = (44 * (k : Int) + 43 * ((n : Int) / 2)) % 1118 from by omega, ← hv.out] at hof
      have HOF := Lib.hid hof
      have HO := Lib.hid hO
      have HB := Lib.hid hB
      clear hO hB hof
      go_wp2_with (first | (go_at_call 32; refine HOF.out.mono ?_; rintro e w' ⟨rfl, rfl⟩) | (at_builtin; refine wpList_appv 24 3 (.int .i64 0) 8 Try.underlying24 infoIntP rfl (by omega) rfl _ _ rfl w.heap.size k _ (qwI n k) rfl (HO.out.alloc _) (by rw [qwI_length]) _ _ 1 [Value.int .i64 (12 + 2 * ((44 * (k : Int) + 43 * ((n : Int) / 2)) % 1118) + (n : Int) % 2)] rfl rfl (by omega) (one_cell (cell_new _ _ _)) (one_mem rfl) (by omega) (by rw [World.size_alloc]; omega) ?_; intro g2 c3 w4 hO4 hK4 _ hg4))
      have hB4 := hK4 _ _ (HB.out.alloc hsz _) (Nat.le_refl _)
      rw [hv.out, ← HX.out] at hO4
      clear hK4
      go_wp2
      go_roundw
      case rel => exact ⟨k + 1, by omega, by go_num, hO4, hB4⟩
      case measure => simp [intOf]; omega
    · have hkp : k = 43 := by omega
      subst hkp
      have hsz := hB.size
      have hv1 : Hid (Value.int .i64 (12 + 2 * (1118 + (n : Int) / 2) + (n : Int) % 2) = Value.int .i64 ((12 + 2 * (1118 + n / 2) + n % 2 : Nat) : Int)) := by
        show _ = _
        congr 1
      have hv2 : Hid (Value.int .i64 (12 + 2 * (1144 + (n : Int) / 2) + (n : Int) % 2) = Value.int .i64 ((12 + 2 * (1144 + n / 2) + n % 2 : Nat) : Int)) := by
        show _ = _
        congr 1
      have hof1 := offsetr_any (n % 2) (1118 + n / 2) (by omega) (by omega) wr
      rw [show (((n % 2 : Nat)) : Int) = (n : Int) % 2 from rfl, show ((1118 + n / 2 : Nat) : Int) = 1118 + (n : Int) / 2 from by omega, ← hv1.out] at hof1
      have hof2 := offsetr_any (n % 2) (1144 + n / 2) (by omega) (by omega) wr
      rw [show (((n % 2 : Nat)) : Int) = (n : Int) % 2 from rfl, show ((1144 + n / 2 : Nat) : Int) = 1144 + (n : Int) / 2 from by omega, ← hv2.out] at hof2
      have HOF1 := Lib.hid hof1
      have HOF2 := Lib.hid hof2
      have HO := Lib.hid hO
      have HB := Lib.hid hB
      clear hO hB hof1 hof2
      go_wp2_with (first | (go_at_call 32; refine HOF1.out.mono ?_; clear HOF1; rintro e w' ⟨rfl, rfl⟩) | (go_at_call 32; refine HOF2.out.mono ?_; rintro e w' ⟨rfl, rfl⟩) | (at_builtin; refine wpList_appv 24 3 (.int .i64 0) 8 Try.underlying24 infoIntP rfl (by omega) rfl _ _ rfl w.heap.size 43 _ (qwI n 43) rfl (HO.out.alloc _) (by rw [qwI_length]) _ _ 2 [Value.int .i64 (12 + 2 * (1118 + (n : Int) / 2) + (n : Int) % 2), Value.int .i64 (12 + 2 * (1144 + (n : Int) / 2) + (n : Int) % 2)] rfl rfl (by omega) (two_new _ _ _ _) (two_mem rfl rfl) (by omega) (by rw [World.size_alloc]; omega) ?_; intro g2 c3 w4 hO4 hK4 _ hg4))
      have hB4 := hK4 _ _ (HB.out.alloc hsz _) (Nat.le_refl _)
      rw [hv1.out, hv2.out] at hO4
      clear hK4
      have hl : (qwI n 43 ++ [Value.int .i64 ((12 + 2 * (1118 + n / 2) + n % 2 : Nat) : Int), Value.int .i64 ((12 + 2 * (1144 + n / 2) + n % 2 : Nat) : Int)]).length = 45 := by simp [qwI_length]
      obtain ⟨g, c, hv, hg0, hg1, hc, hcc⟩ := hO4.row (by rw [hl]; omega)
      rw [hl] at hv hc hcc
      obtain ⟨e1, e2, e3⟩ := Value.slice.inj hv
      cases e1
      cases e3
      go_wp2
      go_ret2
      exact ⟨g2, c3, by rw [show (qwL n).length = 45 from hl]; rfl, hg0, hg1, by rw [show (qwL n).length = 45 from hl]; exact hc, hB4, by rw [show (qwL n).length = 45 from hl]; exact hcc⟩
end Go.Proofs.Ytknfkhackmnnaaa
