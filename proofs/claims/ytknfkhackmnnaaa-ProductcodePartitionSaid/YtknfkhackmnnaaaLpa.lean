import Derived.Test.YtknfkhackmnnaaaW5
import Derived.Test.YtknfkhackmnnaaaPl
set_option maxRecDepth 100000
set_option linter.unusedVariables false
set_option linter.unusedSimpArgs false
namespace Go.Proofs.Ytknfkhackmnnaaa
open Go Go.RowKit Go.Deep
/-! the law ProductcodePartition -/
theorem cells_rdN {w : World} {b : Nat} {xs : List Value} {os : List Nat} (he : xs = os.map vI) (hc : ∀ j, j < xs.length → w.cell? ⟨b, j, none⟩ = xs[j]?) : RdN w b os := fun j hj => by
  rw [hc j (by rw [he, List.length_map]; exact hj), he, List.getElem?_map, List.getD_eq_getElem?_getD, List.getElem?_eq_getElem hj]
  rfl
theorem pword_at (n : Nat) (h : n < 86) (w : World) : Calls Try.prog 12 #[.int .i64 (n : Int)] w fun e w' => ∃ b c, e = .returned (.tuple #[.slice (some ⟨b, 0, none⟩) 26 c, .int .i64 0]) ∧ b < w'.heap.size ∧ (∀ j, j < 26 → w'.cell? ⟨b, j, none⟩ = some (.int .i64 ((pf n j : Nat) : Int))) ∧ Below w.heap.size w w' := by
  refine (pword_yes n h w).mono ?_
  rintro e w' ⟨b, c, rfl, h0, h1, hc, hB⟩
  have hr := cells_rdN (pwI_map n 26) hc
  rw [pwI_length]
  exact ⟨b, c, rfl, h1, fun j hj => by rw [hr j (by simpa [pwN] using hj), pwN_at n j hj], hB⟩
theorem qword_at (n : Nat) (h : n < 52) (w : World) : Calls Try.prog 13 #[.int .i64 (n : Int)] w fun e w' => ∃ b c, e = .returned (.tuple #[.slice (some ⟨b, 0, none⟩) 45 c, .int .i64 0]) ∧ b < w'.heap.size ∧ (∀ j, j < 45 → w'.cell? ⟨b, j, none⟩ = some (.int .i64 ((qf n j : Nat) : Int))) ∧ Below w.heap.size w w' := by
  refine (qword_yes n h w).mono ?_
  rintro e w' ⟨b, c, rfl, h0, h1, hc, hB⟩
  have hr := cells_rdN (qwL_map n) hc
  rw [qwL_length]
  exact ⟨b, c, rfl, h1, fun j hj => by rw [hr j (by simpa [qwN] using hj), qwN_at n j hj], hB⟩
set_option maxRecDepth 100000 in
set_option maxHeartbeats 4000000 in
theorem partition_any (o : Nat) (ho : o < 65536) (w : World) : Calls Try.prog 3 #[.int .u16 (o : Int)] w fun e w' => Ret1 w (.bool true) e w' := by
  obtain ⟨a, ha⟩ : ∃ a : Nat, a = 12 + o % 2340 := ⟨_, rfl⟩
  have hai : Hid ((a : Int) = 12 + (o : Int) % 2340) := by show _ = _; omega
  have ha1 : Hid (12 ≤ a ∧ a < 2352) := by show _ ∧ _; omega
  clear ha
  have hwr : IntKind.i64.wrap (o : Int) = (o : Int) := IntWalk.i64_in _ (by omega)
  go_enter Try.func3, Try.ntmps3
  go_wp2_with (go_at_call 11; refine (pawake_any _).mono ?_; rintro e w1 ⟨rfl, hB1⟩)
  rw [← hai.out]
  go_loopw [4, 22] (fun p i wr => ∃ n c : Nat, n ≤ 86 ∧ i = .int .i64 n ∧ p = .int .i64 c ∧ Hid (c = sumF (cP a) n) ∧ c ≤ 26 * n ∧ Below w.heap.size w wr) (fun _ i _ => 86 - (intOf i).toNat)
  case atStart => exact ⟨0, 0, by omega, rfl, rfl, rfl, by omega, hB1⟩
  case round =>
    obtain ⟨n, c, hn, rfl, rfl, hc, hcl, hB⟩ := hrel
    by_cases hlt : n < 86
    · go_wp2_with (go_at_call 12; refine (pword_at n hlt _).mono ?_; rintro e w2 ⟨b, cap, rfl, hb, hr, hB2⟩)
      have hB3 := hB.trans (hB2.mono hB.size)
      go_loopw [4, 39] (fun p i wi => ∃ m d : Nat, m ≤ 26 ∧ i = .int .i64 m ∧ p = .int .i64 d ∧ Hid (d = c + cntF (pf n) a m) ∧ d ≤ 26 * n + m ∧ wi = w2) (fun _ i _ => 26 - (intOf i).toNat)
      case atStart => exact ⟨0, c, by omega, rfl, rfl, rfl, by omega, rfl⟩
      case round =>
        obtain ⟨m, d, hm, rfl, rfl, hd, hdl, rfl⟩ := hrel
        by_cases hlt2 : m < 26
        · have hcm := hr m hlt2
          by_cases he : pf n m = a
          · have hbe : (((pf n m : Nat) : Int) == (a : Int)) = true := by rw [he]; simp
            have hd2 : Hid (d + 1 = c + cntF (pf n) a (m + 1)) := by
              show _ = _
              have := hd.out
              simp only [cntF, if_pos he]
              omega
            go_wp2
            go_roundw
            case rel => exact ⟨m + 1, d + 1, by omega, by go_num, by go_num, hd2, by omega, trivial⟩
            case measure => simp [intOf]; omega
          · have hbe : (((pf n m : Nat) : Int) == (a : Int)) = false := by rw [beq_eq_false_iff_ne]; omega
            have hd2 : Hid (d = c + cntF (pf n) a (m + 1)) := by
              show _ = _
              have := hd.out
              simp only [cntF, if_neg he]
              omega
            go_wp2
            go_roundw
            case rel => exact ⟨m + 1, d, by omega, by go_num, rfl, hd2, by omega, trivial⟩
            case measure => simp [intOf]; omega
        · have hm26 : m = 26 := by omega
          have hd2 : Hid (d = sumF (cP a) (n + 1)) := by
            show _ = _
            have h1 := hd.out
            have h2 := hc.out
            rw [hm26] at h1
            simp only [sumF, cP]
            omega
          go_wp2
          go_roundw
          case rel => exact ⟨n + 1, d, by omega, by go_num, rfl, hd2, by omega, hB3⟩
          case measure => simp [intOf]; omega
    · have e86 : ((n : Nat) : Int) = 86 := by omega
      have n86 : n = 86 := by omega
      rw [e86]
      go_wp2
      rw [n86] at hc hcl
      clear hn hlt e86 n86
      go_loopw [5, 50] (fun p i wr => ∃ n d : Nat, n ≤ 52 ∧ i = .int .i64 n ∧ p = .int .i64 d ∧ Hid (d = sumF (cQ a) n) ∧ d ≤ 45 * n ∧ Below w.heap.size w wr) (fun _ i _ => 52 - (intOf i).toNat)
      case atStart => exact ⟨0, 0, by omega, rfl, rfl, rfl, by omega, hB⟩
      case round =>
        clear hB
        obtain ⟨n, d0, hn, rfl, rfl, hd0, hdl0, hB⟩ := hrel
        by_cases hlt : n < 52
        · go_wp2_with (go_at_call 13; refine (qword_at n hlt _).mono ?_; rintro e w2 ⟨b, cap, rfl, hb, hr, hB2⟩)
          have hB3 := hB.trans (hB2.mono hB.size)
          go_loopw [5, 67] (fun p i wi => ∃ m d : Nat, m ≤ 45 ∧ i = .int .i64 m ∧ p = .int .i64 d ∧ Hid (d = d0 + cntF (qf n) a m) ∧ d ≤ 45 * n + m ∧ wi = w2) (fun _ i _ => 45 - (intOf i).toNat)
          case atStart => exact ⟨0, d0, by omega, rfl, rfl, rfl, by omega, rfl⟩
          case round =>
            obtain ⟨m, d, hm, rfl, rfl, hd, hdl, rfl⟩ := hrel
            by_cases hlt2 : m < 45
            · have hcm := hr m hlt2
              by_cases he : qf n m = a
              · have hbe : (((qf n m : Nat) : Int) == (a : Int)) = true := by rw [he]; simp
                have hd2 : Hid (d + 1 = d0 + cntF (qf n) a (m + 1)) := by
                  show _ = _
                  have := hd.out
                  simp only [cntF, if_pos he]
                  omega
                go_wp2
                go_roundw
                case rel => exact ⟨m + 1, d + 1, by omega, by go_num, by go_num, hd2, by omega, trivial⟩
                case measure => simp [intOf]; omega
              · have hbe : (((qf n m : Nat) : Int) == (a : Int)) = false := by rw [beq_eq_false_iff_ne]; omega
                have hd2 : Hid (d = d0 + cntF (qf n) a (m + 1)) := by
                  show _ = _
                  have := hd.out
                  simp only [cntF, if_neg he]
                  omega
                go_wp2
                go_roundw
                case rel => exact ⟨m + 1, d, by omega, by go_num, rfl, hd2, by omega, trivial⟩
                case measure => simp [intOf]; omega
            · have hm45 : m = 45 := by omega
              have hd2 : Hid (d = sumF (cQ a) (n + 1)) := by
                show _ = _
                have h1 := hd.out
                have h2 := hd0.out
                rw [hm45] at h1
                simp only [sumF, cQ]
                omega
              go_wp2
              go_roundw
              case rel => exact ⟨n + 1, d, by omega, by go_num, rfl, hd2, by omega, hB3⟩
              case measure => simp [intOf]; omega
        · have n52 : n = 52 := by omega
          rw [n52] at hd0
          by_cases hge : 2248 ≤ a
          · have hc1 : c = 0 := by rw [hc.out]; exact part_p0 a hge
            have hd1 : d0 = 1 := by rw [hd0.out]; exact part_q1 a hge ha1.out.2
            subst hc1
            subst hd1
            go_wp2
            go_ret
            exact ⟨rfl, hB⟩
          · have hc1 : c = 1 := by rw [hc.out]; exact part_p a ha1.out.1 (by omega)
            have hd1 : d0 = 1 := by rw [hd0.out]; exact part_q a ha1.out.1 (by omega)
            subst hc1
            subst hd1
            go_wp2
            go_ret
            exact ⟨rfl, hB⟩
theorem partition_law (a : Int) (h : (Lit.int .u16 a).wf = true) (w : World) : Calls Try.prog 3 #[.int .u16 a] w fun e w' => e = .returned (.bool true) ∧ Below w.heap.size w w' := by
  have hb : 0 ≤ a ∧ a < 65536 := by
    have := h
    simp only [Lit.wf, Bool.and_eq_true, decide_eq_true_eq] at this
    have e1 : IntKind.u16.min = 0 := by decide
    have e2 : IntKind.u16.max = 65535 := by decide
    omega
  obtain ⟨o, rfl⟩ := Int.eq_ofNat_of_zero_le hb.1
  exact partition_any o (by omega) w
end Go.Proofs.Ytknfkhackmnnaaa
