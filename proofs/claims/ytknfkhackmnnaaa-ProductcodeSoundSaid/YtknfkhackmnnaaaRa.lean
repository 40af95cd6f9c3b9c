import Derived.Test.YtknfkhackmnnaaaAp
set_option maxRecDepth 100000
set_option linter.unusedVariables false
set_option linter.unusedSimpArgs false
namespace Go.Proofs.Ytknfkhackmnnaaa
open Go.RowKit Go.Deep
theorem strs_ne {a b : ByteArray} (h : a ≠ b) : (a.toList == b.toList) = false := by
  rw [beq_eq_false_iff_ne, ByteArray.toList_eq, ByteArray.toList_eq]
  exact fun e => h (bl_inj e)
theorem strs_eq {a b : ByteArray} (h : a = b) : (a.toList == b.toList) = true := by
  rw [h]; exact beq_self_eq_true _
set_option maxRecDepth 100000 in
set_option maxHeartbeats 1000000 in
theorem differ_any (a b : ByteArray) (hab : a.size = b.size) (ha : a.size ≤ 100000) (w : World) :
    Calls Try.prog 25 #[.string a, .string b] w fun e w' => Ret1 w (.int .i64 (difK (bl a) (bl b) a.size : Nat)) e w' := by
  have hb1 : a.size ≤ b.size := by omega
  have hb2 : b.size ≤ a.size := by omega
  clear hab
  go_enter Try.func25, Try.ntmps25
  go_wp2
  go_loopw [5, 6] (fun x i wr => ∃ k d : Nat, k ≤ a.size ∧ i = .int .i64 k ∧ x = .int .i64 d ∧ d ≤ k ∧ Hid (d = difK (bl a) (bl b) k) ∧ Below w.heap.size w wr) (fun _ i _ => a.size - (intOf i).toNat)
  case atStart => exact ⟨0, 0, by omega, rfl, rfl, by omega, rfl, Below.refl _ _⟩
  case round =>
    obtain ⟨k, d, hk, rfl, rfl, hd, hdo, hB⟩ := hrel
    by_cases hlt : k < a.size
    · have hlt2 : k < b.size := by omega
      have ea := byte_at a k hlt
      have eb := byte_at b k hlt2
      have hi0 : (0 : Int) ≤ (k : Int) := by omega
      have hi1 : (k : Int) < (a.size : Int) := by omega
      have hi2 : (k : Int) < (b.size : Int) := by omega
      have hds := difK_succ (bl a) (bl b) k
      by_cases he : Gf.co (bl a) k = Gf.co (bl b) k
      · have hb1 : (((Gf.co (bl a) k).toNat : Int) == ((Gf.co (bl b) k).toNat : Int)) = true := by rw [he]; simp
        have hn : Hid (d = difK (bl a) (bl b) (k + 1)) := by
          show _ = _
          rw [hds, if_neg (by simpa using he)]
          exact hdo.out
        clear hds he
        go_wp2
        go_quiet (fail)
        clear ea eb
        go_wp2
        go_roundw
        case rel => exact ⟨k + 1, d, by omega, by go_num, rfl, by omega, hn, pw_below_drewN' hB _⟩
        case measure => simp [intOf]; omega
      · have hb1 : (((Gf.co (bl a) k).toNat : Int) == ((Gf.co (bl b) k).toNat : Int)) = false := by rw [beq_eq_false_iff_ne]; exact fun e => he (u8_inj e)
        have hn : Hid (d + 1 = difK (bl a) (bl b) (k + 1)) := by
          show _ = _
          rw [hds, if_pos he]
          have := hdo.out
          omega
        clear hds he
        go_wp2
        go_quiet (fail)
        clear ea eb
        go_wp2
        go_roundw
        case rel => exact ⟨k + 1, d + 1, by omega, by go_num, by go_num, by omega, hn, pw_below_drewN' hB _⟩
        case measure => simp [intOf]; omega
    · have hkp : k = a.size := by omega
      have HK := Lib.hid hkp
      clear hkp
      go_wp2
      go_ret
      exact ⟨by rw [hdo.out, HK.out]; rfl, hB⟩
end Go.Proofs.Ytknfkhackmnnaaa
