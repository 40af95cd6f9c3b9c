import Derived.Test.YtknfkhackmnnaaaW3
import Derived.Test.YtknfkhackmnnaaaShelf
set_option maxRecDepth 100000
set_option linter.unusedVariables false
set_option linter.unusedSimpArgs false
namespace Go.Proofs.Ytknfkhackmnnaaa
open Go Go.RowKit Go.Deep
/-! a sector is a codeword, as the program says it -/
def frM (m : Int) : Nat := if m = 0 then 12 else if m = 1 then 16 else 0
def okM (m : Int) : Bool := decide (m = 0 ∨ m = 1)
theorem frM_le (m : Int) : frM m ≤ 16 := by
  unfold frM
  split
  · omega
  · split <;> omega
set_option maxRecDepth 100000 in
theorem first_any (m : Int) (w : World) : Calls Try.prog 33 #[.int .i64 m] w fun e w' => e = .returned (.tuple #[.int .i64 (frM m : Int), .bool (okM m)]) ∧ w = w' := by
  by_cases h0 : m = 0
  · subst h0
    go_enter Try.func33, Try.ntmps33
    go_wp2
    go_ret2
    exact ⟨rfl, rfl⟩
  · by_cases h1 : m = 1
    · subst h1
      go_enter Try.func33, Try.ntmps33
      go_wp2
      go_ret2
      exact ⟨rfl, rfl⟩
    · have hk : okM m = false := by simp [okM, h0, h1]
      have hf : frM m = 0 := by simp [frM, h0, h1]
      have b0 : (m == 0) = false := by simpa using h0
      have b1 : (m == 1) = false := by simpa using h1
      go_enter Try.func33, Try.ntmps33
      go_wp2
      go_ret2
      exact ⟨by rw [hk, hf]; rfl, rfl⟩
def pvl (s : ByteArray) (m : Int) : Bool := okM m && (decide (s.size = 2352) && sndL (bl s) (frM m))
set_option maxRecDepth 100000 in
set_option maxHeartbeats 1000000 in
theorem pvalid_any (s : ByteArray) (m : Int) (w : World) : Calls Try.prog 19 #[.string s, .int .i64 m] w fun e w' => Ret1 w (.bool (pvl s m)) e w' := by
  cases hk : okM m with
  | false =>
    have hp : Hid (pvl s m = false) := by show _ = _; simp [pvl, hk]
    have hfi := first_any m w
    rw [hk] at hfi
    have HF := Lib.hid hfi
    clear hfi
    go_enter Try.func19, Try.ntmps19
    go_wp2_with (go_at_call 33; refine HF.out.mono ?_; rintro e w' ⟨rfl, rfl⟩)
    go_ret
    exact ⟨by rw [hp.out]; rfl, Below.refl _ _⟩
  | true =>
    have hfi := first_any m w
    rw [hk] at hfi
    have HF := Lib.hid hfi
    clear hfi
    by_cases hs : s.size = 2352
    · have hp : Hid (pvl s m = sndL (bl s) (frM m)) := by show _ = _; simp [pvl, hk, hs]
      have hcb := conv_bytes s
      have HS := Lib.hid hs
      have hfr := frM_le m
      rw [hs] at hcb
      have hst := sound_any (bl s) (by rw [bl_length, hs]) (frM m) (by omega) w.heap.size (grownCap w 2352 0 5) (Lib.bytesWorld w 5 s) (bytesWorld_row w s).rd (bytesWorld_row w s).lt
      have HT := Lib.hid hst
      clear hst
      go_enter Try.func19, Try.ntmps19
      go_wp2_with (first | (go_at_call 33; refine HF.out.mono ?_; rintro e w' ⟨rfl, rfl⟩) | (go_at_call 42; refine HT.out.mono ?_; rintro e w' ⟨rfl, hB⟩))
      go_ret
      exact ⟨by rw [hp.out]; rfl, (bytesWorld_below w s).trans (hB.mono (bytesWorld_below w s).size)⟩
    · have hp : Hid (pvl s m = false) := by show _ = _; simp [pvl, hs]
      have hb : ((s.size : Int) == 2352) = false := by rw [beq_eq_false_iff_ne]; omega
      clear hs
      go_enter Try.func19, Try.ntmps19
      go_wp2_with (go_at_call 33; refine HF.out.mono ?_; rintro e w' ⟨rfl, rfl⟩)
      go_ret
      exact ⟨by rw [hp.out]; rfl, Below.refl _ _⟩
theorem cw_zero (n p : Nat) : Gf.IsCw (List.replicate n 0) p := fun j _ => Gf.hor_zeros n _
theorem tkL_zero (n f : Nat) (os : List Nat) : tkL (List.replicate n 0) f os = List.replicate os.length 0 := by
  unfold tkL
  rw [List.eq_replicate_iff]
  refine ⟨by simp, fun b hb => ?_⟩
  obtain ⟨o, _, rfl⟩ := List.mem_map.1 hb
  rw [Gf.co_replicate]
  split <;> rfl
theorem snd_zero (n f : Nat) : sndL (List.replicate n 0) f = true := List.all_eq_true.2 fun k _ => by
  unfold okW
  rw [tkL_zero]
  refine (vld_iff _ _).2 ⟨?_, by rw [bl_str]; exact cw_zero _ _⟩
  rw [str_size, List.length_replicate, wordN_length]
  split <;> decide
end Go.Proofs.Ytknfkhackmnnaaa
