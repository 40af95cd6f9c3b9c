import Derived.OpenShut
import Derived.Test.YtjmeoeielbkkiaaRa
import Derived.Test.YtjmeoeielbkkiaaSa
set_option maxRecDepth 100000
set_option linter.unusedVariables false
set_option linter.unusedSimpArgs false
namespace Go.Proofs.Ytjmeoeielbkkiaa
open Go.RowKit Go.Deep
/-- a slice of numbers that came in -/
theorem rdi_of {w : World} {x : Addr} {zs : List Int} (hc : ∀ i, i < zs.length → w.cell? (x.add i) = some (.int .i64 (zs.getD i 0))) (n : Nat) : RdI w (some x) (zs.take n) := fun hl => by
  have hp : 0 < zs.length := by rw [List.length_take] at hl; omega
  obtain ⟨b, off, rfl, h⟩ := ints_at hc hp
  refine ⟨b, off, rfl, World.block_lt_of_cell? w _ (h 0 hp), fun j hj => ?_⟩
  rw [List.length_take] at hj
  rw [h j (by omega)]
  unfold ci
  rw [List.getD_eq_getElem?_getD, List.getD_eq_getElem?_getD, List.getElem?_take, if_pos (by omega)]
set_option maxRecDepth 100000 in
set_option maxHeartbeats 1000000 in
theorem positions_any (s : ByteArray) (er : List Int) (A : Option Addr) (c : Nat) (hs : s.size ≤ 100000) (hl : er.length ≤ 100000) (w : World) (h : RdI w A er) :
    Calls Try.prog 20 #[.string s, .slice A er.length c] w fun e w' => (∃ b : Bool, e = .returned (.bool b) ∧ Hid (b = true ↔ posN s.size er er.length)) ∧ Below w.heap.size w w' := by
  go_enter Try.func20, Try.ntmps20
  go_wp2
  go_loopw [5] (fun i wr => ∃ k : Nat, k ≤ er.length ∧ i = .int .i64 k ∧ Hid (posN s.size er k) ∧ Below w.heap.size w wr) (fun i _ => er.length - (intOf i).toNat)
  case atStart => exact ⟨0, by omega, rfl, fun j hj => by omega, Below.refl _ _⟩
  case round =>
    obtain ⟨k, hk, rfl, hP, hB⟩ := hrel
    by_cases hlt : k < er.length
    · obtain ⟨ba, oa, rfl, hba, hr⟩ := h (by omega)
      have hcn : ∀ j, j < er.length → wr.cell? ⟨ba, oa + j, none⟩ = some (.int .i64 (ci er j)) := fun j hj => (hB.cell (p := ⟨ba, oa + j, none⟩) hba).trans (hr j hj)
      have hck := hcn k hlt
      have HCN := Lib.hid hcn
      have HB : Hid (∀ n, Below w.heap.size w (wr.drewN n)) := fun n => pw_below_drewN' hB n
      clear hcn hr hB
      have hk0 : (0 : Int) ≤ (k : Int) := by omega
      have hk1 : (k : Int) < (er.length : Int) := by omega
      by_cases h0 : ci er k < 0
      · have hnP : Hid (¬ posN s.size er er.length) := fun hh => by have := (hh k hlt).1; omega
        have hd : decide (ci er k < 0) = true := decide_eq_true h0
        go_wp2
        go_quiet (fail)
        go_wp2
        go_ret
        exact ⟨⟨_, rfl, fun h => by simp at h, fun h => absurd h hnP.out⟩, HB.out _⟩
      · have hd : decide (ci er k < 0) = false := decide_eq_false h0
        by_cases h1 : (s.size : Int) ≤ ci er k
        · have hnP : Hid (¬ posN s.size er er.length) := fun hh => by have := (hh k hlt).2.1; omega
          have hd1 : decide ((s.size : Int) ≤ ci er k) = true := decide_eq_true h1
          go_wp2
          go_quiet (fail)
          go_wp2
          go_ret
          exact ⟨⟨_, rfl, fun h => by simp at h, fun h => absurd h hnP.out⟩, HB.out _⟩
        · have hd1 : decide ((s.size : Int) ≤ ci er k) = false := decide_eq_false h1
          rcases k with _ | j
          · have hn : Hid (posN s.size er (0 + 1)) := posN_step hP.out (by omega) (by omega) (fun h => absurd h (Nat.lt_irrefl 0))
            rw [Nat.add_zero] at hck
            clear h0 h1
            go_wp2
            go_quiet (fail)
            go_wp2
            go_roundw
            case rel => exact ⟨0 + 1, by omega, by go_num, hn, HB.out _⟩
            case measure => simp [intOf]; omega
          · have hcj := HCN.out j (by omega)
            have hj0 : (0 : Int) ≤ (j : Int) := by omega
            have hj1 : (j : Int) < (er.length : Int) := by omega
            have hj2 : (((j + 1 : Nat) : Int) - 1) = (j : Int) := by omega
            by_cases h2 : ci er (j + 1) ≤ ci er j
            · have hnP : Hid (¬ posN s.size er er.length) := fun hh => by have := (hh (j + 1) hlt).2.2 (by omega); rw [Nat.add_sub_cancel] at this; omega
              have hd2 : decide (ci er (j + 1) ≤ ci er j) = true := decide_eq_true h2
              clear h0 h1 h2
              go_wp2
              go_quiet (fail)
              go_wp2
              go_ret
              exact ⟨⟨_, rfl, fun h => by simp at h, fun h => absurd h hnP.out⟩, HB.out _⟩
            · have hn : Hid (posN s.size er (j + 1 + 1)) := posN_step hP.out (by omega) (by omega) (fun _ => by rw [Nat.add_sub_cancel]; omega)
              have hd2 : decide (ci er (j + 1) ≤ ci er j) = false := decide_eq_false h2
              clear h0 h1 h2
              go_wp2
              go_quiet (fail)
              go_wp2
              go_roundw
              case rel => exact ⟨j + 1 + 1, by omega, by go_num, hn, HB.out _⟩
              case measure => simp [intOf]; omega
    · have hkp : k = er.length := by omega
      have HK := Lib.hid hkp
      clear hkp
      go_wp2
      go_ret
      exact ⟨⟨_, rfl, fun _ => by rw [← HK.out]; exact hP.out, fun _ => rfl⟩, hB⟩
end Go.Proofs.Ytjmeoeielbkkiaa
