import Derived.Test.YtknfkhackmnnaaaP2
import Derived.Test.YtknfkhackmnnaaaRf
set_option maxRecDepth 100000
set_option linter.unusedVariables false
set_option linter.unusedSimpArgs false
namespace Go.Proofs.Ytknfkhackmnnaaa
open Go Go.RowKit Go.Deep
attribute [local go_sem] Oper.semAt_some
/-! the iterator over all words -/
def wordL (k : Nat) : List Value := if k < 86 then pwI k 26 else qwL (k - 86)
theorem wordL_p {k : Nat} (h : k < 86) : wordL k = pwI k 26 := by simp [wordL, h]
theorem wordL_q {k : Nat} : wordL (86 + k) = qwL k := by
  unfold wordL
  rw [if_neg (by omega), Nat.add_sub_cancel_left]
def Ew (B k : Nat) (x : Value) (W : World) : Prop := ∃ g c, x = .slice (some ⟨g, 0, none⟩) (wordL k).length c ∧ B ≤ g ∧ g < W.heap.size ∧ (∀ j, j < (wordL k).length → W.cell? ⟨g, j, none⟩ = (wordL k)[j]?) ∧ (wordL k).length ≤ c
theorem grown_of_below {w w' : World} (h : Below w.heap.size w w') : w.grownBy w' none := ⟨h.os, h.tape, h.output, h.size, fun k hk _ => h.block k hk⟩
theorem qwL_length (n : Nat) : (qwL n).length = 45 := by simp [qwL, qwI_length]
set_option maxRecDepth 100000 in
set_option maxHeartbeats 2000000 in
theorem words1_seq (n : Nat) (hn : 1 ≤ n) (w : World) : SeqE Fence.wide n Try.prog 60 #[] (Ew w.heap.size) 138 w := fun l J Jx W hW hJ hJx hY h0 => by
  refine callsIn_of_wp Try.func60 rfl trivial ?_ rfl
  simp only [Try.ntmps60, List.size_toArray, List.length_cons, List.length_nil, Nat.reduceAdd, Nat.reduceSub, Array.replicate_succ, Array.replicate_zero, List.push_toArray, List.append_toArray, List.nil_append, List.cons_append]
  gi_wp2
  gi_loopw [8] (fun i wr => ∃ k : Nat, k ≤ 86 ∧ i = .int .i64 k ∧ w.heap.size ≤ wr.heap.size ∧ J k wr) (fun i _ => 86 - (intOf i).toNat)
  case atStart => exact ⟨0, by omega, rfl, hW.size, h0⟩
  case round =>
    obtain ⟨k, hk, rfl, hsz, hj⟩ := hrel
    by_cases hlt : k < 86
    · gi_wp2_with (refine ⟨trivial, ?_⟩; gi_at_call 12; refine (callsIn_wide.2 (pword_yes k hlt wr)).mono ?_; rintro e w1 ⟨g, c, rfl, hg0, hg1, hc, hb1, hcc⟩; have hj1 := hJ k wr w1 none hj (grown_of_below hb1) (fun r e => by cases e); obtain ⟨fn, tmps, assign, body, hy, hR⟩ := hY k (.slice (some ⟨g, 0, none⟩) (pwI k 26).length c) w1 hj1 (by omega) ⟨g, c, by rw [wordL_p hlt], by omega, hg1, by rw [wordL_p hlt]; exact hc, by rw [wordL_p hlt]; exact hcc⟩)
      have hz1 := hb1.size
      refine hR.mono ?_
      rintro e W3 (⟨rfl, hJ3, hz3⟩ | ⟨rfl, hJx3⟩)
      · gi_wp2
        go_roundw
        case rel => exact ⟨k + 1, by omega, by go_num, by omega, hJ3⟩
        case measure => simp [intOf]; omega
      · gi_wp2
        refine bodyPost_ret (results_none rfl _ _ _) rfl ?_
        exact ⟨⟨_, rfl⟩, .inr hJx3⟩
    · have hk86 : k = 86 := by omega
      have e86 : ((k : Nat) : Int) = 86 := by omega
      have hj86 : J (86 + 0) wr := by rw [Nat.add_zero, ← hk86]; exact hj
      rw [e86]
      clear hk hlt e86 hj hk86
      gi_wp2
      gi_loopw [21] (fun i wr => ∃ k : Nat, k ≤ 52 ∧ i = .int .i64 k ∧ w.heap.size ≤ wr.heap.size ∧ J (86 + k) wr) (fun i _ => 52 - (intOf i).toNat)
      case atStart => exact ⟨0, by omega, rfl, hsz, hj86⟩
      case round =>
        obtain ⟨k, hk, rfl, hsz2, hj2⟩ := hrel
        by_cases hlt : k < 52
        · gi_wp2_with (refine ⟨trivial, ?_⟩; gi_at_call 13; refine (callsIn_wide.2 (qword_yes k hlt wr)).mono ?_; rintro e w1 ⟨g, c, rfl, hg0, hg1, hc, hb1, hcc⟩; have hj1 := hJ (86 + k) wr w1 none hj2 (grown_of_below hb1) (fun r e => by cases e); obtain ⟨fn, tmps, assign, body, hy, hR⟩ := hY (86 + k) (.slice (some ⟨g, 0, none⟩) (qwL k).length c) w1 hj1 (by omega) ⟨g, c, by rw [wordL_q], by omega, hg1, by rw [wordL_q]; exact hc, by rw [wordL_q]; exact hcc⟩)
          have hz1 := hb1.size
          refine hR.mono ?_
          rintro e W3 (⟨rfl, hJ3, hz3⟩ | ⟨rfl, hJx3⟩)
          · gi_wp2
            go_roundw
            case rel => exact ⟨k + 1, by omega, by go_num, by omega, hJ3⟩
            case measure => simp [intOf]; omega
          · gi_wp2
            refine bodyPost_ret (results_none rfl _ _ _) rfl ?_
            exact ⟨⟨_, rfl⟩, .inr hJx3⟩
        · have hk52 : k = 52 := by omega
          subst hk52
          gi_wp2
          go_end0
          exact ⟨⟨_, rfl⟩, .inl hj2⟩
end Go.Proofs.Ytknfkhackmnnaaa
