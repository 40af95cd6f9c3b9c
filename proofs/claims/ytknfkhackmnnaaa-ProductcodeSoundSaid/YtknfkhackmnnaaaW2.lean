import Derived.Test.YtknfkhackmnnaaaP2
import Derived.Test.YtknfkhackmnnaaaRf
set_option maxRecDepth 100000
set_option linter.unusedVariables false
set_option linter.unusedSimpArgs false
namespace Go.Proofs.Ytknfkhackmnnaaa
open Go Go.RowKit Go.Deep
attribute [local go_sem] Oper.semAt_some
/-! the iterator over all words -/
def wordL (k : Nat) : List Value := if k < 86 then pwI k 26 else qwL (k - 86)
theorem wordL_p {k : Nat} (h : k < 86) : wordL k = pwI k 26 := by simp [wordL, h]
theorem wordL_q {k : Nat} : wordL (86 + k) = qwL k := by
  unfold wordL
  rw [if_neg (by omega), Nat.add_sub_cancel_left]
def Ew (B k : Nat) (x : Value) (W : World) : Prop := ∃ g c, x = .slice (some ⟨g, 0, none⟩) (wordL k).length c ∧ B ≤ g ∧ g < W.heap.size ∧ (∀ j, j < (wordL k).length → W.cell? ⟨g, j, none⟩ = (wordL k)[j]?) ∧ (wordL k).length ≤ c
theorem grown_of_below {w w' : World} (h : Below w.heap.size w w') : w.grownBy w' none := ⟨h.os, h.tape, h.output, h.size, fun k hk _ => h.block k hk⟩
theorem qwL_length (n : Nat) : (qwL n).length = 45 := by simp [qwL, qwI_length]
set_option maxRecDepth 100000 in
set_option maxHeartbeats 2000000 in
theorem words1_seq (n : Nat) (hn : 1 ≤ n) (w : World) : SeqE Fence.wide n Try.prog 60 #[] (Ew w.heap.size) 138 w := fun l J Jx W hW hJ hJx hY h0 => by
  refine callsIn_of_wp Try.func60 rfl trivial ?_ rfl
  simp only [Try.ntmps60, List.size_toArray, List.length_cons, List.length_nil, Nat.reduceAdd, Nat.reduceSub, Array.replicate_succ, Array.replicate_zero, List.push_toArray, List.append_toArray, List.nil_append, List.cons_append]
  gi_wp2
  gi_loopw [8] (fun i wr => ∃ k : Nat, k ≤ 86 ∧ i = .int .i64 k ∧ w.heap.size ≤ wr.heap.size ∧ J k wr) (fun i _ => 86 - (intOf i).toNat)
  case atStart => exact ⟨0, by omega, rfl, hW.size, h0⟩
  case round =>
    obtain ⟨k, hk, rfl, hsz, hj⟩ := hrel
    by_cases hlt : k < 86
    · gi_wp2_with (refine ⟨trivial, ?_⟩; gi_at_call 12; refine (callsIn_wide.2 (pword_yes k hlt wr)).mono ?_; rintro e w1 ⟨g, c, rfl, hg0, hg1, hc, hb1, hcc⟩; have hj1 := hJ k wr w1 none hj (grown_of_below hb1) (fun r e => by cases e); obtain ⟨fn, tmps, assign, body, hy, hR⟩ := hY k (.slice (some ⟨g, 0, none⟩) (pwI k 26).length c) w1 hj1 (by omega) ⟨g, c, by rw [wordL_p hlt], by omega, hg1, by rw [wordL_p hlt]; exact hc, by rw [wordL_p hlt]; exact hcc⟩)
      have hz1 := hb1.size
      refine hR.mono ?_
      rintro e W3 (⟨rfl, hJ3, hz3⟩ | ⟨rfl, hJx3⟩)
      · gi_wp2
        go_roundw
        case rel => exact ⟨k + 1, by omega, by go_num, by omega, hJ3⟩
        case measure => simp [intOf]; omega
      · gi_wp2
        refine bodyPost_ret (results_none rfl _ _ _) rfl ?_
        exact ⟨⟨_, rfl⟩, .inr hJx3⟩
    · have hk86 : k = 86 := by omega
      have e86 : ((k : Nat) : Int) = 86 := by omega
      have hj86 : J (86 + 0) wr := by rw [Nat.add_zero, ← hk86]; exact hj
      rw [e86]
      clear hk hlt e86 hj hk86
      gi_wp2
      gi_loopw [21] (fun i wr => ∃ k : Nat, k ≤ 52 ∧ i = .int .i64 k ∧ w.heap.size ≤ wr.heap.size ∧ J (86 + k) wr) (fun i _ => 52 - (intOf i).toNat)
      case atStart => exact ⟨0, by omega, rfl, hsz, hj86⟩
      case round =>
        obtain ⟨k, hk, rfl, hsz2, hj2⟩ := hrel
        by_cases hlt : k < 52
        · gi_wp2_with (refine ⟨trivial, ?_⟩; gi_at_call 13; refine (callsIn_wide.2 (qword_yes k hlt wr)).mono ?_; rintro e w1 ⟨g, c, rfl, hg0, hg1, hc, hb1, hcc⟩; have hj1 := hJ (86 + k) wr w1 none hj2 (grown_of_below hb1) (fun r e => by cases e); obtain ⟨fn, tmps, assign, body, hy, hR⟩ := hY (86 + k) (.slice (some ⟨g, 0, none⟩) (qwL k).length c) w1 hj1 (by omega) ⟨g, c, by rw [wordL_q], by omega, hg1, by rw [wordL_q]; exact hc, by rw [wordL_q]; exact hcc⟩)
          have hz1 := hb1.size
          refine hR.mono ?_
          rintro e W3 (⟨rfl, hJ3, hz3⟩ | ⟨rfl, hJx3⟩)
          · gi_wp2
            go_roundw
            case rel => exact ⟨k + 1, by omega, by go_num, by omega, hJ3⟩
            case measure => simp [intOf]; omega
          · gi_wp2
            refine bodyPost_ret (results_none rfl _ _ _) rfl ?_
            exact ⟨⟨_, rfl⟩, .inr hJx3⟩
        · have hk52 : k = 52 := by omega
          subst hk52
          gi_wp2
          go_end0
          exact ⟨⟨_, rfl⟩, .inl hj2⟩
end Go.Proofs.Ytknfkhackmnnaaa
set_option maxRecDepth 100000
set_option linter.unusedVariables false
set_option linter.unusedSimpArgs false
namespace Go.Proofs.Ytknfkhackmnnaaa
open Go Go.RowKit Go.Deep
/-! the symbols of a word -/
theorem ite_iff {p q : Prop} [Decidable p] [Decidable q] (h : p ↔ q) (a b : UInt8) : (if p then a else b) = if q then a else b := by
  by_cases hp : p
  · rw [if_pos hp, if_pos (h.1 hp)]
  · rw [if_neg hp, if_neg (fun hq => hp (h.2 hq))]
def tkL (l : List UInt8) (f : Nat) (os : List Nat) : List UInt8 := os.map fun o => if f ≤ o then Gf.co l o else 0
def tkK (l : List UInt8) (f : Nat) (os : List Nat) (k : Nat) : List UInt8 := (List.range os.length).map fun i => if i < k ∧ f ≤ os.getD i 0 then Gf.co l (os.getD i 0) else 0
def RdN (w : World) (g : Nat) (os : List Nat) : Prop := ∀ j, j < os.length → w.cell? ⟨g, j, none⟩ = some (.int .i64 ((os.getD j 0 : Nat) : Int))
theorem RdN.below {n : Nat} {w w' : World} {g : Nat} {os : List Nat} (h : RdN w g os) (hb : Below n w w') (hn : g < n) : RdN w' g os := fun j hj => (hb.cell (p := ⟨g, j, none⟩) hn).trans (h j hj)
theorem RdN.take {w : World} {g : Nat} {os : List Nat} (h : RdN w g os) (k : Nat) : RdN w g (os.take k) := fun j hj => by
  rw [List.length_take] at hj
  rw [h j (by omega)]
  simp only [List.getD_eq_getElem?_getD]
  rw [List.getElem?_take, if_pos (by omega)]
theorem tkL_length (l : List UInt8) (f : Nat) (os : List Nat) : (tkL l f os).length = os.length := by simp [tkL]
theorem tkK_length (l : List UInt8) (f : Nat) (os : List Nat) (k : Nat) : (tkK l f os k).length = os.length := by simp [tkK]
theorem co_rangeMap (n : Nat) (h : Nat → UInt8) {i : Nat} (hi : i < n) : Gf.co ((List.range n).map h) i = h i := by
  rw [Gf.co_lt (by simpa using hi)]
  simp
theorem co_tkK (l : List UInt8) (f : Nat) (os : List Nat) (k : Nat) {i : Nat} (hi : i < os.length) : Gf.co (tkK l f os k) i = if i < k ∧ f ≤ os.getD i 0 then Gf.co l (os.getD i 0) else 0 := co_rangeMap _ _ hi
theorem tkK_zero (l : List UInt8) (f : Nat) (os : List Nat) : tkK l f os 0 = List.replicate os.length 0 := by
  refine Gf.co_ext (by rw [tkK_length, List.length_replicate]) fun i hi => ?_
  rw [tkK_length] at hi
  rw [co_tkK _ _ _ _ hi, if_neg (fun h => by omega), Gf.co_replicate]
theorem tkK_yes {l : List UInt8} {f : Nat} {os : List Nat} {k : Nat} (hk : k < os.length) (h : f ≤ os.getD k 0) : (tkK l f os k).set k (Gf.co l (os.getD k 0)) = tkK l f os (k + 1) := by
  refine Gf.co_ext (by rw [List.length_set, tkK_length, tkK_length]) fun i hi => ?_
  rw [List.length_set, tkK_length] at hi
  rw [co_tkK _ _ _ _ hi]
  by_cases e : i = k
  · subst e
    rw [if_pos ⟨by omega, h⟩, Gf.co_lt (by rw [List.length_set, tkK_length]; exact hi)]
    simp
  · rw [Gf.co_lt (by rw [List.length_set, tkK_length]; exact hi), List.getElem_set_ne (fun h => e h.symm), ← Gf.co_lt (by rw [tkK_length]; exact hi), co_tkK _ _ _ _ hi]
    exact ite_iff (by constructor <;> intro h <;> exact ⟨by omega, h.2⟩) _ _
theorem tkK_no {l : List UInt8} {f : Nat} {os : List Nat} {k : Nat} (hk : k < os.length) (h : ¬ f ≤ os.getD k 0) : tkK l f os k = tkK l f os (k + 1) := by
  refine Gf.co_ext (by rw [tkK_length, tkK_length]) fun i hi => ?_
  rw [tkK_length] at hi
  rw [co_tkK _ _ _ _ hi, co_tkK _ _ _ _ hi]
  refine ite_iff ⟨fun h' => ⟨by omega, h'.2⟩, fun h' => ⟨?_, h'.2⟩⟩ _ _
  rcases Nat.lt_or_ge i k with h1 | h1
  · exact h1
  · exact absurd ((show i = k by omega) ▸ h'.2) h
theorem tkK_full (l : List UInt8) (f : Nat) (os : List Nat) : tkK l f os os.length = tkL l f os := by
  refine List.ext_getElem (by rw [tkK_length, tkL_length]) fun i h1 h2 => ?_
  rw [tkK_length] at h1
  simp [tkK, tkL, h1]
set_option maxRecDepth 100000 in
set_option maxHeartbeats 2000000 in
theorem take_any (l : List UInt8) (os : List Nat) (f : Nat) (hos : ∀ j, j < os.length → os.getD j 0 < l.length) (hn : os.length ≤ 1000) (hll : l.length ≤ 100000) (hf : f ≤ 1000) (b o cl g c : Nat) (w : World) (hl : Rd w b o l) (hb : b < w.heap.size) (hg : RdN w g os) (hgw : g < w.heap.size) :
    Calls Try.prog 35 #[.slice (some ⟨b, o, none⟩) l.length cl, .slice (some ⟨g, 0, none⟩) os.length c, .int .i64 (f : Int)] w fun e w' => Ret1 w (.string (str (tkL l f os))) e w' := by
  have hmk := make_u8 os.length (by omega)
  obtain ⟨n, hnn⟩ : ∃ n, n = os.length := ⟨_, rfl⟩
  rw [← hnn] at hmk hn ⊢
  have HN := Lib.hid hnn
  have hos' : ∀ j, j < n → os.getD j 0 < l.length := fun j hj => hos j (by rw [← hnn]; exact hj)
  have hg' : ∀ j, j < n → w.cell? ⟨g, j, none⟩ = some (.int .i64 ((os.getD j 0 : Nat) : Int)) := fun j hj => hg j (by rw [← hnn]; exact hj)
  clear hnn hos hg
  go_enter Try.func35, Try.ntmps35
  go_wp2
  go_loopw [8, 9, 15] (fun _ _ i wr => ∃ k : Nat, k ≤ n ∧ i = .int .i64 k ∧ Own wr w.heap.size (tkK l f os k) ∧ Below w.heap.size w wr) (fun _ _ i _ => n - (intOf i).toNat)
  case atStart =>
    refine ⟨0, by omega, rfl, ?_, (Below.refl _ _).alloc (Nat.le_refl _) _⟩
    rw [tkK_zero, ← HN.out]
    exact Own.made w n
  case round =>
    obtain ⟨k, hk, rfl, hO, hB⟩ := hrel
    by_cases hlt : k < n
    · have hlen : k < os.length := by rw [← HN.out]; exact hlt
      have hck := (hB.cell (p := ⟨g, k, none⟩) hgw).trans (hg' k hlt)
      obtain ⟨x, hx⟩ : ∃ x, x = os.getD k 0 := ⟨_, rfl⟩
      have hxl := hos' k hlt
      rw [← hx] at hck hxl
      have HX := Lib.hid hx
      by_cases hfx : f ≤ x
      · have hcx := (hB.cell (p := ⟨b, o + x, none⟩) hb).trans (hl x hxl)
        have hco := hO.cell (j := k) (by rw [tkK_length]; exact hlen)
        have hfo := hO.free (j := k) (by rw [tkK_length]; exact hlen)
        have hO2 : Hid (Own (wr.setCell ⟨w.heap.size, k, none⟩ (B (Gf.co l x))) w.heap.size (tkK l f os (k + 1))) := by
          show Own _ _ _
          rw [← tkK_yes hlen (by rw [← hx]; exact hfx), ← hx]
          exact hO.set (j := k) (by rw [tkK_length]; exact hlen) _
        have HB := Lib.hid hB
        clear hO hB hx
        go_wp2
        go_roundw
        case rel => exact ⟨k + 1, by omega, by go_num, hO2.out, HB.out.setCell (Nat.le_refl _) _⟩
        case measure => simp [intOf]; omega
      · have hO2 : Hid (Own wr w.heap.size (tkK l f os (k + 1))) := by
          show Own _ _ _
          rw [← tkK_no hlen (by rw [← hx]; exact hfx)]
          exact hO
        clear hO hx
        go_wp2
        go_roundw
        case rel => exact ⟨k + 1, by omega, by go_num, hO2.out, hB⟩
        case measure => simp [intOf]; omega
    · have hkp : k = n := by omega
      subst hkp
      have hcv := conv_string hO.rd k
      rw [tkK_length, ← HN.out] at hcv
      have HE : Hid (tkK l f os k = tkL l f os) := by
        show _ = _
        rw [HN.out]
        exact tkK_full l f os
      go_wp2
      go_ret
      exact ⟨by rw [← HE.out]; rfl, hB⟩
end Go.Proofs.Ytknfkhackmnnaaa
