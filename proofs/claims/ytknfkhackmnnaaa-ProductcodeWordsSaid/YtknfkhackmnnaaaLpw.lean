import Derived.Test.YtknfkhackmnnaaaW5
import Derived.Test.YtknfkhackmnnaaaP3
set_option maxRecDepth 100000
set_option linter.unusedVariables false
set_option linter.unusedSimpArgs false
namespace Go.Proofs.Ytknfkhackmnnaaa
open Go Go.RowKit Go.Deep
/-! the law ProductcodeWords -/
/-- a slice that holds these numbers -/
def Hw (W : World) (v : Value) (os : List Nat) : Prop := ∃ a c, v = .slice a os.length c ∧ (0 < os.length → ∃ g, a = some ⟨g, 0, none⟩ ∧ g < W.heap.size ∧ RdN W g os)
theorem Hw.below {W W' : World} {v : Value} {os : List Nat} (h : Hw W v os) (hB : Below W.heap.size W W') : Hw W' v os := by
  obtain ⟨a, c, rfl, hr⟩ := h
  refine ⟨a, c, rfl, fun hl => ?_⟩
  obtain ⟨g, rfl, hg, hrd⟩ := hr hl
  exact ⟨g, rfl, Nat.lt_of_lt_of_le hg hB.size, hrd.below hB hg⟩
theorem Hw.drewN {W : World} {v : Value} {os : List Nat} (h : Hw W v os) (q : Nat) : Hw (W.drewN q) v os := h
theorem Hw.of_ret {w : World} {os : List Nat} {xs : List Value} {er : Value} {e : Ending} {w' : World} (hx : xs = os.map vI) (h : RetVals w xs er e w') : ∃ v, e = .returned (.tuple #[v, er]) ∧ Hw w' v os ∧ Below w.heap.size w w' := by
  obtain ⟨b, c, rfl, h0, h1, hc, hB⟩ := h
  have hl : xs.length = os.length := by rw [hx, List.length_map]
  refine ⟨_, rfl, ⟨some ⟨b, 0, none⟩, c, by rw [hl], fun _ => ⟨b, rfl, h1, fun j hj => ?_⟩⟩, hB⟩
  rw [hc j (by rw [hl]; exact hj), hx, List.getElem?_map, List.getD_eq_getElem?_getD, List.getElem?_eq_getElem hj]
  rfl
theorem Hw.nil (W : World) : Hw W (.slice none 0 0) [] := ⟨none, 0, rfl, fun h => absurd h (by simp)⟩
theorem equal_same (os : List Nat) (v u : Value) (w : World) (hv : Hw w v os) (hu : Hw w u os) (hn : os.length ≤ 100000) : Calls Try.prog 16 #[v, u] w fun e w' => e = .returned (.bool true) ∧ ∃ q, w' = w.drewN q := by
  obtain ⟨a, c, rfl, hr⟩ := hv
  obtain ⟨b, d, rfl, hs⟩ := hu
  by_cases h0 : os.length = 0
  · rw [h0]
    refine (Try.slices_Equal_int_empty a b c 0 d w (by omega)).mono ?_
    rintro e w' ⟨rfl, rfl⟩
    exact ⟨rfl, 0, rfl⟩
  · obtain ⟨g, rfl, hg, hrd⟩ := hr (by omega)
    obtain ⟨g2, rfl, hg2, hrd2⟩ := hs (by omega)
    have hcell : ∀ {g : Nat}, RdN w g os → ∀ j, j < (os.map Int.ofNat).length → w.cell? ⟨g, 0 + j, none⟩ = some (.int .i64 ((os.map Int.ofNat).getD j 0)) := fun hrd j hj => by
      rw [List.length_map] at hj
      rw [Nat.zero_add, hrd j hj]
      simp only [List.getD_eq_getElem?_getD, List.getElem?_map, List.getElem?_eq_getElem hj]
      rfl
    refine (Try.slices_Equal_int g 0 os.length c g2 0 os.length d (os.map Int.ofNat) (os.map Int.ofNat) w (by simp) (by simp) (by omega) (by omega) (hcell hrd) (hcell hrd2)).mono ?_
    rintro e w' ⟨rfl, hq⟩
    exact ⟨by simp, hq⟩
def erN2 (N : Nat) (n : Int) : Int := if 0 ≤ n ∧ n < N then 0 else 2
def pList (n : Int) : List Nat := if 0 ≤ n ∧ n < 86 then pwN n.toNat 26 else []
def qList (n : Int) : List Nat := if 0 ≤ n ∧ n < 52 then qwN n.toNat else []
theorem pList_le (n : Int) : (pList n).length ≤ 100 := by unfold pList; split <;> simp [pwN]
theorem qList_le (n : Int) : (qList n).length ≤ 100 := by unfold qList; split <;> simp [qwN]
def RetHw (w : World) (os : List Nat) (er : Int) (e : Ending) (w' : World) : Prop := ∃ v, e = .returned (.tuple #[v, .int .i64 er]) ∧ Hw w' v os ∧ Below w.heap.size w w'
theorem pwords_any (n : Int) (w : World) : Calls Try.prog 12 #[.int .i64 n] w fun e w' => RetHw w (pList n) (erN2 86 n) e w' := by
  by_cases h : 0 ≤ n ∧ n < 86
  · obtain ⟨m, rfl⟩ := Int.eq_ofNat_of_zero_le h.1
    refine (pword_yes m (by omega) w).mono fun e w' hr => ?_
    have e1 : pList (m : Int) = pwN m 26 := by unfold pList; rw [if_pos h]; rfl
    have e2 : erN2 86 (m : Int) = 0 := by unfold erN2; rw [if_pos (by omega)]
    rw [e1, e2]
    exact Hw.of_ret (pwI_map m 26) hr
  · refine (pword_no n h w).mono ?_
    rintro e w' ⟨rfl, rfl⟩
    have e1 : pList n = [] := by unfold pList; rw [if_neg h]
    have e2 : erN2 86 n = 2 := by unfold erN2; rw [if_neg (by omega)]
    rw [e1, e2]
    exact ⟨_, rfl, Hw.nil _, Below.refl _ _⟩
theorem pwordr_any (n : Int) (w : World) : Calls Try.prog 14 #[.int .i64 n] w fun e w' => RetHw w (pList n) (erN2 86 n) e w' := by
  by_cases h : 0 ≤ n ∧ n < 86
  · obtain ⟨m, rfl⟩ := Int.eq_ofNat_of_zero_le h.1
    refine (pwordr_yes m (by omega) w).mono fun e w' hr => ?_
    have e1 : pList (m : Int) = pwN m 26 := by unfold pList; rw [if_pos h]; rfl
    have e2 : erN2 86 (m : Int) = 0 := by unfold erN2; rw [if_pos (by omega)]
    rw [e1, e2]
    exact Hw.of_ret (pwI_map m 26) hr
  · refine (pwordr_no n h w).mono ?_
    rintro e w' ⟨rfl, rfl⟩
    have e1 : pList n = [] := by unfold pList; rw [if_neg h]
    have e2 : erN2 86 n = 2 := by unfold erN2; rw [if_neg (by omega)]
    rw [e1, e2]
    exact ⟨_, rfl, Hw.nil _, Below.refl _ _⟩
theorem qwords_any (n : Int) (w : World) : Calls Try.prog 13 #[.int .i64 n] w fun e w' => RetHw w (qList n) (erN2 52 n) e w' := by
  by_cases h : 0 ≤ n ∧ n < 52
  · obtain ⟨m, rfl⟩ := Int.eq_ofNat_of_zero_le h.1
    refine (qword_yes m (by omega) w).mono fun e w' hr => ?_
    have e1 : qList (m : Int) = qwN m := by unfold qList; rw [if_pos h]; rfl
    have e2 : erN2 52 (m : Int) = 0 := by unfold erN2; rw [if_pos (by omega)]
    rw [e1, e2]
    exact Hw.of_ret (qwL_map m) hr
  · refine (qword_no n h w).mono ?_
    rintro e w' ⟨rfl, rfl⟩
    have e1 : qList n = [] := by unfold qList; rw [if_neg h]
    have e2 : erN2 52 n = 2 := by unfold erN2; rw [if_neg (by omega)]
    rw [e1, e2]
    exact ⟨_, rfl, Hw.nil _, Below.refl _ _⟩
theorem qwordr_any (n : Int) (w : World) : Calls Try.prog 15 #[.int .i64 n] w fun e w' => RetHw w (qList n) (erN2 52 n) e w' := by
  by_cases h : 0 ≤ n ∧ n < 52
  · obtain ⟨m, rfl⟩ := Int.eq_ofNat_of_zero_le h.1
    refine (qwordr_yes m (by omega) w).mono fun e w' hr => ?_
    have e1 : qList (m : Int) = qwN m := by unfold qList; rw [if_pos h]; rfl
    have e2 : erN2 52 (m : Int) = 0 := by unfold erN2; rw [if_pos (by omega)]
    rw [e1, e2]
    exact Hw.of_ret (qwL_map m) hr
  · refine (qwordr_no n h w).mono ?_
    rintro e w' ⟨rfl, rfl⟩
    have e1 : qList n = [] := by unfold qList; rw [if_neg h]
    have e2 : erN2 52 n = 2 := by unfold erN2; rw [if_neg (by omega)]
    rw [e1, e2]
    exact ⟨_, rfl, Hw.nil _, Below.refl _ _⟩
set_option maxRecDepth 100000 in
set_option maxHeartbeats 2000000 in
theorem words_law (n : Int) (w : World) : Calls Try.prog 4 #[.int .i64 n] w fun e w' => e = .returned (.bool true) ∧ Below w.heap.size w w' := by
  have hpl := pList_le n
  have hql := qList_le n
  have HP : Hid (∀ w, Calls Try.prog 12 #[.int .i64 n] w fun e w' => RetHw w (pList n) (erN2 86 n) e w') := pwords_any n
  have HPR : Hid (∀ w, Calls Try.prog 14 #[.int .i64 n] w fun e w' => RetHw w (pList n) (erN2 86 n) e w') := pwordr_any n
  have HQ : Hid (∀ w, Calls Try.prog 13 #[.int .i64 n] w fun e w' => RetHw w (qList n) (erN2 52 n) e w') := qwords_any n
  have HQR : Hid (∀ w, Calls Try.prog 15 #[.int .i64 n] w fun e w' => RetHw w (qList n) (erN2 52 n) e w') := qwordr_any n
  revert hpl hql HP HPR HQ HQR
  generalize pList n = ps
  generalize qList n = qs
  generalize erN2 86 n = e1
  generalize erN2 52 n = e2
  intro hpl hql HP HPR HQ HQR
  go_enter Try.func4, Try.ntmps4
  go_wp2_with (go_at_call 11; refine (pawake_any _).mono ?_; rintro e w1 ⟨rfl, hB1⟩)
  refine (HP.out _).mono ?_
  rintro e w2 ⟨v1, rfl, hv1, hB2⟩
  have hB12 := hB1.trans (hB2.mono hB1.size)
  clear hB1 hB2 HP
  go_wp2_with fail
  refine (HPR.out _).mono ?_
  rintro e w3 ⟨v2, rfl, hv2, hB3⟩
  have hv1 := hv1.below hB3
  have hB13 := hB12.trans (hB3.mono hB12.size)
  clear hB12 hB3 HPR
  go_wp2_with fail
  refine (HQ.out _).mono ?_
  rintro e w4 ⟨v3, rfl, hv3, hB4⟩
  have hv1 := hv1.below hB4
  have hv2 := hv2.below hB4
  have hB14 := hB13.trans (hB4.mono hB13.size)
  clear hB13 hB4 HQ
  go_wp2_with fail
  refine (HQR.out _).mono ?_
  rintro e w5 ⟨v4, rfl, hv4, hB5⟩
  have hv1 := hv1.below hB5
  have hv2 := hv2.below hB5
  have hv3 := hv3.below hB5
  have hB15 := hB14.trans (hB5.mono hB14.size)
  clear hB14 hB5 HQR
  have HE1 : Hid (∀ w, Hw w v1 ps → Hw w v2 ps → Calls Try.prog 16 #[v1, v2] w fun e w' => e = .returned (.bool true) ∧ ∃ q, w' = w.drewN q) := fun w h1 h2 => equal_same ps v1 v2 w h1 h2 (by omega)
  have HE2 : Hid (∀ w, Hw w v3 qs → Hw w v4 qs → Calls Try.prog 16 #[v3, v4] w fun e w' => e = .returned (.bool true) ∧ ∃ q, w' = w.drewN q) := fun w h1 h2 => equal_same qs v3 v4 w h1 h2 (by omega)
  have V1 := Lib.hid hv1
  have V2 := Lib.hid hv2
  have V3 := Lib.hid hv3
  have V4 := Lib.hid hv4
  clear hv1 hv2 hv3 hv4
  go_wp2_with (first | (go_at_call 16; refine (HE1.out _ V1.out V2.out).mono ?_; clear HE1; rintro e w6 ⟨rfl, q1, rfl⟩) | (go_at_call 16; refine (HE2.out _ (V3.out.drewN q1) (V4.out.drewN q1)).mono ?_; clear HE2; rintro e w7 ⟨rfl, q2, rfl⟩))
  go_ret
  exact ⟨rfl, pw_below_drewN' hB15 _⟩
end Go.Proofs.Ytknfkhackmnnaaa
