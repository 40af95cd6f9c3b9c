import Derived.Test.YtjmeoeielbkkiaaSs
import Derived.Test.YtjmeoeielbkkiaaRb
import Derived.Test.YtjmeoeielbkkiaaSd
set_option maxRecDepth 100000
set_option linter.unusedVariables false
set_option linter.unusedSimpArgs false
namespace Go.Proofs.Ytjmeoeielbkkiaa
open Go Go.RowKit Go.Deep Go.Sort
/-! the reference's Few, Fill and Decode -/
theorem difK_swap (l cw : List UInt8) (n : Nat) (hl : l.length = n) (hc : cw.length = n) : difK cw l n = Gf.difs l cw := by
  unfold Gf.difs difK
  rw [hl]
  congr 1
  refine List.filter_congr fun i _ => ?_
  rw [Bool.eq_iff_iff, decide_eq_true_eq, decide_eq_true_eq]
  exact ⟨fun h e => h e.symm, fun h e => h e.symm⟩
def RetFew (w : World) (s : ByteArray) (er : List Int) (e : Ending) (w' : World) : Prop := (∃ b : Bool, e = .returned (.bool b) ∧ Hid (b = true → s.size ≤ 45 ∧ er.length ≤ 20)) ∧ w = w'
set_option maxRecDepth 100000 in
set_option maxHeartbeats 1000000 in
theorem few_any (s : ByteArray) (p : Int) (er : List Int) (A : Option Addr) (c : Nat) (w : World) :
    Calls Try.prog 23 #[.string s, .int .i64 p, .slice A er.length c] w fun e w' => RetFew w s er e w' := by
  by_cases a1 : (s.size : Int) ≤ 45
  · by_cases a5 : (er.length : Int) ≤ 20
    · have hh : Hid (s.size ≤ 45 ∧ er.length ≤ 20) := by show _ ∧ _; omega
      by_cases a2 : p ≤ 4 <;> by_cases a3 : (s.size : Int) ≤ 16 <;> by_cases a4 : p ≤ 6 <;>
      · go_enter Try.func23, Try.ntmps23
        go_wp2
        go_ret
        exact ⟨⟨_, rfl, fun _ => hh.out⟩, rfl⟩
    · by_cases a2 : p ≤ 4 <;> by_cases a3 : (s.size : Int) ≤ 16 <;> by_cases a4 : p ≤ 6 <;>
      · go_enter Try.func23, Try.ntmps23
        go_wp2
        go_ret
        exact ⟨⟨false, rfl, fun h => by cases h⟩, rfl⟩
  · go_enter Try.func23, Try.ntmps23
    go_wp2
    go_ret
    exact ⟨⟨false, rfl, fun h => by cases h⟩, rfl⟩
theorem fillr_no (s : ByteArray) (p : Int) (A : Option Addr) (n c : Nat) (h : shp s.size p = false) (w : World) :
    Calls Try.prog 25 #[.string s, .int .i64 p, .slice A n c] w fun e w' => e = .returned (.tuple #[.string (str []), .int .i64 1]) ∧ w = w' := by
  have hf := fits_any s p w
  rw [h] at hf
  have HF := Lib.hid hf
  clear hf h
  go_enter Try.func25, Try.ntmps25
  go_wp2_with (go_at_call 36; refine HF.out.mono ?_; rintro e w' ⟨rfl, rfl⟩)
  go_ret2
  exact ⟨rfl, rfl⟩
theorem decr_no (s : ByteArray) (p : Int) (A : Option Addr) (n c : Nat) (h : shp s.size p = false) (w : World) :
    Calls Try.prog 26 #[.string s, .int .i64 p, .slice A n c] w fun e w' => e = .returned (.tuple #[.string (str []), .int .i64 0, .int .i64 1]) ∧ w = w' := by
  have hf := fits_any s p w
  rw [h] at hf
  have HF := Lib.hid hf
  clear hf h
  go_enter Try.func26, Try.ntmps26
  go_wp2_with (go_at_call 36; refine HF.out.mono ?_; rintro e w' ⟨rfl, rfl⟩)
  go_ret3
  exact ⟨rfl, rfl⟩
set_option maxRecDepth 100000 in
set_option maxHeartbeats 2000000 in
theorem fillr_yes (s : ByteArray) (p : Nat) (er : List Int) (A : Option Addr) (c : Nat) (h : shp s.size p = true) (hl : er.length ≤ 100000) (w : World) (hr : RdI w A er) :
    Calls Try.prog 25 #[.string s, .int .i64 (p : Int), .slice A er.length c] w fun e w' => RetFill w s p er e w' := by
  obtain ⟨h1, h2, h3, h4, h5⟩ := shp_true h
  have hf := fits_any s p w
  rw [h] at hf
  have HF := Lib.hid hf
  have HPO := Lib.hid (positions_any s er A c (by omega) hl w hr)
  have HR := Lib.hid hr
  have H := Lib.hid h
  clear hf hr h
  go_enter Try.func25, Try.ntmps25
  go_wp2_with (go_at_call 36; refine HF.out.mono ?_; rintro e w' ⟨rfl, rfl⟩)
  refine HPO.out.mono ?_
  rintro e w1 ⟨⟨b, rfl, hb⟩, hB1⟩
  cases b with
  | false =>
    have hnP : Hid (¬ posN s.size er er.length) := fun hP => by cases hb.out.2 hP
    clear hb
    go_wp2
    go_ret2
    exact ⟨hB1, .inl ⟨hnP.out, rfl⟩⟩
  | true =>
    have hP : Hid (posN s.size er er.length) := hb.out.1 rfl
    clear hb
    by_cases hle : er.length ≤ p
    · have hni : ¬ (p : Int) < (er.length : Int) := by omega
      have HS := Lib.hid (solve_any s p er A c H.out hP.out hle w1 (HR.out.below (Nat.le_refl _) hB1))
      go_wp2_with fail
      refine HS.out.mono ?_
      rintro e w2 ⟨hB2, ⟨cw, hc, rfl⟩ | ⟨hn, rfl⟩⟩
      · have hB3 := hB1.trans (hB2.mono hB1.size)
        have HC := Lib.hid hc
        clear hc
        go_wp2
        go_ret2
        exact ⟨hB3, .inr (.inl ⟨hP.out, hle, cw, HC.out, rfl⟩)⟩
      · have hB3 := hB1.trans (hB2.mono hB1.size)
        have HN := Lib.hid hn
        clear hn
        go_wp2
        go_ret2
        exact ⟨hB3, .inr (.inr ⟨hP.out, fun _ => HN.out, rfl⟩)⟩
    · have hni : (p : Int) < (er.length : Int) := by omega
      go_wp2
      go_ret2
      exact ⟨hB1, .inr (.inr ⟨hP.out, fun h => absurd h hle, rfl⟩)⟩
set_option maxRecDepth 100000 in
set_option maxHeartbeats 2000000 in
theorem decr_yes (s : ByteArray) (p : Nat) (er : List Int) (A : Option Addr) (c : Nat) (h : shp s.size p = true) (hl : er.length ≤ 100000) (w : World) (hr : RdI w A er) :
    Calls Try.prog 26 #[.string s, .int .i64 (p : Int), .slice A er.length c] w fun e w' => RetDec w s p er e w' := by
  obtain ⟨h1, h2, h3, h4, h5⟩ := shp_true h
  have hf := fits_any s p w
  rw [h] at hf
  have HF := Lib.hid hf
  have HPO := Lib.hid (positions_any s er A c (by omega) hl w hr)
  have HR := Lib.hid hr
  have H := Lib.hid h
  clear hf hr h
  go_enter Try.func26, Try.ntmps26
  go_wp2_with (go_at_call 36; refine HF.out.mono ?_; rintro e w' ⟨rfl, rfl⟩)
  refine HPO.out.mono ?_
  rintro e w1 ⟨⟨b, rfl, hb⟩, hB1⟩
  cases b with
  | false =>
    have hnP : Hid (¬ posN s.size er er.length) := fun hP => by cases hb.out.2 hP
    clear hb
    go_wp2
    go_ret3
    exact ⟨hB1, .inl ⟨hnP.out, rfl⟩⟩
  | true =>
    have hP : Hid (posN s.size er er.length) := hb.out.1 rfl
    clear hb
    go_wp2
    go_loopw [9] (fun i wr => ∃ m : Nat, m ≤ 20 ∧ i = .int .i64 m ∧ Below w.heap.size w wr ∧ Hid (∀ q, q < m → ∀ T : List Nat, T.Pairwise (· < ·) → T.length = q → (∀ x, x ∈ T → x < s.size ∧ x ∉ erN er) → ¬ ∃ cw, FillsN (bl s) p (erN er ++ T) cw)) (fun i _ => 20 - (intOf i).toNat)
    case atStart => exact ⟨0, by omega, rfl, hB1, fun q hq => by omega⟩
    case round =>
      clear hB1
      obtain ⟨m, hm, rfl, hB, hN⟩ := hrel
      by_cases hlt : 2 * m + er.length ≤ p
      · have hni : 2 * (m : Int) + (er.length : Int) ≤ (p : Int) := by omega
        have hse := search_any s p H.out m er 0 A c wr hP.out (by omega) (HR.out.below (Nat.le_refl _) hB) (by omega)
        rw [show ((0 : Nat) : Int) = 0 from rfl] at hse
        have HSE := Lib.hid hse
        clear hse
        go_wp2_with fail
        refine HSE.out.mono ?_
        rintro e w2 ⟨hB2, ⟨cw, T, hT, hc, rfl⟩ | ⟨hn, rfl⟩⟩
        · have hB3 := hB.trans (hB2.mono hB.size)
          have hnear : Hid (Gf.Near (bl s) p (erN er) cw) := near_of_fills hc hT (by rw [erN_length]; exact hlt)
          have hcl : cw.length = s.size := by rw [hc.1, bl_length]
          have hdf := differ_any (str cw) s (by rw [str_size, hcl]) (by rw [str_size, hcl]; omega) w2
          rw [bl_str, str_size, hcl, difK_swap (bl s) cw s.size (bl_length s) hcl] at hdf
          have HD := Lib.hid hdf
          clear hc hT hdf hN hcl
          go_wp2_with (go_at_call 22; refine HD.out.mono ?_; rintro e w3 ⟨rfl, hB4⟩)
          go_ret3
          exact ⟨hB3.trans (hB4.mono hB3.size), .inr (.inl ⟨hP.out, cw, hnear.out, rfl⟩)⟩
        · have hB3 := hB.trans (hB2.mono hB.size)
          have hN2 : Hid (∀ q, q < m + 1 → ∀ T : List Nat, T.Pairwise (· < ·) → T.length = q → (∀ x, x ∈ T → x < s.size ∧ x ∉ erN er) → ¬ ∃ cw, FillsN (bl s) p (erN er ++ T) cw) := fun q hq T t1 t2 t3 => by
            rcases Nat.lt_or_ge q m with h | h
            · exact hN.out q h T t1 t2 t3
            · exact hn T t1 (by omega) (fun x hx => ⟨Nat.zero_le _, t3 x hx⟩)
          clear hn hN
          go_wp2
          go_roundw
          case rel => exact ⟨m + 1, by omega, by go_num, hB3, hN2⟩
          case measure => simp [intOf]; omega
      · have hni : ¬ 2 * (m : Int) + (er.length : Int) ≤ (p : Int) := by omega
        have hno : Hid (¬ ∃ cw, Gf.Near (bl s) p (erN er) cw) := fun ⟨cw, hc⟩ => by
          have hl2 := hc.2.2
          rw [erN_length] at hl2
          refine hN.out (Gf.outs (bl s) cw (erN er)).length (by omega) _ (outs_sorted _ _ _) rfl (fun x hx => ?_) ⟨cw, fills_of_near hc⟩
          obtain ⟨q1, q2, q3⟩ := Gf.mem_outs.1 hx
          rw [bl_length] at q1
          exact ⟨q1, q3⟩
        clear hN
        go_wp2
        go_ret3
        exact ⟨hB, .inr (.inr ⟨hP.out, hno.out, rfl⟩)⟩
end Go.Proofs.Ytjmeoeielbkkiaa
