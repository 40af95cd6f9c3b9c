import Derived.Test.YtjmeoeielbkkiaaQ3
set_option maxRecDepth 100000
set_option linter.unusedVariables false
set_option linter.unusedSimpArgs false
namespace Go.Proofs.Ytjmeoeielbkkiaa
open Go.RowKit Go.Deep
/-- a generator that was made, with its room -/
def RetGenR (w : World) (k : Nat) (e : Ending) (w' : World) : Prop :=
  ∃ (g : List UInt8) (b c : Nat), e = .returned (.tuple #[.slice (some ⟨b, 0, none⟩) g.length c, .int .i64 0]) ∧ Own w' b g ∧ w.heap.size ≤ b ∧ IsGen k g ∧ g.length ≤ c ∧ Below w.heap.size w w'
set_option maxRecDepth 100000 in
set_option maxHeartbeats 1000000 in
theorem genr_any (k : Nat) (hk : k ≤ 32) (w : World) : Calls Try.prog 30 #[.int .i64 (k : Int)] w fun e w' => RetGenR w k e w' := by
  have d1 : decide ((k : Int) < 0) = false := by simp
  go_enter Try.func30, Try.ntmps30
  go_wp2
  go_loopw [4, 5] (fun v i wr => ∃ (m : Nat) (g : List UInt8) (b c : Nat), m ≤ k ∧ i = .int .i64 m ∧ v = .slice (some ⟨b, 0, none⟩) g.length c ∧ Own wr b g ∧ w.heap.size ≤ b ∧ g.length ≤ c ∧ Hid (IsGen m g) ∧ Below w.heap.size w wr) (fun _ i _ => k - (intOf i).toNat)
  case atStart => exact ⟨0, [1], w.heap.size, 1, by omega, rfl, rfl, Own.lit w [1], Nat.le_refl _, Nat.le_refl _, IsGen.zero, (Below.refl _ _).alloc (Nat.le_refl _) _⟩
  case round =>
    obtain ⟨m, g, b, c, hm, rfl, rfl, hO, hb, hgc, hG, hB⟩ := hrel
    by_cases hlt : m < k
    · have hgl := hG.out.1
      have hg1 : g.length ≤ m + 1 := by omega
      have hg2 : m + 1 ≤ g.length := by omega
      clear hgl
      go_wp2_with (go_at_call 38; refine (expr_any m (by omega) _).mono ?_; rintro e w' ⟨rfl, rfl⟩)
      have hO2 := hO.alloc (.cells #[Value.int .u8 1, B (Gf.al m)] 5)
      have hL : Own (wr.alloc (.cells #[Value.int .u8 1, B (Gf.al m)] 5)) wr.heap.size [1, Gf.al m] := Own.lit wr [1, Gf.al m]
      refine (productr_any g [1, Gf.al m] (by omega) (by simp) (by omega) (by simp) b 0 c wr.heap.size 0 2 _ hO2.rd hL.rd).mono ?_
      rintro e w2 ⟨b2, c2, rfl, hO3, hb2, hc2, hB2⟩
      have hbs := hB.size
      simp at hb2
      have hB3 := (hB.alloc hB.size _).trans (hB2.mono (show w.heap.size ≤ _ by simp; omega))
      clear hO2 hL hO hB hB2
      go_wp2
      go_roundw
      case rel => exact ⟨m + 1, Gf.prod g [1, Gf.al m], b2, c2, by omega, by go_num, rfl, hO3, by omega, hc2, hG.out.step, hB3⟩
      case measure => simp [intOf]; omega
    · have hmk : m = k := by omega
      have HM := Lib.hid hmk
      clear hmk
      go_wp2
      go_ret2
      exact ⟨g, b, c, rfl, hO, hb, by rw [← HM.out]; exact hG.out, hgc, hB⟩
set_option maxRecDepth 100000 in
set_option maxHeartbeats 2000000 in
theorem encr_no (s : ByteArray) (p : Int) (h : encOk s.size p = false) (hs : s.size ≤ 140737488351232) (w : World) : Calls Try.prog 13 #[.string s, .int .i64 p] w fun e w' => e = .returned (.tuple #[.string (str []), .int .i64 1]) ∧ w = w' := by
  have hn : ¬ (1 ≤ p ∧ p ≤ 16 ∧ s.size ≠ 0 ∧ s.size + p ≤ 255) := by simpa [encOk] using h
  clear h
  by_cases h1 : 1 ≤ p
  · by_cases h2 : p ≤ 16
    · by_cases h3 : s.size = 0
      · have hl : s.toList = [] := toList_nil h3
        go_enter Try.func13, Try.ntmps13
        go_wp2
        go_ret2
        exact ⟨rfl, rfl⟩
      · have hl : s.toList.isEmpty = false := toList_cons h3
        have hl2 : (s.toList == []) = false := toList_cons' h3
        have hbig : 255 < (s.size : Int) + p := by omega
        go_enter Try.func13, Try.ntmps13
        go_wp2
        go_ret2
        exact ⟨rfl, rfl⟩
    · go_enter Try.func13, Try.ntmps13
      go_wp2
      go_ret2
      exact ⟨rfl, rfl⟩
  · go_enter Try.func13, Try.ntmps13
    go_wp2
    go_ret2
    exact ⟨rfl, rfl⟩
set_option maxRecDepth 100000 in
set_option maxHeartbeats 2000000 in
theorem encr_yes (s : ByteArray) (p : Nat) (h : encOk s.size p = true) (w : World) : Calls Try.prog 13 #[.string s, .int .i64 (p : Int)] w fun e w' => RetEnc w s p e w' := by
  obtain ⟨h1, h2, h3, h4⟩ := encOk_true h
  clear h
  have hl : s.toList.isEmpty = false := toList_cons h3
  have hl2 : (s.toList == []) = false := toList_cons' h3
  have kb := conv_bytes s
  have hbl := bl_length s
  have HL := Lib.hid hbl
  have hs0 : 0 < s.size := by omega
  clear hbl h3
  go_enter Try.func13, Try.ntmps13
  go_wp2_with (first | (go_at_call 30; refine (genr_any p (by omega) _).mono ?_; rintro e w1 ⟨g, bg, cg, rfl, hO1, hb1, hG1, hgc1, hB1⟩) | (at_builtin; refine app_zeros _ _ Try.underlying26 Try.underlying3 rfl _ _ rfl _ s.size _ p rfl rfl _ (bytesWorld_all _ s) ?a1 ?a2 ?a3 ?a4 ?a5 ?_))
  case a1 => simp only [List.length_append, List.length_replicate, HL.out]; have := grownCap_ge w1 s.size 0 5; omega
  case a2 => exact grownCap_ge w1 s.size 0 5
  case a3 => intro j h1 _; rw [Gf.co_append_right (by rw [HL.out]; exact h1), Gf.co_replicate]
  case a4 => omega
  case a5 => omega
  intro g2 c2 w2 hO2 hg2 hgr2
  have ht : (bl s ++ List.replicate (grownCap w1 s.size 0 5 - s.size) 0).take s.size = bl s := by
    rw [List.take_append_of_le_length (by rw [HL.out]; exact Nat.le_refl _), List.take_of_length_le (by rw [HL.out]; exact Nat.le_refl _)]
  rw [ht] at hO2
  have hsz1 := hB1.size
  have hg2' : w1.heap.size ≤ g2 := by
    rcases hg2 with h | h
    · omega
    · rw [Lib.bytesWorld_size] at h; omega
  have hB2 : Below w1.heap.size w1 w2 := (bytesWorld_below w1 s).trans ⟨hgr2.os, hgr2.tape, hgr2.output, hgr2.size, fun k hk => hgr2.block k (by rw [Lib.bytesWorld_size]; omega) (fun e => by injection e with e; omega)⟩
  have hlt1 := hO1.lt
  have hO1' := hO1.below hB2 hlt1
  have hB12 := hB1.trans (hB2.mono hsz1)
  have hsz2 := hB2.size
  have hgl := hG1.1
  have h0 : Gf.co g 0 ≠ 0 := by rw [hG1.2.1]; decide
  have hrem := remr_any (bl s ++ List.replicate p 0) g (by omega) (by simp [HL.out]; omega) h0 (by simp [HL.out]; omega) (by omega) g2 0 c2 bg 0 cg hgc1 w2 hO2.rd hO1'.rd
  rw [List.length_append, HL.out, List.length_replicate] at hrem
  have HR := Lib.hid hrem
  have HG := Lib.hid hG1
  have hB12h := Lib.hid hB12
  clear hrem hG1 hO2 hg2 hgr2 hO1 hB1 hO1' hB2 hB12 ht hgl h0
  go_wp2_with fail
  refine HR.out.mono ?_
  rintro e w3 ⟨r, b3, c3, rfl, hO3, hb3, hr1, hr2, hB3⟩
  have kc := conv_string hO3.rd c3
  have hgl := HG.out.1
  have hrl : r.length = p := by omega
  have HRL := Lib.hid hrl
  have H3 := Lib.hid hr2
  have hB4 := Lib.hid (hB12h.out.trans (hB3.mono (Nat.le_trans hsz1 hsz2)))
  have hrr : r.length ≤ 16 := by omega
  have hsr : s.size + (str r).size ≤ 9223372036854775807 := by rw [str_size]; omega
  have hcat : s ++ str r = str (bl s ++ r) := by rw [← str_append, str_bl]
  have HC := Lib.hid hcat
  clear hgl hrl hr1 hr2 hB3 hcat
  go_wp2
  go_ret2
  refine ⟨r, by rw [← HC.out]; rfl, HRL.out, fun j hj => ?_, hB4.out⟩
  rw [Gf.hor_append, H3.out _ (HG.out.2.2 j hj), Gf.hor_append, Gf.hor_zeros, List.length_replicate, HRL.out, UInt8.xor_zero, UInt8.xor_self]
end Go.Proofs.Ytjmeoeielbkkiaa
