import Derived.Test.YtjmeoeielbkkiaaG4
set_option maxRecDepth 100000
set_option linter.unusedVariables false
set_option linter.unusedSimpArgs false
namespace Go.Proofs.Ytjmeoeielbkkiaa
open Go.RowKit Go.Deep
/-- a generator of k parity symbols -/
def IsGen (k : Nat) (g : List UInt8) : Prop := g.length = k + 1 ∧ Gf.co g 0 = 1 ∧ ∀ j, j < k → Gf.hor g (Gf.al j) = 0
theorem IsGen.zero : IsGen 0 [1] := ⟨rfl, rfl, fun j hj => by omega⟩
theorem IsGen.step {k : Nat} {g : List UInt8} (h : IsGen k g) : IsGen (k + 1) (Gf.prod g [1, Gf.al k]) := by
  obtain ⟨h1, h2, h3⟩ := h
  have hg : g ≠ [] := fun e => by rw [e] at h1; cases h1
  refine ⟨by rw [Gf.prod_length hg (by simp), h1]; rfl, ?_, fun j hj => ?_⟩
  · rw [Gf.co_prod hg (by simp)]
    simp only [Gf.cv, Gf.S, UInt8.zero_xor, Nat.sub_zero, h2]
    exact Gf.one_mul 1
  · rw [Gf.hor_prod hg (by simp) (Gf.al_ne j)]
    by_cases hjk : j < k
    · rw [h3 j hjk, Gf.zero_mul]
    · obtain rfl : j = k := by omega
      have : Gf.hor [1, Gf.al j] (Gf.al j) = 0 := by
        show Gf.mul (Gf.mul 0 (Gf.al j) ^^^ 1) (Gf.al j) ^^^ Gf.al j = 0
        rw [Gf.zero_mul, UInt8.zero_xor, Gf.one_mul, UInt8.xor_self]
      rw [this, Gf.mul_zero]
def RetGen (w : World) (k : Nat) (e : Ending) (w' : World) : Prop :=
  ∃ (g : List UInt8) (b c : Nat), e = .returned (.tuple #[.slice (some ⟨b, 0, none⟩) g.length c, .int .i64 0]) ∧ Own w' b g ∧ w.heap.size ≤ b ∧ IsGen k g ∧ Below w.heap.size w w'
set_option maxRecDepth 100000 in
set_option maxHeartbeats 1000000 in
theorem generator_any (k : Nat) (hk : k ≤ 32) (w : World) : Calls Try.prog 28 #[.int .i64 (k : Int)] w fun e w' => RetGen w k e w' := by
  have d1 : decide ((k : Int) < 0) = false := by simp
  go_enter Try.func28, Try.ntmps28
  go_wp2
  go_loopw [4, 14] (fun v i wr => ∃ (m : Nat) (g : List UInt8) (b c : Nat), m ≤ k ∧ i = .int .i64 m ∧ v = .slice (some ⟨b, 0, none⟩) g.length c ∧ Own wr b g ∧ w.heap.size ≤ b ∧ Hid (IsGen m g) ∧ Below w.heap.size w wr) (fun _ i _ => k - (intOf i).toNat)
  case atStart => exact ⟨0, [1], w.heap.size, 1, by omega, rfl, rfl, Own.lit w [1], Nat.le_refl _, IsGen.zero, (Below.refl _ _).alloc (Nat.le_refl _) _⟩
  case round =>
    obtain ⟨m, g, b, c, hm, rfl, rfl, hO, hb, hG, hB⟩ := hrel
    by_cases hlt : m < k
    · have hgl := hG.out.1
      have hg1 : g.length ≤ m + 1 := by omega
      have hg2 : m + 1 ≤ g.length := by omega
      clear hgl
      go_wp2_with (go_at_call 51; refine (exp_nat m (by omega) _).mono ?_; rintro e w' ⟨rfl, rfl⟩)
      have hO2 := hO.alloc (.cells #[Value.int .u8 1, B (Gf.al m)] 5)
      have hL : Own (wr.alloc (.cells #[Value.int .u8 1, B (Gf.al m)] 5)) wr.heap.size [1, Gf.al m] := Own.lit wr [1, Gf.al m]
      refine (product_any g [1, Gf.al m] (by omega) (by simp) (by omega) (by simp) b 0 c wr.heap.size 0 2 _ hO2.rd hL.rd).mono ?_
      rintro e w2 ⟨b2, c2, rfl, hO3, hb2, hc2, hB2⟩
      have hbs := hB.size
      simp at hb2
      have hB3 := (hB.alloc hB.size _).trans (hB2.mono (show w.heap.size ≤ _ by simp; omega))
      clear hO2 hL hO hB hB2
      go_wp2
      go_roundw
      case rel => exact ⟨m + 1, Gf.prod g [1, Gf.al m], b2, c2, by omega, by go_num, rfl, hO3, by omega, hG.out.step, hB3⟩
      case measure => simp [intOf]; omega
    · have hmk : m = k := by omega
      have HM := Lib.hid hmk
      clear hmk
      go_wp2
      go_ret2
      exact ⟨g, b, c, rfl, hO, hb, by rw [← HM.out]; exact hG.out, hB⟩
set_option maxRecDepth 100000 in
theorem eval1_any (s c x : UInt8) (b : Nat) (w : World) (hx : w.cell? ⟨b, 0, none⟩ = some (B x)) : Calls Try.prog 59 #[B s, B c, .pointer (some ⟨b, 0, none⟩)] w fun e w' => e = .returned (B (Gf.mul s x ^^^ c)) ∧ w = w' := by
  go_enter Try.func59, Try.ntmps59
  go_wp2_with (go_at_call 34; refine (mul_any _ _ _).mono ?_; rintro e w' ⟨rfl, rfl⟩)
  go_ret
  exact ⟨ret_u8 (b_xor _ _), rfl⟩
theorem hor_next (p : List UInt8) (k : Nat) (hk : k < p.length) (x : UInt8) : Gf.hor (p.take (k + 1)) x = Gf.mul (Gf.hor (p.take k) x) x ^^^ Gf.co p k := by
  rw [List.take_succ_eq_append_getElem hk, Gf.hor_snoc, Gf.co_lt hk]
set_option maxRecDepth 100000 in
theorem fold_any (p : List UInt8) (x : UInt8) (hp : 0 < p.length) (hpl : p.length ≤ 1000) (bp op cp b : Nat) (w : World) (h1 : Rd w bp op p) (hx : w.cell? ⟨b, 0, none⟩ = some (B x)) :
    Calls Try.prog 58 #[.slice (some ⟨bp, op, none⟩) p.length cp, B 0, .func (.func 59) #[] #[.pointer (some ⟨b, 0, none⟩)]] w fun e w' => e = .returned (B (Gf.hor p x)) ∧ w = w' := by
  go_enter Try.func58, Try.ntmps58
  go_wp2
  go_loop [1, 11] (fun s i => ∃ k : Nat, k ≤ p.length ∧ i = .int .i64 k ∧ s = B (Gf.hor (p.take k) x)) (fun _ i => p.length - (intOf i).toNat)
  case atStart => exact ⟨0, by omega, rfl, rfl⟩
  case round =>
    obtain ⟨k, hk, rfl, rfl⟩ := hrel
    by_cases hlt : k < p.length
    · have hc := h1 k hlt
      have hn := hor_next p k hlt x
      have HN := Lib.hid hn
      clear hn
      go_wp2_with (go_at_call 59; refine (eval1_any _ _ x b _ hx).mono ?_; rintro e w' ⟨rfl, rfl⟩)
      go_round
      case rel => exact ⟨k + 1, by omega, by go_num, by rw [HN.out]⟩
      case measure => simp [intOf]; omega
    · have hkp : k = p.length := by omega
      have HK := Lib.hid hkp
      clear hkp
      go_wp2
      go_ret
      exact ⟨by rw [HK.out, List.take_length]; rfl, rfl⟩
set_option maxRecDepth 100000 in
theorem eval_any (p : List UInt8) (x : UInt8) (hp : 0 < p.length) (hpl : p.length ≤ 1000) (bp op cp : Nat) (w : World) (h1 : Rd w bp op p) :
    Calls Try.prog 33 #[.slice (some ⟨bp, op, none⟩) p.length cp, B x] w fun e w' => Ret1 w (B (Gf.hor p x)) e w' := by
  have hbp := h1.lt hp
  go_enter Try.func33, Try.ntmps33
  go_wp2_with (go_at_call 58; refine (fold_any p x hp hpl _ _ _ w.heap.size _ (h1.below ((Below.refl _ _).alloc (Nat.le_refl _) _) hbp) (by simp)).mono ?_; rintro e w' ⟨rfl, rfl⟩)
  go_ret
  exact ⟨rfl, (Below.refl _ _).alloc (Nat.le_refl _) _⟩
end Go.Proofs.Ytjmeoeielbkkiaa
