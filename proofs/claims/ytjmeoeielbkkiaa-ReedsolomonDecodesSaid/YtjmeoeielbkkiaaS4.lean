import Derived.Test.YtjmeoeielbkkiaaS3
set_option maxRecDepth 100000
set_option linter.unusedVariables false
set_option linter.unusedSimpArgs false
namespace Go.Proofs.Ytjmeoeielbkkiaa
open Go.RowKit Go.Deep
/-- a word is a codeword, as the program says it -/
def vld (s : ByteArray) (p : Int) : Bool := shp s.size p && zeroL (syn (bl s) p.toNat)
theorem vld_iff (s : ByteArray) (p : Nat) : vld s p = true ↔ shp s.size p = true ∧ Gf.IsCw (bl s) p := by
  unfold vld
  rw [Bool.and_eq_true, Int.toNat_natCast, zeroL_syn]
set_option maxRecDepth 100000 in
theorem valid_any (s : ByteArray) (p : Int) (w : World) : Calls Try.prog 17 #[.string s, .int .i64 p] w fun e w' => Ret1 w (.bool (vld s p)) e w' := by
  by_cases h : shp s.size p = true
  · obtain ⟨h1, h2, h3, h4, h5⟩ := shp_true h
    obtain ⟨n, rfl⟩ := Int.eq_ofNat_of_zero_le (show 0 ≤ p by omega)
    have hv : Hid (vld s n = zeroL (syn (bl s) n)) := by
      show _ = _
      unfold vld
      rw [h, Bool.true_and, Int.toNat_natCast]
    have H := Lib.hid h
    clear h
    go_enter Try.func17, Try.ntmps17
    go_wp2_with fail
    refine (syndromes_yes s n H.out _).mono ?_
    rintro e w1 ⟨b, c, rfl, hO, hb, hc, hB⟩
    have hz := zero_any (syn (bl s) n) (by rw [syn_length]; omega) (by rw [syn_length]; omega) b 0 c w1 hO.rd
    have HZ := Lib.hid hz
    clear hz
    go_wp2_with (go_at_call 39; refine HZ.out.mono ?_; rintro e w' ⟨rfl, rfl⟩)
    go_ret
    exact ⟨by rw [hv.out]; rfl, hB⟩
  · have h : shp s.size p = false := by simpa using h
    have hv : Hid (vld s p = false) := by
      show _ = _
      unfold vld
      rw [h, Bool.false_and]
    have H := Lib.hid h
    clear h
    go_enter Try.func17, Try.ntmps17
    go_wp2_with fail
    refine (syndromes_no s p H.out _).mono ?_
    rintro e w1 ⟨rfl, rfl⟩
    go_wp2
    go_ret
    exact ⟨by rw [hv.out]; rfl, Below.refl _ _⟩
/-- one more than the degree -/
def dgN (l : List UInt8) : Nat → Nat
  | 0 => 0
  | m + 1 => if Gf.co l m = 0 then dgN l m else m + 1
def dg (l : List UInt8) : Nat := dgN l l.length
theorem dgN_le (l : List UInt8) (m : Nat) : dgN l m ≤ m := by
  induction m with
  | zero => exact Nat.le_refl 0
  | succ m ih => unfold dgN; split <;> omega
theorem dgN_zero (l : List UInt8) (m : Nat) : ∀ i, dgN l m ≤ i → i < m → Gf.co l i = 0 := by
  induction m with
  | zero => intro i _ h; omega
  | succ m ih =>
    intro i h1 h2
    unfold dgN at h1
    split at h1
    · next h =>
      by_cases hi : i = m
      · rw [hi, h]
      · exact ih i h1 (by omega)
    · omega
theorem dgN_ne (l : List UInt8) (m : Nat) : 0 < dgN l m → Gf.co l (dgN l m - 1) ≠ 0 := by
  induction m with
  | zero => intro h; exact absurd h (Nat.lt_irrefl 0)
  | succ m ih =>
    unfold dgN
    split
    · exact ih
    · next h => intro _; rw [Nat.add_sub_cancel]; exact h
theorem dg_le (l : List UInt8) : dg l ≤ l.length := dgN_le l _
theorem dg_sup (l : List UInt8) : Gf.Sup (dg l) (Gf.co l) := fun i hi => by
  by_cases h : i < l.length
  · exact dgN_zero l _ i hi h
  · exact Gf.co_ge (by omega)
theorem dg_ne {l : List UInt8} (h : 0 < dg l) : Gf.co l (dg l - 1) ≠ 0 := dgN_ne l _ h
set_option maxRecDepth 100000 in
theorem degree_any (p : List UInt8) (hp : 0 < p.length) (hpl : p.length ≤ 1000) (bp op cp : Nat) (w : World) (h1 : Rd w bp op p) :
    Calls Try.prog 42 #[.slice (some ⟨bp, op, none⟩) p.length cp] w fun e w' => e = .returned (.int .i64 ((dg p : Int) - 1)) ∧ w = w' := by
  go_enter Try.func42, Try.ntmps42
  go_wp2
  go_loop [3] (fun i => ∃ m : Nat, m ≤ p.length ∧ i = .int .i64 ((m : Int) - 1) ∧ Hid (dgN p m = dg p)) (fun i => (intOf i + 1).toNat)
  case atStart => exact ⟨p.length, Nat.le_refl _, rfl, rfl⟩
  case round =>
    obtain ⟨m, hm, rfl, hd⟩ := hrel
    rcases m with _ | k
    · have hv : ((0 : Nat) : Int) - 1 = -1 := rfl
      rw [hv]
      have hd0 : Hid ((dg p : Int) - 1 = -1) := by
        have := hd.out
        unfold dgN at this
        show _ = _
        omega
      go_wp2
      go_ret
      exact ⟨by rw [hd0.out]; rfl, rfl⟩
    · have hv : ((k + 1 : Nat) : Int) - 1 = (k : Int) := by omega
      rw [hv]
      clear hv
      have hc := h1 k (by omega)
      by_cases h0 : Gf.co p k = 0
      · have h2 : ((Gf.co p k).toNat == 0) = true := by rw [h0]; rfl
        have h3 : (((Gf.co p k).toNat : Int) == 0) = true := by rw [h0]; rfl
        have H0 := Lib.hid h0
        clear h0
        go_wp2
        go_round
        case rel => exact ⟨k, by omega, rfl, by have := hd.out; unfold dgN at this; rwa [if_pos H0.out] at this⟩
        case measure => simp [intOf]
      · have h2 : ((Gf.co p k).toNat == 0) = false := by
          rw [beq_eq_false_iff_ne]; exact fun e => h0 (UInt8.toNat_inj.1 e)
        have h3 : (((Gf.co p k).toNat : Int) == 0) = false := by
          rw [beq_eq_false_iff_ne]; exact fun e => h0 (u8_inj e)
        have hd0 : Hid ((dg p : Int) - 1 = (k : Int)) := by
          have := hd.out
          unfold dgN at this
          rw [if_neg h0] at this
          show _ = _
          omega
        clear h0
        go_wp2
        go_ret
        exact ⟨by rw [hd0.out]; rfl, rfl⟩
set_option maxRecDepth 100000 in
theorem times_any (p q : List UInt8) (hp : 0 < p.length) (hq : 0 < q.length) (hpl : p.length ≤ 1000) (hql : q.length ≤ 1000) (bp op cp bq oq cq : Nat) (w : World) (h1 : Rd w bp op p) (h2 : Rd w bq oq q) :
    Calls Try.prog 45 #[.slice (some ⟨bp, op, none⟩) p.length cp, .slice (some ⟨bq, oq, none⟩) q.length cq] w fun e w' => RetOwn w (Gf.prod p q) e w' := by
  go_enter Try.func45, Try.ntmps45
  go_wp2_with (go_at_call 50; refine (product_any p q hp hq hpl hql _ _ _ _ _ _ _ h1 h2).mono ?_; rintro e w' ⟨b, c, rfl, hO, hb, hc, hB⟩)
  go_ret
  exact ⟨b, c, rfl, hO, hb, hc, hB⟩
set_option maxRecDepth 100000 in
theorem locator_any (s : ByteArray) (i : Nat) (hi : i < s.size) (hs : s.size ≤ 255) (w : World) : Calls Try.prog 75 #[.string s, .int .i64 (i : Int)] w fun e w' => e = .returned (B (Gf.X s.size i)) ∧ w = w' := by
  have e1 : (s.size : Int) - 1 - (i : Int) = ((s.size - 1 - i : Nat) : Int) := by omega
  obtain ⟨m, hm⟩ : ∃ m, m = s.size - 1 - i := ⟨_, rfl⟩
  rw [← hm] at e1
  have hml : m ≤ 255 := by omega
  have E1 := Lib.hid e1
  have HM := Lib.hid hm
  clear e1 hm
  go_enter Try.func75, Try.ntmps75
  go_wp2_with fail
  rw [E1.out]
  refine (exp_nat m (by omega) _).mono ?_
  rintro e w' ⟨rfl, rfl⟩
  go_wp2
  go_ret
  exact ⟨by rw [HM.out]; rfl, rfl⟩
end Go.Proofs.Ytjmeoeielbkkiaa
