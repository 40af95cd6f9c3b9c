import Derived.Test.YtknfkhackmnnaaaRa
set_option maxRecDepth 100000
set_option linter.unusedVariables false
set_option linter.unusedSimpArgs false
namespace Go.Proofs.Ytknfkhackmnnaaa
open Go.RowKit Go.Deep
/-! the field of the definitions -/
theorem i64_xor_nat (a b : Nat) (ha : a < 1024) (hb : b < 1024) : bits .xor .i64 (a : Int) (b : Int) = ((a ^^^ b : Nat) : Int) := by
  have hx : a ^^^ b < 2 ^ 10 := Nat.xor_lt_two_pow (by omega) (by omega)
  have h1 : (BitVec.ofInt 64 (a : Int)).toNat = a := by
    rw [BitVec.ofInt_natCast, BitVec.toNat_ofNat]; exact Nat.mod_eq_of_lt (by omega)
  have h2 : (BitVec.ofInt 64 (b : Int)).toNat = b := by
    rw [BitVec.ofInt_natCast, BitVec.toNat_ofNat]; exact Nat.mod_eq_of_lt (by omega)
  show IntKind.i64.wrap ((BitVec.ofInt 64 (a : Int) ^^^ BitVec.ofInt 64 (b : Int)).toNat : Int) = _
  rw [BitVec.toNat_xor, h1, h2]
  exact IntWalk.i64_in _ (by omega)
theorem i64_xor_u8 (a b : UInt8) : bits .xor .i64 (a.toNat : Int) (b.toNat : Int) = ((a ^^^ b).toNat : Int) := by
  have h1 := a.toNat_lt
  have h2 := b.toNat_lt
  rw [i64_xor_nat _ _ (by omega) (by omega), UInt8.toNat_xor]
theorem dbl_ref (a : UInt8) (h : 128 ≤ a.toNat) : bits .xor .i64 (2 * (a.toNat : Int)) 285 = ((Gf.dbl a).toNat : Int) := by
  have h1 := a.toNat_lt
  rw [show 2 * (a.toNat : Int) = ((2 * a.toNat : Nat) : Int) from by omega, show (285 : Int) = ((285 : Nat) : Int) from rfl, i64_xor_nat _ _ (by omega) (by omega)]
  congr 1
  refine Gf.forall8 (p := fun a => 128 ≤ a.toNat → (2 * a.toNat) ^^^ 285 = (Gf.dbl a).toNat) ?_ a h
  decide +kernel
theorem dbl_ref_lo (a : UInt8) (h : ¬ 128 ≤ a.toNat) : 2 * (a.toNat : Int) = ((Gf.dbl a).toNat : Int) := by
  rw [Gf.dbl, if_neg (by rw [UInt8.le_iff_toNat_le]; exact h), UInt8.toNat_add]
  omega
theorem mulL_odd (k : Nat) (o x y : UInt8) (h : y.toNat < 2 ^ k) (h1 : y.toNat % 2 = 1) : ∃ k', k = k' + 1 ∧ (y / 2).toNat < 2 ^ k' ∧ Gf.mulL k' (o ^^^ x) (Gf.dbl x) (y / 2) = Gf.mulL k o x y := by
  obtain ⟨k', rfl⟩ : ∃ k', k = k' + 1 := ⟨k - 1, by rcases k with _ | k; simp at h; omega; rfl⟩
  have h2 : y % 2 = 1 := UInt8.toNat_inj.1 (by rw [UInt8.toNat_mod]; exact h1)
  refine ⟨k', rfl, ?_, by rw [Gf.mulL, if_pos h2]⟩
  rw [UInt8.toNat_div, Nat.pow_succ] at *; show y.toNat / 2 < _; omega
theorem mulL_even (k : Nat) (o x y : UInt8) (h : y.toNat < 2 ^ k) (h0 : 0 < y.toNat) (h1 : ¬ y.toNat % 2 = 1) : ∃ k', k = k' + 1 ∧ (y / 2).toNat < 2 ^ k' ∧ Gf.mulL k' o (Gf.dbl x) (y / 2) = Gf.mulL k o x y := by
  obtain ⟨k', rfl⟩ : ∃ k', k = k' + 1 := ⟨k - 1, by rcases k with _ | k; simp at h; omega; rfl⟩
  have h2 : ¬ y % 2 = 1 := fun e => h1 (by have := congrArg UInt8.toNat e; rwa [UInt8.toNat_mod] at this)
  refine ⟨k', rfl, ?_, by rw [Gf.mulL, if_neg h2]⟩
  rw [UInt8.toNat_div, Nat.pow_succ] at *; show y.toNat / 2 < _; omega
set_option maxRecDepth 100000 in
set_option maxHeartbeats 1000000 in
theorem mulr_any (a b : UInt8) (w : World) : Calls Try.prog 87 #[B a, B b] w fun e w' => e = .returned (B (Gf.mul a b)) ∧ w = w' := by
  have ha256 : (a.toNat : Int) < 256 := by have := a.toNat_lt; omega
  have hb256 : (b.toNat : Int) < 256 := by have := b.toNat_lt; omega
  have wa : wrap64 (a.toNat : Int) = (a.toNat : Int) := IntWalk.wrap64_in _ ⟨by omega, by omega⟩
  have wb : wrap64 (b.toNat : Int) = (b.toNat : Int) := IntWalk.wrap64_in _ ⟨by omega, by omega⟩
  go_enter Try.func87, Try.ntmps87
  go_wp2
  go_loop [5, 6, 7] (fun x y o => ∃ (k : Nat) (x' y' o' : UInt8), x = .int .i64 (x'.toNat : Int) ∧ y = .int .i64 (y'.toNat : Int) ∧ o = .int .i64 (o'.toNat : Int) ∧ y'.toNat < 2 ^ k ∧ Hid (Gf.mulL k o' x' y' = Gf.mul a b)) (fun _ y _ => (intOf y).toNat)
  case atStart => exact ⟨8, a, b, 0, rfl, rfl, rfl, b.toNat_lt, rfl⟩
  case round =>
    obtain ⟨k, x, y, o, rfl, rfl, rfl, hk, hm⟩ := hrel
    have hx256 := x.toNat_lt
    have hy256 := y.toNat_lt
    by_cases hy : 0 < y.toNat
    · have hyi : (0 : Int) < (y.toNat : Int) := by omega
      have hd2 : Hid ((y.toNat : Int) / 2 = ((y / 2).toNat : Int)) := by show _ = _; rw [UInt8.toNat_div]; rfl
      have hlt : Hid ((y / 2).toNat < y.toNat) := by show _ < _; rw [UInt8.toNat_div]; show y.toNat / 2 < _; omega
      by_cases h1 : y.toNat % 2 = 1
      · obtain ⟨k', hk1, hy2, hm1⟩ := mulL_odd k o x y hk h1
        have h1i : (y.toNat : Int) % 2 = 1 := by omega
        have HM := Lib.hid hm1
        have HY := Lib.hid hy2
        clear hm1 hk1 hy2 h1 hy hk
        by_cases hx : 128 ≤ x.toNat
        · have hxi : (255 : Int) < 2 * (x.toNat : Int) := by omega
          have HD := Lib.hid (dbl_ref x hx)
          clear hx
          go_wp2
          rw [hd2.out, HD.out, i64_xor_u8]
          go_round
          case rel => exact ⟨k', Gf.dbl x, y / 2, o ^^^ x, rfl, rfl, rfl, HY.out, HM.out.trans hm.out⟩
          case measure => have := hlt.out; simp only [intOf]; omega
        · have hxi : ¬ (255 : Int) < 2 * (x.toNat : Int) := by omega
          have HD := Lib.hid (dbl_ref_lo x hx)
          clear hx
          go_wp2
          rw [hd2.out, HD.out, i64_xor_u8]
          go_round
          case rel => exact ⟨k', Gf.dbl x, y / 2, o ^^^ x, rfl, rfl, rfl, HY.out, HM.out.trans hm.out⟩
          case measure => have := hlt.out; simp only [intOf]; omega
      · obtain ⟨k', hk1, hy2, hm1⟩ := mulL_even k o x y hk hy h1
        have h1i : (y.toNat : Int) % 2 = 0 := by omega
        have HM := Lib.hid hm1
        have HY := Lib.hid hy2
        clear hm1 hk1 hy2 h1 hy hk
        by_cases hx : 128 ≤ x.toNat
        · have hxi : (255 : Int) < 2 * (x.toNat : Int) := by omega
          have HD := Lib.hid (dbl_ref x hx)
          clear hx
          go_wp2
          rw [hd2.out, HD.out]
          go_round
          case rel => exact ⟨k', Gf.dbl x, y / 2, o, rfl, rfl, rfl, HY.out, HM.out.trans hm.out⟩
          case measure => have := hlt.out; simp only [intOf]; omega
        · have hxi : ¬ (255 : Int) < 2 * (x.toNat : Int) := by omega
          have HD := Lib.hid (dbl_ref_lo x hx)
          clear hx
          go_wp2
          rw [hd2.out, HD.out]
          go_round
          case rel => exact ⟨k', Gf.dbl x, y / 2, o, rfl, rfl, rfl, HY.out, HM.out.trans hm.out⟩
          case measure => have := hlt.out; simp only [intOf]; omega
    · have hy0 : y.toNat = 0 := by omega
      have hyi : ¬ (0 : Int) < (y.toNat : Int) := by omega
      have HZ : Hid ((y.toNat : Int) = 0) := by show _ = _; omega
      have ho := o.toNat_lt
      have hoi : (o.toNat : Int) % 256 = (o.toNat : Int) := by omega
      clear hy hy0
      go_wp2
      go_ret
      exact ⟨by rw [← hm.out, mulL_done k o x y HZ.out]; rfl, rfl⟩
theorem pw_sq (a : UInt8) (n : Nat) : Gf.pw (Gf.mul a a) n = Gf.pw a (2 * n) := by
  rw [Gf.pw_mul, ← Gf.pw_add, show n + n = 2 * n from by omega]
theorem pow_odd (o a : UInt8) (n : Nat) (h : n % 2 = 1) : Gf.mul (Gf.mul o a) (Gf.pw (Gf.mul a a) (n / 2)) = Gf.mul o (Gf.pw a n) := by
  have e : n = 2 * (n / 2) + 1 := by omega
  rw [pw_sq, Gf.mul_assoc]
  congr 1
  conv => rhs; rw [e, Gf.pw_add]
  rw [Gf.mul_comm]
  congr 1
  rw [Gf.pw, Gf.pw, Gf.one_mul]
theorem pow_even (o a : UInt8) (n : Nat) (h : ¬ n % 2 = 1) : Gf.mul o (Gf.pw (Gf.mul a a) (n / 2)) = Gf.mul o (Gf.pw a n) := by
  have e : n = 2 * (n / 2) := by omega
  rw [pw_sq, ← e]
set_option maxRecDepth 100000 in
set_option maxHeartbeats 1000000 in
theorem powr_any (a : UInt8) (n : Nat) (hn : n ≤ 100000) (w : World) : Calls Try.prog 103 #[B a, .int .i64 (n : Int)] w fun e w' => e = .returned (B (Gf.pw a n)) ∧ w = w' := by
  go_enter Try.func103, Try.ntmps103
  go_wp2
  go_loop [0, 1, 5] (fun x y o => ∃ (x' o' : UInt8) (k : Nat), x = B x' ∧ y = .int .i64 (k : Int) ∧ o = B o' ∧ k ≤ n ∧ Hid (Gf.mul o' (Gf.pw x' k) = Gf.pw a n)) (fun _ y _ => (intOf y).toNat)
  case atStart => exact ⟨a, 1, n, rfl, rfl, rfl, Nat.le_refl _, Gf.one_mul _⟩
  case round =>
    obtain ⟨x, o, k, rfl, rfl, rfl, hk, hm⟩ := hrel
    by_cases hk0 : 0 < k
    · have hki : (0 : Int) < (k : Int) := by omega
      have hd2 : Hid ((k : Int) / 2 = ((k / 2 : Nat) : Int)) := by show _ = _; rfl
      by_cases h1 : k % 2 = 1
      · have h1i : (k : Int) % 2 = 1 := by omega
        have HM := Lib.hid (pow_odd o x k h1)
        clear h1
        go_wp2_with (go_at_call 87; refine (mulr_any _ _ _).mono ?_; rintro e w' ⟨rfl, rfl⟩)
        rw [hd2.out]
        go_round
        case rel => exact ⟨Gf.mul x x, Gf.mul o x, k / 2, rfl, rfl, rfl, by omega, HM.out.trans hm.out⟩
        case measure => simp only [intOf]; omega
      · have h1i : (k : Int) % 2 = 0 := by omega
        have HM := Lib.hid (pow_even o x k h1)
        clear h1
        go_wp2_with (go_at_call 87; refine (mulr_any _ _ _).mono ?_; rintro e w' ⟨rfl, rfl⟩)
        rw [hd2.out]
        go_round
        case rel => exact ⟨Gf.mul x x, o, k / 2, rfl, rfl, rfl, by omega, HM.out.trans hm.out⟩
        case measure => simp only [intOf]; omega
    · have hki : ¬ (0 : Int) < (k : Int) := by omega
      have HZ : Hid (k = 0) := by show _ = _; omega
      clear hk0
      go_wp2
      go_ret
      exact ⟨by rw [← hm.out, HZ.out, Gf.pw, Gf.mul_one]; rfl, rfl⟩
theorem pw_inv {a : UInt8} (h : a ≠ 0) : Gf.pw a 254 = Gf.inv a := by
  refine Gf.mul_cancel h ?_
  rw [Gf.mul_inv h]
  have h1 := (Gf.lg_spec a h).1
  have h2 : Gf.mul (Gf.pw a 1) (Gf.pw a 254) = 1 := by
    rw [← Gf.pw_add, ← h1, Gf.pw_al, ← Gf.al_mod, show Gf.lg a * (1 + 254) % 255 = 0 from by omega]
    rfl
  rwa [Gf.pw, Gf.pw, Gf.one_mul] at h2
set_option maxRecDepth 100000 in
theorem invr_any (a : UInt8) (h : a ≠ 0) (w : World) : Calls Try.prog 86 #[B a] w fun e w' => e = .returned (.tuple #[B (Gf.inv a), .int .i64 0]) ∧ w = w' := by
  have h3 : ((a.toNat : Int) == 0) = false := by rw [beq_eq_false_iff_ne]; exact fun e => h (u8_inj e)
  have h4 : (a.toNat == 0) = false := by rw [beq_eq_false_iff_ne]; exact fun e => h (UInt8.toNat_inj.1 e)
  have HI := Lib.hid (pw_inv h)
  have hp := powr_any a 254 (by omega) w
  rw [show ((254 : Nat) : Int) = 254 from rfl, HI.out] at hp
  have HP := Lib.hid hp
  clear h hp
  go_enter Try.func86, Try.ntmps86
  go_wp2_with (go_at_call 103; refine HP.out.mono ?_; rintro e w' ⟨rfl, rfl⟩)
  go_ret2
  exact ⟨rfl, rfl⟩
set_option maxRecDepth 100000 in
theorem expr_any (n : Nat) (hn : n ≤ 100000) (w : World) : Calls Try.prog 84 #[.int .i64 (n : Int)] w fun e w' => e = .returned (B (Gf.al n)) ∧ w = w' := by
  have hp := powr_any 2 (n % 255) (by omega) w
  rw [Gf.pw_two, Gf.al_mod] at hp
  have HP := Lib.hid hp
  have hr2 : ((n : Int) % 255 + 255) % 255 = ((n % 255 : Nat) : Int) := by omega
  clear hp
  go_enter Try.func84, Try.ntmps84
  go_wp2_with (go_at_call 103; refine HP.out.mono ?_; rintro e w' ⟨rfl, rfl⟩)
  go_ret
  exact ⟨rfl, rfl⟩
end Go.Proofs.Ytknfkhackmnnaaa
set_option maxRecDepth 100000
set_option linter.unusedVariables false
set_option linter.unusedSimpArgs false
namespace Go.Proofs.Ytknfkhackmnnaaa
open Go.RowKit Go.Deep
/-! the words of the definitions -/
theorem hor_step (l : List UInt8) (x : UInt8) (k : Nat) (h : k < l.length) : Gf.hor (l.take (k + 1)) x = Gf.mul (Gf.hor (l.take k) x) x ^^^ Gf.co l k := by
  rw [List.take_add_one, List.getElem?_eq_getElem h, Option.toList_some, Gf.hor_snoc, Gf.co_lt h]
set_option maxRecDepth 100000 in
set_option maxHeartbeats 1000000 in
theorem evalr_any (l : List UInt8) (x : UInt8) (hl : l.length ≤ 100000) (b off c : Nat) (w : World) (h : Rd w b off l) (hb : b < w.heap.size) :
    Calls Try.prog 91 #[.slice (some ⟨b, off, none⟩) l.length c, B x] w fun e w' => Ret1 w (B (Gf.hor l x)) e w' := by
  go_enter Try.func91, Try.ntmps91
  go_wp2
  go_loopw [5, 6] (fun o i wr => ∃ k : Nat, k ≤ l.length ∧ i = .int .i64 k ∧ o = B (Gf.hor (l.take k) x) ∧ Below w.heap.size w wr) (fun _ i _ => l.length - (intOf i).toNat)
  case atStart => exact ⟨0, by omega, rfl, rfl, Below.refl _ _⟩
  case round =>
    obtain ⟨k, hk, rfl, rfl, hB⟩ := hrel
    by_cases hlt : k < l.length
    · have hc := (h.below hB hb) k hlt
      have HX := Lib.hid (hor_step l x k hlt)
      obtain ⟨o, ho⟩ : ∃ o, o = Gf.hor (l.take k) x := ⟨_, rfl⟩
      rw [← ho]
      have HO := Lib.hid ho
      have hi0 : (0 : Int) ≤ (k : Int) := by omega
      have hi1 : (k : Int) < (l.length : Int) := by omega
      clear ho
      go_wp2
      have hc' : wr.drew.cell? ⟨b, off + k, none⟩ = _ := hc
      have hB' : Below w.heap.size w wr.drew := hB.drew
      clear hc hB
      refine wp_region_still_tail 8 (by kernel_rfl) (by kernel_rfl) ?_
      simp only [List.take_succ_cons, List.take_zero, List.drop_succ_cons, List.drop_zero]
      change wpStill _ _ wr.drew (fun a' => wpList _ _ _ _ a' wr.drew) _ _
      generalize wr.drew = w9 at hc' hB' ⊢
      repeat (first | still_step | still_call (still_of (mulr_any _ _ _)))
      refine wpStill_nil ?_
      clear hi0 hi1
      go_wp2
      go_roundw
      case rel => exact ⟨k + 1, by omega, by go_num, by rw [HX.out, ← HO.out, b_xor], hB'⟩
      case measure => simp [intOf]; omega
    · have HK : Hid (k = l.length) := by show _ = _; omega
      go_wp2
      go_ret
      exact ⟨by rw [show l.take k = l from by rw [HK.out, List.take_length]]; rfl, hB⟩
set_option maxRecDepth 100000 in
theorem fits_any (s : ByteArray) (p : Int) (w : World) : Calls Try.prog 90 #[.string s, .int .i64 p] w fun e w' => e = .returned (.bool (shp s.size p)) ∧ w = w' := by
  by_cases h1 : 2 ≤ (s.size : Int)
  · by_cases h2 : (s.size : Int) ≤ 255
    · by_cases h3 : 1 ≤ p
      · by_cases h4 : p ≤ 16
        · by_cases h5 : p < (s.size : Int)
          · have hs : Hid (shp s.size p = true) := by show _ = _; unfold shp; exact decide_eq_true ⟨by omega, by omega, h3, h4, h5⟩
            go_enter Try.func90, Try.ntmps90
            go_wp2
            go_ret
            exact ⟨by rw [hs.out]; rfl, rfl⟩
          · have hs : Hid (shp s.size p = false) := by show _ = _; unfold shp; exact decide_eq_false fun h => h5 h.2.2.2.2
            go_enter Try.func90, Try.ntmps90
            go_wp2
            go_ret
            exact ⟨by rw [hs.out]; rfl, rfl⟩
        · have hs : Hid (shp s.size p = false) := by show _ = _; unfold shp; exact decide_eq_false fun h => h4 h.2.2.2.1
          go_enter Try.func90, Try.ntmps90
          go_wp2
          go_ret
          exact ⟨by rw [hs.out]; rfl, rfl⟩
      · have hs : Hid (shp s.size p = false) := by show _ = _; unfold shp; exact decide_eq_false fun h => h3 h.2.2.1
        go_enter Try.func90, Try.ntmps90
        go_wp2
        go_ret
        exact ⟨by rw [hs.out]; rfl, rfl⟩
    · have hs : Hid (shp s.size p = false) := by show _ = _; unfold shp; exact decide_eq_false fun h => h2 (by have := h.2.1; omega)
      go_enter Try.func90, Try.ntmps90
      go_wp2
      go_ret
      exact ⟨by rw [hs.out]; rfl, rfl⟩
  · have hs : Hid (shp s.size p = false) := by show _ = _; unfold shp; exact decide_eq_false fun h => h1 (by have := h.1; omega)
    go_enter Try.func90, Try.ntmps90
    go_wp2
    go_ret
    exact ⟨by rw [hs.out]; rfl, rfl⟩
set_option maxRecDepth 100000 in
set_option maxHeartbeats 1000000 in
theorem zeror_any (p : List UInt8) (hpl : p.length ≤ 100000) (hp : 0 < p.length) (bp op cp : Nat) (w : World) (h1 : Rd w bp op p) :
    Calls Try.prog 67 #[.slice (some ⟨bp, op, none⟩) p.length cp] w fun e w' => e = .returned (.bool (zeroL p)) ∧ w = w' := by
  go_enter Try.func67, Try.ntmps67
  go_wp2
  go_loop [3] (fun i => ∃ k : Nat, k ≤ p.length ∧ i = .int .i64 k ∧ Hid (∀ j, j < k → Gf.co p j = 0)) (fun i => p.length - (intOf i).toNat)
  case atStart => exact ⟨0, by omega, rfl, fun j hj => by omega⟩
  case round =>
    obtain ⟨k, hk, rfl, hz⟩ := hrel
    by_cases hlt : k < p.length
    · have hc := h1 k hlt
      by_cases h0 : Gf.co p k = 0
      · have h2 : ((Gf.co p k).toNat == 0) = true := by rw [h0]; rfl
        have h3 : (((Gf.co p k).toNat : Int) == 0) = true := by rw [h0]; rfl
        have H0 := Lib.hid h0
        clear h0
        go_wp2
        go_round
        case rel => exact ⟨k + 1, by omega, by go_num, fun j hj => by
          rcases Nat.lt_or_ge j k with h | h
          · exact hz.out j h
          · obtain rfl : j = k := by omega
            exact H0.out⟩
        case measure => simp [intOf]; omega
      · have h2 : ((Gf.co p k).toNat == 0) = false := by rw [beq_eq_false_iff_ne]; exact fun e => h0 (UInt8.toNat_inj.1 e)
        have h3 : (((Gf.co p k).toNat : Int) == 0) = false := by rw [beq_eq_false_iff_ne]; exact fun e => h0 (u8_inj e)
        have hf : Hid (zeroL p = false) := by
          show _ = _
          rw [← Bool.not_eq_true]
          exact fun h => h0 ((zeroL_iff p).1 h k hlt)
        clear h0
        go_wp2
        go_ret
        exact ⟨by rw [hf.out]; rfl, rfl⟩
    · have HK : Hid (k = p.length) := by show _ = _; omega
      have hf : Hid (zeroL p = true) := (zeroL_iff p).2 fun j hj => hz.out j (by rw [HK.out]; exact hj)
      go_wp2
      go_ret
      exact ⟨by rw [hf.out]; rfl, rfl⟩
theorem syn_succ (l : List UInt8) (k : Nat) : syn l (k + 1) = syn l k ++ [Gf.hor l (Gf.al k)] := by simp [syn, List.range_succ]
/-- a row that can be read is handed back -/
def RetRd (w : World) (l : List UInt8) (v : Value) (e : Ending) (w' : World) : Prop :=
  ∃ b c, e = .returned (.tuple #[.slice (some ⟨b, 0, none⟩) l.length c, v]) ∧ Rd w' b 0 l ∧ b < w'.heap.size ∧ Below w.heap.size w w'
set_option maxRecDepth 100000 in
theorem synr_no (s : ByteArray) (p : Int) (h : shp s.size p = false) (w : World) : Calls Try.prog 66 #[.string s, .int .i64 p] w fun e w' => e = .returned (.tuple #[.slice none 0 0, .int .i64 1]) ∧ w = w' := by
  go_enter Try.func66, Try.ntmps66
  go_wp2_with (go_at_call 90; refine (fits_any _ _ _).mono ?_; rintro e w' ⟨rfl, rfl⟩)
  go_ret2
  exact ⟨rfl, rfl⟩
set_option maxRecDepth 100000 in
set_option maxHeartbeats 1000000 in
theorem synr_yes (s : ByteArray) (p : Nat) (h : shp s.size p = true) (w : World) : Calls Try.prog 66 #[.string s, .int .i64 (p : Int)] w fun e w' => RetRd w (syn (bl s) p) (.int .i64 0) e w' := by
  obtain ⟨h1, h2, h3, h4, h5⟩ := shp_true h
  have H := Lib.hid h
  have kb := conv_bytes s
  have HL := Lib.hid (bl_length s)
  clear h
  go_enter Try.func66, Try.ntmps66
  go_wp2_with fail
  refine (fits_any _ _ _).mono ?_
  rintro e w' ⟨rfl, rfl⟩
  rw [H.out]
  go_wp2_with fail
  go_loopw [6, 7] (fun x i wr => ∃ k g c : Nat, k ≤ p ∧ i = .int .i64 k ∧ x = .slice (some ⟨g, 0, none⟩) k c ∧ g < wr.heap.size ∧ Ob wr w.heap.size x (syn (bl s) k) ∧ Below w.heap.size w wr) (fun _ i _ => p - (intOf i).toNat)
  case atStart => exact ⟨0, _, 0, by omega, rfl, rfl, by rw [World.size_alloc]; exact Nat.lt_succ_self _, Ob.empty (Nat.le_refl _), (Below.refl _ _).alloc (Nat.le_refl _) _⟩
  case round =>
    obtain ⟨k, g, c, hk, rfl, rfl, hg, hOb, hB⟩ := hrel
    by_cases hlt : k < p
    · have hsz := hB.size
      have hbw := bytesWorld_row wr s
      have hbb := bytesWorld_below wr s
      have hbz := Lib.bytesWorld_size wr 5 s
      generalize hW0 : Lib.bytesWorld wr 5 s = W0 at hbw hbb hbz
      have HW0 := Lib.hid hW0
      have hOb0 := hOb.below hbb
      have hB0 := hB.trans (hbb.mono hsz)
      have hlt0 : wr.heap.size < W0.heap.size := by omega
      have HX := Lib.hid (syn_succ (bl s) k)
      clear hW0 hbz hOb hB hbb
      go_wp2_with (go_at_call 84; refine (expr_any k (by omega) _).mono ?_; rintro e w' ⟨rfl, rfl⟩)
      rw [HW0.out]
      have hev := evalr_any (bl s) (Gf.al k) (by rw [HL.out]; omega) wr.heap.size 0 (grownCap wr s.size 0 5) W0 hbw.rd hlt0
      rw [HL.out] at hev
      refine hev.mono ?_
      rintro e w2 ⟨rfl, hB2⟩
      have hOb2 := hOb0.below hB2
      have hB3 := hB0.trans (hB2.mono hB0.size)
      have HB3 := Lib.hid hB3
      have HO2 := Lib.hid hOb2
      have hsz3 := hB3.size
      clear hev hbw hB0 hB2 hOb0 hOb2 hB3
      go_wp2_with (at_builtin; refine wpList_app1 43 Try.underlying43 rfl _ _ rfl w.heap.size g k c (syn (bl s) k) rfl (HO2.out.alloc _) (by rw [syn_length]) _ _ (Gf.hor (bl s) (Gf.al k)) rfl (cell_new _ _ _) (by omega) (by rw [World.size_alloc]; omega) ?_; intro g2 c2 w4 hO4 hK4 _)
      have hB4 := hK4 _ _ (HB3.out.alloc hsz3 _) (Nat.le_refl _)
      have hg4 : g2 < w4.heap.size := (hO4.ltAt (by rw [List.length_append, syn_length]; rfl) (by omega)).1
      clear hK4
      go_wp2
      go_roundw
      case rel => exact ⟨k + 1, g2, c2, by omega, by go_num, rfl, hg4, by rw [HX.out]; exact hO4, hB4⟩
      case measure => simp [intOf]; omega
    · have hkp : k = p := by omega
      subst hkp
      go_wp2
      go_ret2
      exact ⟨g, c, by rw [syn_length]; rfl, hOb.rdAt (by rw [syn_length]), hg, hB⟩
set_option maxRecDepth 100000 in
theorem validr_any (s : ByteArray) (p : Int) (w : World) : Calls Try.prog 43 #[.string s, .int .i64 p] w fun e w' => Ret1 w (.bool (vld s p)) e w' := by
  by_cases h : shp s.size p = true
  · obtain ⟨q, rfl⟩ : ∃ q : Nat, p = q := Int.eq_ofNat_of_zero_le (by have := shp_true h; omega)
    obtain ⟨h1, h2, h3, h4, h5⟩ := shp_true h
    have H := Lib.hid h
    have hv : Hid (zeroL (syn (bl s) q) = vld s q) := by
      show _ = _
      unfold vld
      rw [h]
      simp
    clear h
    go_enter Try.func43, Try.ntmps43
    go_wp2_with fail
    refine (synr_yes s q H.out _).mono ?_
    rintro e w1 ⟨b, c, rfl, hR, hb, hB⟩
    have hz := zeror_any (syn (bl s) q) (by rw [syn_length]; omega) (by rw [syn_length]; omega) b 0 c w1 hR
    have HZ := Lib.hid hz
    clear hz
    go_wp2_with (go_at_call 67; refine HZ.out.mono ?_; rintro e w' ⟨rfl, rfl⟩)
    go_ret
    exact ⟨by rw [← hv.out]; rfl, hB⟩
  · have h2 : shp s.size p = false := by simpa using h
    have hv : Hid (vld s p = false) := by
      show _ = _
      unfold vld
      rw [h2]
      rfl
    have H := Lib.hid h2
    clear h h2
    go_enter Try.func43, Try.ntmps43
    go_wp2_with (go_at_call 66; refine (synr_no s p H.out _).mono ?_; rintro e w' ⟨rfl, rfl⟩)
    go_ret
    exact ⟨by rw [hv.out]; rfl, Below.refl _ _⟩
end Go.Proofs.Ytknfkhackmnnaaa
set_option maxRecDepth 100000
set_option linter.unusedVariables false
set_option linter.unusedSimpArgs false
namespace Go.Proofs.Ytknfkhackmnnaaa
open Go.RowKit Go.Deep
/-! the polynomials of the definitions -/
set_option maxRecDepth 100000 in
set_option maxHeartbeats 1000000 in
theorem productr_any (p q : List UInt8) (hp : 0 < p.length) (hq : 0 < q.length) (hpl : p.length ≤ 1000) (hql : q.length ≤ 1000) (bp op cp bq oq cq : Nat) (w : World) (h1 : Rd w bp op p) (h2 : Rd w bq oq q) :
    Calls Try.prog 83 #[.slice (some ⟨bp, op, none⟩) p.length cp, .slice (some ⟨bq, oq, none⟩) q.length cq] w fun e w' => RetOwn w (Gf.prod p q) e w' := by
  have hbp := h1.lt hp
  have hbq := h2.lt hq
  have t1 : ((p.length : Int) == 0) = false := by rw [beq_eq_false_iff_ne]; omega
  have t2 : ((q.length : Int) == 0) = false := by rw [beq_eq_false_iff_ne]; omega
  obtain ⟨n, hn⟩ : ∃ n, n = p.length + q.length - 1 := ⟨_, rfl⟩
  have e1 : (p.length : Int) + (q.length : Int) - 1 = (n : Int) := by omega
  have hmk := make_u8 n (by omega)
  rw [← e1] at hmk
  have hn1 : n < p.length + q.length := by omega
  have hn2 : p.length + q.length ≤ n + 1 := by omega
  have E1 := Lib.hid e1
  have HN := Lib.hid hn
  clear e1 hn
  have hpr : Hid (Gf.prod p q = Gf.prodN p q p.length) := by
    show Gf.prod p q = _
    unfold Gf.prod
    rw [if_neg]
    rintro (e | e)
    · rw [e] at hp; simp at hp
    · rw [e] at hq; simp at hq
  go_enter Try.func83, Try.ntmps83
  go_wp2
  go_loopw [6] (fun i wr => ∃ k : Nat, k ≤ p.length ∧ i = .int .i64 k ∧ Own wr w.heap.size (Gf.prodN p q k) ∧ Below w.heap.size w wr) (fun i _ => p.length - (intOf i).toNat)
  case atStart =>
    refine ⟨0, by omega, rfl, ?_, (Below.refl _ _).alloc (Nat.le_refl _) _⟩
    rw [Gf.prodN, ← HN.out]
    exact Own.made w n
  case round =>
    obtain ⟨k, hk, rfl, hO, hB⟩ := hrel
    by_cases hlt : k < p.length
    · go_wp2
      obtain ⟨wo, rfl⟩ : ∃ wo : World, wo = wr := ⟨_, rfl⟩
      go_loopw [7] (fun j wi => ∃ m : Nat, m ≤ q.length ∧ j = .int .i64 m ∧ Own wi w.heap.size (prodM p q k m) ∧ Below w.heap.size w wi) (fun j _ => q.length - (intOf j).toNat)
      case atStart => exact ⟨0, by omega, rfl, hO, hB⟩
      case round =>
        obtain ⟨m, hm, rfl, hO2, hB2⟩ := hrel
        by_cases hlt2 : m < q.length
        · have hcp := (h1.below hB2 hbp) k hlt
          have hcq := (h2.below hB2 hbq) m hlt2
          have hlen : k + m < (prodM p q k m).length := by rw [prodM_length, ← HN.out]; omega
          have hco := hO2.cell hlen
          have hfo := hO2.free hlen
          have hkn : k + m < n := by omega
          go_wp2
          have hco' : wr.drew.cell? ⟨w.heap.size, k + m, none⟩ = _ := hco
          have hfo' : wr.drew.frozen? ⟨w.heap.size, k + m, none⟩ = _ := hfo
          have hcp' : wr.drew.cell? ⟨bp, op + k, none⟩ = _ := hcp
          have hcq' : wr.drew.cell? ⟨bq, oq + m, none⟩ = _ := hcq
          have hO3 : Own wr.drew w.heap.size _ := hO2.drew
          have hB3 : Below w.heap.size w wr.drew := hB2.drew
          refine wp_region_still_tail 21 (by kernel_rfl) (by kernel_rfl) ?_
          simp only [List.take_succ_cons, List.take_zero, List.drop_succ_cons, List.drop_zero]
          change wpStill _ _ wr.drew (fun a' => wpList _ _ _ _ a' wr.drew) _ _
          clear hco hfo hO2 hB2 hcq hcp
          generalize wr.drew = w2 at hco' hfo' hcp' hcq' hO3 hB3 ⊢
          have hw1 : IntKind.i64.wrap ((k : Int) + (m : Int)) = (k : Int) + (m : Int) := IntWalk.i64_in _ (by omega)
          have hw2 : ((k : Int) + (m : Int)).toNat = k + m := by omega
          have hw3 : 0 ≤ (k : Int) + (m : Int) := by omega
          have hw4 : (k : Int) + (m : Int) < (n : Int) := by omega
          have hw5 : (k : Int) < (p.length : Int) := by omega
          have hw6 : (m : Int) < (q.length : Int) := by omega
          repeat (first | still_step | still_call (still_of (mulr_any _ _ _)))
          refine wpStill_nil ?_
          clear hw1 hw2 hw3 hw4 hw5 hw6
          go_wp2
          go_roundw
          case rel => exact ⟨m + 1, by omega, by go_num, by rw [b_xor, ← prodM_next p q k m hlt2]; exact hO3.set hlen _, hB3.setCell (Nat.le_refl _) _⟩
          case measure => simp [intOf]; omega
        · have hmq : m = q.length := by omega
          have HM := Lib.hid hmq
          clear hmq
          go_wp2
          go_roundw
          case rel => exact ⟨k + 1, by omega, by go_num, by rw [← prodM_full, ← HM.out]; exact hO2, hB2⟩
          case measure => simp [intOf]; omega
    · have hkp : k = p.length := by omega
      have HK := Lib.hid hkp
      clear hkp
      go_wp2
      go_ret
      exact ⟨w.heap.size, n, by rw [hpr.out, Gf.prodN_length, ← HN.out]; rfl, by rw [hpr.out, ← HK.out]; exact hO, Nat.le_refl _, by rw [hpr.out, Gf.prodN_length, ← HN.out]; exact Nat.le_refl _, hB⟩
set_option maxRecDepth 100000 in
theorem trimr_any (q : List UInt8) (hq : 0 < q.length) (hql : q.length ≤ 1000) (h0 : Gf.co q 0 ≠ 0) (b off c : Nat) (hqc : q.length ≤ c) (w : World) (h : Rd w b off q) :
    Calls Try.prog 85 #[.slice (some ⟨b, off, none⟩) q.length c] w fun e w' => e = .returned (.slice (some ⟨b, off, none⟩) q.length c) ∧ w = w' := by
  have hc := h 0 hq
  have h1 : ((Gf.co q 0).toNat == 0) = false := by
    rw [beq_eq_false_iff_ne]; exact fun e => h0 (UInt8.toNat_inj.1 e)
  have h2 : (((Gf.co q 0).toNat : Int) == 0) = false := by
    rw [beq_eq_false_iff_ne]; exact fun e => h0 (u8_inj e)
  rw [Nat.add_zero] at hc
  have hcc : 0 < c := by omega
  clear h0
  go_enter Try.func85, Try.ntmps85
  go_wp2
  refine wp_loop_once ?_
  go_wp2
  go_ret
  exact ⟨rfl, rfl⟩
def slLen : Value → Nat
  | .slice _ n _ => n
  | _ => 0
/-- what the definitions' division keeps: the values at the roots; the first k symbols are gone -/
def RemJ (p q : List UInt8) (k : Nat) (R : List UInt8) : Prop := R.length = p.length ∧ (∀ x, Gf.hor q x = 0 → Gf.hor R x = Gf.hor p x) ∧ ∀ j, j < k → Gf.co R j = 0
theorem RemJ.start (p q : List UInt8) : RemJ p q 0 p := ⟨rfl, fun x _ => rfl, fun j hj => by omega⟩
theorem RemJ.step {p q : List UInt8} {k : Nat} {R : List UInt8} (h : RemJ p q k R) (hk : k + q.length ≤ p.length) (hq : 0 < q.length) (h0 : Gf.co q 0 ≠ 0) : RemJ p q (k + 1) (addM R k (Gf.mul (Gf.co R k) (Gf.inv (Gf.co q 0))) q q.length) := by
  obtain ⟨h1, h2, h3⟩ := h
  have hfit : k + (q.map (Gf.mul (Gf.mul (Gf.co R k) (Gf.inv (Gf.co q 0))))).length ≤ R.length := by rw [List.length_map, h1]; omega
  rw [addM_full]
  refine ⟨by rw [Gf.addAt_length, h1], fun x hx => ?_, fun j hj => ?_⟩
  · rw [Gf.hor_addAt hfit, Gf.hor_map, hx, Gf.mul_zero, Gf.zero_mul, UInt8.xor_zero, h2 x hx]
  · rw [Gf.co_addAt _ _ _ hfit]
    by_cases hjk : j = k
    · subst hjk
      rw [if_pos (Nat.le_refl _), Nat.sub_self, Gf.co_mul, Gf.mul_assoc, Gf.inv_mul h0, Gf.mul_one, UInt8.xor_self]
    · rw [if_neg (by omega), h3 j (by omega)]; rfl
theorem RemJ.done {p q : List UInt8} {k : Nat} {R : List UInt8} (h : RemJ p q k R) (hk : k ≤ p.length) : ∀ x, Gf.hor q x = 0 → Gf.hor (R.drop k) x = Gf.hor p x := by
  obtain ⟨h1, h2, h3⟩ := h
  intro x hx
  rw [← h2 x hx]
  conv => rhs; rw [← List.take_append_drop k R]
  have : R.take k = List.replicate k 0 := by
    refine Gf.co_ext (by simp [h1]; omega) fun i hi => ?_
    simp only [List.length_take] at hi
    rw [Gf.co_take (by omega), Gf.co_replicate, h3 i (by omega)]
  rw [Gf.hor_append, this, Gf.hor_zeros, Gf.zero_mul, UInt8.zero_xor]
set_option maxRecDepth 100000 in
set_option maxHeartbeats 2000000 in
theorem remr_any (p q : List UInt8) (hq : 2 ≤ q.length) (hpq : q.length ≤ p.length) (h0 : Gf.co q 0 ≠ 0) (hpl : p.length ≤ 1000) (hql : q.length ≤ 1000) (bp op cp bq oq cq : Nat) (hqc : q.length ≤ cq) (w : World) (h1 : Rd w bp op p) (h2 : Rd w bq oq q) :
    Calls Try.prog 64 #[.slice (some ⟨bp, op, none⟩) p.length cp, .slice (some ⟨bq, oq, none⟩) q.length cq] w fun e w' => RetRem w p q e w' := by
  have hbp := h1.lt (by omega)
  have hbq := h2.lt (by omega)
  have t1 : ((q.length : Int) == 0) = false := by rw [beq_eq_false_iff_ne]; omega
  have H0 := Lib.hid h0
  have hq0 := h2 0 (by omega)
  rw [Nat.add_zero] at hq0
  have hmk := make_u8 0 (by omega)
  rw [show ((0 : Nat) : Int) = 0 from rfl] at hmk
  clear h0
  go_enter Try.func64, Try.ntmps64
  go_wp2_with (first | (go_at_call 85; refine (trimr_any q (by omega) hql H0.out _ _ _ hqc _ h2).mono ?_; rintro e w' ⟨rfl, rfl⟩) | (go_at_call 86; refine (invr_any _ H0.out _).mono ?_; rintro e w1 ⟨rfl, rfl⟩) | (at_builtin; refine app_bytes _ Try.underlying43 rfl _ _ rfl w.heap.size _ [] rfl (Ob.empty (Nat.le_refl _)) bp op cp p.length p rfl rfl (h1.below ((Below.refl _ _).alloc (Nat.le_refl _) _) hbp) (by simp; omega) (by rw [World.size_alloc]; omega) ?_))
  intro v1 w2 hOb hKeep _ _
  obtain ⟨g, c, rfl, hgb, hrow, hcl⟩ := hOb.row (by omega)
  have hB2 := hKeep _ _ ((Below.refl _ _).alloc (Nat.le_refl _) _) (Nat.le_refl _)
  clear hOb hKeep
  have HI := Lib.hid (RemJ.start p q)
  go_wp2
  go_loopw [8] (fun v wr => ∃ (k m cc : Nat) (R : List UInt8), k + m = p.length ∧ q.length ≤ m + 1 ∧ m ≤ cc ∧ v = .slice (some ⟨g, k, none⟩) m cc ∧ Own wr g R ∧ Below w.heap.size w wr ∧ Hid (RemJ p q k R)) (fun v _ => slLen v)
  case atStart => exact ⟨0, p.length, c, p, by omega, by omega, hcl, rfl, hrow, hB2, HI.out⟩
  case round =>
    obtain ⟨k, m, cc, R, hkm, hqm, hmc, rfl, hO, hB, hI⟩ := hrel
    clear hrow hB2
    have hRl : R.length = p.length := hI.out.1
    by_cases hlt : q.length ≤ m
    · have hc := hO.cell (j := k) (by omega)
      have hm0 : 0 < m := by omega
      have HRl := Lib.hid hRl
      clear hRl
      go_wp2_with (go_at_call 87; refine (mulr_any _ _ _).mono ?_; rintro e w' ⟨rfl, rfl⟩)
      obtain ⟨f, hf⟩ : ∃ f, f = Gf.mul (Gf.co R k) (Gf.inv (Gf.co q 0)) := ⟨_, rfl⟩
      rw [← hf]
      have HF := Lib.hid hf
      clear hf hc
      obtain ⟨wo, rfl⟩ : ∃ wo : World, wo = wr := ⟨_, rfl⟩
      go_loopw [10] (fun j wi => ∃ n : Nat, n ≤ q.length ∧ j = .int .i64 n ∧ Own wi g (addM R k f q n) ∧ Below w.heap.size w wi) (fun j _ => q.length - (intOf j).toNat)
      case atStart => exact ⟨0, by omega, rfl, by rw [addM_zero]; exact hO, hB⟩
      case round =>
        obtain ⟨n, hn, rfl, hO2, hB2⟩ := hrel
        clear hO hB
        by_cases hlt2 : n < q.length
        · have hcq := (h2.below hB2 hbq) n hlt2
          have hlen : k + n < (addM R k f q n).length := by rw [addM_length, HRl.out]; omega
          have hco := hO2.cell hlen
          have hfo := hO2.free hlen
          go_wp2
          have hco' : wr.drew.cell? ⟨g, k + n, none⟩ = _ := hco
          have hfo' : wr.drew.frozen? ⟨g, k + n, none⟩ = _ := hfo
          have hcq' : wr.drew.cell? ⟨bq, oq + n, none⟩ = _ := hcq
          have hO3 : Own wr.drew g _ := hO2.drew
          have hB3 : Below w.heap.size w wr.drew := hB2.drew
          refine wp_region_still_tail 14 (by kernel_rfl) (by kernel_rfl) ?_
          simp only [List.take_succ_cons, List.take_zero, List.drop_succ_cons, List.drop_zero]
          change wpStill _ _ wr.drew (fun a' => wpList _ _ _ _ a' wr.drew) _ _
          clear hco hfo hO2 hB2 hcq
          generalize wr.drew = w3 at hco' hfo' hcq' hO3 hB3 ⊢
          have hw1 : (n : Int) < (m : Int) := by omega
          have hw2 : (n : Int) < (q.length : Int) := by omega
          have hw3 : (0 : Int) ≤ (n : Int) := by omega
          repeat (first | still_step | still_call (still_of (mulr_any _ _ _)))
          refine wpStill_nil ?_
          clear hw1 hw2 hw3
          go_wp2
          go_roundw
          case rel => exact ⟨n + 1, by omega, by go_num, by rw [b_xor, ← addM_next _ _ _ _ _ hlt2]; exact hO3.set hlen _, hB3.setCell hgb _⟩
          case measure => simp [intOf]; omega
        · have hmq : n = q.length := by omega
          have HM := Lib.hid hmq
          have hmm1 : ((m : Int) - 1) = ((m - 1 : Nat) : Int) := by omega
          clear hmq
          go_wp2
          go_roundw
          case rel => exact ⟨k + 1, m - 1, cc - 1, addM R k f q q.length, by omega, by omega, by omega, rfl, by rw [← HM.out]; exact hO2, hB2, by rw [HF.out]; exact hI.out.step (by omega) (by omega) H0.out⟩
          case measure => simp only [slLen]; omega
    · have hmq : m + 1 = q.length := by omega
      have e2 : (q.length : Int) - 1 - (m : Int) = 0 := by omega
      have HD := Lib.hid (hI.out.done (by omega))
      have hdl : (R.drop k).length = m := by rw [List.length_drop, hRl]; omega
      have HDL := Lib.hid hdl
      have HMQ := Lib.hid hmq
      have hsz := hB.size
      have HO := Lib.hid hO
      have HB := Lib.hid hB
      clear hdl hRl hmq hO hB
      go_wp2_with (at_builtin; refine app_bytes _ Try.underlying43 rfl _ _ rfl w.heap.size _ (List.replicate 0 0) rfl (Ob.made (m := 0) (by omega) hsz) g k _ m (R.drop k) rfl (by rw [HDL.out]) ?hr ?hl ?hb ?_)
      case hr => have := ((HO.out.alloc (.cells (madeCells #[.int .u8 0] 0) 5)).rd.drop k); rwa [Nat.zero_add] at this
      case hl => rw [HDL.out]; simp; omega
      case hb => rw [World.size_alloc]; omega
      intro v1 w3 hOb hKeep _ _
      obtain ⟨g3, c3, rfl, hgb3, hrow3, hcl3⟩ := hOb.row (by rw [HDL.out]; have := HMQ.out; omega)
      have hB3 := hKeep _ _ (HB.out.alloc hsz _) (Nat.le_refl _)
      go_wp2
      go_ret2
      exact ⟨R.drop k, g3, c3, rfl, hrow3, hgb3, by rw [HDL.out]; have := HMQ.out; omega, HD.out, hB3⟩
end Go.Proofs.Ytknfkhackmnnaaa
set_option maxRecDepth 100000
set_option linter.unusedVariables false
set_option linter.unusedSimpArgs false
namespace Go.Proofs.Ytknfkhackmnnaaa
open Go.RowKit Go.Deep
/-- a generator that was made, with its room -/
def RetGenR (w : World) (k : Nat) (e : Ending) (w' : World) : Prop :=
  ∃ (g : List UInt8) (b c : Nat), e = .returned (.tuple #[.slice (some ⟨b, 0, none⟩) g.length c, .int .i64 0]) ∧ Own w' b g ∧ w.heap.size ≤ b ∧ IsGen k g ∧ g.length ≤ c ∧ Below w.heap.size w w'
set_option maxRecDepth 100000 in
set_option maxHeartbeats 1000000 in
theorem genr_any (k : Nat) (hk : k ≤ 32) (w : World) : Calls Try.prog 63 #[.int .i64 (k : Int)] w fun e w' => RetGenR w k e w' := by
  have d1 : decide ((k : Int) < 0) = false := by simp
  go_enter Try.func63, Try.ntmps63
  go_wp2
  go_loopw [4, 5] (fun v i wr => ∃ (m : Nat) (g : List UInt8) (b c : Nat), m ≤ k ∧ i = .int .i64 m ∧ v = .slice (some ⟨b, 0, none⟩) g.length c ∧ Own wr b g ∧ w.heap.size ≤ b ∧ g.length ≤ c ∧ Hid (IsGen m g) ∧ Below w.heap.size w wr) (fun _ i _ => k - (intOf i).toNat)
  case atStart => exact ⟨0, [1], w.heap.size, 1, by omega, rfl, rfl, Own.lit w [1], Nat.le_refl _, Nat.le_refl _, IsGen.zero, (Below.refl _ _).alloc (Nat.le_refl _) _⟩
  case round =>
    obtain ⟨m, g, b, c, hm, rfl, rfl, hO, hb, hgc, hG, hB⟩ := hrel
    by_cases hlt : m < k
    · have hgl := hG.out.1
      have hg1 : g.length ≤ m + 1 := by omega
      have hg2 : m + 1 ≤ g.length := by omega
      clear hgl
      go_wp2_with (go_at_call 84; refine (expr_any m (by omega) _).mono ?_; rintro e w' ⟨rfl, rfl⟩)
      have hO2 := hO.alloc (.cells #[Value.int .u8 1, B (Gf.al m)] 5)
      have hL : Own (wr.alloc (.cells #[Value.int .u8 1, B (Gf.al m)] 5)) wr.heap.size [1, Gf.al m] := Own.lit wr [1, Gf.al m]
      refine (productr_any g [1, Gf.al m] (by omega) (by simp) (by omega) (by simp) b 0 c wr.heap.size 0 2 _ hO2.rd hL.rd).mono ?_
      rintro e w2 ⟨b2, c2, rfl, hO3, hb2, hc2, hB2⟩
      have hbs := hB.size
      simp at hb2
      have hB3 := (hB.alloc hB.size _).trans (hB2.mono (show w.heap.size ≤ _ by simp; omega))
      clear hO2 hL hO hB hB2
      go_wp2
      go_roundw
      case rel => exact ⟨m + 1, Gf.prod g [1, Gf.al m], b2, c2, by omega, by go_num, rfl, hO3, by omega, hc2, hG.out.step, hB3⟩
      case measure => simp [intOf]; omega
    · have hmk : m = k := by omega
      have HM := Lib.hid hmk
      clear hmk
      go_wp2
      go_ret2
      exact ⟨g, b, c, rfl, hO, hb, by rw [← HM.out]; exact hG.out, hgc, hB⟩
set_option maxRecDepth 100000 in
set_option maxHeartbeats 2000000 in
theorem encr_no (s : ByteArray) (p : Int) (h : encOk s.size p = false) (hs : s.size ≤ 140737488351232) (w : World) : Calls Try.prog 40 #[.string s, .int .i64 p] w fun e w' => e = .returned (.tuple #[.string (str []), .int .i64 1]) ∧ w = w' := by
  have hn : ¬ (1 ≤ p ∧ p ≤ 16 ∧ s.size ≠ 0 ∧ s.size + p ≤ 255) := by simpa [encOk] using h
  clear h
  by_cases h1 : 1 ≤ p
  · by_cases h2 : p ≤ 16
    · by_cases h3 : s.size = 0
      · have hl : s.toList = [] := toList_nil h3
        go_enter Try.func40, Try.ntmps40
        go_wp2
        go_ret2
        exact ⟨rfl, rfl⟩
      · have hl : s.toList.isEmpty = false := toList_cons h3
        have hl2 : (s.toList == []) = false := toList_cons' h3
        have hbig : 255 < (s.size : Int) + p := by omega
        go_enter Try.func40, Try.ntmps40
        go_wp2
        go_ret2
        exact ⟨rfl, rfl⟩
    · go_enter Try.func40, Try.ntmps40
      go_wp2
      go_ret2
      exact ⟨rfl, rfl⟩
  · go_enter Try.func40, Try.ntmps40
    go_wp2
    go_ret2
    exact ⟨rfl, rfl⟩
set_option maxRecDepth 100000 in
set_option maxHeartbeats 2000000 in
theorem encr_yes (s : ByteArray) (p : Nat) (h : encOk s.size p = true) (w : World) : Calls Try.prog 40 #[.string s, .int .i64 (p : Int)] w fun e w' => RetEnc w s p e w' := by
  obtain ⟨h1, h2, h3, h4⟩ := encOk_true h
  clear h
  have hl : s.toList.isEmpty = false := toList_cons h3
  have hl2 : (s.toList == []) = false := toList_cons' h3
  have kb := conv_bytes s
  have hbl := bl_length s
  have HL := Lib.hid hbl
  have hs0 : 0 < s.size := by omega
  clear hbl h3
  go_enter Try.func40, Try.ntmps40
  go_wp2_with (first | (go_at_call 63; refine (genr_any p (by omega) _).mono ?_; rintro e w1 ⟨g, bg, cg, rfl, hO1, hb1, hG1, hgc1, hB1⟩) | (at_builtin; refine app_zeros _ _ Try.underlying43 Try.underlying3 rfl _ _ rfl _ s.size _ p rfl rfl _ (bytesWorld_all _ s) ?a1 ?a2 ?a3 ?a4 ?a5 ?_))
  case a1 => simp only [List.length_append, List.length_replicate, HL.out]; have := grownCap_ge w1 s.size 0 5; omega
  case a2 => exact grownCap_ge w1 s.size 0 5
  case a3 => intro j h1 _; rw [Gf.co_append_right (by rw [HL.out]; exact h1), Gf.co_replicate]
  case a4 => omega
  case a5 => omega
  intro g2 c2 w2 hO2 hg2 hgr2
  have ht : (bl s ++ List.replicate (grownCap w1 s.size 0 5 - s.size) 0).take s.size = bl s := by
    rw [List.take_append_of_le_length (by rw [HL.out]; exact Nat.le_refl _), List.take_of_length_le (by rw [HL.out]; exact Nat.le_refl _)]
  rw [ht] at hO2
  have hsz1 := hB1.size
  have hg2' : w1.heap.size ≤ g2 := by
    rcases hg2 with h | h
    · omega
    · rw [Lib.bytesWorld_size] at h; omega
  have hB2 : Below w1.heap.size w1 w2 := (bytesWorld_below w1 s).trans ⟨hgr2.os, hgr2.tape, hgr2.output, hgr2.size, fun k hk => hgr2.block k (by rw [Lib.bytesWorld_size]; omega) (fun e => by injection e with e; omega)⟩
  have hlt1 := hO1.lt
  have hO1' := hO1.below hB2 hlt1
  have hB12 := hB1.trans (hB2.mono hsz1)
  have hsz2 := hB2.size
  have hgl := hG1.1
  have h0 : Gf.co g 0 ≠ 0 := by rw [hG1.2.1]; decide
  have hrem := remr_any (bl s ++ List.replicate p 0) g (by omega) (by simp [HL.out]; omega) h0 (by simp [HL.out]; omega) (by omega) g2 0 c2 bg 0 cg hgc1 w2 hO2.rd hO1'.rd
  rw [List.length_append, HL.out, List.length_replicate] at hrem
  have HR := Lib.hid hrem
  have HG := Lib.hid hG1
  have hB12h := Lib.hid hB12
  clear hrem hG1 hO2 hg2 hgr2 hO1 hB1 hO1' hB2 hB12 ht hgl h0
  go_wp2_with fail
  refine HR.out.mono ?_
  rintro e w3 ⟨r, b3, c3, rfl, hO3, hb3, hr1, hr2, hB3⟩
  have kc := conv_string hO3.rd c3
  have hgl := HG.out.1
  have hrl : r.length = p := by omega
  have HRL := Lib.hid hrl
  have H3 := Lib.hid hr2
  have hB4 := Lib.hid (hB12h.out.trans (hB3.mono (Nat.le_trans hsz1 hsz2)))
  have hrr : r.length ≤ 16 := by omega
  have hsr : s.size + (str r).size ≤ 9223372036854775807 := by rw [str_size]; omega
  have hcat : s ++ str r = str (bl s ++ r) := by rw [← str_append, str_bl]
  have HC := Lib.hid hcat
  clear hgl hrl hr1 hr2 hB3 hcat
  go_wp2
  go_ret2
  refine ⟨r, by rw [← HC.out]; rfl, HRL.out, fun j hj => ?_, hB4.out⟩
  rw [Gf.hor_append, H3.out _ (HG.out.2.2 j hj), Gf.hor_append, Gf.hor_zeros, List.length_replicate, HRL.out, UInt8.xor_zero, UInt8.xor_self]
end Go.Proofs.Ytknfkhackmnnaaa
