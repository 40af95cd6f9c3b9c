import Derived.Test.YtknfkhackmnnaaaB
import Derived.Deep.WholeRow
set_option maxRecDepth 100000
set_option linter.unusedVariables false
set_option linter.unusedSimpArgs false
namespace Go.Proofs.Ytknfkhackmnnaaa
open Go.RowKit Go.Deep

theorem dbl_hi (a : UInt8) (h : 128 ≤ a.toNat) : bits .xor .u8 ((a.toNat : Int) * 2 % 256) 29 = ((Gf.dbl a).toNat : Int) := by
  have h2 : (a.toNat : Int) * 2 % 256 = ((a + a).toNat : Int) := by simp [UInt8.toNat_add]; omega
  have h3 : (29 : Int) = ((29 : UInt8).toNat : Int) := rfl
  rw [h2, h3, b_xor, Gf.dbl, if_pos (by rw [UInt8.le_iff_toNat_le]; exact h)]
theorem dbl_lo (a : UInt8) (h : ¬ 128 ≤ a.toNat) : (a.toNat : Int) * 2 = ((Gf.dbl a).toNat : Int) := by
  rw [Gf.dbl, if_neg (by rw [UInt8.le_iff_toNat_le]; exact h), UInt8.toNat_add]
  omega
set_option maxRecDepth 100000 in
theorem double_any (a : UInt8) (w : World) : Calls Try.prog 101 #[B a] w fun e w' => e = .returned (B (Gf.dbl a)) ∧ w = w' := by
  have ha := a.toNat_lt
  by_cases h : 128 ≤ a.toNat
  · go_enter Try.func101, Try.ntmps101
    go_wp2
    go_ret
    exact ⟨ret_u8 (dbl_hi a h), rfl⟩
  · go_enter Try.func101, Try.ntmps101
    go_wp2
    go_ret
    exact ⟨ret_u8 (dbl_lo a h), rfl⟩

theorem and_mod (y : UInt8) : y &&& 1 = y % 2 := by
  apply UInt8.toNat_inj.1
  rw [UInt8.toNat_mod, UInt8.toNat_and]
  exact Nat.and_two_pow_sub_one_eq_mod y.toNat 1
theorem mulL_one (k : Nat) (o x y : UInt8) (h : y.toNat < 2 ^ k) (hy : ((y.toNat : Int) != 0) = true) (h1 : (bits .and .u8 (y.toNat : Int) 1 == 1) = true) :
    ∃ k' y', k = k' + 1 ∧ (y.toNat : Int) / 2 = ((y' : UInt8).toNat : Int) ∧ y'.toNat < 2 ^ k' ∧ y'.toNat < y.toNat ∧ Gf.mulL k' (o ^^^ x) (Gf.dbl x) y' = Gf.mulL k o x y := by
  have hy0 : y.toNat ≠ 0 := fun e => by rw [e] at hy; simp at hy
  obtain ⟨k', rfl⟩ : ∃ k', k = k' + 1 := ⟨k - 1, by rcases k with _ | k; simp at h; omega; rfl⟩
  have h2 : y % 2 = 1 := by
    have h3 : (1 : Int) = ((1 : UInt8).toNat : Int) := rfl
    rw [h3, b_and] at h1
    have h4 : y &&& 1 = 1 := u8_inj (by simpa using h1)
    rwa [and_mod] at h4
  refine ⟨k', y / 2, rfl, by rw [UInt8.toNat_div]; rfl, ?_, ?_, ?_⟩
  · rw [UInt8.toNat_div, Nat.pow_succ] at *; show y.toNat / 2 < _; omega
  · rw [UInt8.toNat_div]; show y.toNat / 2 < _; omega
  · rw [Gf.mulL, if_pos h2]
theorem mulL_zero (k : Nat) (o x y : UInt8) (h : y.toNat < 2 ^ k) (hy : ((y.toNat : Int) != 0) = true) (h1 : (bits .and .u8 (y.toNat : Int) 1 == 1) = false) :
    ∃ k' y', k = k' + 1 ∧ (y.toNat : Int) / 2 = ((y' : UInt8).toNat : Int) ∧ y'.toNat < 2 ^ k' ∧ y'.toNat < y.toNat ∧ Gf.mulL k' o (Gf.dbl x) y' = Gf.mulL k o x y := by
  have hy0 : y.toNat ≠ 0 := fun e => by rw [e] at hy; simp at hy
  obtain ⟨k', rfl⟩ : ∃ k', k = k' + 1 := ⟨k - 1, by rcases k with _ | k; simp at h; omega; rfl⟩
  have h2 : ¬ y % 2 = 1 := fun e => by
    have h3 : (1 : Int) = ((1 : UInt8).toNat : Int) := rfl
    rw [h3, b_and] at h1
    rw [and_mod, e] at h1
    simp at h1
  refine ⟨k', y / 2, rfl, by rw [UInt8.toNat_div]; rfl, ?_, ?_, ?_⟩
  · rw [UInt8.toNat_div, Nat.pow_succ] at *; show y.toNat / 2 < _; omega
  · rw [UInt8.toNat_div]; show y.toNat / 2 < _; omega
  · rw [Gf.mulL, if_neg h2]
theorem mulL_done (k : Nat) (o x y : UInt8) (h : (y.toNat : Int) = 0) : Gf.mulL k o x y = o := by
  have hy : y = 0 := u8_inj (by simpa using h)
  subst hy
  induction k generalizing x with
  | zero => rfl
  | succ k ih => rw [Gf.mulL, if_neg (by decide)]; exact ih _
set_option maxRecDepth 100000 in
theorem mul_any (a b : UInt8) (w : World) : Calls Try.prog 82 #[B a, B b] w fun e w' => e = .returned (B (Gf.mul a b)) ∧ w = w' := by
  go_enter Try.func82, Try.ntmps82
  go_wp2
  go_loop [0, 1, 5] (fun x y o => ∃ (k : Nat) (x' y' o' : UInt8), x = B x' ∧ y = B y' ∧ o = B o' ∧ y'.toNat < 2 ^ k ∧ Hid (Gf.mulL k o' x' y' = Gf.mul a b)) (fun _ y _ => (intOf y).toNat)
  case atStart => exact ⟨8, a, b, 0, rfl, rfl, rfl, b.toNat_lt, rfl⟩
  case round =>
    obtain ⟨k, x, y, o, rfl, rfl, rfl, hk, hm⟩ := hrel
    by_cases hy : ((y.toNat : Int) != 0) = true
    · by_cases h1 : (bits .and .u8 (y.toNat : Int) 1 == 1) = true
      · obtain ⟨k', y', hk1, hy1, hy2, hy3, hm1⟩ := mulL_one k o x y hk hy h1
        have HY := Lib.hid hy1
        have HK := Lib.hid hk1
        have HM := Lib.hid hm1
        clear hy1 hk1 hm1
        go_wp2_with (go_at_call 101; refine (double_any _ _).mono ?_; rintro e w' ⟨rfl, rfl⟩)
        go_round
        case rel => exact ⟨k', Gf.dbl x, y', o ^^^ x, rfl, by rw [HY.out], by rw [b_xor], hy2, HM.out.trans hm.out⟩
        case measure => rw [HY.out]; simp [intOf]; omega
      · have h1 : (bits .and .u8 (y.toNat : Int) 1 == 1) = false := by simpa using h1
        obtain ⟨k', y', hk1, hy1, hy2, hy3, hm1⟩ := mulL_zero k o x y hk hy h1
        have HY := Lib.hid hy1
        have HK := Lib.hid hk1
        have HM := Lib.hid hm1
        clear hy1 hk1 hm1
        go_wp2_with (go_at_call 101; refine (double_any _ _).mono ?_; rintro e w' ⟨rfl, rfl⟩)
        go_round
        case rel => exact ⟨k', Gf.dbl x, y', o, rfl, by rw [HY.out], rfl, hy2, HM.out.trans hm.out⟩
        case measure => rw [HY.out]; simp [intOf]; omega
    · have hy0 : ((y.toNat : Int) != 0) = false := by simpa using hy
      have HZ0 : (y.toNat : Int) = 0 := by simpa using hy0
      have HZ := Lib.hid HZ0
      clear HZ0
      go_wp2
      go_ret
      exact ⟨by rw [← hm.out, mulL_done k o x y HZ.out]; rfl, rfl⟩
end Go.Proofs.Ytknfkhackmnnaaa
set_option maxRecDepth 100000
set_option linter.unusedVariables false
set_option linter.unusedSimpArgs false
namespace Go.Proofs.Ytknfkhackmnnaaa
open Go.RowKit Go.Deep
def Z255 : Array Value := ((List.replicate 255 (0 : UInt8)).map B ++ []).toArray
theorem info255 : (Try.prog.info? 134).map (fun i => (i.zero, i.size)) = some (some (.agg Z255), 255) := by kernel_rfl
def alList (k : Nat) : List UInt8 := (List.range k).map Gf.al
theorem alList_length (k : Nat) : (alList k).length = k := by simp [alList]
def pwL (k : Nat) : List UInt8 := alList k ++ List.replicate (255 - k) 0
theorem pwL_length {k : Nat} (h : k ≤ 255) : (pwL k).length = 255 := by simp [pwL, alList_length]; omega
theorem pwL_set {k : Nat} (h : k < 255) : (pwL k).set k (Gf.al k) = pwL (k + 1) := by
  unfold pwL
  rw [List.set_append_right _ _ (by rw [alList_length]; omega), alList_length, Nat.sub_self]
  have : List.replicate (255 - k) (0 : UInt8) = 0 :: List.replicate (255 - (k + 1)) 0 := by
    rw [show 255 - k = (255 - (k + 1)) + 1 from by omega, List.replicate_succ]
  rw [this, List.set_cons_zero, show alList (k + 1) = alList k ++ [Gf.al k] from by simp [alList, List.range_succ]]
  simp
def PW : Array Value := ((alList 255).map B ++ []).toArray
theorem PW_size : PW.size = 255 := by simp [PW, alList_length]
/-- the array of powers is handed back -/
def RetPW (w : World) (e : Ending) (w' : World) : Prop := e = .returned (.agg PW) ∧ Below w.heap.size w w'
theorem pwL_zero : Z255 = ((pwL 0).map B ++ []).toArray := by unfold Z255 pwL alList; rw [List.range_zero, List.map_nil, List.nil_append]
theorem pwL_full : pwL 255 = alList 255 := by unfold pwL; rw [Nat.sub_self, List.replicate_zero, List.append_nil]
theorem PW_one : PW.all (·.oneCell') = true := by
  unfold PW
  rw [List.append_nil]
  simp
  exact fun _ _ => rfl
/-- a block of just an array's cells -/
def Arr (t : TypeId) (w : World) (b : Nat) (l : List UInt8) : Prop := w.heap[b]? = some (.cells (l.map B ++ []).toArray t (0, 0))
theorem Arr.row {t : TypeId} {w : World} {b : Nat} {l : List UInt8} (h : Arr t w b l) : Row t w b l := Row.of_heap h
theorem Arr.set {t : TypeId} {w : World} {b : Nat} {l : List UInt8} (h : Arr t w b l) {j : Nat} (c : UInt8) : Arr t (w.setCell ⟨b, j, none⟩ (B c)) b (l.set j c) := by
  unfold Arr at *
  simp [World.setCell, Array.getElem?_modify, h, List.map_set]
theorem heap_below_row {w w' : World} {n b : Nat} {o : Obj} (h : w.heap[b]? = some o) (hb : Below n w w') (hn : b < n) : w'.heap[b]? = some o := by rw [hb.block b hn, h]
set_option maxRecDepth 100000 in
theorem powers_any (w : World) : Calls Try.prog 113 #[] w fun e w' => RetPW w e w' := by
  have hz := (zero_of_info info255).1
  go_enter Try.func113, Try.ntmps113
  go_wp2
  go_loopw [2, 4] (fun a i wr => ∃ k : Nat, k ≤ 255 ∧ i = .int .i64 k ∧ a = B (Gf.al k) ∧ Arr 134 wr (w.heap.size + 1) (pwL k) ∧ Hid (wr.heap[w.heap.size]? = some (.cells Z255 134 (0, 0))) ∧ Below w.heap.size w wr) (fun _ i _ => 255 - (intOf i).toNat)
  case atStart =>
    exact ⟨0, by omega, rfl, rfl, by unfold Arr; rw [← pwL_zero]; exact heap_alloc2_new _ _ _, heap_alloc2_old _ _ _, ((Below.refl _ _).alloc (Nat.le_refl _) _).alloc (by simp) _⟩
  case round =>
    obtain ⟨k, hk, rfl, rfl, hrow, hz0, hB⟩ := hrel
    by_cases hlt : k < 255
    · have hl : k < (pwL k).length := by rw [pwL_length hk]; exact hlt
      have hc := hrow.row.cell hl
      have hf := hrow.row.free hl
      go_wp2_with (go_at_call 101; refine (double_any _ _).mono ?_; rintro e w' ⟨rfl, rfl⟩)
      go_roundw
      case rel => exact ⟨k + 1, by omega, by go_num, rfl, by rw [← pwL_set hlt]; exact hrow.set _, (Below.heap_setCell _ _ _ _ (by simp)).trans hz0.out, hB.setCell (by simp) _⟩
      case measure => simp [intOf]; omega
    · obtain rfl : k = 255 := by omega
      clear hz
      go_wp2_with (first | (refine wpList_load_row rfl 134 _ rfl (w.heap.size + 1) rfl 134 _ (0, 0) _ hrow Try.underlying134 rfl ?_ ?_; (rw [pwL_full]; exact (zero_of_info info255).2)) | (refine wpList_store_row rfl 134 _ _ rfl w.heap.size rfl 134 _ _ rfl hz0.out ?_ ?_ ?_ ?_))
      · exact (zero_of_info info255).2.trans (by rw [pwL_full]; exact congrArg some PW_size.symm)
      · rw [pwL_full]; exact (show Z255.size = 255 from by simp [Z255]).trans PW_size.symm
      · rw [pwL_full]; exact PW_one
      · rw [pwL_full]
        refine bodyPost_ret (results_cell_row rfl _ _ w.heap.size 134 PW (0, 0) _ rfl (setRow_heap _ _ _ _ _ _ hz0.out) Try.underlying134 rfl ((zero_of_info info255).2.trans (congrArg some PW_size.symm))) rfl ⟨rfl, ?_⟩
        exact hB.trans ⟨rfl, rfl, rfl, by rw [size_setRow]; exact Nat.le_refl _, fun k hk => setRow_other _ _ _ _ (by omega)⟩
end Go.Proofs.Ytknfkhackmnnaaa
set_option maxRecDepth 100000
set_option linter.unusedVariables false
set_option linter.unusedSimpArgs false
namespace Go.Proofs.Ytknfkhackmnnaaa
open Go.RowKit Go.Deep
theorem PW_at {k : Nat} (hk : k < 255) : PW[k]? = some (B (Gf.al k)) := by
  have h : k < PW.size := by rw [PW_size]; exact hk
  rw [Array.getElem?_eq_getElem h]
  simp [PW, alList]
theorem index_PW {k : Nat} (hk : k < 255) : ∀ W : World, (Instr.index 134 (.agg PW) (.int .i64 (k : Int))).run Try.prog W = .ok (B (Gf.al k)) W := fun W => by
  have hs : (sizeOf 5).run Try.prog W = .ok 1 W := by kernel_rfl
  have hag : (isAgg 5).run Try.prog W = .ok false W := by kernel_rfl
  simp [Instr.index, asIntOf, Sem.run_bind, run_underlying Try.underlying134, hs, part, hag, PW_at hk]
  omega
/-- two results; old memory as it was -/
def Ret2 (w : World) (a b : Value) (e : Ending) (w' : World) : Prop := e = .returned (.tuple #[a, b]) ∧ Below w.heap.size w w'
def Ret1 (w : World) (a : Value) (e : Ending) (w' : World) : Prop := e = .returned a ∧ Below w.heap.size w w'
set_option maxRecDepth 100000 in
theorem log_any (a : UInt8) (ha : a ≠ 0) (w : World) : Calls Try.prog 102 #[B a] w fun e w' => Ret2 w (.int .i64 (Gf.lg a : Nat)) (.int .i64 0) e w' := by
  have ⟨hl1, hl2⟩ := Gf.lg_spec a ha
  have H1 := Lib.hid hl1
  have H2 := Lib.hid hl2
  clear hl1 hl2
  go_enter Try.func102, Try.ntmps102
  go_wp2_with (go_at_call 113; refine (powers_any _).mono ?_; rintro e w1 ⟨rfl, hB⟩)
  have HB := Lib.hid hB
  clear hB
  go_loop [7] (fun i => ∃ k : Nat, k ≤ 255 ∧ i = .int .i64 k ∧ Hid (∀ j, j < k → Gf.al j ≠ a)) (fun i => 255 - (intOf i).toNat)
  case atStart => exact ⟨0, by omega, rfl, fun j hj => by omega⟩
  case round =>
    obtain ⟨k, hk, rfl, hj⟩ := hrel
    by_cases hlt : k < 255
    · have hi := index_PW hlt
      by_cases he : Gf.al k = a
      · have he' : (((Gf.al k).toNat : Int) == (a.toNat : Int)) = true := by rw [he]; simp
        have HE := Lib.hid he
        clear he
        go_wp2
        go_ret2
        have : k = Gf.lg a := Gf.al_inj hlt H2.out (HE.out.trans H1.out.symm)
        exact ⟨by rw [← this]; rfl, HB.out⟩
      · have he' : (((Gf.al k).toNat : Int) == (a.toNat : Int)) = false := by
          rw [beq_eq_false_iff_ne]; exact fun h => he (u8_inj h)
        have HE := Lib.hid he
        clear he
        go_wp2
        go_round
        case rel => exact ⟨k + 1, by omega, by go_num, fun j hj' => by
          rcases Nat.lt_or_ge j k with h | h
          · exact hj.out j h
          · obtain rfl : j = k := by omega
            exact HE.out⟩
        case measure => simp [intOf]; omega
    · exact absurd H1.out (hj.out _ (by have := H2.out; omega))
set_option maxRecDepth 100000 in
theorem log_zero (a : UInt8) (HA : Hid (a = 0)) (w : World) : Calls Try.prog 102 #[B a] w fun e w' => Ret2 w (.int .i64 0) (.int .i64 1) e w' := by
  go_enter Try.func102, Try.ntmps102
  go_wp2_with (go_at_call 113; refine (powers_any _).mono ?_; rintro e w1 ⟨rfl, hB⟩)
  have HB := Lib.hid hB
  clear hB
  go_loop [7] (fun i => ∃ k : Nat, k ≤ 255 ∧ i = .int .i64 k) (fun i => 255 - (intOf i).toNat)
  case atStart => exact ⟨0, by omega, rfl⟩
  case round =>
    obtain ⟨k, hk, rfl⟩ := hrel
    by_cases hlt : k < 255
    · have hi := index_PW hlt
      have he' : (((Gf.al k).toNat : Int) == (a.toNat : Int)) = false := by
        rw [beq_eq_false_iff_ne]; exact fun h => Gf.al_ne k ((u8_inj h).trans HA.out)
      go_wp2
      go_round
      case rel => exact ⟨k + 1, by omega, by go_num⟩
      case measure => simp [intOf]; omega
    · go_wp2
      go_ret2
      exact ⟨rfl, HB.out⟩
set_option maxRecDepth 100000 in
theorem exp_nat (n : Nat) (hn : n ≤ 100000) (w : World) : Calls Try.prog 79 #[.int .i64 (n : Int)] w fun e w' => e = .returned (B (Gf.al n)) ∧ w = w' := by
  have hm : n % 255 < 255 := Nat.mod_lt _ (by omega)
  obtain ⟨m, hx⟩ : ∃ m, m = n % 255 := ⟨_, rfl⟩
  have hx' : ((n : Int) % 255) = (m : Int) := by omega
  have HX := Lib.hid hx'
  have HM := Lib.hid hx
  rw [← hx] at hm
  clear hx hx'
  go_enter Try.func79, Try.ntmps79
  go_wp2
  rw [HX.out]
  go_loop [3, 11] (fun a i => ∃ k : Nat, k ≤ m ∧ i = .int .i64 k ∧ a = B (Gf.al k)) (fun _ i => m - (intOf i).toNat)
  case atStart => exact ⟨0, by omega, rfl, rfl⟩
  case round =>
    obtain ⟨k, hk, rfl, rfl⟩ := hrel
    by_cases hlt : k < m
    · go_wp2_with (go_at_call 101; refine (double_any _ _).mono ?_; rintro e w' ⟨rfl, rfl⟩)
      go_round
      case rel => exact ⟨k + 1, by omega, by go_num, rfl⟩
      case measure => simp [intOf]; omega
    · have hk' : k = m := by omega
      have HK := Lib.hid hk'
      clear hk'
      go_wp2
      go_ret
      exact ⟨by rw [← Gf.al_mod n, ← HM.out, ← HK.out]; rfl, rfl⟩
set_option maxRecDepth 100000 in
theorem exp_neg (n : Nat) (hn : n < 255) (w : World) : Calls Try.prog 79 #[.int .i64 (-(n : Int))] w fun e w' => e = .returned (B (Gf.al (255 - n))) ∧ w = w' := by
  rcases Nat.eq_zero_or_pos n with rfl | h0
  · exact (exp_nat 0 (by omega) w).mono fun e w' ⟨h1, h2⟩ => ⟨by rw [h1, Nat.sub_zero, Gf.al_255]; rfl, h2⟩
  · have ht : (-(n : Int)).tmod 255 = -(n : Int) := by rw [Int.neg_tmod, Int.tmod_eq_emod_of_nonneg (by omega)]; omega
    obtain ⟨m, hx⟩ : ∃ m, m = 255 - n := ⟨_, rfl⟩
    have hx' : (-(n : Int) + 255) = (m : Int) := by omega
    have hm : m ≤ 255 := by omega
    have HX := Lib.hid hx'
    have HM := Lib.hid hx
    clear hx hx'
    go_enter Try.func79, Try.ntmps79
    go_wp2
    rw [HX.out]
    go_loop [3, 11] (fun a i => ∃ k : Nat, k ≤ m ∧ i = .int .i64 k ∧ a = B (Gf.al k)) (fun _ i => m - (intOf i).toNat)
    case atStart => exact ⟨0, by omega, rfl, rfl⟩
    case round =>
      obtain ⟨k, hk, rfl, rfl⟩ := hrel
      by_cases hlt : k < m
      · go_wp2_with (go_at_call 101; refine (double_any _ _).mono ?_; rintro e w' ⟨rfl, rfl⟩)
        go_round
        case rel => exact ⟨k + 1, by omega, by go_num, rfl⟩
        case measure => simp [intOf]; omega
      · have hk' : k = m := by omega
        have HK := Lib.hid hk'
        clear hk'
        go_wp2
        go_ret
        exact ⟨by rw [← HM.out, ← HK.out]; rfl, rfl⟩
set_option maxRecDepth 100000 in
/-- the inverse; of 0 it is (0, ErrArg) -/
theorem inv_any (a : UInt8) (w : World) : Calls Try.prog 81 #[B a] w fun e w' => Ret2 w (B (Gf.inv a)) (.int .i64 (if a = 0 then 1 else 0)) e w' := by
  by_cases ha : a = 0
  · have HA := Lib.hid ha
    clear ha
    go_enter Try.func81, Try.ntmps81
    go_wp2_with (go_at_call 102; refine (log_zero _ HA _).mono ?_; rintro e w' ⟨rfl, hB⟩)
    go_ret2
    exact ⟨rfl, hB⟩
  · have ⟨hl1, hl2⟩ := Gf.lg_spec a ha
    clear hl1
    have HA := Lib.hid ha
    have hv : Hid (Gf.inv a = Gf.al (255 - Gf.lg a)) := by unfold Gf.inv; rw [if_neg ha]; exact Lib.hid rfl
    clear ha
    go_enter Try.func81, Try.ntmps81
    go_wp2_with (first | (go_at_call 102; refine (log_any _ HA.out _).mono ?_; rintro e w' ⟨rfl, hB⟩) | (go_at_call 79; refine (exp_neg _ hl2 _).mono ?_; rintro e w' ⟨rfl, rfl⟩))
    go_ret2
    exact ⟨by rw [hv.out]; rfl, hB⟩
theorem inv_ne_any (a : UInt8) (HA : Hid (a ≠ 0)) (w : World) : Calls Try.prog 81 #[B a] w fun e w' => Ret2 w (B (Gf.inv a)) (.int .i64 0) e w' := by
  have h := inv_any a w
  rw [if_neg HA.out] at h
  exact h
/-- the inverse, and some error code -/
def RetInv (w : World) (a : UInt8) (e : Ending) (w' : World) : Prop := ∃ c : Int, Ret2 w (B (Gf.inv a)) (.int .i64 c) e w'
theorem inv_some (a : UInt8) (w : World) : Calls Try.prog 81 #[B a] w fun e w' => RetInv w a e w' := (inv_any a w).mono fun _ _ h => ⟨_, h⟩
end Go.Proofs.Ytknfkhackmnnaaa
set_option maxRecDepth 100000
set_option linter.unusedVariables false
set_option linter.unusedSimpArgs false
namespace Go.Proofs.Ytknfkhackmnnaaa
open Go.RowKit Go.Deep
/-- m symbols of a multiple of a row added from an index on -/
def addM (R : List UInt8) (k : Nat) (f : UInt8) (q : List UInt8) (m : Nat) : List UInt8 := Gf.addAt R k ((q.take m).map (Gf.mul f))
theorem addM_zero (R : List UInt8) (k : Nat) (f : UInt8) (q : List UInt8) : addM R k f q 0 = R := rfl
theorem addM_full (R : List UInt8) (k : Nat) (f : UInt8) (q : List UInt8) : addM R k f q q.length = Gf.addAt R k (q.map (Gf.mul f)) := by
  unfold addM
  rw [List.take_length]
theorem addM_length (R : List UInt8) (k : Nat) (f : UInt8) (q : List UInt8) (m : Nat) : (addM R k f q m).length = R.length := by
  unfold addM
  rw [Gf.addAt_length]
theorem addM_next (R : List UInt8) (k : Nat) (f : UInt8) (q : List UInt8) (m : Nat) (hm : m < q.length) :
    (addM R k f q m).set (k + m) (Gf.co (addM R k f q m) (k + m) ^^^ Gf.mul f (Gf.co q m)) = addM R k f q (m + 1) := by
  have ht : q.take (m + 1) = q.take m ++ [Gf.co q m] := by rw [Gf.co_lt hm, List.take_succ_eq_append_getElem hm]
  unfold addM
  rw [ht, List.map_append, List.map_cons, List.map_nil, Gf.addAt_snoc, List.length_map, List.length_take, Nat.min_eq_left (by omega)]
/-- the product with k rows, and m symbols of the next one -/
def prodM (p q : List UInt8) (k m : Nat) : List UInt8 := addM (Gf.prodN p q k) k (Gf.co p k) q m
theorem prodM_zero (p q : List UInt8) (k : Nat) : prodM p q k 0 = Gf.prodN p q k := rfl
theorem prodM_full (p q : List UInt8) (k : Nat) : prodM p q k q.length = Gf.prodN p q (k + 1) := by
  unfold prodM
  rw [addM_full, Gf.prodN]
theorem prodM_length (p q : List UInt8) (k m : Nat) : (prodM p q k m).length = p.length + q.length - 1 := by
  unfold prodM
  rw [addM_length, Gf.prodN_length]
theorem prodM_next (p q : List UInt8) (k m : Nat) (hm : m < q.length) :
    (prodM p q k m).set (k + m) (Gf.co (prodM p q k m) (k + m) ^^^ Gf.mul (Gf.co p k) (Gf.co q m)) = prodM p q k (m + 1) := addM_next _ _ _ _ _ hm
set_option maxRecDepth 100000 in
set_option maxHeartbeats 1000000 in
theorem product_any (p q : List UInt8) (hp : 0 < p.length) (hq : 0 < q.length) (hpl : p.length ≤ 1000) (hql : q.length ≤ 1000) (bp op cp bq oq cq : Nat) (w : World) (h1 : Rd w bp op p) (h2 : Rd w bq oq q) :
    Calls Try.prog 78 #[.slice (some ⟨bp, op, none⟩) p.length cp, .slice (some ⟨bq, oq, none⟩) q.length cq] w fun e w' => RetOwn w (Gf.prod p q) e w' := by
  have hbp := h1.lt hp
  have hbq := h2.lt hq
  have t1 : ((p.length : Int) == 0) = false := by rw [beq_eq_false_iff_ne]; omega
  have t2 : ((q.length : Int) == 0) = false := by rw [beq_eq_false_iff_ne]; omega
  obtain ⟨n, hn⟩ : ∃ n, n = p.length + q.length - 1 := ⟨_, rfl⟩
  have e1 : (p.length : Int) + (q.length : Int) - 1 = (n : Int) := by omega
  have hmk := make_u8 n (by omega)
  rw [← e1] at hmk
  have hn1 : n < p.length + q.length := by omega
  have hn2 : p.length + q.length ≤ n + 1 := by omega
  have E1 := Lib.hid e1
  have HN := Lib.hid hn
  clear e1 hn
  have hpr : Hid (Gf.prod p q = Gf.prodN p q p.length) := by
    show Gf.prod p q = _
    unfold Gf.prod
    rw [if_neg]
    rintro (e | e)
    · rw [e] at hp; simp at hp
    · rw [e] at hq; simp at hq
  go_enter Try.func78, Try.ntmps78
  go_wp2
  go_loopw [27] (fun i wr => ∃ k : Nat, k ≤ p.length ∧ i = .int .i64 k ∧ Own wr w.heap.size (Gf.prodN p q k) ∧ Below w.heap.size w wr) (fun i _ => p.length - (intOf i).toNat)
  case atStart =>
    refine ⟨0, by omega, rfl, ?_, (Below.refl _ _).alloc (Nat.le_refl _) _⟩
    rw [Gf.prodN, ← HN.out]
    exact Own.made w n
  case round =>
    obtain ⟨k, hk, rfl, hO, hB⟩ := hrel
    by_cases hlt : k < p.length
    · have hc := (h1.below hB hbp) k hlt
      go_wp2
      obtain ⟨wo, rfl⟩ : ∃ wo : World, wo = wr := ⟨_, rfl⟩
      go_loopw [34] (fun j wi => ∃ m : Nat, m ≤ q.length ∧ j = .int .i64 m ∧ Own wi w.heap.size (prodM p q k m) ∧ Below w.heap.size w wi) (fun j _ => q.length - (intOf j).toNat)
      case atStart => exact ⟨0, by omega, rfl, hO, hB⟩
      case round =>
        obtain ⟨m, hm, rfl, hO2, hB2⟩ := hrel
        by_cases hlt2 : m < q.length
        · have hcq := (h2.below hB2 hbq) m hlt2
          have hlen : k + m < (prodM p q k m).length := by rw [prodM_length, ← HN.out]; omega
          have hco := hO2.cell hlen
          have hfo := hO2.free hlen
          have hkn : k + m < n := by omega
          clear hc
          go_wp2
          have hco' : wr.drew.cell? ⟨w.heap.size, k + m, none⟩ = _ := hco
          have hfo' : wr.drew.frozen? ⟨w.heap.size, k + m, none⟩ = _ := hfo
          have hO3 : Own wr.drew w.heap.size _ := hO2.drew
          have hB3 : Below w.heap.size w wr.drew := hB2.drew
          refine wp_region_still_tail 11 (by kernel_rfl) (by kernel_rfl) ?_
          simp only [List.take_succ_cons, List.take_zero, List.drop_succ_cons, List.drop_zero]
          change wpStill _ _ wr.drew (fun a' => wpList _ _ _ _ a' wr.drew) _ _
          clear hco hfo hO2 hB2 hcq
          generalize wr.drew = w2 at hco' hfo' hO3 hB3 ⊢
          have hw1 : IntKind.i64.wrap ((k : Int) + (m : Int)) = (k : Int) + (m : Int) := IntWalk.i64_in _ (by omega)
          have hw2 : ((k : Int) + (m : Int)).toNat = k + m := by omega
          have hw3 : 0 ≤ (k : Int) + (m : Int) := by omega
          have hw4 : (k : Int) + (m : Int) < (n : Int) := by omega
          repeat (first | still_step | still_call (still_of (mul_any _ _ _)))
          refine wpStill_nil ?_
          clear hw1 hw2 hw3 hw4
          go_wp2
          go_roundw
          case rel => exact ⟨m + 1, by omega, by go_num, by rw [b_xor, ← prodM_next p q k m hlt2]; exact hO3.set hlen _, hB3.setCell (Nat.le_refl _) _⟩
          case measure => simp [intOf]; omega
        · have hmq : m = q.length := by omega
          have HM := Lib.hid hmq
          clear hmq
          go_wp2
          go_roundw
          case rel => exact ⟨k + 1, by omega, by go_num, by rw [← prodM_full, ← HM.out]; exact hO2, hB2⟩
          case measure => simp [intOf]; omega
    · have hkp : k = p.length := by omega
      have HK := Lib.hid hkp
      clear hkp
      go_wp2
      go_ret
      exact ⟨w.heap.size, n, by rw [hpr.out, Gf.prodN_length, ← HN.out]; rfl, by rw [hpr.out, ← HK.out]; exact hO, Nat.le_refl _, by rw [hpr.out, Gf.prodN_length, ← HN.out]; exact Nat.le_refl _, hB⟩
end Go.Proofs.Ytknfkhackmnnaaa
set_option maxRecDepth 100000
set_option linter.unusedVariables false
set_option linter.unusedSimpArgs false
namespace Go.Proofs.Ytknfkhackmnnaaa
open Go.RowKit Go.Deep
set_option maxRecDepth 100000 in
theorem trim_any (q : List UInt8) (hq : 0 < q.length) (hql : q.length ≤ 1000) (h0 : Gf.co q 0 ≠ 0) (b off c : Nat) (w : World) (h : Rd w b off q) :
    Calls Try.prog 80 #[.slice (some ⟨b, off, none⟩) q.length c] w fun e w' => e = .returned (.slice (some ⟨b, off, none⟩) q.length c) ∧ w = w' := by
  have hc := h 0 hq
  have h1 : ((Gf.co q 0).toNat == 0) = false := by
    rw [beq_eq_false_iff_ne]; exact fun e => h0 (UInt8.toNat_inj.1 e)
  have h2 : (((Gf.co q 0).toNat : Int) == 0) = false := by
    rw [beq_eq_false_iff_ne]; exact fun e => h0 (u8_inj e)
  rw [Nat.add_zero] at hc
  clear h0
  go_enter Try.func80, Try.ntmps80
  go_wp2
  refine wp_loop_once ?_
  go_wp2
  go_ret
  exact ⟨rfl, rfl⟩
/-- what a division keeps: the values at the roots; the first k symbols are gone -/
def RemInv (p q : List UInt8) (k : Nat) (R : List UInt8) : Prop := R.length = q.length - 1 + p.length ∧ (∀ x, Gf.hor q x = 0 → Gf.hor R x = Gf.hor p x) ∧ ∀ j, j < k → Gf.co R j = 0
theorem RemInv.start (p q : List UInt8) : RemInv p q 0 (List.replicate (q.length - 1) 0 ++ p) :=
  ⟨by simp, fun x _ => by rw [Gf.hor_append, Gf.hor_zeros, Gf.zero_mul, UInt8.zero_xor], fun j hj => by omega⟩
theorem RemInv.step {p q : List UInt8} {k : Nat} {R : List UInt8} (h : RemInv p q k R) (hk : k < p.length) (hq : 0 < q.length) (h0 : Gf.co q 0 ≠ 0) : RemInv p q (k + 1) (addM R k (Gf.mul (Gf.co R k) (Gf.inv (Gf.co q 0))) q q.length) := by
  obtain ⟨h1, h2, h3⟩ := h
  have hfit : k + (q.map (Gf.mul (Gf.mul (Gf.co R k) (Gf.inv (Gf.co q 0))))).length ≤ R.length := by rw [List.length_map, h1]; omega
  rw [addM_full]
  refine ⟨by rw [Gf.addAt_length, h1], fun x hx => ?_, fun j hj => ?_⟩
  · rw [Gf.hor_addAt hfit, Gf.hor_map, hx, Gf.mul_zero, Gf.zero_mul, UInt8.xor_zero, h2 x hx]
  · rw [Gf.co_addAt _ _ _ hfit]
    by_cases hjk : j = k
    · subst hjk
      rw [if_pos (Nat.le_refl _), Nat.sub_self, Gf.co_mul, Gf.mul_assoc, Gf.inv_mul h0, Gf.mul_one, UInt8.xor_self]
    · rw [if_neg (by omega), h3 j (by omega)]; rfl
theorem RemInv.done {p q : List UInt8} {R : List UInt8} (h : RemInv p q p.length R) : (R.drop p.length).length = q.length - 1 ∧ ∀ x, Gf.hor q x = 0 → Gf.hor (R.drop p.length) x = Gf.hor p x := by
  obtain ⟨h1, h2, h3⟩ := h
  refine ⟨by rw [List.length_drop, h1]; omega, fun x hx => ?_⟩
  rw [← h2 x hx]
  conv => rhs; rw [← List.take_append_drop p.length R]
  have : R.take p.length = List.replicate p.length 0 := by
    refine Gf.co_ext (by simp [h1]) fun i hi => ?_
    simp only [List.length_take] at hi
    rw [Gf.co_take (by omega), Gf.co_replicate, h3 i (by omega)]
  rw [Gf.hor_append, this, Gf.hor_zeros, Gf.zero_mul, UInt8.zero_xor]
/-- the remainder, told by what it keeps -/
def RetRem (w : World) (p q : List UInt8) (e : Ending) (w' : World) : Prop :=
  ∃ (r : List UInt8) (b c : Nat), e = .returned (.tuple #[.slice (some ⟨b, 0, none⟩) r.length c, .int .i64 0]) ∧ Own w' b r ∧ w.heap.size ≤ b ∧ r.length = q.length - 1 ∧ (∀ x, Gf.hor q x = 0 → Gf.hor r x = Gf.hor p x) ∧ Below w.heap.size w w'
set_option maxRecDepth 100000 in
set_option maxHeartbeats 1000000 in
theorem remainder_any (p q : List UInt8) (hp : 0 < p.length) (hq : 2 ≤ q.length) (h0 : Gf.co q 0 ≠ 0) (hpl : p.length ≤ 1000) (hql : q.length ≤ 1000) (bp op cp bq oq cq : Nat) (w : World) (h1 : Rd w bp op p) (h2 : Rd w bq oq q) :
    Calls Try.prog 62 #[.slice (some ⟨bp, op, none⟩) p.length cp, .slice (some ⟨bq, oq, none⟩) q.length cq] w fun e w' => RetRem w p q e w' := by
  have hbp := h1.lt hp
  have hbq := h2.lt (by omega)
  have t1 : ((q.length : Int) == 0) = false := by rw [beq_eq_false_iff_ne]; omega
  obtain ⟨n, hn⟩ : ∃ n, n = q.length - 1 := ⟨_, rfl⟩
  have e1 : (q.length : Int) - 1 = (n : Int) := by omega
  have hmk := make_u8 n (by omega)
  rw [← e1] at hmk
  have hn1 : n < q.length := by omega
  have hn2 : q.length ≤ n + 1 := by omega
  have HN := Lib.hid hn
  have E1 := Lib.hid e1
  have H0 := Lib.hid h0
  have hq0 := h2 0 (by omega)
  rw [Nat.add_zero] at hq0
  clear hn e1 h0
  go_enter Try.func62, Try.ntmps62
  go_wp2_with (first | (go_at_call 80; refine (trim_any q (by omega) hql H0.out _ _ _ _ h2).mono ?_; rintro e w' ⟨rfl, rfl⟩) | (go_at_call 81; refine (inv_any _ _).mono ?_; rintro e w1 ⟨rfl, hB⟩) | (at_builtin; refine app_bytes _ Try.underlying43 rfl _ _ rfl w.heap.size _ _ rfl (Ob.made (by omega) ?h1) bp op cp p.length p rfl rfl ?h2 ?h3 ?h4 ?_))
  case h1 => exact hB.size
  case h2 => exact h1.below (hB.alloc hB.size _) hbp
  case h3 => simp; omega
  case h4 => exact Nat.le_trans hB.size (by simp)
  intro v1 w2 hOb hKeep _ _
  obtain ⟨g, c, rfl, hgb, hrow, hcl⟩ := hOb.row (by simp; omega)
  have hB2 := hKeep _ _ (hB.alloc hB.size _) (Nat.le_refl _)
  have hI := RemInv.start p q
  rw [← HN.out] at hI
  clear hOb hKeep hB hmk
  obtain ⟨R, hR⟩ : ∃ R, List.replicate n 0 ++ p = R := ⟨_, rfl⟩
  obtain ⟨N, hN⟩ : ∃ N, N = R.length := ⟨_, rfl⟩
  rw [hR] at hrow hcl hI ⊢
  have hN' : N = n + p.length := by rw [hN, hI.1, HN.out]
  have hNa : N ≤ n + p.length := by omega
  have hNb : n + p.length ≤ N := by omega
  have e2 : (N : Int) - ((q.length : Int) - 1) = (p.length : Int) := by omega
  have E2 := Lib.hid e2
  rw [← hN] at hcl ⊢
  have HNR := Lib.hid hN
  have HR := Lib.hid hR
  have HI := Lib.hid hI
  clear hN' e2 hN hR hI
  go_wp2
  rw [E2.out]
  go_loopw [37] (fun i wr => ∃ (k : Nat) (R' : List UInt8), k ≤ p.length ∧ i = .int .i64 k ∧ Own wr g R' ∧ Below w.heap.size w wr ∧ Hid (RemInv p q k R')) (fun i _ => p.length - (intOf i).toNat)
  case atStart => exact ⟨0, R, by omega, rfl, hrow, hB2, HI.out⟩
  case round =>
    obtain ⟨k, R', hk, rfl, hO, hB, hI⟩ := hrel
    clear hrow hB2
    have hRl : R'.length = N := by rw [hI.out.1, HNR.out, HI.out.1]
    by_cases hlt : k < p.length
    · have hc := hO.cell (j := k) (by omega)
      have HRl := Lib.hid hRl
      clear hRl
      go_wp2_with (go_at_call 82; refine (mul_any _ _ _).mono ?_; rintro e w' ⟨rfl, rfl⟩)
      obtain ⟨f, hf⟩ : ∃ f, f = Gf.mul (Gf.co R' k) (Gf.inv (Gf.co q 0)) := ⟨_, rfl⟩
      rw [← hf]
      have HF := Lib.hid hf
      clear hf hc
      obtain ⟨wo, rfl⟩ : ∃ wo : World, wo = wr := ⟨_, rfl⟩
      go_loopw [48] (fun j wi => ∃ m : Nat, m ≤ q.length ∧ j = .int .i64 m ∧ Own wi g (addM R' k f q m) ∧ Below w.heap.size w wi) (fun j _ => q.length - (intOf j).toNat)
      case atStart => exact ⟨0, by omega, rfl, by rw [addM_zero]; exact hO, hB⟩
      case round =>
        obtain ⟨m, hm, rfl, hO2, hB2⟩ := hrel
        clear hO hB
        by_cases hlt2 : m < q.length
        · have hcq := (h2.below hB2 hbq) m hlt2
          have hlen : k + m < (addM R' k f q m).length := by rw [addM_length, HRl.out]; omega
          have hco := hO2.cell hlen
          have hfo := hO2.free hlen
          go_wp2
          have hco' : wr.drew.cell? ⟨g, k + m, none⟩ = _ := hco
          have hfo' : wr.drew.frozen? ⟨g, k + m, none⟩ = _ := hfo
          have hO3 : Own wr.drew g _ := hO2.drew
          have hB3 : Below w.heap.size w wr.drew := hB2.drew
          refine wp_region_still_tail 11 (by kernel_rfl) (by kernel_rfl) ?_
          simp only [List.take_succ_cons, List.take_zero, List.drop_succ_cons, List.drop_zero]
          change wpStill _ _ wr.drew (fun a' => wpList _ _ _ _ a' wr.drew) _ _
          clear hco hfo hO2 hB2 hcq
          generalize wr.drew = w2 at hco' hfo' hO3 hB3 ⊢
          have hw1 : IntKind.i64.wrap ((k : Int) + (m : Int)) = (k : Int) + (m : Int) := IntWalk.i64_in _ (by omega)
          have hw2 : ((k : Int) + (m : Int)).toNat = k + m := by omega
          have hw3 : 0 ≤ (k : Int) + (m : Int) := by omega
          have hw4 : (k : Int) + (m : Int) < (N : Int) := by omega
          repeat (first | still_step | still_call (still_of (mul_any _ _ _)))
          refine wpStill_nil ?_
          clear hw1 hw2 hw3 hw4
          go_wp2
          go_roundw
          case rel => exact ⟨m + 1, by omega, by go_num, by rw [b_xor, ← addM_next _ _ _ _ _ hlt2]; exact hO3.set hlen _, hB3.setCell hgb _⟩
          case measure => simp [intOf]; omega
        · have hmq : m = q.length := by omega
          have HM := Lib.hid hmq
          clear hmq
          go_wp2
          go_roundw
          case rel => exact ⟨k + 1, addM R' k f q q.length, by omega, by go_num, by rw [← HM.out]; exact hO2, hB2, by rw [HF.out]; exact hI.out.step hlt (by omega) H0.out⟩
          case measure => simp [intOf]; omega
    · have hkp : k = p.length := by omega
      have hD := RemInv.done (hkp ▸ hI.out)
      have HK := Lib.hid hkp
      have HRl := Lib.hid hRl
      clear hkp hRl
      have e2 := E2.out
      have hpc : ¬ p.length = c := by omega
      go_wp2_with (at_builtin; refine app_bytes _ Try.underlying43 rfl _ _ rfl w.heap.size _ [] rfl ?ob g _ _ _ (R'.drop p.length) rfl ?hm ?hr ?hl ?hb ?_)
      case ob => exact Ob.empty hB.size
      case hm => rw [hD.1]; omega
      case hr => have := ((hO.alloc (.cells #[] 5)).rd.drop p.length); rwa [Nat.zero_add] at this
      case hl => rw [hD.1]; simp; omega
      case hb => exact Nat.le_trans hB.size (by simp)
      intro v1 w3 hOb hKeep _ _
      obtain ⟨g3, c3, rfl, hgb3, hrow3, hcl3⟩ := hOb.row (by rw [hD.1]; omega)
      have hB3 := hKeep _ _ (hB.alloc hB.size _) (Nat.le_refl _)
      go_wp2
      go_ret2
      exact ⟨_, g3, c3, rfl, hrow3, hgb3, hD.1, hD.2, hB3⟩
end Go.Proofs.Ytknfkhackmnnaaa
set_option maxRecDepth 100000
set_option linter.unusedVariables false
set_option linter.unusedSimpArgs false
namespace Go.Proofs.Ytknfkhackmnnaaa
open Go.RowKit Go.Deep
/-- a generator of k parity symbols -/
def IsGen (k : Nat) (g : List UInt8) : Prop := g.length = k + 1 ∧ Gf.co g 0 = 1 ∧ ∀ j, j < k → Gf.hor g (Gf.al j) = 0
theorem IsGen.zero : IsGen 0 [1] := ⟨rfl, rfl, fun j hj => by omega⟩
theorem IsGen.step {k : Nat} {g : List UInt8} (h : IsGen k g) : IsGen (k + 1) (Gf.prod g [1, Gf.al k]) := by
  obtain ⟨h1, h2, h3⟩ := h
  have hg : g ≠ [] := fun e => by rw [e] at h1; cases h1
  refine ⟨by rw [Gf.prod_length hg (by simp), h1]; rfl, ?_, fun j hj => ?_⟩
  · rw [Gf.co_prod hg (by simp)]
    simp only [Gf.cv, Gf.S, UInt8.zero_xor, Nat.sub_zero, h2]
    exact Gf.one_mul 1
  · rw [Gf.hor_prod hg (by simp) (Gf.al_ne j)]
    by_cases hjk : j < k
    · rw [h3 j hjk, Gf.zero_mul]
    · obtain rfl : j = k := by omega
      have : Gf.hor [1, Gf.al j] (Gf.al j) = 0 := by
        show Gf.mul (Gf.mul 0 (Gf.al j) ^^^ 1) (Gf.al j) ^^^ Gf.al j = 0
        rw [Gf.zero_mul, UInt8.zero_xor, Gf.one_mul, UInt8.xor_self]
      rw [this, Gf.mul_zero]
def RetGen (w : World) (k : Nat) (e : Ending) (w' : World) : Prop :=
  ∃ (g : List UInt8) (b c : Nat), e = .returned (.tuple #[.slice (some ⟨b, 0, none⟩) g.length c, .int .i64 0]) ∧ Own w' b g ∧ w.heap.size ≤ b ∧ IsGen k g ∧ Below w.heap.size w w'
set_option maxRecDepth 100000 in
set_option maxHeartbeats 1000000 in
theorem generator_any (k : Nat) (hk : k ≤ 32) (w : World) : Calls Try.prog 61 #[.int .i64 (k : Int)] w fun e w' => RetGen w k e w' := by
  have d1 : decide ((k : Int) < 0) = false := by simp
  go_enter Try.func61, Try.ntmps61
  go_wp2
  go_loopw [4, 14] (fun v i wr => ∃ (m : Nat) (g : List UInt8) (b c : Nat), m ≤ k ∧ i = .int .i64 m ∧ v = .slice (some ⟨b, 0, none⟩) g.length c ∧ Own wr b g ∧ w.heap.size ≤ b ∧ Hid (IsGen m g) ∧ Below w.heap.size w wr) (fun _ i _ => k - (intOf i).toNat)
  case atStart => exact ⟨0, [1], w.heap.size, 1, by omega, rfl, rfl, Own.lit w [1], Nat.le_refl _, IsGen.zero, (Below.refl _ _).alloc (Nat.le_refl _) _⟩
  case round =>
    obtain ⟨m, g, b, c, hm, rfl, rfl, hO, hb, hG, hB⟩ := hrel
    by_cases hlt : m < k
    · have hgl := hG.out.1
      have hg1 : g.length ≤ m + 1 := by omega
      have hg2 : m + 1 ≤ g.length := by omega
      clear hgl
      go_wp2_with (go_at_call 79; refine (exp_nat m (by omega) _).mono ?_; rintro e w' ⟨rfl, rfl⟩)
      have hO2 := hO.alloc (.cells #[Value.int .u8 1, B (Gf.al m)] 5)
      have hL : Own (wr.alloc (.cells #[Value.int .u8 1, B (Gf.al m)] 5)) wr.heap.size [1, Gf.al m] := Own.lit wr [1, Gf.al m]
      refine (product_any g [1, Gf.al m] (by omega) (by simp) (by omega) (by simp) b 0 c wr.heap.size 0 2 _ hO2.rd hL.rd).mono ?_
      rintro e w2 ⟨b2, c2, rfl, hO3, hb2, hc2, hB2⟩
      have hbs := hB.size
      simp at hb2
      have hB3 := (hB.alloc hB.size _).trans (hB2.mono (show w.heap.size ≤ _ by simp; omega))
      clear hO2 hL hO hB hB2
      go_wp2
      go_roundw
      case rel => exact ⟨m + 1, Gf.prod g [1, Gf.al m], b2, c2, by omega, by go_num, rfl, hO3, by omega, hG.out.step, hB3⟩
      case measure => simp [intOf]; omega
    · have hmk : m = k := by omega
      have HM := Lib.hid hmk
      clear hmk
      go_wp2
      go_ret2
      exact ⟨g, b, c, rfl, hO, hb, by rw [← HM.out]; exact hG.out, hB⟩
set_option maxRecDepth 100000 in
theorem eval1_any (s c x : UInt8) (b : Nat) (w : World) (hx : w.cell? ⟨b, 0, none⟩ = some (B x)) : Calls Try.prog 115 #[B s, B c, .pointer (some ⟨b, 0, none⟩)] w fun e w' => e = .returned (B (Gf.mul s x ^^^ c)) ∧ w = w' := by
  go_enter Try.func115, Try.ntmps115
  go_wp2_with (go_at_call 82; refine (mul_any _ _ _).mono ?_; rintro e w' ⟨rfl, rfl⟩)
  go_ret
  exact ⟨ret_u8 (b_xor _ _), rfl⟩
theorem hor_next (p : List UInt8) (k : Nat) (hk : k < p.length) (x : UInt8) : Gf.hor (p.take (k + 1)) x = Gf.mul (Gf.hor (p.take k) x) x ^^^ Gf.co p k := by
  rw [List.take_succ_eq_append_getElem hk, Gf.hor_snoc, Gf.co_lt hk]
set_option maxRecDepth 100000 in
theorem fold_any (p : List UInt8) (x : UInt8) (hp : 0 < p.length) (hpl : p.length ≤ 1000) (bp op cp b : Nat) (w : World) (h1 : Rd w bp op p) (hx : w.cell? ⟨b, 0, none⟩ = some (B x)) :
    Calls Try.prog 114 #[.slice (some ⟨bp, op, none⟩) p.length cp, B 0, .func (.func 115) #[] #[.pointer (some ⟨b, 0, none⟩)]] w fun e w' => e = .returned (B (Gf.hor p x)) ∧ w = w' := by
  go_enter Try.func114, Try.ntmps114
  go_wp2
  go_loop [1, 11] (fun s i => ∃ k : Nat, k ≤ p.length ∧ i = .int .i64 k ∧ s = B (Gf.hor (p.take k) x)) (fun _ i => p.length - (intOf i).toNat)
  case atStart => exact ⟨0, by omega, rfl, rfl⟩
  case round =>
    obtain ⟨k, hk, rfl, rfl⟩ := hrel
    by_cases hlt : k < p.length
    · have hc := h1 k hlt
      have hn := hor_next p k hlt x
      have HN := Lib.hid hn
      clear hn
      go_wp2_with (go_at_call 115; refine (eval1_any _ _ x b _ hx).mono ?_; rintro e w' ⟨rfl, rfl⟩)
      go_round
      case rel => exact ⟨k + 1, by omega, by go_num, by rw [HN.out]⟩
      case measure => simp [intOf]; omega
    · have hkp : k = p.length := by omega
      have HK := Lib.hid hkp
      clear hkp
      go_wp2
      go_ret
      exact ⟨by rw [HK.out, List.take_length]; rfl, rfl⟩
set_option maxRecDepth 100000 in
theorem eval_any (p : List UInt8) (x : UInt8) (hp : 0 < p.length) (hpl : p.length ≤ 1000) (bp op cp : Nat) (w : World) (h1 : Rd w bp op p) :
    Calls Try.prog 105 #[.slice (some ⟨bp, op, none⟩) p.length cp, B x] w fun e w' => Ret1 w (B (Gf.hor p x)) e w' := by
  have hbp := h1.lt hp
  go_enter Try.func105, Try.ntmps105
  go_wp2_with (go_at_call 114; refine (fold_any p x hp hpl _ _ _ w.heap.size _ (h1.below ((Below.refl _ _).alloc (Nat.le_refl _) _) hbp) (by simp)).mono ?_; rintro e w' ⟨rfl, rfl⟩)
  go_ret
  exact ⟨rfl, (Below.refl _ _).alloc (Nat.le_refl _) _⟩
end Go.Proofs.Ytknfkhackmnnaaa
