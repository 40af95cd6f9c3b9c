import Derived.Lib.QuietBelow
import Derived.Test.YtknfkhackmnnaaaW5
import Derived.Test.YtknfkhackmnnaaaW7
import Derived.Test.YtknfkhackmnnaaaRa
import Derived.Test.YtknfkhackmnnaaaP5
import Derived.Test.YtknfkhackmnnaaaD7
set_option maxRecDepth 100000
set_option linter.unusedVariables false
set_option linter.unusedSimpArgs false
namespace Go.Proofs.Ytknfkhackmnnaaa
open Go Go.RowKit Go.Deep Go.Sort
/-! the law ProductcodeBursts -/
theorem rep_succ (b : UInt8) (k : Nat) : List.replicate (k + 1) b = List.replicate k b ++ [b] := List.replicate_succ'
set_option maxRecDepth 100000 in
set_option maxHeartbeats 1000000 in
theorem repeat_any (b : UInt8) (n : Nat) (hn : n ≤ 100000) (w : World) : Calls Try.prog 23 #[.int .u8 (b.toNat : Int), .int .i64 (n : Int)] w fun e w' => Ret1 w (.string (str (List.replicate n b))) e w' := by
  go_enter Try.func23, Try.ntmps23
  go_wp2
  go_loopw [5, 6] (fun x i wr => ∃ k g c : Nat, k ≤ n ∧ i = .int .i64 k ∧ x = .slice (some ⟨g, 0, none⟩) k c ∧ Ob wr w.heap.size x (List.replicate k b) ∧ Below w.heap.size w wr) (fun _ i _ => n - (intOf i).toNat)
  case atStart => exact ⟨0, _, 0, by omega, rfl, rfl, Ob.empty (Nat.le_refl _), (Below.refl _ _).alloc (Nat.le_refl _) _⟩
  case round =>
    obtain ⟨k, g, c, hk, rfl, rfl, hOb, hB⟩ := hrel
    by_cases hlt : k < n
    · have HO := Lib.hid hOb
      have HB := Lib.hid hB
      have hsz : w.heap.size ≤ wr.heap.size := hB.size
      have HX := Lib.hid (rep_succ b k)
      clear hOb hB
      go_wp2_with (at_builtin; refine wpList_app1 43 Try.underlying43 rfl _ _ rfl w.heap.size g k c (List.replicate k b) rfl (HO.out.alloc _) (by rw [List.length_replicate]) _ _ b rfl (cell_new _ _ _) (by omega) (by rw [World.size_alloc]; omega) ?_; intro g2 c2 w4 hO4 hK4 _)
      have hB4 := hK4 _ _ (HB.out.alloc hsz _) (Nat.le_refl _)
      clear hK4
      go_wp2
      go_roundw
      case rel => exact ⟨k + 1, g2, c2, by omega, by go_num, rfl, by rw [HX.out]; exact hO4, hB4⟩
      case measure => simp [intOf]; omega
    · have hkp : k = n := by omega
      subst hkp
      have hcv := conv_string (hOb.rdAt (by rw [List.length_replicate])) c
      rw [List.length_replicate] at hcv
      go_wp2
      go_ret
      exact ⟨rfl, hB⟩
theorem difK_symm (a b : List UInt8) (n : Nat) : difK a b n = difK b a n := by
  unfold difK
  congr 1
  exact List.filter_congr fun i _ => by rw [Bool.eq_iff_iff]; simp only [decide_eq_true_eq]; exact ne_comm
def frs (a k : Nat) : List Nat := (List.range k).map fun i => a + i
theorem frs_succ (a k : Nat) : frs a (k + 1) = frs a k ++ [a + k] := by simp [frs, List.range_succ]
theorem frs_length (a k : Nat) : (frs a k).length = k := by simp [frs]
theorem mem_frs {a k o : Nat} : o ∈ frs a k ↔ a ≤ o ∧ o < a + k := by
  unfold frs
  simp only [List.mem_map, List.mem_range]
  constructor
  · rintro ⟨i, hi, rfl⟩
    omega
  · rintro ⟨h1, h2⟩
    exact ⟨o - a, by omega, by omega⟩
theorem bl_extract (s : ByteArray) (i j : Nat) : bl (s.extract i j) = ((bl s).take j).drop i := by
  simp [bl, List.drop_take]
theorem ci_frs {a k j : Nat} (hj : j < k) : ci ((frs a k).map fun p : Nat => (p : Int)) j = ((a + j : Nat) : Int) := by
  rw [ci_cast _ (by rw [frs_length]; exact hj)]
  simp [frs]
theorem stN_frs {f a k : Nat} (hfa : f ≤ a) (hak : a + k ≤ 2352) : stN f ((frs a k).map fun p : Nat => (p : Int)) ((frs a k).map fun p : Nat => (p : Int)).length := by
  rw [List.length_map, frs_length]
  refine ⟨fun j hj => ?_, fun j hj => ?_⟩
  · rw [ci_frs hj]
    refine ⟨by omega, by omega, fun h0 => ?_⟩
    rw [ci_frs (by omega)]
    omega
  · rw [ci_frs hj]
    omega
theorem decV_fix {Z : ByteArray} {m : Int} {er : List Int} {C : List UInt8} (hm : okM m = true) (hz : Z.size = 2352) (hs : sndL C (frM m) = true) (hst : stN (frM m) er er.length) (h : decP (frM m) (bl Z) (erN er) = (C, [])) :
    decV Z m er = .tuple #[.string (str C), .int .i64 (difK C (bl Z) 2352 : Nat), .int .i64 0] := by
  unfold decV
  rw [if_pos ⟨⟨hm, hz⟩, hst⟩, h, if_pos ⟨rfl, hs⟩]
theorem burst_dec {s Z : ByteArray} {m : Int} {C : List UInt8} {a k : Nat} {v : UInt8} (hm : okM m = true) (hfa : frM m ≤ a) (h12 : 12 ≤ frM m) (hak : a + k ≤ 2352) (hk : k ≤ 172) (hC : EncOf (bl s) (frM m) C) (hZ : Z = (str C).extract 0 a ++ str (List.replicate k v) ++ (str C).extract (a + k) 2352) :
    Z.size = 2352 ∧ decV Z m ((frs a k).map fun p : Nat => (p : Int)) = .tuple #[.string (str C), .int .i64 (difK C (bl Z) 2352 : Nat), .int .i64 0] := by
  have hb : bl Z = C.take a ++ (List.replicate k v ++ C.drop (a + k)) := by
    rw [hZ, bl_append, bl_append, bl_extract, bl_extract, bl_str, bl_str, List.drop_zero, List.append_assoc, List.take_of_length_le (l := C) (i := 2352) (by rw [hC.1]; exact Nat.le_refl _)]
  have hl : (bl Z).length = 2352 := by
    rw [hb]
    simp only [List.length_append, List.length_take, List.length_drop, List.length_replicate, hC.1]
    omega
  have hz : Z.size = 2352 := by rw [← bl_length, hl]
  refine ⟨hz, decV_fix hm hz hC.2.2 (stN_frs hfa hak) ?_⟩
  rw [erN_cast]
  refine burst_fix hC.2.2 hC.1 hl h12 hk hfa hak (fun o => mem_frs) fun o ho hne => ?_
  have hta : (C.take a).length = a := by rw [List.length_take, hC.1]; omega
  rcases Nat.lt_or_ge o a with h1 | h1
  · refine absurd ?_ hne
    rw [hb, Gf.co_append_left (by rw [hta]; exact h1), Gf.co_take h1]
  · refine ⟨h1, ?_⟩
    rcases Nat.lt_or_ge o (a + k) with h2 | h2
    · exact h2
    · refine absurd ?_ hne
      rw [hb, Gf.co_append_right (by rw [hta]; exact h1), Gf.co_append_right (by rw [hta, List.length_replicate]; omega), Gf.co_drop, hta, List.length_replicate]
      congr 1
      omega
set_option maxRecDepth 100000 in
set_option maxHeartbeats 4000000 in
theorem pbursts_law (s : ByteArray) (m : Int) (at_ ct : Nat) (ha : at_ < 65536) (hc : ct < 65536) (v : UInt8) (w : World) :
    Calls Try.prog 7 #[.string s, .int .i64 m, .int .u16 (at_ : Int), .int .u16 (ct : Int), .int .u8 (v.toNat : Int)] w fun e w' => Ret1 w (.bool true) e w' := by
  by_cases h : okM m = true ∧ s.size = 2352
  · obtain ⟨hm, hs⟩ := h
    have HM := Lib.hid hm
    have HS := Lib.hid hs
    have hF := firstr_any m hm
    have hfr := frM_le m
    have hf12 : 12 ≤ frM m := by
      have h : m = 0 ∨ m = 1 := by simpa [okM] using hm
      rcases h with rfl | rfl <;> decide
    have HF := Lib.hid hF
    clear hF hm hs
    go_enter Try.func7, Try.ntmps7
    go_wp2_with (go_at_call 11; refine (pawake_any _).mono ?_; rintro e w1 ⟨rfl, hB1⟩)
    refine (penc_yes s m HM.out HS.out _).mono ?_
    rintro e w2 ⟨C, rfl, hx, hB2⟩
    have hB12 := hB1.trans (hB2.mono hB1.size)
    clear hB1 hB2
    have hCs : (str C).size = 2352 := by rw [str_size, hx.1]
    obtain ⟨f, hf⟩ : ∃ f, f = frM m := ⟨_, rfl⟩
    rw [← hf] at HF hfr hf12 hx
    have HFM := Lib.hid hf
    clear hf
    obtain ⟨n, hn⟩ : ∃ n, n = 1 + ct % 172 := ⟨_, rfl⟩
    have hn1 : 1 ≤ n := by omega
    have hn2 : n ≤ 172 := by omega
    have hnn : (1 : Int) + (ct : Int) % 172 = (n : Int) := by omega
    obtain ⟨a, hav⟩ : ∃ a, a = f + at_ % (2352 - f - n + 1) := ⟨_, rfl⟩
    have hmod := Nat.mod_lt at_ (show 0 < 2352 - f - n + 1 by omega)
    have han : a + n ≤ 2352 := by omega
    have hfa : f ≤ a := by omega
    obtain ⟨D, hD⟩ : ∃ D, D = 2352 - f - n + 1 := ⟨_, rfl⟩
    have hdd : (2352 : Int) - (f : Int) - (n : Int) + 1 = (D : Int) := by omega
    rw [← hD] at hav
    have haa : (f : Int) + (at_ : Int) % (D : Int) = (a : Int) := by omega
    have hd0 : (0 : Int) < (D : Int) := by omega
    have HX := Lib.hid hx
    have HN := Lib.hid hn
    have HAV := Lib.hid hav
    clear hx hn hav hmod hD
    go_wp2_with (go_at_call 22; refine (HF.out _).mono ?_; rintro e w3 ⟨rfl, rfl⟩)
    go_loopw [16, 17, 51] (fun x _ i wr => ∃ k : Nat, k ≤ n ∧ i = .int .i64 k ∧ Ocv 3 wr w.heap.size x ((frs a k).map vN) ∧ Below w.heap.size w wr) (fun _ _ i _ => n - (intOf i).toNat)
    case atStart => exact ⟨0, by omega, rfl, Ocv.nil _ _ _, hB12⟩
    case round =>
      obtain ⟨k, hk, rfl, hO, hB⟩ := hrel
      by_cases hlt : k < n
      · have hsz := hB.size
        have HO := Lib.hid hO
        have HB := Lib.hid hB
        have hp := Lib.hid (frs_succ a k)
        clear hO hB
        go_wp2_with (at_builtin; refine wpList_appv 24 3 (.int .i64 0) 8 Try.underlying24 infoIntP rfl (by omega) rfl _ _ rfl w.heap.size (frs a k).length _ ((frs a k).map vN) rfl (HO.out.alloc _) (by rw [List.length_map]) _ _ 1 [Value.int .i64 ((a + k : Nat) : Int)] rfl rfl (by omega) (one_cell (cell_new _ _ _)) (one_mem rfl) (by rw [frs_length]; omega) (by rw [World.size_alloc]; omega) ?_; intro g2 c3 w4 hO4 hK4 _ hg4)
        have hB4 := hK4 _ _ (HB.out.alloc hsz _) (Nat.le_refl _)
        have hO5 : Hid (Ocv 3 w4 w.heap.size (.slice (some ⟨g2, 0, none⟩) ((frs a k).length + 1) c3) ((frs a (k + 1)).map vN)) := by
          show Ocv _ _ _ _ _
          rw [hp.out, List.map_append]
          exact hO4
        clear hK4 hO4 HO HB
        go_wp2
        go_roundw
        case rel => exact ⟨k + 1, by omega, by go_num, hO5.out, hB4⟩
        case measure => simp [intOf]; omega
      · have hkp : k = n := by omega
        subst hkp
        obtain ⟨A, cA, rfl, hr⟩ := RdI.of_ocv hO
        clear hO hB12
        rw [frs_length]
        obtain ⟨Z, hZ⟩ : ∃ Z, Z = (str C).extract 0 a ++ str (List.replicate k v) ++ (str C).extract (a + k) 2352 := ⟨_, rfl⟩
        have hx := HX.out
        have hfa' := hfa
        have hf12' := hf12
        rw [HFM.out] at hx hfa' hf12'
        obtain ⟨hZs, hdv⟩ := burst_dec HM.out hfa' hf12' han hn2 hx hZ
        have hA : ((frs a k).map fun p : Nat => (p : Int)).length = k := by rw [List.length_map, frs_length]
        have hD : ∀ w, RdI w A ((frs a k).map fun p : Nat => (p : Int)) → Calls Try.prog 24 #[.string Z, .int .i64 m, .slice A k cA] w fun e w' => Ret1 w (.tuple #[.string (str C), .int .i64 (difK C (bl Z) 2352 : Nat), .int .i64 0]) e w' := fun w h => by
          have := pdec_any Z m _ A cA (by rw [hA]; omega) w h
          rw [hA, hdv] at this
          exact this
        have hdf : ∀ w, Calls Try.prog 25 #[.string Z, .string (str C)] w fun e w' => Ret1 w (.int .i64 (difK C (bl Z) 2352 : Nat)) e w' := fun w => by
          have h := differ_any Z (str C) (by rw [hZs, hCs]) (by omega) w
          rw [bl_str, hZs, difK_symm] at h
          exact h
        have hsz1 : ((str C).extract 0 a).size + (str (List.replicate k v)).size ≤ 9223372036854775807 := by
          rw [← bl_length, bl_extract, bl_str, str_size, List.length_replicate]
          simp only [List.length_drop, List.length_take]
          omega
        have hsz2 : ((str C).extract 0 a ++ str (List.replicate k v)).size + ((str C).extract (a + k) 2352).size ≤ 9223372036854775807 := by
          rw [← bl_length, ← bl_length, bl_append, bl_extract, bl_extract, bl_str, bl_str]
          simp only [List.length_append, List.length_drop, List.length_take, List.length_replicate]
          omega
        have hadd1 : ∀ W, (Op.stringOp .add ((str C).extract 0 a) (str (List.replicate k v))).run Try.prog W = .ok (.string ((str C).extract 0 a ++ str (List.replicate k v))) W := fun W => run_string_add_sum W _ _ hsz1
        have hadd2 : ∀ W, (Op.stringOp .add ((str C).extract 0 a ++ str (List.replicate k v)) ((str C).extract (a + k) 2352)).run Try.prog W = .ok (.string Z) W := fun W => by rw [hZ]; exact run_string_add_sum W _ _ hsz2
        have hRep := fun w => repeat_any v k (by omega) w
        have HRD := Lib.hid hr
        clear hx hfa' hf12' hZ hdv hA hsz1 hsz2 HX HAV hr hZs
        revert hD hdf hadd1 hadd2 hRep
        generalize (difK C (bl Z) 2352) = dd
        generalize str (List.replicate k v) = R
        generalize str C = X at hCs ⊢
        generalize X.extract 0 a ++ R = Z1
        intro hD hdf hadd1 hadd2 hRep
        obtain ⟨b, hb⟩ : ∃ b, b = a + k := ⟨_, rfl⟩
        rw [← hb] at hadd2
        have hbb : (a : Int) + (k : Int) = (b : Int) := by omega
        have HD := Lib.hid hD
        have HDF := Lib.hid hdf
        have cR : ∀ W d os, Calls Try.prog 23 #[.int .u8 (v.toNat : Int), .int .i64 (k : Int)] (grow (redrawn W d) os) fun e w'' => e = .returned (.string R) ∧ ∃ p : Regrown, w'' = grow (redrawn W p.d) p.os := fun W d os => Calls.regrown_of (hRep _)
        have hi1 : (0 : Int) ≤ (a : Int) := by omega
        have hi2 : (a : Int) ≤ 2352 := by omega
        have hi3 : (0 : Int) ≤ (b : Int) := by omega
        have hi4 : (b : Int) ≤ 2352 := by omega
        have hwb : IntKind.i64.wrap (b : Int) = (b : Int) := IntWalk.i64_in _ (by omega)
        clear hD hdf hRep hb
        go_wp2
        refine wp_region_quiet_below (by kernel_rfl) (by kernel_rfl) ?_
        repeat (quiet_step (first | exact cR _ _ _))
        refine wpQuiet_nil ?_
        intro _ hw'
        obtain ⟨⟨dq, osq⟩, hw''⟩ := hw'
        subst hw''
        have hbr := below_regrown wr dq osq
        have hRD := HRD.out.below (Nat.le_refl _) hbr
        have hBq := hB.trans (hbr.mono hB.size)
        have hxx : (X.toList == X.toList) = true := beq_self_eq_true _
        clear cR hadd1 hadd2 hbr HRD
        generalize grow (redrawn wr dq) osq = W3 at hRD hBq ⊢
        have HRD := Lib.hid hRD
        clear hRD hB
        go_wp2_with (first | (go_at_call 24; refine (HD.out _ HRD.out).mono ?_; rintro e w5 ⟨rfl, hB5⟩) | (go_at_call 25; refine (HDF.out _).mono ?_; rintro e w6 ⟨rfl, hB6⟩))
        go_ret
        exact ⟨rfl, (hBq.trans (hB5.mono hBq.size)).trans (hB6.mono (hBq.trans (hB5.mono hBq.size)).size)⟩
  · have HE := Lib.hid (fun w => penc_no s m h w)
    clear h
    go_enter Try.func7, Try.ntmps7
    go_wp2_with (first | (go_at_call 11; refine (pawake_any _).mono ?_; rintro e w1 ⟨rfl, hB1⟩) | (go_at_call 17; refine (HE.out _).mono ?_; rintro e w2 ⟨rfl, hB2⟩))
    go_ret
    exact ⟨rfl, hB1.trans (hB2.mono hB1.size)⟩
theorem pbursts_lawI (s : ByteArray) (m : Int) (a c v : Int) (hs : s.size ≤ 140737488351232) (ha : (Lit.int .u16 a).wf = true) (hc : (Lit.int .u16 c).wf = true) (hv : (Lit.int .u8 v).wf = true) (w : World) :
    Calls Try.prog 7 #[.string s, .int .i64 m, .int .u16 a, .int .u16 c, .int .u8 v] w fun e w' => Ret1 w (.bool true) e w' := by
  have h1 : ∀ x : Int, (Lit.int .u16 x).wf = true → 0 ≤ x ∧ x < 65536 := fun x h => by
    simp only [Lit.wf, Bool.and_eq_true, decide_eq_true_eq] at h
    have e1 : IntKind.u16.min = 0 := by decide
    have e2 : IntKind.u16.max = 65535 := by decide
    omega
  obtain ⟨a1, a2⟩ := h1 a ha
  obtain ⟨c1, c2⟩ := h1 c hc
  obtain ⟨n, hn, rfl⟩ : ∃ n : Nat, n < 65536 ∧ a = n := ⟨a.toNat, by omega, by omega⟩
  obtain ⟨k, hk, rfl⟩ : ∃ k : Nat, k < 65536 ∧ c = k := ⟨c.toNat, by omega, by omega⟩
  have hv2 : 0 ≤ v ∧ v < 256 := by
    simp only [Lit.wf, Bool.and_eq_true, decide_eq_true_eq] at hv
    have e1 : IntKind.u8.min = 0 := by decide
    have e2 : IntKind.u8.max = 255 := by decide
    omega
  obtain ⟨x, rfl⟩ : ∃ x : UInt8, v = x.toNat := ⟨UInt8.ofNat v.toNat, by
    simp
    omega⟩
  exact pbursts_law s m n k hn hk x w
end Go.Proofs.Ytknfkhackmnnaaa
