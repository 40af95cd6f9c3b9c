import Derived.Test.YtknfkhackmnnaaaE3
set_option maxRecDepth 100000
set_option linter.unusedVariables false
set_option linter.unusedSimpArgs false
namespace Go.Proofs.Ytknfkhackmnnaaa
open Go Go.RowKit Go.Deep Go.Sort
/-! the law ProductcodeSound -/
theorem stepW_low {f k : Nat} {l : List UInt8} {S : List Nat} {ch : Bool} (hk : k < 138) (hl : l.length = 2352) {o : Nat} (ho : o < f) : Gf.co (stepW f l S ch (wordN k)).1 o = Gf.co l o := by
  unfold stepW
  split
  · rfl
  · split
    · exact putK_low ho fun j hj => by rw [hl]; exact wordN_lt hk hj
    · rfl
theorem passW_low {f : Nat} {l : List UInt8} {S : List Nat} (hl : l.length = 2352) {o : Nat} (ho : o < f) : ∀ k, k ≤ 138 → Gf.co (passW f l S k).1 o = Gf.co l o
  | 0, _ => rfl
  | k + 1, hk => by
    have h := passW_low (S := S) hl ho k (by omega)
    show Gf.co (stepW f (passW f l S k).1 (passW f l S k).2.1 (passW f l S k).2.2 (wordN k)).1 o = _
    rw [stepW_low (by omega) (by rw [passW_length]; exact hl) ho, h]
theorem decL_low {f o : Nat} (ho : o < f) : ∀ (n : Nat) (l : List UInt8) (S : List Nat) (i : Nat), l.length = 2352 → (decL f n l S i).1.length = 2352 ∧ Gf.co (decL f n l S i).1 o = Gf.co l o
  | 0, l, S, i, hl => ⟨hl, rfl⟩
  | n + 1, l, S, i, hl => by
    have h1 := passW_low (S := S) hl ho 138 (Nat.le_refl _)
    have h2 : (passW f l S 138).1.length = 2352 := by rw [passW_length]; exact hl
    simp only [decL]
    revert h1 h2
    generalize passW f l S 138 = p
    intro h1 h2
    split
    · exact ⟨hl, rfl⟩
    · split
      · obtain ⟨a, b⟩ := decL_low ho n p.1 p.2.1 0 h2
        exact ⟨a, b.trans h1⟩
      · split
        · obtain ⟨a, b⟩ := decL_low ho n p.1 p.2.1 (i + 1) h2
          exact ⟨a, b.trans h1⟩
        · exact ⟨h2, h1⟩
theorem agK_all {S : List Nat} : ∀ {k : Nat}, agK S k = false → ∀ i, i < k → ¬ (1 ≤ (posK S (wordN i) (wordN i).length).length ∧ (posK S (wordN i) (wordN i).length).length ≤ 2)
  | 0, _, i, hi => by omega
  | k + 1, h, i, hi => by
    have h0 := h
    simp only [agK, Bool.or_eq_false_iff] at h
    rcases Nat.lt_or_ge i k with h1 | h1
    · exact agK_all h.1 i h1
    · obtain rfl : i = k := by omega
      have hs := agK_false h.1
      have h2 := h.2
      rw [hs] at h2
      rintro ⟨a, b⟩
      rw [decide_eq_true a, decide_eq_true b] at h2
      cases h2
theorem peelR_all {S : List Nat} {i : Nat} (hi : i < 138) : ¬ (1 ≤ (posK (peelR S) (wordN i) (wordN i).length).length ∧ (posK (peelR S) (wordN i) (wordN i).length).length ≤ 2) := by
  refine agK_all (k := 138) ?_ i hi
  cases hq : agK (peelR S) 138 with
  | false => rfl
  | true =>
    have h1 := agK_true hq
    have h2 := peelR_fix S
    rw [peelP_def] at h2
    rw [h2] at h1
    omega
/-- what Decode hands back -/
theorem decV_cases (s : ByteArray) (m : Int) (er : List Int) : (∃ L : List UInt8, decV s m er = .tuple #[.string (str L), .int .i64 (difK L (bl s) 2352 : Nat), .int .i64 0] ∧ s.size = 2352 ∧ L.length = 2352 ∧ okM m = true ∧ sndL L (frM m) = true ∧ ∀ o, o < frM m → Gf.co L o = Gf.co (bl s) o) ∨
    (∃ e : Int, e ≠ 0 ∧ decV s m er = .tuple #[.string (str []), .int .i64 0, .int .i64 e]) := by
  unfold decV
  split
  · rename_i h
    split
    · rename_i h2
      have hl : (bl s).length = 2352 := by rw [bl_length, h.1.2]
      have hfr : 0 < frM m := by
        have h : m = 0 ∨ m = 1 := by simpa [okM] using h.1.1
        rcases h with rfl | rfl <;> decide
      refine .inl ⟨_, rfl, h.1.2, (decL_low hfr _ _ _ _ hl).1, h.1.1, h2.2, fun o ho => (decL_low ho _ _ _ _ hl).2⟩
    · exact .inr ⟨11, by decide, rfl⟩
  · exact .inr ⟨1, by decide, rfl⟩
theorem head_eq {s : ByteArray} {L : List UInt8} {k : Nat} (hL : L.length = 2352) (hs : s.size = 2352) (hk : k ≤ 2352) (h : ∀ o, o < k → Gf.co L o = Gf.co (bl s) o) : (((str L).extract 0 k).toList == (s.extract 0 k).toList) = true := by
  refine strs_eq (bl_inj ?_)
  rw [bl_extract, bl_extract, bl_str, List.drop_zero, List.drop_zero]
  refine Gf.co_ext (by rw [List.length_take, List.length_take, bl_length, hL, hs]) fun i hi => ?_
  rw [List.length_take, hL] at hi
  rw [Gf.co_take (by omega), Gf.co_take (by omega), h i (by omega)]
theorem erN_sorted {f : Nat} {er : List Int} (h : stN f er er.length) : (erN er).Pairwise (· < ·) := by
  have hnl : (erN er).length = er.length := by unfold erN; rw [List.length_map]
  refine List.pairwise_iff_getElem.2 fun i j hi hj hij => ?_
  rw [hnl] at hi hj
  have h1 := posN_mono h.1 i j hij hj
  have h0 := (h.1 i hi).1
  have ei : (erN er)[i]'(by rw [hnl]; exact hi) = (ci er i).toNat := by simp [erN, ci, List.getD_eq_getElem?_getD, hi]
  have ej : (erN er)[j]'(by rw [hnl]; exact hj) = (ci er j).toNat := by simp [erN, ci, List.getD_eq_getElem?_getD, hj]
  rw [ei, ej]
  omega
theorem rest_sorted {f : Nat} {er : List Int} (h : stN f er er.length) : ((peelR (erN er)).map fun p : Nat => (p : Int)).Pairwise (· ≤ ·) := by
  rw [List.pairwise_map]
  exact ((erN_sorted h).sublist (itP_sub _ _)).imp fun h => by omega
theorem cast_mem {T : List Nat} {x : Nat} : ((x : Int) ∈ T.map fun p : Nat => (p : Int)) ↔ x ∈ T := by
  constructor
  · intro h
    obtain ⟨y, hy, e⟩ := List.mem_map.1 h
    have : y = x := by omega
    exact this ▸ hy
  · intro h
    exact List.mem_map.2 ⟨x, h, rfl⟩
theorem rdi_getD {l : List Int} {j : Nat} (hj : j < l.length) : ci l j = l.getD j 0 := rfl
theorem ct_any (er : List Int) (A : Option Addr) (c : Nat) (x : Int) (hl : er.length ≤ 100000) (w : World) (h : RdI w A er) (hx : x ∈ er) : Calls Try.prog 27 #[.slice A er.length c, .int .i64 x] w fun e w' => e = .returned (.bool true) ∧ w = w' := by
  have hpos : 0 < er.length := List.length_pos_of_mem hx
  obtain ⟨b, off, rfl, hb, hc⟩ := h hpos
  refine (Try.slices_Contains_int b off er.length c er x w (Nat.le_refl _) (by omega) (fun j hj => hc j hj)).mono ?_
  rintro e w' ⟨rfl, rfl⟩
  refine ⟨?_, rfl⟩
  rw [List.take_length, List.contains_iff_mem.2 hx]
theorem bs_any (T : List Nat) (A : Option Addr) (c x : Nat) (hl : T.length ≤ 100000) (hs : (T.map fun p : Nat => (p : Int)).Pairwise (· ≤ ·)) (w : World) (h : RdI w A (T.map fun p : Nat => (p : Int))) :
    Calls Try.prog 28 #[.slice A T.length c, .int .i64 (x : Int)] w fun e w' => ∃ i : Int, e = .returned (.tuple #[.int .i64 i, .bool (decide (x ∈ T))]) ∧ ∃ q, w' = w.drewN q := by
  rcases Nat.eq_zero_or_pos T.length with h0 | h0
  · have hT : T = [] := List.length_eq_zero_iff.1 h0
    subst hT
    refine (Try.slices_BinarySearch_int_empty A c (x : Int) w).mono ?_
    rintro e w' ⟨rfl, rfl⟩
    exact ⟨0, rfl, 0, rfl⟩
  · obtain ⟨b, off, rfl, hb, hc⟩ := h (by rw [List.length_map]; exact h0)
    have hx := Try.slices_BinarySearch_int b off T.length c (T.map fun p : Nat => (p : Int)) (x : Int) w (by rw [List.length_map]; exact Nat.le_refl _) (by omega) (fun j hj => hc j hj) (by rw [List.take_of_length_le (by rw [List.length_map]; exact Nat.le_refl _)]; exact hs)
    refine hx.mono ?_
    rintro e w' ⟨rfl, hq⟩
    refine ⟨((List.countP (fun y => decide (y < (x : Int))) ((T.map fun p : Nat => (p : Int)).take T.length) : Nat) : Int), ?_, hq⟩
    have e : ((T.map fun p : Nat => (p : Int)).take T.length).contains (x : Int) = decide (x ∈ T) := by
      rw [List.take_of_length_le (by rw [List.length_map]; exact Nat.le_refl _), Bool.eq_iff_iff, List.contains_iff_mem, decide_eq_true_eq]
      exact cast_mem
    rw [e]
/-- a word of either kind -/
theorem pw_any (i : Nat) (hi : i < 86) (w : World) : Calls Try.prog 12 #[.int .i64 (i : Int)] w fun e w' => ∃ b c, e = .returned (.tuple #[.slice (some ⟨b, 0, none⟩) (wordN i).length c, .int .i64 0]) ∧ b < w'.heap.size ∧ RdN w' b (wordN i) ∧ Below w.heap.size w w' := by
  refine (pword_yes i hi w).mono ?_
  rintro e w' ⟨b, c, rfl, h0, h1, hc, hB, _⟩
  have hw : wordN i = pwN i 26 := by unfold wordN; rw [if_pos hi]
  rw [pwI_map, List.length_map] at hc ⊢
  refine ⟨b, c, by rw [hw], h1, fun j hj => ?_, hB⟩
  rw [hw] at hj ⊢
  rw [hc j hj, List.getElem?_map, List.getD_eq_getElem?_getD, List.getElem?_eq_getElem hj]
  rfl
theorem qw_any (i : Nat) (hi : 86 ≤ i) (hi2 : i < 138) (w : World) : Calls Try.prog 13 #[.int .i64 ((i - 86 : Nat) : Int)] w fun e w' => ∃ b c, e = .returned (.tuple #[.slice (some ⟨b, 0, none⟩) (wordN i).length c, .int .i64 0]) ∧ b < w'.heap.size ∧ RdN w' b (wordN i) ∧ Below w.heap.size w w' := by
  refine (qword_yes (i - 86) (by omega) w).mono ?_
  rintro e w' ⟨b, c, rfl, h0, h1, hc, hB, _⟩
  have hw : wordN i = qwN (i - 86) := by unfold wordN; rw [if_neg (by omega)]
  rw [qwL_map, List.length_map] at hc ⊢
  refine ⟨b, c, by rw [hw], h1, fun j hj => ?_, hB⟩
  rw [hw] at hj ⊢
  rw [hc j hj, List.getElem?_map, List.getD_eq_getElem?_getD, List.getElem?_eq_getElem hj]
  rfl
theorem mem_er {f : Nat} {er : List Int} (h : stN f er er.length) {x : Nat} (hx : x ∈ erN er) : (x : Int) ∈ er := by
  unfold erN at hx
  obtain ⟨z, hz, rfl⟩ := List.mem_map.1 hx
  obtain ⟨i, hi, rfl⟩ := List.getElem_of_mem hz
  have h1 := (h.1 i hi).1
  have hci : ci er i = er[i] := by simp [ci, List.getD_eq_getElem?_getD, hi]
  rw [hci] at h1
  rw [Int.toNat_of_nonneg h1]
  exact List.getElem_mem hi
theorem RdI.drewN {w : World} {A : Option Addr} {l : List Int} (h : RdI w A l) (n : Nat) : RdI (w.drewN n) A l := h
set_option maxRecDepth 100000 in
set_option maxHeartbeats 20000000 in
theorem psound_law (s : ByteArray) (m : Int) (er : List Int) (A : Option Addr) (c : Nat) (w : World) (hr : RdI w A er) :
    Calls Try.prog 9 #[.string s, .int .i64 m, .slice A er.length c] w fun e w' => Ret1 w (.bool true) e w' := by
  by_cases hz : s.size ≤ 2400 ∧ er.length ≤ 600
  · obtain ⟨hz1, hz2⟩ := hz
    have HR := Lib.hid hr
    have hD := fun w h => pdec_any s m er A c (by omega) w h
    have hst0 : (str []).toList.isEmpty = true := by rw [ByteArray.toList_eq]; rfl
    have HPE : Hid ((∃ T : List Nat, (∀ w, RdI w A er → Calls Try.prog 26 #[.int .i64 m, .slice A er.length c] w fun e w' => RetLs w T 0 e w') ∧ (∀ x, x ∈ T → (x : Int) ∈ er) ∧ (T.map fun p : Nat => (p : Int)).Pairwise (· ≤ ·) ∧ T.length ≤ 100000 ∧ ∀ i, i < 138 → ¬ (1 ≤ (posK T (wordN i) (wordN i).length).length ∧ (posK T (wordN i) (wordN i).length).length ≤ 2)) ∨
        (∀ w, RdI w A er → Calls Try.prog 26 #[.int .i64 m, .slice A er.length c] w fun e w' => RetLs w [] 1 e w')) := by
      by_cases hok : okM m = true ∧ stN (frM m) er er.length
      · refine .inl ⟨peelR (erN er), fun w h => peel_yes m er A c (by omega) w h hok.1 hok.2, fun x hx => mem_er hok.2 ((itP_sub _ _).subset hx), rest_sorted hok.2, ?_, fun i hi => peelR_all hi⟩
        have := (itP_sub (erN er).length (erN er)).length_le
        have hnl : (erN er).length = er.length := by unfold erN; rw [List.length_map]
        show (itP _ _).length ≤ _
        omega
      · exact .inr fun w h => peel_no m er A c (by omega) w h hok
    clear hr
    rcases decV_cases s m er with ⟨L, hdv, hs, hL, hm, hsn, hlow⟩ | ⟨de, hde, hdv⟩
    · rw [hdv] at hD
      have HD := Lib.hid hD
      have hV := fun w => pvalid_any (str L) m w
      rw [show pvl (str L) m = true by unfold pvl; rw [hm, str_size, hL, bl_str, hsn]; rfl] at hV
      have hLs : (str L).size = 2352 := by rw [str_size, hL]
      have hdf : ∀ w, Calls Try.prog 25 #[.string (str L), .string s] w fun e w' => Ret1 w (.int .i64 (difK L (bl s) 2352 : Nat)) e w' := fun w => by
        have h := differ_any (str L) s (by rw [hLs, hs]) (by omega) w
        rw [bl_str, hLs] at h
        exact h
      have h12 : (((str L).extract 0 12).toList == (s.extract 0 12).toList) = true := head_eq hL hs (by omega) fun o ho => hlow o (by
        have h : m = 0 ∨ m = 1 := by simpa [okM] using hm
        rcases h with rfl | rfl
        · exact ho
        · show o < 16; omega)
      have hmc : ((m == 1) = false ∧ (m == 1) = false) ∨ ((m == 1) = true ∧ (((str L).extract 0 16).toList == (s.extract 0 16).toList) = true) := by
        have h : m = 0 ∨ m = 1 := by simpa [okM] using hm
        rcases h with rfl | rfl
        · exact .inl ⟨rfl, rfl⟩
        · exact .inr ⟨rfl, head_eq hL hs (by omega) hlow⟩
      obtain ⟨X, hX⟩ : ∃ X, X = str L := ⟨_, rfl⟩
      rw [← hX] at HD hV hLs hdf h12 hmc
      have cV : ∀ W d os, Calls Try.prog 19 #[.string X, .int .i64 m] (grow (redrawn W d) os) fun e w'' => e = .returned (.bool true) ∧ ∃ p : Regrown, w'' = grow (redrawn W p.d) p.os := fun W d os => Calls.regrown_of (hV _)
      revert hdf HD
      generalize difK L (bl s) 2352 = dd
      intro hdf HD
      have cD : ∀ W d os, Calls Try.prog 25 #[.string X, .string s] (grow (redrawn W d) os) fun e w'' => e = .returned (.int .i64 (dd : Nat)) ∧ ∃ p : Regrown, w'' = grow (redrawn W p.d) p.os := fun W d os => Calls.regrown_of (hdf _)
      clear hD hdv hV hdf hL hm hsn hlow hX
      rcases hmc with ⟨hmc, hmc2⟩ | ⟨hmc, hmc2⟩
      all_goals
        go_enter Try.func9, Try.ntmps9
        go_wp2_with (first | (go_at_call 11; refine (pawake_any _).mono ?_; rintro e w1 ⟨rfl, hB1⟩; have HR1 := Lib.hid (HR.out.below (Nat.le_refl _) hB1)) | (go_at_call 24; refine (HD.out _ HR1.out).mono ?_; rintro e w2 ⟨rfl, hB2⟩))
        refine wp_region_quiet_below (by kernel_rfl) (by kernel_rfl) ?_
        repeat (quiet_step (first | exact cV _ _ _ | exact cD _ _ _))
        refine wpQuiet_nil ?_
        intro _ hw'
        obtain ⟨⟨dq, osq⟩, hw''⟩ := hw'
        subst hw''
        have hbr := below_regrown w2 dq osq
        have hB12 := hB1.trans (hB2.mono hB1.size)
        have hB3w := hB12.trans (hbr.mono hB12.size)
        have HR3 := Lib.hid (HR.out.below (Nat.le_refl _) hB3w)
        clear hbr hB12 cV cD h12 hmc2
        generalize grow (redrawn w2 dq) osq = W3 at hB3w HR3 ⊢
        rcases HPE.out with ⟨T, hPY, hSUB, hSO, hTL, hALL⟩ | hPN
        · have HPY := Lib.hid hPY
          have HSUB := Lib.hid hSUB
          have HSO := Lib.hid hSO
          have HALL := Lib.hid hALL
          have HTL := Lib.hid hTL
          clear hPY hSUB hSO hALL hTL HPE
          go_wp2_with (go_at_call 26; refine (HPY.out _ HR3.out).mono ?_; rintro e w4 ⟨hB4, rA, rc, rfl, hrr⟩)
          have hBw4 := hB3w.trans (hB4.mono hB3w.size)
          have HR4 := Lib.hid (HR.out.below (Nat.le_refl _) hBw4)
          have HRR := Lib.hid hrr
          clear hrr hB4
          go_loopw [101] (fun i wr => ∃ k : Nat, k ≤ T.length ∧ i = .int .i64 k ∧ Hid (wr = w4)) (fun i _ => T.length - (intOf i).toNat)
          case atStart => exact ⟨0, by omega, rfl, rfl⟩
          case round =>
            obtain ⟨k, hk, rfl, hw4⟩ := hrel
            have hw4' := hw4.out
            subst hw4'
            clear hw4
            have hTb := HTL.out
            by_cases hlt : k < T.length
            · obtain ⟨b, off, rfl, hbl, hcz⟩ := HRR.out (by rw [List.length_map]; omega)
              have hck := hcz k (by rw [List.length_map]; exact hlt)
              rw [ci_cast _ hlt] at hck
              have hmem := HSUB.out _ (List.getElem_mem hlt)
              have hk0 : (0 : Int) ≤ (k : Int) := by omega
              have hk1 : (k : Int) < (T.length : Int) := by omega
              have HCT := Lib.hid (ct_any er A c _ (by omega) wr HR4.out hmem)
              clear hcz hmem
              revert hck HCT
              generalize T[k] = x
              intro hck HCT
              go_wp2_with (go_at_call 27; refine HCT.out.mono ?_; rintro e w5 ⟨rfl, rfl⟩)
              go_roundw
              case rel => exact ⟨k + 1, by omega, by go_num, by first | exact trivial | exact rfl⟩
              case measure => simp [intOf]; omega
            · have hkp : k = T.length := by omega
              subst hkp
              go_wp2
              go_loopw [110] (fun i wx => ∃ k : Nat, k ≤ 138 ∧ i = .int .i64 k ∧ Hid (Below wr.heap.size wr wx)) (fun i _ => 138 - (intOf i).toNat)
              case atStart => exact ⟨0, by omega, rfl, Below.refl _ _⟩
              case round =>
                obtain ⟨i, hi, rfl, hBi⟩ := hrel
                by_cases hlt2 : i < 138
                · have hcnt := HALL.out i hlt2
                  have HB5 : Hid (∀ w5 : World, Below wr.heap.size wr w5 → RdI w5 rA (T.map fun p : Nat => (p : Int)) ∧ ∀ mm, Hid (Below _ _ (w5.drewN mm))) := fun w5 h => ⟨(HRR.out.below (Nat.le_refl _) hBi.out).below (Nat.le_refl _) h, fun mm => pw_below_drewN' (hBi.out.trans (h.mono hBi.out.size)) mm⟩
                  have hcnt1 : ((posK T (wordN i) (wordN i).length).length : Int) ≠ 1 ∧ ((posK T (wordN i) (wordN i).length).length : Int) ≠ 2 := by omega
                  have HC1 := Lib.hid hcnt1
                  clear hcnt hcnt1
                  have hwl := wordN_le i
                  by_cases h86 : i < 86
                  · have h86i : (i : Int) < 86 := by omega
                    have HP := Lib.hid (pw_any i h86 wr)
                    clear h86
                    go_wp2_with (go_at_call 12; refine HP.out.mono ?_; rintro e w5 ⟨wb, wc, rfl, hwb, hrd, hB5⟩)
                    obtain ⟨hrr5, hbe5⟩ := HB5.out w5 hB5
                    have HRR5 := Lib.hid hrr5
                    have HRD := Lib.hid hrd
                    clear hrr5 hB5 hrd hBi
                    go_loopw [16, 128] (fun n j wx => ∃ q : Nat, q ≤ (wordN i).length ∧ j = .int .i64 q ∧ n = .int .i64 ((posK T (wordN i) q).length : Nat) ∧ ∃ mm, wx = w5.drewN mm) (fun _ j _ => (wordN i).length - (intOf j).toNat)
                    case atStart => exact ⟨0, by omega, rfl, rfl, 0, rfl⟩
                    case round =>
                      obtain ⟨q, hq, rfl, rfl, mm, rfl⟩ := hrel
                      by_cases hlt3 : q < (wordN i).length
                      · have hck : (w5.drewN mm).cell? ⟨wb, q, none⟩ = some (.int .i64 (((wordN i).getD q 0 : Nat) : Int)) := HRD.out q hlt3
                        have hq0 : (0 : Int) ≤ (q : Int) := by omega
                        have hq1 : (q : Int) < ((wordN i).length : Int) := by omega
                        have hpy := Lib.hid (fun h => posK_succ_yes (S := T) (os := wordN i) (k := q) h)
                        have hpn := Lib.hid (fun h => posK_succ_no (S := T) (os := wordN i) (k := q) h)
                        have hple := posK_length_le T (wordN i) q
                        revert hck hpy hpn
                        generalize (wordN i).getD q 0 = x
                        intro hck hpy hpn
                        have hbs := bs_any T rA rc x HTL.out HSO.out (w5.drewN mm) (HRR5.out.drewN mm)
                        by_cases hx : x ∈ T
                        · have hp := Lib.hid (hpy.out hx)
                          rw [decide_eq_true hx] at hbs
                          have HBS := Lib.hid hbs
                          clear hbs hx hpy hpn
                          go_wp2_with (go_at_call 28; refine HBS.out.mono ?_; rintro e w6 ⟨ix, rfl, q2, rfl⟩)
                          go_roundw
                          case rel => exact ⟨q + 1, by omega, by go_num, by rw [hp.out, List.length_append]; go_num, _, rfl⟩
                          case measure => simp [intOf]; omega
                        · have hp := Lib.hid (hpn.out hx)
                          rw [decide_eq_false hx] at hbs
                          have HBS := Lib.hid hbs
                          clear hbs hx hpy hpn
                          go_wp2_with (go_at_call 28; refine HBS.out.mono ?_; rintro e w6 ⟨ix, rfl, q2, rfl⟩)
                          go_roundw
                          case rel => exact ⟨q + 1, by omega, by go_num, by rw [hp.out], _, rfl⟩
                          case measure => simp [intOf]; omega
                      · have hqp : q = (wordN i).length := by omega
                        subst hqp
                        have hc1 : (((posK T (wordN i) (wordN i).length).length : Int) == 1) = false := beq_eq_false_iff_ne.2 HC1.out.1
                        have hc2 : (((posK T (wordN i) (wordN i).length).length : Int) == 2) = false := beq_eq_false_iff_ne.2 HC1.out.2
                        go_wp2
                        go_roundw
                        case rel => exact ⟨i + 1, by omega, by go_num, hbe5 mm⟩
                        case measure => simp [intOf]; omega
                  · have h86i : (86 : Int) ≤ (i : Int) := by omega
                    have hsub86 : (i : Int) - 86 = ((i - 86 : Nat) : Int) := by omega
                    have HPN2 := Lib.hid (pword_no (i : Int) (by omega) wr)
                    have HQ := Lib.hid (qw_any i (by omega) hlt2 wr)
                    clear h86
                    go_wp2_with (first | (go_at_call 12; refine HPN2.out.mono ?_; rintro e w6 ⟨rfl, rfl⟩) | (go_at_call 13; refine HQ.out.mono ?_; rintro e w5 ⟨wb, wc, rfl, hwb, hrd, hB5⟩))
                    obtain ⟨hrr5, hbe5⟩ := HB5.out w5 hB5
                    have HRR5 := Lib.hid hrr5
                    have HRD := Lib.hid hrd
                    clear hrr5 hB5 hrd hBi
                    go_loopw [16, 128] (fun n j wx => ∃ q : Nat, q ≤ (wordN i).length ∧ j = .int .i64 q ∧ n = .int .i64 ((posK T (wordN i) q).length : Nat) ∧ ∃ mm, wx = w5.drewN mm) (fun _ j _ => (wordN i).length - (intOf j).toNat)
                    case atStart => exact ⟨0, by omega, rfl, rfl, 0, rfl⟩
                    case round =>
                      obtain ⟨q, hq, rfl, rfl, mm, rfl⟩ := hrel
                      by_cases hlt3 : q < (wordN i).length
                      · have hck : (w5.drewN mm).cell? ⟨wb, q, none⟩ = some (.int .i64 (((wordN i).getD q 0 : Nat) : Int)) := HRD.out q hlt3
                        have hq0 : (0 : Int) ≤ (q : Int) := by omega
                        have hq1 : (q : Int) < ((wordN i).length : Int) := by omega
                        have hpy := Lib.hid (fun h => posK_succ_yes (S := T) (os := wordN i) (k := q) h)
                        have hpn := Lib.hid (fun h => posK_succ_no (S := T) (os := wordN i) (k := q) h)
                        have hple := posK_length_le T (wordN i) q
                        revert hck hpy hpn
                        generalize (wordN i).getD q 0 = x
                        intro hck hpy hpn
                        have hbs := bs_any T rA rc x HTL.out HSO.out (w5.drewN mm) (HRR5.out.drewN mm)
                        by_cases hx : x ∈ T
                        · have hp := Lib.hid (hpy.out hx)
                          rw [decide_eq_true hx] at hbs
                          have HBS := Lib.hid hbs
                          clear hbs hx hpy hpn
                          go_wp2_with (go_at_call 28; refine HBS.out.mono ?_; rintro e w6 ⟨ix, rfl, q2, rfl⟩)
                          go_roundw
                          case rel => exact ⟨q + 1, by omega, by go_num, by rw [hp.out, List.length_append]; go_num, _, rfl⟩
                          case measure => simp [intOf]; omega
                        · have hp := Lib.hid (hpn.out hx)
                          rw [decide_eq_false hx] at hbs
                          have HBS := Lib.hid hbs
                          clear hbs hx hpy hpn
                          go_wp2_with (go_at_call 28; refine HBS.out.mono ?_; rintro e w6 ⟨ix, rfl, q2, rfl⟩)
                          go_roundw
                          case rel => exact ⟨q + 1, by omega, by go_num, by rw [hp.out], _, rfl⟩
                          case measure => simp [intOf]; omega
                      · have hqp : q = (wordN i).length := by omega
                        subst hqp
                        have hc1 : (((posK T (wordN i) (wordN i).length).length : Int) == 1) = false := beq_eq_false_iff_ne.2 HC1.out.1
                        have hc2 : (((posK T (wordN i) (wordN i).length).length : Int) == 2) = false := beq_eq_false_iff_ne.2 HC1.out.2
                        go_wp2
                        go_roundw
                        case rel => exact ⟨i + 1, by omega, by go_num, hbe5 mm⟩
                        case measure => simp [intOf]; omega
                · have hBf := hBw4.trans (hBi.out.mono hBw4.size)
                  go_wp2
                  go_ret
                  exact ⟨rfl, hBf⟩
        · have HPN := Lib.hid hPN
          clear hPN HPE
          go_wp2_with (go_at_call 26; refine (HPN.out _ HR3.out).mono ?_; rintro e w4 ⟨hB4, rA, rc, rfl, hrr⟩)
          go_ret
          exact ⟨rfl, hB3w.trans (hB4.mono hB3w.size)⟩
    · rw [hdv] at hD
      have HD := Lib.hid hD
      have hdb : (de == 0) = false := beq_eq_false_iff_ne.2 hde
      clear hD hdv hde
      rcases HPE.out with ⟨T, hPY, hSUB, hSO, hTL, hALL⟩ | hPN
      · have HPY := Lib.hid hPY
        have HSUB := Lib.hid hSUB
        have HSO := Lib.hid hSO
        have HALL := Lib.hid hALL
        have HTL := Lib.hid hTL
        clear hPY hSUB hSO hALL hTL HPE
        go_enter Try.func9, Try.ntmps9
        go_wp2_with (first | (go_at_call 11; refine (pawake_any _).mono ?_; rintro e w1 ⟨rfl, hB1⟩; have HR1 := Lib.hid (HR.out.below (Nat.le_refl _) hB1)) | (go_at_call 24; refine (HD.out _ HR1.out).mono ?_; rintro e w2 ⟨rfl, hB2⟩; have hB3w := hB1.trans (hB2.mono hB1.size); have HR3 := Lib.hid (HR.out.below (Nat.le_refl _) hB3w)))
        go_wp2_with (go_at_call 26; refine (HPY.out _ HR3.out).mono ?_; rintro e w4 ⟨hB4, rA, rc, rfl, hrr⟩)
        have hBw4 := hB3w.trans (hB4.mono hB3w.size)
        have HR4 := Lib.hid (HR.out.below (Nat.le_refl _) hBw4)
        have HRR := Lib.hid hrr
        clear hrr hB4
        go_loopw [101] (fun i wr => ∃ k : Nat, k ≤ T.length ∧ i = .int .i64 k ∧ Hid (wr = w4)) (fun i _ => T.length - (intOf i).toNat)
        case atStart => exact ⟨0, by omega, rfl, rfl⟩
        case round =>
          obtain ⟨k, hk, rfl, hw4⟩ := hrel
          have hw4' := hw4.out
          subst hw4'
          clear hw4
          have hTb := HTL.out
          by_cases hlt : k < T.length
          · obtain ⟨b, off, rfl, hbl, hcz⟩ := HRR.out (by rw [List.length_map]; omega)
            have hck := hcz k (by rw [List.length_map]; exact hlt)
            rw [ci_cast _ hlt] at hck
            have hmem := HSUB.out _ (List.getElem_mem hlt)
            have hk0 : (0 : Int) ≤ (k : Int) := by omega
            have hk1 : (k : Int) < (T.length : Int) := by omega
            have HCT := Lib.hid (ct_any er A c _ (by omega) wr HR4.out hmem)
            clear hcz hmem
            revert hck HCT
            generalize T[k] = x
            intro hck HCT
            go_wp2_with (go_at_call 27; refine HCT.out.mono ?_; rintro e w5 ⟨rfl, rfl⟩)
            go_roundw
            case rel => exact ⟨k + 1, by omega, by go_num, by first | exact trivial | exact rfl⟩
            case measure => simp [intOf]; omega
          · have hkp : k = T.length := by omega
            subst hkp
            go_wp2
            go_loopw [110] (fun i wx => ∃ k : Nat, k ≤ 138 ∧ i = .int .i64 k ∧ Hid (Below wr.heap.size wr wx)) (fun i _ => 138 - (intOf i).toNat)
            case atStart => exact ⟨0, by omega, rfl, Below.refl _ _⟩
            case round =>
              obtain ⟨i, hi, rfl, hBi⟩ := hrel
              by_cases hlt2 : i < 138
              · have hcnt := HALL.out i hlt2
                have HB5 : Hid (∀ w5 : World, Below wr.heap.size wr w5 → RdI w5 rA (T.map fun p : Nat => (p : Int)) ∧ ∀ mm, Hid (Below _ _ (w5.drewN mm))) := fun w5 h => ⟨(HRR.out.below (Nat.le_refl _) hBi.out).below (Nat.le_refl _) h, fun mm => pw_below_drewN' (hBi.out.trans (h.mono hBi.out.size)) mm⟩
                have hcnt1 : ((posK T (wordN i) (wordN i).length).length : Int) ≠ 1 ∧ ((posK T (wordN i) (wordN i).length).length : Int) ≠ 2 := by omega
                have HC1 := Lib.hid hcnt1
                clear hcnt hcnt1
                have hwl := wordN_le i
                by_cases h86 : i < 86
                · have h86i : (i : Int) < 86 := by omega
                  have HP := Lib.hid (pw_any i h86 wr)
                  clear h86
                  go_wp2_with (go_at_call 12; refine HP.out.mono ?_; rintro e w5 ⟨wb, wc, rfl, hwb, hrd, hB5⟩)
                  obtain ⟨hrr5, hbe5⟩ := HB5.out w5 hB5
                  have HRR5 := Lib.hid hrr5
                  have HRD := Lib.hid hrd
                  clear hrr5 hB5 hrd hBi
                  go_loopw [16, 128] (fun n j wx => ∃ q : Nat, q ≤ (wordN i).length ∧ j = .int .i64 q ∧ n = .int .i64 ((posK T (wordN i) q).length : Nat) ∧ ∃ mm, wx = w5.drewN mm) (fun _ j _ => (wordN i).length - (intOf j).toNat)
                  case atStart => exact ⟨0, by omega, rfl, rfl, 0, rfl⟩
                  case round =>
                    obtain ⟨q, hq, rfl, rfl, mm, rfl⟩ := hrel
                    by_cases hlt3 : q < (wordN i).length
                    · have hck : (w5.drewN mm).cell? ⟨wb, q, none⟩ = some (.int .i64 (((wordN i).getD q 0 : Nat) : Int)) := HRD.out q hlt3
                      have hq0 : (0 : Int) ≤ (q : Int) := by omega
                      have hq1 : (q : Int) < ((wordN i).length : Int) := by omega
                      have hpy := Lib.hid (fun h => posK_succ_yes (S := T) (os := wordN i) (k := q) h)
                      have hpn := Lib.hid (fun h => posK_succ_no (S := T) (os := wordN i) (k := q) h)
                      have hple := posK_length_le T (wordN i) q
                      revert hck hpy hpn
                      generalize (wordN i).getD q 0 = x
                      intro hck hpy hpn
                      have hbs := bs_any T rA rc x HTL.out HSO.out (w5.drewN mm) (HRR5.out.drewN mm)
                      by_cases hx : x ∈ T
                      · have hp := Lib.hid (hpy.out hx)
                        rw [decide_eq_true hx] at hbs
                        have HBS := Lib.hid hbs
                        clear hbs hx hpy hpn
                        go_wp2_with (go_at_call 28; refine HBS.out.mono ?_; rintro e w6 ⟨ix, rfl, q2, rfl⟩)
                        go_roundw
                        case rel => exact ⟨q + 1, by omega, by go_num, by rw [hp.out, List.length_append]; go_num, _, rfl⟩
                        case measure => simp [intOf]; omega
                      · have hp := Lib.hid (hpn.out hx)
                        rw [decide_eq_false hx] at hbs
                        have HBS := Lib.hid hbs
                        clear hbs hx hpy hpn
                        go_wp2_with (go_at_call 28; refine HBS.out.mono ?_; rintro e w6 ⟨ix, rfl, q2, rfl⟩)
                        go_roundw
                        case rel => exact ⟨q + 1, by omega, by go_num, by rw [hp.out], _, rfl⟩
                        case measure => simp [intOf]; omega
                    · have hqp : q = (wordN i).length := by omega
                      subst hqp
                      have hc1 : (((posK T (wordN i) (wordN i).length).length : Int) == 1) = false := beq_eq_false_iff_ne.2 HC1.out.1
                      have hc2 : (((posK T (wordN i) (wordN i).length).length : Int) == 2) = false := beq_eq_false_iff_ne.2 HC1.out.2
                      go_wp2
                      go_roundw
                      case rel => exact ⟨i + 1, by omega, by go_num, hbe5 mm⟩
                      case measure => simp [intOf]; omega
                · have h86i : (86 : Int) ≤ (i : Int) := by omega
                  have hsub86 : (i : Int) - 86 = ((i - 86 : Nat) : Int) := by omega
                  have HPN2 := Lib.hid (pword_no (i : Int) (by omega) wr)
                  have HQ := Lib.hid (qw_any i (by omega) hlt2 wr)
                  clear h86
                  go_wp2_with (first | (go_at_call 12; refine HPN2.out.mono ?_; rintro e w6 ⟨rfl, rfl⟩) | (go_at_call 13; refine HQ.out.mono ?_; rintro e w5 ⟨wb, wc, rfl, hwb, hrd, hB5⟩))
                  obtain ⟨hrr5, hbe5⟩ := HB5.out w5 hB5
                  have HRR5 := Lib.hid hrr5
                  have HRD := Lib.hid hrd
                  clear hrr5 hB5 hrd hBi
                  go_loopw [16, 128] (fun n j wx => ∃ q : Nat, q ≤ (wordN i).length ∧ j = .int .i64 q ∧ n = .int .i64 ((posK T (wordN i) q).length : Nat) ∧ ∃ mm, wx = w5.drewN mm) (fun _ j _ => (wordN i).length - (intOf j).toNat)
                  case atStart => exact ⟨0, by omega, rfl, rfl, 0, rfl⟩
                  case round =>
                    obtain ⟨q, hq, rfl, rfl, mm, rfl⟩ := hrel
                    by_cases hlt3 : q < (wordN i).length
                    · have hck : (w5.drewN mm).cell? ⟨wb, q, none⟩ = some (.int .i64 (((wordN i).getD q 0 : Nat) : Int)) := HRD.out q hlt3
                      have hq0 : (0 : Int) ≤ (q : Int) := by omega
                      have hq1 : (q : Int) < ((wordN i).length : Int) := by omega
                      have hpy := Lib.hid (fun h => posK_succ_yes (S := T) (os := wordN i) (k := q) h)
                      have hpn := Lib.hid (fun h => posK_succ_no (S := T) (os := wordN i) (k := q) h)
                      have hple := posK_length_le T (wordN i) q
                      revert hck hpy hpn
                      generalize (wordN i).getD q 0 = x
                      intro hck hpy hpn
                      have hbs := bs_any T rA rc x HTL.out HSO.out (w5.drewN mm) (HRR5.out.drewN mm)
                      by_cases hx : x ∈ T
                      · have hp := Lib.hid (hpy.out hx)
                        rw [decide_eq_true hx] at hbs
                        have HBS := Lib.hid hbs
                        clear hbs hx hpy hpn
                        go_wp2_with (go_at_call 28; refine HBS.out.mono ?_; rintro e w6 ⟨ix, rfl, q2, rfl⟩)
                        go_roundw
                        case rel => exact ⟨q + 1, by omega, by go_num, by rw [hp.out, List.length_append]; go_num, _, rfl⟩
                        case measure => simp [intOf]; omega
                      · have hp := Lib.hid (hpn.out hx)
                        rw [decide_eq_false hx] at hbs
                        have HBS := Lib.hid hbs
                        clear hbs hx hpy hpn
                        go_wp2_with (go_at_call 28; refine HBS.out.mono ?_; rintro e w6 ⟨ix, rfl, q2, rfl⟩)
                        go_roundw
                        case rel => exact ⟨q + 1, by omega, by go_num, by rw [hp.out], _, rfl⟩
                        case measure => simp [intOf]; omega
                    · have hqp : q = (wordN i).length := by omega
                      subst hqp
                      have hc1 : (((posK T (wordN i) (wordN i).length).length : Int) == 1) = false := beq_eq_false_iff_ne.2 HC1.out.1
                      have hc2 : (((posK T (wordN i) (wordN i).length).length : Int) == 2) = false := beq_eq_false_iff_ne.2 HC1.out.2
                      go_wp2
                      go_roundw
                      case rel => exact ⟨i + 1, by omega, by go_num, hbe5 mm⟩
                      case measure => simp [intOf]; omega
              · have hBf := hBw4.trans (hBi.out.mono hBw4.size)
                go_wp2
                go_ret
                exact ⟨rfl, hBf⟩
      · have HPN := Lib.hid hPN
        clear hPN HPE
        go_enter Try.func9, Try.ntmps9
        go_wp2_with (first | (go_at_call 11; refine (pawake_any _).mono ?_; rintro e w1 ⟨rfl, hB1⟩; have HR1 := Lib.hid (HR.out.below (Nat.le_refl _) hB1)) | (go_at_call 24; refine (HD.out _ HR1.out).mono ?_; rintro e w2 ⟨rfl, hB2⟩; have hB3w := hB1.trans (hB2.mono hB1.size); have HR3 := Lib.hid (HR.out.below (Nat.le_refl _) hB3w)))
        go_wp2_with (go_at_call 26; refine (HPN.out _ HR3.out).mono ?_; rintro e w4 ⟨hB4, rA, rc, rfl, hrr⟩)
        go_ret
        exact ⟨rfl, hB3w.trans (hB4.mono hB3w.size)⟩
  · have hzi : (2400 : Int) < (s.size : Int) ∨ ((s.size : Int) ≤ 2400 ∧ (600 : Int) < (er.length : Int)) := by omega
    clear hz hr
    rcases hzi with hzi | ⟨hzi, hzi2⟩
    all_goals
      go_enter Try.func9, Try.ntmps9
      go_wp2_with (go_at_call 11; refine (pawake_any _).mono ?_; rintro e w1 ⟨rfl, hB1⟩)
      go_ret
      exact ⟨rfl, hB1⟩
end Go.Proofs.Ytknfkhackmnnaaa
