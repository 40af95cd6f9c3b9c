/- Whatever Decode returns without an error is a codeword within the correction limit; whatever Fill returns is a codeword that differs at erased positions only: for every input. -/
import Derived.Carry
import Derived.Test.YtjmeoeielbkkiaaBm
import Derived.Test.YtjmeoeielbkkiaaAw
import Derived.Test.YtjmeoeielbkkiaaRb
set_option linter.unusedVariables false
set_option linter.unusedSimpArgs false
namespace Go.Proofs.Ytjmeoeielbkkiaa
open Go.RowKit Go.Deep
def inEr (er : List Int) (k : Nat) (y : Int) : Bool := decide (y ∈ er.take k)
theorem inEr_zero (er : List Int) : inEr er 0 = fun _ => false := funext fun y => by simp [inEr]
theorem inEr_succ {er : List Int} {k : Nat} (h : k < er.length) : (fun y => if y = ci er k then true else inEr er k y) = inEr er (k + 1) := funext fun y => by
  unfold inEr
  rw [List.take_add_one, List.getElem?_eq_getElem h, ← ci_lt h]
  by_cases e : y = ci er k <;> simp [e]
theorem inEr_full (er : List Int) (y : Int) : inEr er er.length y = decide (y ∈ er) := by unfold inEr; rw [List.take_length]
set_option maxRecDepth 100000 in
set_option maxHeartbeats 1000000 in
theorem outside_any (x s : ByteArray) (er : List Int) (hxs : x.size = s.size) (hs : s.size ≤ 255) (w : World) (bw bm m n : Nat) (h1 : w.cell? ⟨bw, 0, none⟩ = some (.string s)) (h2 : w.cell? ⟨bm, 0, none⟩ = some (.map (some m))) (h3 : BM w m (inEr er er.length) n) :
    Calls Try.prog 27 #[.string x, .pointer (some ⟨bw, 0, none⟩), .pointer (some ⟨bm, 0, none⟩)] w fun e w' => Ret1 w (.int .i64 (outK (bl x) (bl s) er s.size : Nat)) e w' := by
  have hb1 : x.size ≤ s.size := by omega
  have hb2 : s.size ≤ x.size := by omega
  have hlb := World.block_lt_of_cell? w _ h1
  have hlm := World.block_lt_of_cell? w _ h2
  have hl3 := h3.lt
  have HX := Lib.hid hxs
  clear hxs
  go_enter Try.func27, Try.ntmps27
  go_wp2
  go_loopw [5, 9] (fun vo vi wr => ∃ k o : Nat, k ≤ s.size ∧ vi = .int .i64 k ∧ vo = .int .i64 o ∧ o ≤ k ∧ Hid (o = outK (bl x) (bl s) er k) ∧ Below w.heap.size w wr) (fun _ i _ => s.size - (intOf i).toNat)
  case atStart => exact ⟨0, 0, by omega, rfl, rfl, by omega, rfl, Below.refl _ _⟩
  case round =>
    obtain ⟨k, o, hk, rfl, rfl, ho, hoo, hB⟩ := hrel
    by_cases hlt : k < s.size
    · have hlt2 : k < x.size := by omega
      have ea := byte_at x k hlt2
      have eb := byte_at s k hlt
      have hi0 : (0 : Int) ≤ (k : Int) := by omega
      have hi1 : (k : Int) < (x.size : Int) := by omega
      have hi2 : (k : Int) < (s.size : Int) := by omega
      have hos := outK_succ (bl x) (bl s) er k
      have HB : Hid (∀ n, Below w.heap.size w (wr.drewN n)) := fun n => pw_below_drewN' hB n
      have hlk : ∀ n', (Instr.lookup 36 (.map (some m)) (.int .i64 (k : Int)) false).run Try.prog (wr.drewN n') = .ok (.bool (inEr er er.length k)) (wr.drewN n') := fun n' =>
        BM.look (n := n) (h3.below (HB.out n') hl3) (WalkArith.wf_i64 ⟨by omega, by omega⟩)
      have hc1 : ∀ n', (wr.drewN n').cell? ⟨bw, 0, none⟩ = some (.string s) := fun n' => ((HB.out n').cell (p := ⟨bw, 0, none⟩) hlb).trans h1
      have hc2 : ∀ n', (wr.drewN n').cell? ⟨bm, 0, none⟩ = some (.map (some m)) := fun n' => ((HB.out n').cell (p := ⟨bm, 0, none⟩) hlm).trans h2
      clear hB
      by_cases hm : (k : Int) ∈ er
      · have hin : inEr er er.length k = true := by rw [inEr_full]; exact decide_eq_true hm
        have hn : Hid (o = outK (bl x) (bl s) er (k + 1)) := by show _ = _; rw [hos, if_neg (fun h => h.2 hm)]; exact hoo.out
        rw [hin] at hlk
        clear hos hm hin
        go_wp2
        go_quiet (fail)
        clear ea eb hlk hc1 hc2
        go_wp2
        go_roundw
        case rel => exact ⟨k + 1, o, by omega, by go_num, rfl, by omega, hn, HB.out _⟩
        case measure => simp [intOf]; omega
      · have hin : inEr er er.length k = false := by rw [inEr_full]; exact decide_eq_false hm
        rw [hin] at hlk
        by_cases he : Gf.co (bl x) k = Gf.co (bl s) k
        · have hb1 : (((Gf.co (bl x) k).toNat : Int) == ((Gf.co (bl s) k).toNat : Int)) = true := by rw [he]; simp
          have hn : Hid (o = outK (bl x) (bl s) er (k + 1)) := by show _ = _; rw [hos, if_neg (fun h => h.1 he)]; exact hoo.out
          clear hos hm hin he
          go_wp2
          go_quiet (fail)
          clear ea eb hlk hc1 hc2
          go_wp2
          go_roundw
          case rel => exact ⟨k + 1, o, by omega, by go_num, rfl, by omega, hn, HB.out _⟩
          case measure => simp [intOf]; omega
        · have hb1 : (((Gf.co (bl x) k).toNat : Int) == ((Gf.co (bl s) k).toNat : Int)) = false := by rw [beq_eq_false_iff_ne]; exact fun e => he (u8_inj e)
          have hn : Hid (o + 1 = outK (bl x) (bl s) er (k + 1)) := by show _ = _; rw [hos, if_pos ⟨he, hm⟩, ← hoo.out]
          clear hos hm hin he
          go_wp2
          go_quiet (fail)
          clear ea eb hlk hc1 hc2
          go_wp2
          go_roundw
          case rel => exact ⟨k + 1, o + 1, by omega, by go_num, by go_num, by omega, hn, HB.out _⟩
          case measure => simp [intOf]; omega
    · have hkp : k = s.size := by omega
      have HK := Lib.hid hkp
      clear hkp
      go_wp2
      go_ret
      exact ⟨by rw [hoo.out, HK.out]; rfl, hB⟩
theorem outK_symm (a b : List UInt8) (er : List Int) (k : Nat) : outK a b er k = outK b a er k := by
  unfold outK
  congr 1
  refine List.filter_congr fun i _ => ?_
  congr 1
  rw [Bool.eq_iff_iff, decide_eq_true_eq, decide_eq_true_eq]
  exact ⟨fun h e => h e.symm, fun h e => h e.symm⟩
theorem difK_symm (a b : List UInt8) (k : Nat) : difK a b k = difK b a k := by
  unfold difK
  congr 1
  refine List.filter_congr fun i _ => ?_
  rw [Bool.eq_iff_iff, decide_eq_true_eq, decide_eq_true_eq]
  exact ⟨fun h e => h e.symm, fun h e => h e.symm⟩
/-- the boxes that the law's closure reads -/
def Boxes (w : World) (bw m : Nat) (s : ByteArray) (er : List Int) : Prop := w.cell? ⟨bw, 0, none⟩ = some (.string s) ∧ w.cell? ⟨m + 1, 0, none⟩ = some (.map (some m)) ∧ ∃ n, BM w m (inEr er er.length) n
theorem Boxes.next {w w' : World} {bw m : Nat} {s : ByteArray} {er : List Int} (h : Boxes w bw m s er) (hB : Below w.heap.size w w') : Boxes w' bw m s er := by
  obtain ⟨h1, h2, n, h3⟩ := h
  exact ⟨(hB.cell (p := ⟨bw, 0, none⟩) (World.block_lt_of_cell? w _ h1)).trans h1, (hB.cell (p := ⟨m + 1, 0, none⟩) (World.block_lt_of_cell? w _ h2)).trans h2, n, h3.below hB h3.lt⟩
theorem outside_boxes (x s : ByteArray) (er : List Int) (hxs : x.size = s.size) (hs : s.size ≤ 255) (w : World) (bw m : Nat) (h : Boxes w bw m s er) :
    Calls Try.prog 27 #[.string x, .pointer (some ⟨bw, 0, none⟩), .pointer (some ⟨m + 1, 0, none⟩)] w fun e w' => Ret1 w (.int .i64 (outK (bl x) (bl s) er s.size : Nat)) e w' := by
  obtain ⟨h1, h2, n, h3⟩ := h
  exact outside_any x s er hxs hs w bw (m + 1) m n h1 h2 h3
theorem outK_none {l c : List UInt8} {p : Nat} {er : List Int} (hP : posN l.length er er.length) (h : Fills l p er c) : outK c l er l.length = 0 := by
  rw [outK_symm, ← outs_outK hP, h.2.2]
  rfl
set_option maxRecDepth 100000 in
set_option maxHeartbeats 2000000 in
theorem law_sound (s : ByteArray) (p : Int) (er : List Int) (A : Option Addr) (c : Nat) (w : World) (hs : s.size ≤ 140737488351232) (hr : RdI w A er) (hwf : ∀ n ∈ er, (Lit.int .i64 n).wf = true) :
    Calls Try.prog 9 #[.string s, .int .i64 p, .slice A er.length c] w fun e w' => Ret1 w (.bool true) e w' := by
  have hmm := @run_makeMap Try.prog
  go_enter Try.func9, Try.ntmps9
  go_wp2_with fail
  refine (awake_any _).mono ?_
  rintro e w1 ⟨rfl, hB1⟩
  have hcw0 : w1.cell? ⟨w.heap.size, 0, none⟩ = some (.string s) := (hB1.cell (p := ⟨w.heap.size, 0, none⟩) (by rw [World.size_alloc]; exact Nat.lt_succ_self _)).trans (cell_new _ _ _)
  have hBa : Below w.heap.size w w1 := ((Below.refl _ _).alloc (Nat.le_refl _) _).trans (hB1.mono (by rw [World.size_alloc]; omega))
  have hz1 : w.heap.size < w1.heap.size := by have := hB1.size; rw [World.size_alloc] at this; omega
  clear hB1
  obtain ⟨bw, hbw⟩ : ∃ bw, bw = w.heap.size := ⟨_, rfl⟩
  rw [← hbw] at hcw0 hz1 ⊢
  have HBW : Hid (bw = w.heap.size) := hbw
  clear hbw
  by_cases hal : s.size ≤ 255
  · have hna : ¬ (255 : Int) < (s.size : Int) := by omega
    by_cases hel : er.length ≤ 20
    · have hne : ¬ (20 : Int) < (er.length : Int) := by omega
      go_wp2_with fail
      clear hmm
      have hM0 := (BM.made w1).alloc (.cells #[.map (some w1.heap.size)] 36)
      rw [← inEr_zero er] at hM0
      have hbm0 := cell_new (w1.alloc (.map #[] 0)) (.map (some w1.heap.size)) 36
      rw [World.size_alloc] at hbm0
      have hBb := (hBa.alloc hBa.size (.map #[] 0)).alloc (hBa.alloc hBa.size (.map #[] 0)).size (.cells #[.map (some w1.heap.size)] 36)
      have hcw1 : ((w1.alloc (.map #[] 0)).alloc (.cells #[.map (some w1.heap.size)] 36)).cell? ⟨bw, 0, none⟩ = some (.string s) := by
        rw [← hcw0]
        exact World.cell?_of_block ((Below.heap_alloc _ _ bw (by rw [World.size_alloc]; omega)).trans (Below.heap_alloc _ _ bw hz1))
      obtain ⟨m, hm⟩ : ∃ m, m = w1.heap.size := ⟨_, rfl⟩
      rw [← hm] at hM0 hbm0 hBb hcw1 hz1 ⊢
      generalize hw5 : (w1.alloc (.map #[] 0)).alloc (.cells #[.map (some m)] 36) = w5 at hM0 hbm0 hBb hcw1 ⊢
      have hwm : w.heap.size < m := by have := HBW.out; omega
      clear hw5 hm hcw0 hBa
      go_loopw [29] (fun vi wr => ∃ k : Nat, k ≤ er.length ∧ vi = .int .i64 k ∧ BM wr m (inEr er k) k ∧ wr.cell? ⟨m + 1, 0, none⟩ = some (.map (some m)) ∧ wr.cell? ⟨bw, 0, none⟩ = some (.string s) ∧ Below w.heap.size w wr) (fun i _ => er.length - (intOf i).toNat)
      case atStart => exact ⟨0, by omega, rfl, hM0, hbm0, hcw1, hBb⟩
      case round =>
        obtain ⟨k, hk, rfl, hM, hcm, hcw0, hB⟩ := hrel
        clear hM0 hbm0 hcw1 hBb
        by_cases hlt : k < er.length
        · obtain ⟨ba, oa, rfl, hba, hrr⟩ := hr (by omega)
          have hck := (hB.cell (p := ⟨ba, oa + k, none⟩) hba).trans (hrr k hlt)
          have hwk := hwf (ci er k) (by rw [ci_lt hlt]; exact List.getElem_mem _)
          have HWK := Lib.hid hwk
          have hsz := hB.size
          clear hrr hwk
          go_wp2_with (at_mapUpdate; refine wpList_bm_store rfl _ _ _ rfl m k (inEr er k) rfl hM (by omega) (ci er k) rfl HWK.out true rfl ?_; intro w6 hM6 hg6)
          rw [inEr_succ hlt] at hM6
          have hB6 := below_grownAt hB hg6 (by omega) hsz
          have hcm6 := (hg6.cell_far ⟨m + 1, 0, none⟩ (World.block_lt_of_cell? wr _ hcm) (by simp)).trans hcm
          have hcw6 := (hg6.cell_far ⟨bw, 0, none⟩ (World.block_lt_of_cell? wr _ hcw0) (by simp; omega)).trans hcw0
          clear hck hM hcm hcw0 hB
          go_wp2_with fail
          go_roundw
          case rel => exact ⟨k + 1, by omega, by go_num, hM6, hcm6, hcw6, hB6⟩
          case measure => simp [intOf]; omega
        · have hkp : k = er.length := by omega
          rw [hkp] at hM
          have hwf2 := Lib.hid hwf
          clear hwf
          go_wp2_with fail
          have HB0 := Lib.hid hB
          have HBX0 : Hid (Boxes wr bw m s er) := ⟨hcw0, hcm, _, hM⟩
          by_cases hsh0 : shp s.size p = true
          · obtain ⟨q, rfl⟩ : ∃ q : Nat, p = q := Int.eq_ofNat_of_zero_le (by have := shp_true hsh0; omega)
            obtain ⟨g1, g2, g3, g4, g5⟩ := shp_true hsh0
            have hsh := Lib.hid hsh0
            clear hsh0 hM hcm hcw0
            refine (fill_yes s q er A c hsh.out (by omega) wr (hr.below (Nat.le_refl _) hB)).mono ?_
            rintro e w8 ⟨hB8, ⟨hn, rfl⟩ | ⟨hPn, hle, cw, hcw, rfl⟩ | ⟨hPn, hn, rfl⟩⟩
            · have HBX := Lib.hid (HBX0.out.next hB8)
              have HBD := Lib.hid (HB0.out.trans (hB8.mono HB0.out.size))
              have h0 : (str []).toList.isEmpty = true := by rw [ByteArray.toList_eq]; rfl
              clear hB hB8 hn
              have hcw8 := HBX.out.1
              have hdc := decode_yes s q er A c hsh.out (by omega) _ (hr.below (Nat.le_refl _) HBD.out)
              have HDC := Lib.hid hdc
              clear hdc
              go_wp2_with fail
              refine HDC.out.mono ?_
              rintro e w9 ⟨hB9, ⟨hn, rfl⟩ | ⟨hPn2, cw9, hcw9, rfl⟩ | ⟨hPn2, hn, rfl⟩⟩
              · have hB10 := HBD.out.trans (hB9.mono HBD.out.size)
                have h0 : (str []).toList.isEmpty = true := by rw [ByteArray.toList_eq]; rfl
                clear hn hB9 hcw8
                go_wp2_with fail
                go_ret
                exact ⟨rfl, hB10⟩
              · have hB10 := HBD.out.trans (hB9.mono HBD.out.size)
                have hBX9 := HBX.out.next hB9
                have hcl9 : (str cw9).size = s.size := by rw [str_size, hcw9.1, bl_length]
                have hdf : ∀ W, Calls Try.prog 22 #[.string (str cw9), .string s] W fun e w' => Ret1 W (.int .i64 (Gf.difs (bl s) cw9 : Nat)) e w' := fun W => by
                  have := differ_any (str cw9) s hcl9 (by omega) W
                  rwa [hcl9, bl_str, difK_symm, show difK (bl s) cw9 s.size = Gf.difs (bl s) cw9 from by unfold Gf.difs difK; rw [bl_length]] at this
                have HDF := Lib.hid hdf
                have hou : 2 * outK cw9 (bl s) er s.size + er.length ≤ q := by
                  have h8 := hcw9.2.2
                  rw [outs_outK (by rw [bl_length]; exact hPn2), erN_length, bl_length, outK_symm] at h8
                  exact h8
                have hv9 : Hid (vld (str cw9) q = true) := (vld_iff _ _).2 ⟨by rw [hcl9]; exact hsh.out, by rw [bl_str]; exact hcw9.2.1⟩
                have hot : ∀ W, Boxes W bw m s er → Calls Try.prog 27 #[.string (str cw9), .pointer (some ⟨bw, 0, none⟩), .pointer (some ⟨m + 1, 0, none⟩)] W fun e w' => Ret1 W (.int .i64 (outK cw9 (bl s) er s.size : Nat)) e w' := fun W hW => outside_boxes (str cw9) s er hcl9 (by omega) W bw m hW
                have HOT := Lib.hid hot
                generalize outK cw9 (bl s) er s.size = ok at hou HOT
                generalize Gf.difs (bl s) cw9 = df at HDF ⊢
                generalize str cw9 = X9 at hcl9 hv9 HDF HOT ⊢
                have hcw10 := hBX9.1
                have HBX9 := Lib.hid hBX9
                have HB10 := Lib.hid hB10
                clear hcw9 hdf hot hB9 hBX9 hB10 hcw8
                go_wp2_with fail
                refine (valid_any _ _ _).mono ?_
                rintro e w10 ⟨rfl, hB11⟩
                rw [hv9.out]
                have HBX10 := Lib.hid (HBX9.out.next hB11)
                have HB12 := Lib.hid (HB10.out.trans (hB11.mono HB10.out.size))
                have hcw11 := HBX10.out.1
                clear hcw10 hB11
                go_wp2_with fail
                refine (HOT.out _ HBX10.out).mono ?_
                rintro e w11 ⟨rfl, hB13⟩
                have HBX11 := Lib.hid (HBX10.out.next hB13)
                have HB14 := Lib.hid (HB12.out.trans (hB13.mono HB12.out.size))
                have hcw12 := HBX11.out.1
                clear hcw11 hB13
                go_wp2_with fail
                refine (HDF.out _).mono ?_
                rintro e w12 ⟨rfl, hB15⟩
                clear hcw12
                go_wp2_with fail
                go_ret
                exact ⟨rfl, HB14.out.trans (hB15.mono HB14.out.size)⟩
              · have hB10 := HBD.out.trans (hB9.mono HBD.out.size)
                have h0 : (str []).toList.isEmpty = true := by rw [ByteArray.toList_eq]; rfl
                clear hn hB9 hcw8
                go_wp2_with fail
                go_ret
                exact ⟨rfl, hB10⟩
            · have hcl : (str cw).size = s.size := by rw [str_size, hcw.1, bl_length]
              have hv : Hid (vld (str cw) q = true) := (vld_iff _ _).2 ⟨by rw [hcl]; exact hsh.out, by rw [bl_str]; exact hcw.2.1⟩
              have HBX8 := Lib.hid (HBX0.out.next hB8)
              have HBD8 := Lib.hid (HB0.out.trans (hB8.mono HB0.out.size))
              have hcw8 := HBX8.out.1
              have hot8 : ∀ W, Boxes W bw m s er → Calls Try.prog 27 #[.string (str cw), .pointer (some ⟨bw, 0, none⟩), .pointer (some ⟨m + 1, 0, none⟩)] W fun e w' => Ret1 W (.int .i64 0) e w' := fun W hW => by
                have := outside_boxes (str cw) s er hcl (by omega) W bw m hW
                have h9 := outK_none (by rw [bl_length]; exact hPn) hcw
                rw [bl_length] at h9
                rwa [bl_str, h9] at this
              have HOT8 := Lib.hid hot8
              generalize str cw = X8 at hcl hv HOT8 ⊢
              clear hcw hot8 hB hB8
              go_wp2_with fail
              refine (valid_any _ _ _).mono ?_
              rintro e w8' ⟨rfl, hB11⟩
              rw [hv.out]
              have HBX82 := Lib.hid (HBX8.out.next hB11)
              have HBD82 := Lib.hid (HBD8.out.trans (hB11.mono HBD8.out.size))
              clear hB11 hcw8
              go_wp2_with fail
              refine (HOT8.out _ HBX82.out).mono ?_
              rintro e w83 ⟨rfl, hB13⟩
              have HBX := Lib.hid (HBX82.out.next hB13)
              have HBD := Lib.hid (HBD82.out.trans (hB13.mono HBD82.out.size))
              clear hB13
              have hcw8 := HBX.out.1
              have hdc := decode_yes s q er A c hsh.out (by omega) _ (hr.below (Nat.le_refl _) HBD.out)
              have HDC := Lib.hid hdc
              clear hdc
              go_wp2_with fail
              refine HDC.out.mono ?_
              rintro e w9 ⟨hB9, ⟨hn, rfl⟩ | ⟨hPn2, cw9, hcw9, rfl⟩ | ⟨hPn2, hn, rfl⟩⟩
              · have hB10 := HBD.out.trans (hB9.mono HBD.out.size)
                have h0 : (str []).toList.isEmpty = true := by rw [ByteArray.toList_eq]; rfl
                clear hn hB9 hcw8
                go_wp2_with fail
                go_ret
                exact ⟨rfl, hB10⟩
              · have hB10 := HBD.out.trans (hB9.mono HBD.out.size)
                have hBX9 := HBX.out.next hB9
                have hcl9 : (str cw9).size = s.size := by rw [str_size, hcw9.1, bl_length]
                have hdf : ∀ W, Calls Try.prog 22 #[.string (str cw9), .string s] W fun e w' => Ret1 W (.int .i64 (Gf.difs (bl s) cw9 : Nat)) e w' := fun W => by
                  have := differ_any (str cw9) s hcl9 (by omega) W
                  rwa [hcl9, bl_str, difK_symm, show difK (bl s) cw9 s.size = Gf.difs (bl s) cw9 from by unfold Gf.difs difK; rw [bl_length]] at this
                have HDF := Lib.hid hdf
                have hou : 2 * outK cw9 (bl s) er s.size + er.length ≤ q := by
                  have h8 := hcw9.2.2
                  rw [outs_outK (by rw [bl_length]; exact hPn2), erN_length, bl_length, outK_symm] at h8
                  exact h8
                have hv9 : Hid (vld (str cw9) q = true) := (vld_iff _ _).2 ⟨by rw [hcl9]; exact hsh.out, by rw [bl_str]; exact hcw9.2.1⟩
                have hot : ∀ W, Boxes W bw m s er → Calls Try.prog 27 #[.string (str cw9), .pointer (some ⟨bw, 0, none⟩), .pointer (some ⟨m + 1, 0, none⟩)] W fun e w' => Ret1 W (.int .i64 (outK cw9 (bl s) er s.size : Nat)) e w' := fun W hW => outside_boxes (str cw9) s er hcl9 (by omega) W bw m hW
                have HOT := Lib.hid hot
                generalize outK cw9 (bl s) er s.size = ok at hou HOT
                generalize Gf.difs (bl s) cw9 = df at HDF ⊢
                generalize str cw9 = X9 at hcl9 hv9 HDF HOT ⊢
                have hcw10 := hBX9.1
                have HBX9 := Lib.hid hBX9
                have HB10 := Lib.hid hB10
                clear hcw9 hdf hot hB9 hBX9 hB10 hcw8
                go_wp2_with fail
                refine (valid_any _ _ _).mono ?_
                rintro e w10 ⟨rfl, hB11⟩
                rw [hv9.out]
                have HBX10 := Lib.hid (HBX9.out.next hB11)
                have HB12 := Lib.hid (HB10.out.trans (hB11.mono HB10.out.size))
                have hcw11 := HBX10.out.1
                clear hcw10 hB11
                go_wp2_with fail
                refine (HOT.out _ HBX10.out).mono ?_
                rintro e w11 ⟨rfl, hB13⟩
                have HBX11 := Lib.hid (HBX10.out.next hB13)
                have HB14 := Lib.hid (HB12.out.trans (hB13.mono HB12.out.size))
                have hcw12 := HBX11.out.1
                clear hcw11 hB13
                go_wp2_with fail
                refine (HDF.out _).mono ?_
                rintro e w12 ⟨rfl, hB15⟩
                clear hcw12
                go_wp2_with fail
                go_ret
                exact ⟨rfl, HB14.out.trans (hB15.mono HB14.out.size)⟩
              · have hB10 := HBD.out.trans (hB9.mono HBD.out.size)
                have h0 : (str []).toList.isEmpty = true := by rw [ByteArray.toList_eq]; rfl
                clear hn hB9 hcw8
                go_wp2_with fail
                go_ret
                exact ⟨rfl, hB10⟩
            · have HBX := Lib.hid (HBX0.out.next hB8)
              have HBD := Lib.hid (HB0.out.trans (hB8.mono HB0.out.size))
              have h0 : (str []).toList.isEmpty = true := by rw [ByteArray.toList_eq]; rfl
              clear hB hB8 hn
              have hcw8 := HBX.out.1
              have hdc := decode_yes s q er A c hsh.out (by omega) _ (hr.below (Nat.le_refl _) HBD.out)
              have HDC := Lib.hid hdc
              clear hdc
              go_wp2_with fail
              refine HDC.out.mono ?_
              rintro e w9 ⟨hB9, ⟨hn, rfl⟩ | ⟨hPn2, cw9, hcw9, rfl⟩ | ⟨hPn2, hn, rfl⟩⟩
              · have hB10 := HBD.out.trans (hB9.mono HBD.out.size)
                have h0 : (str []).toList.isEmpty = true := by rw [ByteArray.toList_eq]; rfl
                clear hn hB9 hcw8
                go_wp2_with fail
                go_ret
                exact ⟨rfl, hB10⟩
              · have hB10 := HBD.out.trans (hB9.mono HBD.out.size)
                have hBX9 := HBX.out.next hB9
                have hcl9 : (str cw9).size = s.size := by rw [str_size, hcw9.1, bl_length]
                have hdf : ∀ W, Calls Try.prog 22 #[.string (str cw9), .string s] W fun e w' => Ret1 W (.int .i64 (Gf.difs (bl s) cw9 : Nat)) e w' := fun W => by
                  have := differ_any (str cw9) s hcl9 (by omega) W
                  rwa [hcl9, bl_str, difK_symm, show difK (bl s) cw9 s.size = Gf.difs (bl s) cw9 from by unfold Gf.difs difK; rw [bl_length]] at this
                have HDF := Lib.hid hdf
                have hou : 2 * outK cw9 (bl s) er s.size + er.length ≤ q := by
                  have h8 := hcw9.2.2
                  rw [outs_outK (by rw [bl_length]; exact hPn2), erN_length, bl_length, outK_symm] at h8
                  exact h8
                have hv9 : Hid (vld (str cw9) q = true) := (vld_iff _ _).2 ⟨by rw [hcl9]; exact hsh.out, by rw [bl_str]; exact hcw9.2.1⟩
                have hot : ∀ W, Boxes W bw m s er → Calls Try.prog 27 #[.string (str cw9), .pointer (some ⟨bw, 0, none⟩), .pointer (some ⟨m + 1, 0, none⟩)] W fun e w' => Ret1 W (.int .i64 (outK cw9 (bl s) er s.size : Nat)) e w' := fun W hW => outside_boxes (str cw9) s er hcl9 (by omega) W bw m hW
                have HOT := Lib.hid hot
                generalize outK cw9 (bl s) er s.size = ok at hou HOT
                generalize Gf.difs (bl s) cw9 = df at HDF ⊢
                generalize str cw9 = X9 at hcl9 hv9 HDF HOT ⊢
                have hcw10 := hBX9.1
                have HBX9 := Lib.hid hBX9
                have HB10 := Lib.hid hB10
                clear hcw9 hdf hot hB9 hBX9 hB10 hcw8
                go_wp2_with fail
                refine (valid_any _ _ _).mono ?_
                rintro e w10 ⟨rfl, hB11⟩
                rw [hv9.out]
                have HBX10 := Lib.hid (HBX9.out.next hB11)
                have HB12 := Lib.hid (HB10.out.trans (hB11.mono HB10.out.size))
                have hcw11 := HBX10.out.1
                clear hcw10 hB11
                go_wp2_with fail
                refine (HOT.out _ HBX10.out).mono ?_
                rintro e w11 ⟨rfl, hB13⟩
                have HBX11 := Lib.hid (HBX10.out.next hB13)
                have HB14 := Lib.hid (HB12.out.trans (hB13.mono HB12.out.size))
                have hcw12 := HBX11.out.1
                clear hcw11 hB13
                go_wp2_with fail
                refine (HDF.out _).mono ?_
                rintro e w12 ⟨rfl, hB15⟩
                clear hcw12
                go_wp2_with fail
                go_ret
                exact ⟨rfl, HB14.out.trans (hB15.mono HB14.out.size)⟩
              · have hB10 := HBD.out.trans (hB9.mono HBD.out.size)
                have h0 : (str []).toList.isEmpty = true := by rw [ByteArray.toList_eq]; rfl
                clear hn hB9 hcw8
                go_wp2_with fail
                go_ret
                exact ⟨rfl, hB10⟩
          · have hsh1 : shp s.size p = false := by simpa using hsh0
            have hsh := Lib.hid hsh1
            clear hsh0 hsh1
            refine (fill_no s p A er.length c hsh.out _).mono ?_
            rintro e w8 ⟨rfl, rfl⟩
            have h0 : (str []).toList.isEmpty = true := by rw [ByteArray.toList_eq]; rfl
            clear hM hcm hB
            go_wp2_with fail
            refine (decode_no s p A er.length c hsh.out _).mono ?_
            rintro e w9 ⟨rfl, rfl⟩
            go_wp2_with fail
            go_ret
            exact ⟨rfl, HB0.out⟩
    · go_wp2_with fail
      go_ret
      exact ⟨rfl, hBa⟩
  · go_wp2_with fail
    go_ret
    exact ⟨rfl, hBa⟩
end Go.Proofs.Ytjmeoeielbkkiaa
