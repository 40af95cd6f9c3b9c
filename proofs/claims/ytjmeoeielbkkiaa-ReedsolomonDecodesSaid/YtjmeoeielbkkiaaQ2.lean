import Derived.Test.YtjmeoeielbkkiaaQ1
set_option maxRecDepth 100000
set_option linter.unusedVariables false
set_option linter.unusedSimpArgs false
namespace Go.Proofs.Ytjmeoeielbkkiaa
open Go.RowKit Go.Deep
/-! the words of the definitions -/
theorem hor_step (l : List UInt8) (x : UInt8) (k : Nat) (h : k < l.length) : Gf.hor (l.take (k + 1)) x = Gf.mul (Gf.hor (l.take k) x) x ^^^ Gf.co l k := by
  rw [List.take_add_one, List.getElem?_eq_getElem h, Option.toList_some, Gf.hor_snoc, Gf.co_lt h]
set_option maxRecDepth 100000 in
set_option maxHeartbeats 1000000 in
theorem evalr_any (l : List UInt8) (x : UInt8) (hl : l.length ≤ 100000) (b off c : Nat) (w : World) (h : Rd w b off l) (hb : b < w.heap.size) :
    Calls Try.prog 37 #[.slice (some ⟨b, off, none⟩) l.length c, B x] w fun e w' => Ret1 w (B (Gf.hor l x)) e w' := by
  go_enter Try.func37, Try.ntmps37
  go_wp2
  go_loopw [5, 6] (fun o i wr => ∃ k : Nat, k ≤ l.length ∧ i = .int .i64 k ∧ o = B (Gf.hor (l.take k) x) ∧ Below w.heap.size w wr) (fun _ i _ => l.length - (intOf i).toNat)
  case atStart => exact ⟨0, by omega, rfl, rfl, Below.refl _ _⟩
  case round =>
    obtain ⟨k, hk, rfl, rfl, hB⟩ := hrel
    by_cases hlt : k < l.length
    · have hc := (h.below hB hb) k hlt
      have HX := Lib.hid (hor_step l x k hlt)
      obtain ⟨o, ho⟩ : ∃ o, o = Gf.hor (l.take k) x := ⟨_, rfl⟩
      rw [← ho]
      have HO := Lib.hid ho
      have hi0 : (0 : Int) ≤ (k : Int) := by omega
      have hi1 : (k : Int) < (l.length : Int) := by omega
      clear ho
      go_wp2
      have hc' : wr.drew.cell? ⟨b, off + k, none⟩ = _ := hc
      have hB' : Below w.heap.size w wr.drew := hB.drew
      clear hc hB
      refine wp_region_still_tail 8 (by kernel_rfl) (by kernel_rfl) ?_
      simp only [List.take_succ_cons, List.take_zero, List.drop_succ_cons, List.drop_zero]
      change wpStill _ _ wr.drew (fun a' => wpList _ _ _ _ a' wr.drew) _ _
      generalize wr.drew = w9 at hc' hB' ⊢
      repeat (first | still_step | still_call (still_of (mulr_any _ _ _)))
      refine wpStill_nil ?_
      clear hi0 hi1
      go_wp2
      go_roundw
      case rel => exact ⟨k + 1, by omega, by go_num, by rw [HX.out, ← HO.out, b_xor], hB'⟩
      case measure => simp [intOf]; omega
    · have HK : Hid (k = l.length) := by show _ = _; omega
      go_wp2
      go_ret
      exact ⟨by rw [show l.take k = l from by rw [HK.out, List.take_length]]; rfl, hB⟩
set_option maxRecDepth 100000 in
theorem fits_any (s : ByteArray) (p : Int) (w : World) : Calls Try.prog 36 #[.string s, .int .i64 p] w fun e w' => e = .returned (.bool (shp s.size p)) ∧ w = w' := by
  by_cases h1 : 2 ≤ (s.size : Int)
  · by_cases h2 : (s.size : Int) ≤ 255
    · by_cases h3 : 1 ≤ p
      · by_cases h4 : p ≤ 16
        · by_cases h5 : p < (s.size : Int)
          · have hs : Hid (shp s.size p = true) := by show _ = _; unfold shp; exact decide_eq_true ⟨by omega, by omega, h3, h4, h5⟩
            go_enter Try.func36, Try.ntmps36
            go_wp2
            go_ret
            exact ⟨by rw [hs.out]; rfl, rfl⟩
          · have hs : Hid (shp s.size p = false) := by show _ = _; unfold shp; exact decide_eq_false fun h => h5 h.2.2.2.2
            go_enter Try.func36, Try.ntmps36
            go_wp2
            go_ret
            exact ⟨by rw [hs.out]; rfl, rfl⟩
        · have hs : Hid (shp s.size p = false) := by show _ = _; unfold shp; exact decide_eq_false fun h => h4 h.2.2.2.1
          go_enter Try.func36, Try.ntmps36
          go_wp2
          go_ret
          exact ⟨by rw [hs.out]; rfl, rfl⟩
      · have hs : Hid (shp s.size p = false) := by show _ = _; unfold shp; exact decide_eq_false fun h => h3 h.2.2.1
        go_enter Try.func36, Try.ntmps36
        go_wp2
        go_ret
        exact ⟨by rw [hs.out]; rfl, rfl⟩
    · have hs : Hid (shp s.size p = false) := by show _ = _; unfold shp; exact decide_eq_false fun h => h2 (by have := h.2.1; omega)
      go_enter Try.func36, Try.ntmps36
      go_wp2
      go_ret
      exact ⟨by rw [hs.out]; rfl, rfl⟩
  · have hs : Hid (shp s.size p = false) := by show _ = _; unfold shp; exact decide_eq_false fun h => h1 (by have := h.1; omega)
    go_enter Try.func36, Try.ntmps36
    go_wp2
    go_ret
    exact ⟨by rw [hs.out]; rfl, rfl⟩
set_option maxRecDepth 100000 in
set_option maxHeartbeats 1000000 in
theorem zeror_any (p : List UInt8) (hpl : p.length ≤ 100000) (hp : 0 < p.length) (bp op cp : Nat) (w : World) (h1 : Rd w bp op p) :
    Calls Try.prog 40 #[.slice (some ⟨bp, op, none⟩) p.length cp] w fun e w' => e = .returned (.bool (zeroL p)) ∧ w = w' := by
  go_enter Try.func40, Try.ntmps40
  go_wp2
  go_loop [3] (fun i => ∃ k : Nat, k ≤ p.length ∧ i = .int .i64 k ∧ Hid (∀ j, j < k → Gf.co p j = 0)) (fun i => p.length - (intOf i).toNat)
  case atStart => exact ⟨0, by omega, rfl, fun j hj => by omega⟩
  case round =>
    obtain ⟨k, hk, rfl, hz⟩ := hrel
    by_cases hlt : k < p.length
    · have hc := h1 k hlt
      by_cases h0 : Gf.co p k = 0
      · have h2 : ((Gf.co p k).toNat == 0) = true := by rw [h0]; rfl
        have h3 : (((Gf.co p k).toNat : Int) == 0) = true := by rw [h0]; rfl
        have H0 := Lib.hid h0
        clear h0
        go_wp2
        go_round
        case rel => exact ⟨k + 1, by omega, by go_num, fun j hj => by
          rcases Nat.lt_or_ge j k with h | h
          · exact hz.out j h
          · obtain rfl : j = k := by omega
            exact H0.out⟩
        case measure => simp [intOf]; omega
      · have h2 : ((Gf.co p k).toNat == 0) = false := by rw [beq_eq_false_iff_ne]; exact fun e => h0 (UInt8.toNat_inj.1 e)
        have h3 : (((Gf.co p k).toNat : Int) == 0) = false := by rw [beq_eq_false_iff_ne]; exact fun e => h0 (u8_inj e)
        have hf : Hid (zeroL p = false) := by
          show _ = _
          rw [← Bool.not_eq_true]
          exact fun h => h0 ((zeroL_iff p).1 h k hlt)
        clear h0
        go_wp2
        go_ret
        exact ⟨by rw [hf.out]; rfl, rfl⟩
    · have HK : Hid (k = p.length) := by show _ = _; omega
      have hf : Hid (zeroL p = true) := (zeroL_iff p).2 fun j hj => hz.out j (by rw [HK.out]; exact hj)
      go_wp2
      go_ret
      exact ⟨by rw [hf.out]; rfl, rfl⟩
theorem syn_succ (l : List UInt8) (k : Nat) : syn l (k + 1) = syn l k ++ [Gf.hor l (Gf.al k)] := by simp [syn, List.range_succ]
/-- a row that can be read is handed back -/
def RetRd (w : World) (l : List UInt8) (v : Value) (e : Ending) (w' : World) : Prop :=
  ∃ b c, e = .returned (.tuple #[.slice (some ⟨b, 0, none⟩) l.length c, v]) ∧ Rd w' b 0 l ∧ b < w'.heap.size ∧ Below w.heap.size w w'
set_option maxRecDepth 100000 in
theorem synr_no (s : ByteArray) (p : Int) (h : shp s.size p = false) (w : World) : Calls Try.prog 15 #[.string s, .int .i64 p] w fun e w' => e = .returned (.tuple #[.slice none 0 0, .int .i64 1]) ∧ w = w' := by
  go_enter Try.func15, Try.ntmps15
  go_wp2_with (go_at_call 36; refine (fits_any _ _ _).mono ?_; rintro e w' ⟨rfl, rfl⟩)
  go_ret2
  exact ⟨rfl, rfl⟩
set_option maxRecDepth 100000 in
set_option maxHeartbeats 1000000 in
theorem synr_yes (s : ByteArray) (p : Nat) (h : shp s.size p = true) (w : World) : Calls Try.prog 15 #[.string s, .int .i64 (p : Int)] w fun e w' => RetRd w (syn (bl s) p) (.int .i64 0) e w' := by
  obtain ⟨h1, h2, h3, h4, h5⟩ := shp_true h
  have H := Lib.hid h
  have kb := conv_bytes s
  have HL := Lib.hid (bl_length s)
  clear h
  go_enter Try.func15, Try.ntmps15
  go_wp2_with fail
  refine (fits_any _ _ _).mono ?_
  rintro e w' ⟨rfl, rfl⟩
  rw [H.out]
  go_wp2_with fail
  go_loopw [6, 7] (fun x i wr => ∃ k g c : Nat, k ≤ p ∧ i = .int .i64 k ∧ x = .slice (some ⟨g, 0, none⟩) k c ∧ g < wr.heap.size ∧ Ob wr w.heap.size x (syn (bl s) k) ∧ Below w.heap.size w wr) (fun _ i _ => p - (intOf i).toNat)
  case atStart => exact ⟨0, _, 0, by omega, rfl, rfl, by rw [World.size_alloc]; exact Nat.lt_succ_self _, Ob.empty (Nat.le_refl _), (Below.refl _ _).alloc (Nat.le_refl _) _⟩
  case round =>
    obtain ⟨k, g, c, hk, rfl, rfl, hg, hOb, hB⟩ := hrel
    by_cases hlt : k < p
    · have hsz := hB.size
      have hbw := bytesWorld_row wr s
      have hbb := bytesWorld_below wr s
      have hbz := Lib.bytesWorld_size wr 5 s
      generalize hW0 : Lib.bytesWorld wr 5 s = W0 at hbw hbb hbz
      have HW0 := Lib.hid hW0
      have hOb0 := hOb.below hbb
      have hB0 := hB.trans (hbb.mono hsz)
      have hlt0 : wr.heap.size < W0.heap.size := by omega
      have HX := Lib.hid (syn_succ (bl s) k)
      clear hW0 hbz hOb hB hbb
      go_wp2_with (go_at_call 38; refine (expr_any k (by omega) _).mono ?_; rintro e w' ⟨rfl, rfl⟩)
      rw [HW0.out]
      have hev := evalr_any (bl s) (Gf.al k) (by rw [HL.out]; omega) wr.heap.size 0 (grownCap wr s.size 0 5) W0 hbw.rd hlt0
      rw [HL.out] at hev
      refine hev.mono ?_
      rintro e w2 ⟨rfl, hB2⟩
      have hOb2 := hOb0.below hB2
      have hB3 := hB0.trans (hB2.mono hB0.size)
      have HB3 := Lib.hid hB3
      have HO2 := Lib.hid hOb2
      have hsz3 := hB3.size
      clear hev hbw hB0 hB2 hOb0 hOb2 hB3
      go_wp2_with (at_builtin; refine wpList_app1 26 Try.underlying26 rfl _ _ rfl w.heap.size g k c (syn (bl s) k) rfl (HO2.out.alloc _) (by rw [syn_length]) _ _ (Gf.hor (bl s) (Gf.al k)) rfl (cell_new _ _ _) (by omega) (by rw [World.size_alloc]; omega) ?_; intro g2 c2 w4 hO4 hK4 _)
      have hB4 := hK4 _ _ (HB3.out.alloc hsz3 _) (Nat.le_refl _)
      have hg4 : g2 < w4.heap.size := (hO4.ltAt (by rw [List.length_append, syn_length]; rfl) (by omega)).1
      clear hK4
      go_wp2
      go_roundw
      case rel => exact ⟨k + 1, g2, c2, by omega, by go_num, rfl, hg4, by rw [HX.out]; exact hO4, hB4⟩
      case measure => simp [intOf]; omega
    · have hkp : k = p := by omega
      subst hkp
      go_wp2
      go_ret2
      exact ⟨g, c, by rw [syn_length]; rfl, hOb.rdAt (by rw [syn_length]), hg, hB⟩
set_option maxRecDepth 100000 in
theorem validr_any (s : ByteArray) (p : Int) (w : World) : Calls Try.prog 18 #[.string s, .int .i64 p] w fun e w' => Ret1 w (.bool (vld s p)) e w' := by
  by_cases h : shp s.size p = true
  · obtain ⟨q, rfl⟩ : ∃ q : Nat, p = q := Int.eq_ofNat_of_zero_le (by have := shp_true h; omega)
    obtain ⟨h1, h2, h3, h4, h5⟩ := shp_true h
    have H := Lib.hid h
    have hv : Hid (zeroL (syn (bl s) q) = vld s q) := by
      show _ = _
      unfold vld
      rw [h]
      simp
    clear h
    go_enter Try.func18, Try.ntmps18
    go_wp2_with fail
    refine (synr_yes s q H.out _).mono ?_
    rintro e w1 ⟨b, c, rfl, hR, hb, hB⟩
    have hz := zeror_any (syn (bl s) q) (by rw [syn_length]; omega) (by rw [syn_length]; omega) b 0 c w1 hR
    have HZ := Lib.hid hz
    clear hz
    go_wp2_with (go_at_call 40; refine HZ.out.mono ?_; rintro e w' ⟨rfl, rfl⟩)
    go_ret
    exact ⟨by rw [← hv.out]; rfl, hB⟩
  · have h2 : shp s.size p = false := by simpa using h
    have hv : Hid (vld s p = false) := by
      show _ = _
      unfold vld
      rw [h2]
      rfl
    have H := Lib.hid h2
    clear h h2
    go_enter Try.func18, Try.ntmps18
    go_wp2_with (go_at_call 15; refine (synr_no s p H.out _).mono ?_; rintro e w' ⟨rfl, rfl⟩)
    go_ret
    exact ⟨by rw [hv.out]; rfl, Below.refl _ _⟩
end Go.Proofs.Ytjmeoeielbkkiaa
