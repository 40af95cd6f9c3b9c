import Derived.Deep.RegionHeld3
import Derived.Test.YtknfkhackmnnaaaS7
set_option maxRecDepth 100000
set_option linter.unusedVariables false
set_option linter.unusedSimpArgs false
namespace Go.Proofs.Ytknfkhackmnnaaa
open Go.RowKit Go.Deep
/-- the word repaired from an index on -/
def repFrom (w psi om : List UInt8) (m : Nat) : List UInt8 := (List.range w.length).map fun i => if m ≤ i then Gf.repAt w psi om i else Gf.co w i
theorem repFrom_length (w psi om : List UInt8) (m : Nat) : (repFrom w psi om m).length = w.length := by simp [repFrom]
theorem co_repFrom (w psi om : List UInt8) (m i : Nat) (h : i < w.length) : Gf.co (repFrom w psi om m) i = if m ≤ i then Gf.repAt w psi om i else Gf.co w i := by
  rw [Gf.co_lt (by rw [repFrom_length]; exact h)]; simp [repFrom]
theorem repFrom_start (w psi om : List UInt8) : repFrom w psi om w.length = w := by
  refine Gf.co_ext (repFrom_length _ _ _ _) fun i hi => ?_
  rw [repFrom_length] at hi
  rw [co_repFrom _ _ _ _ _ hi, if_neg (by omega)]
theorem repFrom_zero (w psi om : List UInt8) : repFrom w psi om 0 = Gf.rep w psi om := by
  refine Gf.co_ext (by rw [repFrom_length, Gf.rep_length]) fun i hi => ?_
  rw [repFrom_length] at hi
  rw [co_repFrom _ _ _ _ _ hi, if_pos (Nat.zero_le _), Gf.co_rep hi]
theorem repFrom_set (w psi om : List UInt8) (i : Nat) (h : i < w.length) : (repFrom w psi om (i + 1)).set i (Gf.repAt w psi om i) = repFrom w psi om i := by
  refine Gf.co_ext (by rw [List.length_set, repFrom_length, repFrom_length]) fun j hj => ?_
  rw [List.length_set, repFrom_length] at hj
  rw [Gf.co_set (by rw [repFrom_length]; exact h), co_repFrom _ _ _ _ _ hj, co_repFrom _ _ _ _ _ hj]
  by_cases e : j = i
  · subst e; rw [if_pos rfl, if_pos (Nat.le_refl _)]
  · rw [if_neg e]
    by_cases h2 : i + 1 ≤ j
    · rw [if_pos h2, if_pos (show i ≤ j by omega)]
    · rw [if_neg h2, if_neg (show ¬ i ≤ j by omega)]
theorem repFrom_same (w psi om : List UInt8) (i : Nat) (h : i < w.length) (hz : Gf.evl psi (Gf.ix w.length i) ≠ 0) : repFrom w psi om (i + 1) = repFrom w psi om i := by
  refine Gf.co_ext (by rw [repFrom_length, repFrom_length]) fun j hj => ?_
  rw [repFrom_length] at hj
  rw [co_repFrom _ _ _ _ _ hj, co_repFrom _ _ _ _ _ hj]
  by_cases e : j = i
  · subst e
    rw [if_neg (by omega), if_pos (Nat.le_refl _)]
    unfold Gf.repAt
    rw [if_neg hz]
  · by_cases h2 : i + 1 ≤ j
    · rw [if_pos h2, if_pos (show i ≤ j by omega)]
    · rw [if_neg h2, if_neg (show ¬ i ≤ j by omega)]
theorem X_back (n i : Nat) (h : i + 1 < n) : Gf.X n i = Gf.mul (Gf.X n (i + 1)) 2 := by
  unfold Gf.X
  rw [show n - 1 - i = (n - 1 - (i + 1)) + 1 from by omega, Gf.mul_comm, show (2 : UInt8) = Gf.al 1 from by decide, Gf.al_add, Nat.add_comm]
theorem ix_back (n i : Nat) (h : i + 1 < n) : Gf.ix n i = Gf.mul (Gf.ix n (i + 1)) Gf.half := by
  unfold Gf.ix
  rw [show n - 1 - i = (n - 1 - (i + 1)) + 1 from by omega, Gf.pw]
theorem inv_two : Gf.inv 2 = Gf.half := by decide +kernel
theorem repAt_hit (w psi om : List UInt8) (n i : Nat) (hn : w.length = n) (hi : i < n) (hz : Gf.evl psi (Gf.ix n i) = 0) :
    Gf.co (repFrom w psi om (i + 1)) i ^^^ Gf.mul (Gf.X n i) (Gf.mul (Gf.evl om (Gf.ix n i)) (Gf.inv (Gf.evl (Gf.der psi) (Gf.ix n i)))) = Gf.repAt w psi om i := by
  subst hn
  unfold Gf.repAt
  rw [if_pos hz, co_repFrom _ _ _ _ _ hi, if_neg (by omega)]
attribute [local irreducible] Gf.mul Gf.X Gf.ix Gf.evl Gf.inv Gf.half Gf.der
set_option maxRecDepth 100000 in
set_option maxHeartbeats 2000000 in
theorem repair_any (s : ByteArray) (psi om : List UInt8) (hs1 : 1 ≤ s.size) (hs2 : s.size ≤ 255) (hpl : psi.length ≤ 1000) (hol : om.length ≤ 1000) (hp0 : 0 < psi.length) (bp op cp bo oo co : Nat) (w : World) (h1 : Rd w bp op psi) (h2 : Rd w bo oo om) (hbo : bo < w.heap.size) :
    Calls Try.prog 97 #[.string s, .slice (some ⟨bp, op, none⟩) psi.length cp, .slice (some ⟨bo, oo, none⟩) om.length co] w fun e w' => Ret1 w (.string (str (Gf.rep (bl s) psi om))) e w' := by
  have hbp := h1.lt hp0
  have kb := conv_bytes s
  have hbl := bl_length s
  have HL := Lib.hid hbl
  have hbw := bytesWorld_row w s
  have hbb := bytesWorld_below w s
  have hbz := Lib.bytesWorld_size w 5 s
  generalize hW0 : Lib.bytesWorld w 5 s = W0 at hbw hbb hbz
  have HW0 := Lib.hid hW0
  have HBZ := Lib.hid hbz
  have hsz0 : w.heap.size ≤ W0.heap.size := hbb.size
  have hlt0 : w.heap.size < W0.heap.size := hbw.lt
  clear hbl hW0 hbz
  go_enter Try.func97, Try.ntmps97
  go_wp2_with fail
  rw [HW0.out]
  refine (derivative_any psi hp0 hpl bp op cp W0 (h1.below hbb hbp)).mono ?_
  rintro e w1 ⟨bs, cs, rfl, hOs, hbs, hcs, hB1⟩
  have hOut1 := hbw.below hB1 hlt0
  have hBw1 := hbb.trans (hB1.mono hsz0)
  have hsz1 := hB1.size
  go_wp2_with fail
  refine (inv_ne_any 2 (show (2 : UInt8) ≠ 0 by decide) _).mono ?_
  rintro e w2 ⟨rfl, hB2⟩
  have hls := hOs.lt
  have hOs2 := hOs.below hB2 hls
  have hOut2 := hOut1.below hB2 (by omega)
  have hBw2 := hBw1.trans (hB2.mono (by omega))
  have hsz2 := hB2.size
  rw [inv_two]
  clear hB1 hB2 hOut1 hOs hBw1 hbw hbb kb
  have hO3 : Own w2 w.heap.size (repFrom (bl s) psi om s.size) := by rw [← HL.out, repFrom_start]; exact hOut2
  have hbsw : w.heap.size < bs := by omega
  clear hOut2
  go_wp2
  go_loopw [11, 12, 13] (fun x y i wr => ∃ (m : Nat) (x' y' : UInt8), m ≤ s.size ∧ i = .int .i64 ((m : Int) - 1) ∧ x = B x' ∧ y = B y' ∧ Hid (∀ k, m = k + 1 → x' = Gf.X s.size k ∧ y' = Gf.ix s.size k) ∧ Own wr w.heap.size (repFrom (bl s) psi om m) ∧ Own wr bs (Gf.der psi) ∧ Below w.heap.size w wr) (fun _ _ i _ => (intOf i + 1).toNat)
  case atStart => exact ⟨s.size, 1, 1, Nat.le_refl _, rfl, rfl, rfl, fun k hk => by
    unfold Gf.X Gf.ix
    rw [show s.size - 1 - k = 0 from by omega]
    exact ⟨rfl, rfl⟩, hO3, hOs2, hBw2⟩
  case round =>
    obtain ⟨m, x', y', hm, rfl, rfl, rfl, hxy, hO, hS, hB⟩ := hrel
    clear hO3 hOs2 hBw2
    rcases m with _ | i
    · rw [show ((0 : Nat) : Int) - 1 = -1 from rfl]
      have kc := conv_string hO.rd (grownCap w s.size 0 5)
      rw [repFrom_length, HL.out, repFrom_zero] at kc
      have KC := Lib.hid kc
      have kc := KC.out
      go_wp2
      go_ret
      exact ⟨rfl, hB⟩
    · rw [show ((i + 1 : Nat) : Int) - 1 = (i : Int) from by omega]
      obtain ⟨hx, hy⟩ := hxy.out i rfl
      subst hx hy
      have hnext : Hid (∀ k, i = k + 1 → Gf.mul (Gf.X s.size i) 2 = Gf.X s.size k ∧ Gf.mul (Gf.ix s.size i) Gf.half = Gf.ix s.size k) := fun k hk => by
        rw [hk]
        exact ⟨(X_back s.size k (by omega)).symm, (ix_back s.size k (by omega)).symm⟩
      have hat1 := at_any psi (Gf.ix s.size i) hpl bp op cp wr (h1.below hB hbp) (by have := hB.size; omega)
      have HA1 := Lib.hid hat1
      have hoil : i < (repFrom (bl s) psi om (i + 1)).length := by rw [repFrom_length, HL.out]; omega
      have hwsz := hB.size
      have hbsl := hS.lt
      clear hat1
      go_wp2_with fail
      refine HA1.out.mono ?_
      rintro e w3 ⟨rfl, hB3⟩
      have hO3 := hO.below hB3 (by omega)
      have hS3 := hS.below hB3 hbsl
      have hBw3 := hB.trans (hB3.mono hwsz)
      clear HA1 hO hS hB
      by_cases hz : Gf.evl psi (Gf.ix s.size i) = 0
      · have hz2 : (((Gf.evl psi (Gf.ix s.size i)).toNat : Int) == 0) = true := by rw [hz]; rfl
        have hz3 : ((Gf.evl psi (Gf.ix s.size i)).toNat == 0) = true := by rw [hz]; rfl
        have HZ := Lib.hid hz
        have hw3 := hBw3.size
        have hat2 := at_any (Gf.der psi) (Gf.ix s.size i) (by rw [Gf.der_length]; omega) bs 0 cs w3 hS3.rd (by have := hB3.size; omega)
        have HA2 := Lib.hid hat2
        have hw33 := hB3.size
        clear hz hat2 hB3
        go_wp2_with fail
        refine HA2.out.mono ?_
        rintro e w4 ⟨rfl, hB4⟩
        go_wp2_with fail
        refine (inv_some _ _).mono ?_
        rintro e w5 ⟨c, rfl, hB5⟩
        have hw34 := hB4.size
        have hw45 := hB5.size
        have hB35 := hB4.trans (hB5.mono hw34)
        have hO5 := hO3.below hB35 (by omega)
        have hS5 := hS3.below hB35 (by omega)
        have hBw5 := hBw3.trans (hB35.mono hw3)
        clear HA2 hO3 hS3 hBw3 hB4 hB5 hB35
        go_wp2
        have hco := hO5.cell hoil
        have hat3 : Calls Try.prog 112 #[.slice (some ⟨bo, oo, none⟩) om.length co, B (Gf.ix s.size i)] w5.drew fun e w' => Ret1 w5.drew (B (Gf.evl om (Gf.ix s.size i))) e w' :=
          at_any om (Gf.ix s.size i) hol bo oo co w5.drew (h2.below hBw5.drew hbo) (by have := hBw5.size; show _ < w5.heap.size; omega)
        have HA3 := Lib.hid hat3
        have hi0 : (0 : Int) ≤ (i : Int) := by omega
        have hi1 : (i : Int) < (s.size : Int) := by omega
        have h99 : w.heap.size < w5.drew.heap.size := by show w.heap.size < w5.heap.size; omega
        have H99 := Lib.hid h99
        clear hat3 h99
        have hcod : w5.drew.cell? ⟨w.heap.size, i, none⟩ = _ := hco
        have hrh := repAt_hit (bl s) psi om s.size i HL.out (by omega) HZ.out
        have hrs := repFrom_set (bl s) psi om i (by rw [HL.out]; omega)
        have HRH := Lib.hid hrh
        have HRS := Lib.hid hrs
        have h98 : w.heap.size ≤ w5.drew.heap.size := by show w.heap.size ≤ w5.heap.size; omega
        have h97 : bs < w5.drew.heap.size := by show bs < w5.heap.size; omega
        have H98 := Lib.hid h98
        have H97 := Lib.hid h97
        clear hrh hrs h98 h97
        go_region_with ((first | (go_at_call 112; refine HA3.out.mono ?_; rintro e w9 ⟨rfl, hB9⟩; have hO9 := hO5.drew.below hB9 H99.out; have hc9 := hO9.cell hoil; have hf9 := hO9.free hoil) | (go_at_call 82; refine (mul_any _ _ _).mono ?_; rintro e w' ⟨rfl, rfl⟩)))
        all_goals
          have hS9 := hS5.drew.below hB9 H97.out
          have hBw9 := hBw5.drew.trans (hB9.mono H98.out)
          clear hc9 hf9 hB9
          go_wp2_with fail
          refine (mul_any (Gf.X s.size i) 2 _).mono ?_
          rintro e w' ⟨rfl, rfl⟩
          go_wp2_with fail
          refine (mul_any (Gf.ix s.size i) Gf.half _).mono ?_
          rintro e w' ⟨rfl, rfl⟩
          go_wp2_with fail
          go_roundw
          case rel => exact ⟨i, Gf.mul (Gf.X s.size i) 2, Gf.mul (Gf.ix s.size i) Gf.half, by omega, rfl, rfl, rfl, hnext, by rw [b_xor, HRH.out, ← HRS.out]; exact hO9.set hoil _, hS9.other (show w.heap.size ≠ bs by omega) _, hBw9.setCell (p := ⟨w.heap.size, i, none⟩) (Nat.le_refl _) _⟩
          case measure => simp [intOf]
      · have hz2 : (((Gf.evl psi (Gf.ix s.size i)).toNat : Int) == 0) = false := by rw [beq_eq_false_iff_ne]; exact fun e => hz (u8_inj e)
        have hz3 : ((Gf.evl psi (Gf.ix s.size i)).toNat == 0) = false := by rw [beq_eq_false_iff_ne]; exact fun e => hz (UInt8.toNat_inj.1 e)
        have hrs := repFrom_same (bl s) psi om i (by rw [HL.out]; omega) (by rw [HL.out]; exact hz)
        have HRS := Lib.hid hrs
        clear hz hrs hB3
        go_wp2_with fail
        refine (mul_any (Gf.X s.size i) 2 _).mono ?_
        rintro e w' ⟨rfl, rfl⟩
        go_wp2_with fail
        refine (mul_any (Gf.ix s.size i) Gf.half _).mono ?_
        rintro e w' ⟨rfl, rfl⟩
        go_wp2_with fail
        go_roundw
        case rel => exact ⟨i, Gf.mul (Gf.X s.size i) 2, Gf.mul (Gf.ix s.size i) Gf.half, by omega, rfl, rfl, rfl, hnext, by rw [← HRS.out]; exact hO3, hS3, hBw3⟩
        case measure => simp [intOf]
end Go.Proofs.Ytknfkhackmnnaaa
