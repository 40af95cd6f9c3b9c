import Derived.Test.YtjmeoeielbkkiaaQ4
set_option maxRecDepth 100000
set_option linter.unusedVariables false
set_option linter.unusedSimpArgs false
namespace Go.Proofs.Ytjmeoeielbkkiaa
open Go.RowKit Go.Deep
/-! rows of equations -/
def scL (l : List UInt8) (f : UInt8) (k : Nat) : List UInt8 := (List.range k).map fun i => Gf.mul (Gf.co l i) f
def adL (l m : List UInt8) (k : Nat) : List UInt8 := (List.range k).map fun i => Gf.co l i ^^^ Gf.co m i
theorem scL_length (l : List UInt8) (f : UInt8) (k : Nat) : (scL l f k).length = k := by simp [scL]
theorem adL_length (l m : List UInt8) (k : Nat) : (adL l m k).length = k := by simp [adL]
theorem scL_succ (l : List UInt8) (f : UInt8) (k : Nat) : scL l f (k + 1) = scL l f k ++ [Gf.mul (Gf.co l k) f] := by simp [scL, List.range_succ]
theorem adL_succ (l m : List UInt8) (k : Nat) : adL l m (k + 1) = adL l m k ++ [Gf.co l k ^^^ Gf.co m k] := by simp [adL, List.range_succ]
theorem co_scL (l : List UInt8) (f : UInt8) (k i : Nat) (h : i < k) : Gf.co (scL l f k) i = Gf.mul (Gf.co l i) f := by
  rw [Gf.co_lt (by rw [scL_length]; exact h)]; simp [scL]
theorem co_adL (l m : List UInt8) (k i : Nat) (h : i < k) : Gf.co (adL l m k) i = Gf.co l i ^^^ Gf.co m i := by
  rw [Gf.co_lt (by rw [adL_length]; exact h)]; simp [adL]
/-- a new row is handed back -/
def RetRow (w : World) (l : List UInt8) (e : Ending) (w' : World) : Prop :=
  ∃ b c, e = .returned (.slice (some ⟨b, 0, none⟩) l.length c) ∧ Rd w' b 0 l ∧ w.heap.size ≤ b ∧ b < w'.heap.size ∧ Below w.heap.size w w'
set_option maxRecDepth 100000 in
set_option maxHeartbeats 1000000 in
theorem scaled_any (l : List UInt8) (f : UInt8) (hl : l.length ≤ 100000) (hl0 : 0 < l.length) (b off c : Nat) (w : World) (h : Rd w b off l) :
    Calls Try.prog 69 #[.slice (some ⟨b, off, none⟩) l.length c, B f] w fun e w' => RetRow w (scL l f l.length) e w' := by
  have hb := h.lt hl0
  go_enter Try.func69, Try.ntmps69
  go_wp2
  go_loopw [5, 6] (fun x i wr => ∃ k g c : Nat, k ≤ l.length ∧ i = .int .i64 k ∧ x = .slice (some ⟨g, 0, none⟩) k c ∧ w.heap.size ≤ g ∧ g < wr.heap.size ∧ Ob wr w.heap.size x (scL l f k) ∧ Below w.heap.size w wr) (fun _ i _ => l.length - (intOf i).toNat)
  case atStart => exact ⟨0, _, 0, by omega, rfl, rfl, Nat.le_refl _, by rw [World.size_alloc]; exact Nat.lt_succ_self _, Ob.empty (Nat.le_refl _), (Below.refl _ _).alloc (Nat.le_refl _) _⟩
  case round =>
    obtain ⟨k, g, c2, hk, rfl, rfl, hg0, hg1, hOb, hB⟩ := hrel
    by_cases hlt : k < l.length
    · have hck := (h.below hB hb) k hlt
      have HX := Lib.hid (scL_succ l f k)
      have HO := Lib.hid hOb
      have HB := Lib.hid hB
      have hsz := hB.size
      clear hOb hB
      go_wp2_with (first | (go_at_call 57; refine (mulr_any _ _ _).mono ?_; rintro e w' ⟨rfl, rfl⟩) | (at_builtin; refine wpList_app1 26 Try.underlying26 rfl _ _ rfl w.heap.size g k c2 (scL l f k) rfl (HO.out.alloc _) (by rw [scL_length]) _ _ (Gf.mul (Gf.co l k) f) rfl (cell_new _ _ _) (by omega) (by rw [World.size_alloc]; omega) ?_; intro g2 c3 w4 hO4 hK4 _))
      have hB4 := hK4 _ _ (HB.out.alloc hsz _) (Nat.le_refl _)
      have hg4 := hO4.ltAt (by rw [List.length_append, scL_length]; rfl) (by omega)
      clear hK4 hck
      go_wp2
      go_roundw
      case rel => exact ⟨k + 1, g2, c3, by omega, by go_num, rfl, hg4.2, hg4.1, by rw [HX.out]; exact hO4, hB4⟩
      case measure => simp [intOf]; omega
    · have hkp : k = l.length := by omega
      have HK := Lib.hid hkp
      clear hkp
      go_wp2
      go_ret
      rw [← HK.out]
      exact ⟨g, c2, by rw [scL_length]; rfl, hOb.rdAt (by rw [scL_length]), hg0, hg1, hB⟩
set_option maxRecDepth 100000 in
set_option maxHeartbeats 1000000 in
theorem added_any (l m : List UInt8) (hl : l.length ≤ 100000) (hl0 : 0 < l.length) (hlm : l.length = m.length) (b off c b2 off2 c2 : Nat) (w : World) (h : Rd w b off l) (h2 : Rd w b2 off2 m) :
    Calls Try.prog 70 #[.slice (some ⟨b, off, none⟩) l.length c, .slice (some ⟨b2, off2, none⟩) m.length c2] w fun e w' => RetRow w (adL l m l.length) e w' := by
  have hb := h.lt hl0
  have hb2 := h2.lt (by omega)
  have hlm1 : l.length ≤ m.length := by omega
  clear hlm
  go_enter Try.func70, Try.ntmps70
  go_wp2
  go_loopw [5, 6] (fun x i wr => ∃ k g c : Nat, k ≤ l.length ∧ i = .int .i64 k ∧ x = .slice (some ⟨g, 0, none⟩) k c ∧ w.heap.size ≤ g ∧ g < wr.heap.size ∧ Ob wr w.heap.size x (adL l m k) ∧ Below w.heap.size w wr) (fun _ i _ => l.length - (intOf i).toNat)
  case atStart => exact ⟨0, _, 0, by omega, rfl, rfl, Nat.le_refl _, by rw [World.size_alloc]; exact Nat.lt_succ_self _, Ob.empty (Nat.le_refl _), (Below.refl _ _).alloc (Nat.le_refl _) _⟩
  case round =>
    obtain ⟨k, g, c3, hk, rfl, rfl, hg0, hg1, hOb, hB⟩ := hrel
    by_cases hlt : k < l.length
    · have hlt2 : k < m.length := by omega
      have hck : wr.cell? ⟨b, off + k, none⟩ = some (B (Gf.co l k)) := (h.below hB hb) k hlt
      have hck2 : wr.cell? ⟨b2, off2 + k, none⟩ = some (B (Gf.co m k)) := (h2.below hB hb2) k hlt2
      have HX := Lib.hid (adL_succ l m k)
      have hi0 : (0 : Int) ≤ (k : Int) := by omega
      have hi1 : (k : Int) < (l.length : Int) := by omega
      have hi2 : (k : Int) < (m.length : Int) := by omega
      have hOb' : Ob wr.drew w.heap.size (.slice (some ⟨g, 0, none⟩) k c3) (adL l m k) := hOb
      have hB' : Below w.heap.size w wr.drew := hB.drew
      have HO := Lib.hid hOb'
      have HB := Lib.hid hB'
      have hsz : w.heap.size ≤ wr.heap.size := hB.size
      have hck' : wr.drew.cell? ⟨b, off + k, none⟩ = some (B (Gf.co l k)) := hck
      have hck2' : wr.drew.cell? ⟨b2, off2 + k, none⟩ = some (B (Gf.co m k)) := hck2
      clear hOb hB hOb' hB'
      go_wp2
      go_region_law ((refine step_app1 26 Try.underlying26 (by rfl) _ _ (by rfl) w.heap.size g k c3 (adL l m k) (by rfl) (HO.out.alloc _) (by rw [adL_length]) _ _ (Gf.co l k ^^^ Gf.co m k) (by rfl) (by rw [b_xor]; exact cell_new _ _ _) (by omega) (by show _ ≤ (wr.alloc _).heap.size; rw [World.size_alloc]; omega) ?_; intro g2 c4 w2 hO2 hK2 _))
      all_goals
        have hB2 := hK2 _ _ (HB.out.alloc hsz _) (Nat.le_refl _)
        have hg4 := hO2.ltAt (by rw [List.length_append, adL_length]; rfl) (by omega)
        clear hck hck2 hck' hck2'
        go_wp2
        go_roundw
        case rel => exact ⟨k + 1, g2, c4, by omega, by go_num, rfl, hg4.2, hg4.1, by rw [HX.out]; exact hO2, hB2⟩
        case measure => simp [intOf]; omega
    · have hkp : k = l.length := by omega
      have HK := Lib.hid hkp
      clear hkp
      go_wp2
      go_ret
      rw [← HK.out]
      exact ⟨g, c3, by rw [adL_length]; rfl, hOb.rdAt (by rw [adL_length]), hg0, hg1, hB⟩
set_option maxRecDepth 100000 in
theorem containsr_any (l : List Int) (v : Int) (A : Option Addr) (c : Nat) (hl : l.length ≤ 100000) (w : World) (h : RdI w A l) :
    Calls Try.prog 71 #[.slice A l.length c, .int .i64 v] w fun e w' => e = .returned (.bool (decide (v ∈ l))) ∧ w = w' := by
  go_enter Try.func71, Try.ntmps71
  go_wp2
  go_loop [5] (fun i => ∃ k : Nat, k ≤ l.length ∧ i = .int .i64 k ∧ Hid (∀ j, j < k → ci l j ≠ v)) (fun i => l.length - (intOf i).toNat)
  case atStart => exact ⟨0, by omega, rfl, fun j hj => by omega⟩
  case round =>
    obtain ⟨k, hk, rfl, hz⟩ := hrel
    by_cases hlt : k < l.length
    · obtain ⟨b, off, rfl, hb, hr⟩ := h (by omega)
      have hc := hr k hlt
      have HR := Lib.hid hr
      clear hr
      by_cases h0 : ci l k = v
      · have hb1 : (ci l k == v) = true := by rw [h0]; simp
        have hf : Hid (decide (v ∈ l) = true) := decide_eq_true (by rw [← h0, ci_lt hlt]; exact List.getElem_mem _)
        clear h0
        go_wp2
        go_ret
        exact ⟨by rw [hf.out]; rfl, rfl⟩
      · have hb1 : (ci l k == v) = false := by simpa using h0
        have H0 := Lib.hid h0
        clear h0
        go_wp2
        go_round
        case rel => exact ⟨k + 1, by omega, by go_num, fun j hj => by
          rcases Nat.lt_or_ge j k with h | h
          · exact hz.out j h
          · obtain rfl : j = k := by omega
            exact H0.out⟩
        case measure => simp [intOf]; omega
    · have HK : Hid (k = l.length) := by show _ = _; omega
      have hf : Hid (decide (v ∈ l) = false) := decide_eq_false fun h => by
        obtain ⟨j, hj, e⟩ := List.getElem_of_mem h
        exact absurd ((ci_lt hj).trans e) (hz.out j (by rw [HK.out]; exact hj))
      go_wp2
      go_ret
      exact ⟨by rw [hf.out]; rfl, rfl⟩
end Go.Proofs.Ytjmeoeielbkkiaa
