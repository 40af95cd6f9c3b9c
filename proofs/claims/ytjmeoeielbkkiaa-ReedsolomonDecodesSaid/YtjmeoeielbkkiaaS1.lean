import Derived.Test.YtjmeoeielbkkiaaG5
set_option maxRecDepth 100000
set_option linter.unusedVariables false
set_option linter.unusedSimpArgs false
namespace Go.Proofs.Ytjmeoeielbkkiaa
open Go.RowKit Go.Deep
set_option maxRecDepth 100000 in
theorem clone_any (p : List UInt8) (hp : 0 < p.length) (hpl : p.length ≤ 1000) (bp op cp : Nat) (w : World) (h1 : Rd w bp op p) :
    Calls Try.prog 35 #[.slice (some ⟨bp, op, none⟩) p.length cp] w fun e w' => RetOwn w p e w' := by
  have hbp := h1.lt hp
  have hnil := fun W => Lib.run_eql_slice_nil (P := Try.prog) W 26 5 (some ⟨bp, op, none⟩) p.length cp 0 0 Try.underlying26
  go_enter Try.func35, Try.ntmps35
  go_wp2_with (at_builtin; refine app_bytes _ Try.underlying26 rfl _ _ rfl w.heap.size _ [] rfl (Ob.empty (Nat.le_refl _)) bp op cp _ p rfl rfl ?hr ?hl ?hb ?_)
  case hr => exact h1.below ((Below.refl _ _).alloc (Nat.le_refl _) _) hbp
  case hl => simp; omega
  case hb => simp
  intro v1 w3 hOb hKeep _ _
  obtain ⟨g3, c3, rfl, hgb3, hrow3, hcl3⟩ := hOb.row hp
  have hB3 := hKeep _ _ ((Below.refl _ _).alloc (Nat.le_refl _) _) (Nat.le_refl _)
  go_wp2
  go_ret
  exact ⟨g3, c3, rfl, hrow3, hgb3, hcl3, hB3⟩
set_option maxRecDepth 100000 in
theorem clone_poly (p : List UInt8) (hp : 0 < p.length) (hpl : p.length ≤ 1000) (bp op cp : Nat) (w : World) (h1 : Rd w bp op p) :
    Calls Try.prog 65 #[.slice (some ⟨bp, op, none⟩) p.length cp] w fun e w' => RetOwn w p e w' := by
  have hbp := h1.lt hp
  have hnil := fun W => Lib.run_eql_slice_nil (P := Try.prog) W 57 5 (some ⟨bp, op, none⟩) p.length cp 0 0 Try.underlying57
  go_enter Try.func65, Try.ntmps65
  go_wp2_with (at_builtin; refine app_bytes _ Try.underlying57 rfl _ _ rfl w.heap.size _ [] rfl (Ob.empty (Nat.le_refl _)) bp op cp _ p rfl rfl ?hr ?hl ?hb ?_)
  case hr => exact h1.below ((Below.refl _ _).alloc (Nat.le_refl _) _) hbp
  case hl => simp; omega
  case hb => simp
  intro v1 w3 hOb hKeep _ _
  obtain ⟨g3, c3, rfl, hgb3, hrow3, hcl3⟩ := hOb.row hp
  have hB3 := hKeep _ _ ((Below.refl _ _).alloc (Nat.le_refl _) _) (Nat.le_refl _)
  go_wp2
  go_ret
  exact ⟨g3, c3, rfl, hrow3, hgb3, hcl3, hB3⟩
/-- all bytes are 0 -/
def zeroL (l : List UInt8) : Bool := l.all (· == 0)
theorem zeroL_iff (l : List UInt8) : zeroL l = true ↔ ∀ j, j < l.length → Gf.co l j = 0 := by
  unfold zeroL
  rw [List.all_eq_true]
  constructor
  · intro h j hj
    rw [Gf.co_lt hj]
    simpa using h _ (List.getElem_mem hj)
  · intro h x hx
    obtain ⟨j, hj, rfl⟩ := List.getElem_of_mem hx
    have := h j hj
    rw [Gf.co_lt hj] at this
    simp [this]
set_option maxRecDepth 100000 in
theorem zero1_any (a : UInt8) (w : World) : Calls Try.prog 63 #[B a] w fun e w' => e = .returned (.bool (a != 0)) ∧ w = w' := by
  have h : ((a.toNat : Int) != 0) = (a != 0) := by
    rw [Bool.eq_iff_iff, bne_iff_ne, bne_iff_ne]
    exact not_congr ⟨fun h => u8_inj h, fun h => by rw [h]; rfl⟩
  have H := Lib.hid h
  clear h
  go_enter Try.func63, Try.ntmps63
  go_wp2
  go_ret
  exact ⟨by rw [← H.out]; rfl, rfl⟩
set_option maxRecDepth 100000 in
theorem indexfunc_zero (p : List UInt8) (hp : 0 < p.length) (hpl : p.length ≤ 1000) (bp op cp : Nat) (w : World) (h1 : Rd w bp op p) :
    Calls Try.prog 74 #[.slice (some ⟨bp, op, none⟩) p.length cp, .func (.func 63) #[] #[]] w fun e w' => (∃ n : Int, e = .returned (.int .i64 n) ∧ Hid (-1 ≤ n ∧ (0 ≤ n ↔ zeroL p = false))) ∧ w = w' := by
  go_enter Try.func74, Try.ntmps74
  go_wp2
  go_loop [8] (fun i => ∃ k : Nat, k ≤ p.length ∧ i = .int .i64 k ∧ Hid (∀ j, j < k → Gf.co p j = 0)) (fun i => p.length - (intOf i).toNat)
  case atStart => exact ⟨0, by omega, rfl, fun j hj => by omega⟩
  case round =>
    obtain ⟨k, hk, rfl, hz⟩ := hrel
    by_cases hlt : k < p.length
    · have hc := h1 k hlt
      by_cases h0 : Gf.co p k = 0
      · have hb : (Gf.co p k != 0) = false := by rw [h0]; rfl
        have H0 := Lib.hid h0
        clear h0
        go_wp2_with (go_at_call 63; refine (zero1_any _ _).mono ?_; rintro e w' ⟨rfl, rfl⟩)
        go_round
        case rel => exact ⟨k + 1, by omega, by go_num, fun j hj => by
          rcases Nat.lt_or_ge j k with h | h
          · exact hz.out j h
          · obtain rfl : j = k := by omega
            exact H0.out⟩
        case measure => simp [intOf]; omega
      · have hb : (Gf.co p k != 0) = true := by simpa using h0
        have H0 := Lib.hid h0
        clear h0
        go_wp2_with (go_at_call 63; refine (zero1_any _ _).mono ?_; rintro e w' ⟨rfl, rfl⟩)
        go_ret
        refine ⟨⟨_, rfl, ?_⟩, rfl⟩
        refine ⟨by omega, fun _ => ?_, fun _ => by omega⟩
        by_cases hzl : zeroL p = true
        · exact absurd ((zeroL_iff p).1 hzl k hlt) H0.out
        · simpa using hzl
    · have hkp : k = p.length := by omega
      have HK := Lib.hid hkp
      clear hkp
      go_wp2
      go_ret
      refine ⟨⟨-1, rfl, ?_⟩, rfl⟩
      refine ⟨by omega, fun h => by omega, fun h => ?_⟩
      rw [(zeroL_iff p).2 fun j hj => hz.out j (by rw [HK.out]; exact hj)] at h
      cases h
set_option maxRecDepth 100000 in
theorem zero_any (p : List UInt8) (hp : 0 < p.length) (hpl : p.length ≤ 1000) (bp op cp : Nat) (w : World) (h1 : Rd w bp op p) :
    Calls Try.prog 39 #[.slice (some ⟨bp, op, none⟩) p.length cp] w fun e w' => e = .returned (.bool (zeroL p)) ∧ w = w' := by
  have hcf : Calls Try.prog 62 #[.slice (some ⟨bp, op, none⟩) p.length cp, .func (.func 63) #[] #[]] w fun e w' => e = .returned (.bool (!zeroL p)) ∧ w = w' := by
    go_enter Try.func62, Try.ntmps62
    go_wp2_with (go_at_call 74; refine (indexfunc_zero p hp hpl _ _ _ _ h1).mono ?_; rintro e w' ⟨⟨n, rfl, hn⟩, rfl⟩)
    go_ret
    refine ⟨?_, rfl⟩
    have : decide (0 ≤ n) = !zeroL p := by
      rw [Bool.eq_iff_iff, decide_eq_true_eq, hn.out.2]
      simp
    rw [← this]; rfl
  have HC := Lib.hid hcf
  clear hcf
  go_enter Try.func39, Try.ntmps39
  go_wp2_with (go_at_call 62; refine (HC.out).mono ?_; rintro e w' ⟨rfl, rfl⟩)
  go_ret
  exact ⟨by simp, rfl⟩
end Go.Proofs.Ytjmeoeielbkkiaa
