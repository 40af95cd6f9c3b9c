import Derived.Test.YtjmeoeielbkkiaaG3
set_option maxRecDepth 100000
set_option linter.unusedVariables false
set_option linter.unusedSimpArgs false
namespace Go.Proofs.Ytjmeoeielbkkiaa
open Go.RowKit Go.Deep
set_option maxRecDepth 100000 in
theorem trim_any (q : List UInt8) (hq : 0 < q.length) (hql : q.length ≤ 1000) (h0 : Gf.co q 0 ≠ 0) (b off c : Nat) (w : World) (h : Rd w b off q) :
    Calls Try.prog 52 #[.slice (some ⟨b, off, none⟩) q.length c] w fun e w' => e = .returned (.slice (some ⟨b, off, none⟩) q.length c) ∧ w = w' := by
  have hc := h 0 hq
  have h1 : ((Gf.co q 0).toNat == 0) = false := by
    rw [beq_eq_false_iff_ne]; exact fun e => h0 (UInt8.toNat_inj.1 e)
  have h2 : (((Gf.co q 0).toNat : Int) == 0) = false := by
    rw [beq_eq_false_iff_ne]; exact fun e => h0 (u8_inj e)
  rw [Nat.add_zero] at hc
  clear h0
  go_enter Try.func52, Try.ntmps52
  go_wp2
  refine wp_loop_once ?_
  go_wp2
  go_ret
  exact ⟨rfl, rfl⟩
/-- what a division keeps: the values at the roots; the first k symbols are gone -/
def RemInv (p q : List UInt8) (k : Nat) (R : List UInt8) : Prop := R.length = q.length - 1 + p.length ∧ (∀ x, Gf.hor q x = 0 → Gf.hor R x = Gf.hor p x) ∧ ∀ j, j < k → Gf.co R j = 0
theorem RemInv.start (p q : List UInt8) : RemInv p q 0 (List.replicate (q.length - 1) 0 ++ p) :=
  ⟨by simp, fun x _ => by rw [Gf.hor_append, Gf.hor_zeros, Gf.zero_mul, UInt8.zero_xor], fun j hj => by omega⟩
theorem RemInv.step {p q : List UInt8} {k : Nat} {R : List UInt8} (h : RemInv p q k R) (hk : k < p.length) (hq : 0 < q.length) (h0 : Gf.co q 0 ≠ 0) : RemInv p q (k + 1) (addM R k (Gf.mul (Gf.co R k) (Gf.inv (Gf.co q 0))) q q.length) := by
  obtain ⟨h1, h2, h3⟩ := h
  have hfit : k + (q.map (Gf.mul (Gf.mul (Gf.co R k) (Gf.inv (Gf.co q 0))))).length ≤ R.length := by rw [List.length_map, h1]; omega
  rw [addM_full]
  refine ⟨by rw [Gf.addAt_length, h1], fun x hx => ?_, fun j hj => ?_⟩
  · rw [Gf.hor_addAt hfit, Gf.hor_map, hx, Gf.mul_zero, Gf.zero_mul, UInt8.xor_zero, h2 x hx]
  · rw [Gf.co_addAt _ _ _ hfit]
    by_cases hjk : j = k
    · subst hjk
      rw [if_pos (Nat.le_refl _), Nat.sub_self, Gf.co_mul, Gf.mul_assoc, Gf.inv_mul h0, Gf.mul_one, UInt8.xor_self]
    · rw [if_neg (by omega), h3 j (by omega)]; rfl
theorem RemInv.done {p q : List UInt8} {R : List UInt8} (h : RemInv p q p.length R) : (R.drop p.length).length = q.length - 1 ∧ ∀ x, Gf.hor q x = 0 → Gf.hor (R.drop p.length) x = Gf.hor p x := by
  obtain ⟨h1, h2, h3⟩ := h
  refine ⟨by rw [List.length_drop, h1]; omega, fun x hx => ?_⟩
  rw [← h2 x hx]
  conv => rhs; rw [← List.take_append_drop p.length R]
  have : R.take p.length = List.replicate p.length 0 := by
    refine Gf.co_ext (by simp [h1]) fun i hi => ?_
    simp only [List.length_take] at hi
    rw [Gf.co_take (by omega), Gf.co_replicate, h3 i (by omega)]
  rw [Gf.hor_append, this, Gf.hor_zeros, Gf.zero_mul, UInt8.zero_xor]
/-- the remainder, told by what it keeps -/
def RetRem (w : World) (p q : List UInt8) (e : Ending) (w' : World) : Prop :=
  ∃ (r : List UInt8) (b c : Nat), e = .returned (.tuple #[.slice (some ⟨b, 0, none⟩) r.length c, .int .i64 0]) ∧ Own w' b r ∧ w.heap.size ≤ b ∧ r.length = q.length - 1 ∧ (∀ x, Gf.hor q x = 0 → Gf.hor r x = Gf.hor p x) ∧ Below w.heap.size w w'
set_option maxRecDepth 100000 in
set_option maxHeartbeats 1000000 in
theorem remainder_any (p q : List UInt8) (hp : 0 < p.length) (hq : 2 ≤ q.length) (h0 : Gf.co q 0 ≠ 0) (hpl : p.length ≤ 1000) (hql : q.length ≤ 1000) (bp op cp bq oq cq : Nat) (w : World) (h1 : Rd w bp op p) (h2 : Rd w bq oq q) :
    Calls Try.prog 29 #[.slice (some ⟨bp, op, none⟩) p.length cp, .slice (some ⟨bq, oq, none⟩) q.length cq] w fun e w' => RetRem w p q e w' := by
  have hbp := h1.lt hp
  have hbq := h2.lt (by omega)
  have t1 : ((q.length : Int) == 0) = false := by rw [beq_eq_false_iff_ne]; omega
  obtain ⟨n, hn⟩ : ∃ n, n = q.length - 1 := ⟨_, rfl⟩
  have e1 : (q.length : Int) - 1 = (n : Int) := by omega
  have hmk := make_u8 n (by omega)
  rw [← e1] at hmk
  have hn1 : n < q.length := by omega
  have hn2 : q.length ≤ n + 1 := by omega
  have HN := Lib.hid hn
  have E1 := Lib.hid e1
  have H0 := Lib.hid h0
  have hq0 := h2 0 (by omega)
  rw [Nat.add_zero] at hq0
  clear hn e1 h0
  go_enter Try.func29, Try.ntmps29
  go_wp2_with (first | (go_at_call 52; refine (trim_any q (by omega) hql H0.out _ _ _ _ h2).mono ?_; rintro e w' ⟨rfl, rfl⟩) | (go_at_call 53; refine (inv_any _ _).mono ?_; rintro e w1 ⟨rfl, hB⟩) | (at_builtin; refine app_bytes _ Try.underlying26 rfl _ _ rfl w.heap.size _ _ rfl (Ob.made (by omega) ?h1) bp op cp p.length p rfl rfl ?h2 ?h3 ?h4 ?_))
  case h1 => exact hB.size
  case h2 => exact h1.below (hB.alloc hB.size _) hbp
  case h3 => simp; omega
  case h4 => exact Nat.le_trans hB.size (by simp)
  intro v1 w2 hOb hKeep _ _
  obtain ⟨g, c, rfl, hgb, hrow, hcl⟩ := hOb.row (by simp; omega)
  have hB2 := hKeep _ _ (hB.alloc hB.size _) (Nat.le_refl _)
  have hI := RemInv.start p q
  rw [← HN.out] at hI
  clear hOb hKeep hB hmk
  obtain ⟨R, hR⟩ : ∃ R, List.replicate n 0 ++ p = R := ⟨_, rfl⟩
  obtain ⟨N, hN⟩ : ∃ N, N = R.length := ⟨_, rfl⟩
  rw [hR] at hrow hcl hI ⊢
  have hN' : N = n + p.length := by rw [hN, hI.1, HN.out]
  have hNa : N ≤ n + p.length := by omega
  have hNb : n + p.length ≤ N := by omega
  have e2 : (N : Int) - ((q.length : Int) - 1) = (p.length : Int) := by omega
  have E2 := Lib.hid e2
  rw [← hN] at hcl ⊢
  have HNR := Lib.hid hN
  have HR := Lib.hid hR
  have HI := Lib.hid hI
  clear hN' e2 hN hR hI
  go_wp2
  rw [E2.out]
  go_loopw [37] (fun i wr => ∃ (k : Nat) (R' : List UInt8), k ≤ p.length ∧ i = .int .i64 k ∧ Own wr g R' ∧ Below w.heap.size w wr ∧ Hid (RemInv p q k R')) (fun i _ => p.length - (intOf i).toNat)
  case atStart => exact ⟨0, R, by omega, rfl, hrow, hB2, HI.out⟩
  case round =>
    obtain ⟨k, R', hk, rfl, hO, hB, hI⟩ := hrel
    clear hrow hB2
    have hRl : R'.length = N := by rw [hI.out.1, HNR.out, HI.out.1]
    by_cases hlt : k < p.length
    · have hc := hO.cell (j := k) (by omega)
      have HRl := Lib.hid hRl
      clear hRl
      go_wp2_with (go_at_call 34; refine (mul_any _ _ _).mono ?_; rintro e w' ⟨rfl, rfl⟩)
      obtain ⟨f, hf⟩ : ∃ f, f = Gf.mul (Gf.co R' k) (Gf.inv (Gf.co q 0)) := ⟨_, rfl⟩
      rw [← hf]
      have HF := Lib.hid hf
      clear hf hc
      obtain ⟨wo, rfl⟩ : ∃ wo : World, wo = wr := ⟨_, rfl⟩
      go_loopw [48] (fun j wi => ∃ m : Nat, m ≤ q.length ∧ j = .int .i64 m ∧ Own wi g (addM R' k f q m) ∧ Below w.heap.size w wi) (fun j _ => q.length - (intOf j).toNat)
      case atStart => exact ⟨0, by omega, rfl, by rw [addM_zero]; exact hO, hB⟩
      case round =>
        obtain ⟨m, hm, rfl, hO2, hB2⟩ := hrel
        clear hO hB
        by_cases hlt2 : m < q.length
        · have hcq := (h2.below hB2 hbq) m hlt2
          have hlen : k + m < (addM R' k f q m).length := by rw [addM_length, HRl.out]; omega
          have hco := hO2.cell hlen
          have hfo := hO2.free hlen
          go_wp2
          have hco' : wr.drew.cell? ⟨g, k + m, none⟩ = _ := hco
          have hfo' : wr.drew.frozen? ⟨g, k + m, none⟩ = _ := hfo
          have hO3 : Own wr.drew g _ := hO2.drew
          have hB3 : Below w.heap.size w wr.drew := hB2.drew
          refine wp_region_still_tail 11 (by kernel_rfl) (by kernel_rfl) ?_
          simp only [List.take_succ_cons, List.take_zero, List.drop_succ_cons, List.drop_zero]
          change wpStill _ _ wr.drew (fun a' => wpList _ _ _ _ a' wr.drew) _ _
          clear hco hfo hO2 hB2 hcq
          generalize wr.drew = w2 at hco' hfo' hO3 hB3 ⊢
          have hw1 : IntKind.i64.wrap ((k : Int) + (m : Int)) = (k : Int) + (m : Int) := IntWalk.i64_in _ (by omega)
          have hw2 : ((k : Int) + (m : Int)).toNat = k + m := by omega
          have hw3 : 0 ≤ (k : Int) + (m : Int) := by omega
          have hw4 : (k : Int) + (m : Int) < (N : Int) := by omega
          repeat (first | still_step | still_call (still_of (mul_any _ _ _)))
          refine wpStill_nil ?_
          clear hw1 hw2 hw3 hw4
          go_wp2
          go_roundw
          case rel => exact ⟨m + 1, by omega, by go_num, by rw [b_xor, ← addM_next _ _ _ _ _ hlt2]; exact hO3.set hlen _, hB3.setCell hgb _⟩
          case measure => simp [intOf]; omega
        · have hmq : m = q.length := by omega
          have HM := Lib.hid hmq
          clear hmq
          go_wp2
          go_roundw
          case rel => exact ⟨k + 1, addM R' k f q q.length, by omega, by go_num, by rw [← HM.out]; exact hO2, hB2, by rw [HF.out]; exact hI.out.step hlt (by omega) H0.out⟩
          case measure => simp [intOf]; omega
    · have hkp : k = p.length := by omega
      have hD := RemInv.done (hkp ▸ hI.out)
      have HK := Lib.hid hkp
      have HRl := Lib.hid hRl
      clear hkp hRl
      have e2 := E2.out
      have hpc : ¬ p.length = c := by omega
      go_wp2_with (at_builtin; refine app_bytes _ Try.underlying26 rfl _ _ rfl w.heap.size _ [] rfl ?ob g _ _ _ (R'.drop p.length) rfl ?hm ?hr ?hl ?hb ?_)
      case ob => exact Ob.empty hB.size
      case hm => rw [hD.1]; omega
      case hr => have := ((hO.alloc (.cells #[] 5)).rd.drop p.length); rwa [Nat.zero_add] at this
      case hl => rw [hD.1]; simp; omega
      case hb => exact Nat.le_trans hB.size (by simp)
      intro v1 w3 hOb hKeep _ _
      obtain ⟨g3, c3, rfl, hgb3, hrow3, hcl3⟩ := hOb.row (by rw [hD.1]; omega)
      have hB3 := hKeep _ _ (hB.alloc hB.size _) (Nat.le_refl _)
      go_wp2
      go_ret2
      exact ⟨_, g3, c3, rfl, hrow3, hgb3, hD.1, hD.2, hB3⟩
end Go.Proofs.Ytjmeoeielbkkiaa
