import Derived.Test.YtjmeoeielbkkiaaQ2
set_option maxRecDepth 100000
set_option linter.unusedVariables false
set_option linter.unusedSimpArgs false
namespace Go.Proofs.Ytjmeoeielbkkiaa
open Go.RowKit Go.Deep
/-! the polynomials of the definitions -/
set_option maxRecDepth 100000 in
set_option maxHeartbeats 1000000 in
theorem productr_any (p q : List UInt8) (hp : 0 < p.length) (hq : 0 < q.length) (hpl : p.length ≤ 1000) (hql : q.length ≤ 1000) (bp op cp bq oq cq : Nat) (w : World) (h1 : Rd w bp op p) (h2 : Rd w bq oq q) :
    Calls Try.prog 54 #[.slice (some ⟨bp, op, none⟩) p.length cp, .slice (some ⟨bq, oq, none⟩) q.length cq] w fun e w' => RetOwn w (Gf.prod p q) e w' := by
  have hbp := h1.lt hp
  have hbq := h2.lt hq
  have t1 : ((p.length : Int) == 0) = false := by rw [beq_eq_false_iff_ne]; omega
  have t2 : ((q.length : Int) == 0) = false := by rw [beq_eq_false_iff_ne]; omega
  obtain ⟨n, hn⟩ : ∃ n, n = p.length + q.length - 1 := ⟨_, rfl⟩
  have e1 : (p.length : Int) + (q.length : Int) - 1 = (n : Int) := by omega
  have hmk := make_u8 n (by omega)
  rw [← e1] at hmk
  have hn1 : n < p.length + q.length := by omega
  have hn2 : p.length + q.length ≤ n + 1 := by omega
  have E1 := Lib.hid e1
  have HN := Lib.hid hn
  clear e1 hn
  have hpr : Hid (Gf.prod p q = Gf.prodN p q p.length) := by
    show Gf.prod p q = _
    unfold Gf.prod
    rw [if_neg]
    rintro (e | e)
    · rw [e] at hp; simp at hp
    · rw [e] at hq; simp at hq
  go_enter Try.func54, Try.ntmps54
  go_wp2
  go_loopw [6] (fun i wr => ∃ k : Nat, k ≤ p.length ∧ i = .int .i64 k ∧ Own wr w.heap.size (Gf.prodN p q k) ∧ Below w.heap.size w wr) (fun i _ => p.length - (intOf i).toNat)
  case atStart =>
    refine ⟨0, by omega, rfl, ?_, (Below.refl _ _).alloc (Nat.le_refl _) _⟩
    rw [Gf.prodN, ← HN.out]
    exact Own.made w n
  case round =>
    obtain ⟨k, hk, rfl, hO, hB⟩ := hrel
    by_cases hlt : k < p.length
    · go_wp2
      obtain ⟨wo, rfl⟩ : ∃ wo : World, wo = wr := ⟨_, rfl⟩
      go_loopw [7] (fun j wi => ∃ m : Nat, m ≤ q.length ∧ j = .int .i64 m ∧ Own wi w.heap.size (prodM p q k m) ∧ Below w.heap.size w wi) (fun j _ => q.length - (intOf j).toNat)
      case atStart => exact ⟨0, by omega, rfl, hO, hB⟩
      case round =>
        obtain ⟨m, hm, rfl, hO2, hB2⟩ := hrel
        by_cases hlt2 : m < q.length
        · have hcp := (h1.below hB2 hbp) k hlt
          have hcq := (h2.below hB2 hbq) m hlt2
          have hlen : k + m < (prodM p q k m).length := by rw [prodM_length, ← HN.out]; omega
          have hco := hO2.cell hlen
          have hfo := hO2.free hlen
          have hkn : k + m < n := by omega
          go_wp2
          have hco' : wr.drew.cell? ⟨w.heap.size, k + m, none⟩ = _ := hco
          have hfo' : wr.drew.frozen? ⟨w.heap.size, k + m, none⟩ = _ := hfo
          have hcp' : wr.drew.cell? ⟨bp, op + k, none⟩ = _ := hcp
          have hcq' : wr.drew.cell? ⟨bq, oq + m, none⟩ = _ := hcq
          have hO3 : Own wr.drew w.heap.size _ := hO2.drew
          have hB3 : Below w.heap.size w wr.drew := hB2.drew
          refine wp_region_still_tail 21 (by kernel_rfl) (by kernel_rfl) ?_
          simp only [List.take_succ_cons, List.take_zero, List.drop_succ_cons, List.drop_zero]
          change wpStill _ _ wr.drew (fun a' => wpList _ _ _ _ a' wr.drew) _ _
          clear hco hfo hO2 hB2 hcq hcp
          generalize wr.drew = w2 at hco' hfo' hcp' hcq' hO3 hB3 ⊢
          have hw1 : IntKind.i64.wrap ((k : Int) + (m : Int)) = (k : Int) + (m : Int) := IntWalk.i64_in _ (by omega)
          have hw2 : ((k : Int) + (m : Int)).toNat = k + m := by omega
          have hw3 : 0 ≤ (k : Int) + (m : Int) := by omega
          have hw4 : (k : Int) + (m : Int) < (n : Int) := by omega
          have hw5 : (k : Int) < (p.length : Int) := by omega
          have hw6 : (m : Int) < (q.length : Int) := by omega
          repeat (first | still_step | still_call (still_of (mulr_any _ _ _)))
          refine wpStill_nil ?_
          clear hw1 hw2 hw3 hw4 hw5 hw6
          go_wp2
          go_roundw
          case rel => exact ⟨m + 1, by omega, by go_num, by rw [b_xor, ← prodM_next p q k m hlt2]; exact hO3.set hlen _, hB3.setCell (Nat.le_refl _) _⟩
          case measure => simp [intOf]; omega
        · have hmq : m = q.length := by omega
          have HM := Lib.hid hmq
          clear hmq
          go_wp2
          go_roundw
          case rel => exact ⟨k + 1, by omega, by go_num, by rw [← prodM_full, ← HM.out]; exact hO2, hB2⟩
          case measure => simp [intOf]; omega
    · have hkp : k = p.length := by omega
      have HK := Lib.hid hkp
      clear hkp
      go_wp2
      go_ret
      exact ⟨w.heap.size, n, by rw [hpr.out, Gf.prodN_length, ← HN.out]; rfl, by rw [hpr.out, ← HK.out]; exact hO, Nat.le_refl _, by rw [hpr.out, Gf.prodN_length, ← HN.out]; exact Nat.le_refl _, hB⟩
set_option maxRecDepth 100000 in
theorem trimr_any (q : List UInt8) (hq : 0 < q.length) (hql : q.length ≤ 1000) (h0 : Gf.co q 0 ≠ 0) (b off c : Nat) (hqc : q.length ≤ c) (w : World) (h : Rd w b off q) :
    Calls Try.prog 55 #[.slice (some ⟨b, off, none⟩) q.length c] w fun e w' => e = .returned (.slice (some ⟨b, off, none⟩) q.length c) ∧ w = w' := by
  have hc := h 0 hq
  have h1 : ((Gf.co q 0).toNat == 0) = false := by
    rw [beq_eq_false_iff_ne]; exact fun e => h0 (UInt8.toNat_inj.1 e)
  have h2 : (((Gf.co q 0).toNat : Int) == 0) = false := by
    rw [beq_eq_false_iff_ne]; exact fun e => h0 (u8_inj e)
  rw [Nat.add_zero] at hc
  have hcc : 0 < c := by omega
  clear h0
  go_enter Try.func55, Try.ntmps55
  go_wp2
  refine wp_loop_once ?_
  go_wp2
  go_ret
  exact ⟨rfl, rfl⟩
def slLen : Value → Nat
  | .slice _ n _ => n
  | _ => 0
/-- what the definitions' division keeps: the values at the roots; the first k symbols are gone -/
def RemJ (p q : List UInt8) (k : Nat) (R : List UInt8) : Prop := R.length = p.length ∧ (∀ x, Gf.hor q x = 0 → Gf.hor R x = Gf.hor p x) ∧ ∀ j, j < k → Gf.co R j = 0
theorem RemJ.start (p q : List UInt8) : RemJ p q 0 p := ⟨rfl, fun x _ => rfl, fun j hj => by omega⟩
theorem RemJ.step {p q : List UInt8} {k : Nat} {R : List UInt8} (h : RemJ p q k R) (hk : k + q.length ≤ p.length) (hq : 0 < q.length) (h0 : Gf.co q 0 ≠ 0) : RemJ p q (k + 1) (addM R k (Gf.mul (Gf.co R k) (Gf.inv (Gf.co q 0))) q q.length) := by
  obtain ⟨h1, h2, h3⟩ := h
  have hfit : k + (q.map (Gf.mul (Gf.mul (Gf.co R k) (Gf.inv (Gf.co q 0))))).length ≤ R.length := by rw [List.length_map, h1]; omega
  rw [addM_full]
  refine ⟨by rw [Gf.addAt_length, h1], fun x hx => ?_, fun j hj => ?_⟩
  · rw [Gf.hor_addAt hfit, Gf.hor_map, hx, Gf.mul_zero, Gf.zero_mul, UInt8.xor_zero, h2 x hx]
  · rw [Gf.co_addAt _ _ _ hfit]
    by_cases hjk : j = k
    · subst hjk
      rw [if_pos (Nat.le_refl _), Nat.sub_self, Gf.co_mul, Gf.mul_assoc, Gf.inv_mul h0, Gf.mul_one, UInt8.xor_self]
    · rw [if_neg (by omega), h3 j (by omega)]; rfl
theorem RemJ.done {p q : List UInt8} {k : Nat} {R : List UInt8} (h : RemJ p q k R) (hk : k ≤ p.length) : ∀ x, Gf.hor q x = 0 → Gf.hor (R.drop k) x = Gf.hor p x := by
  obtain ⟨h1, h2, h3⟩ := h
  intro x hx
  rw [← h2 x hx]
  conv => rhs; rw [← List.take_append_drop k R]
  have : R.take k = List.replicate k 0 := by
    refine Gf.co_ext (by simp [h1]; omega) fun i hi => ?_
    simp only [List.length_take] at hi
    rw [Gf.co_take (by omega), Gf.co_replicate, h3 i (by omega)]
  rw [Gf.hor_append, this, Gf.hor_zeros, Gf.zero_mul, UInt8.zero_xor]
set_option maxRecDepth 100000 in
set_option maxHeartbeats 2000000 in
theorem remr_any (p q : List UInt8) (hq : 2 ≤ q.length) (hpq : q.length ≤ p.length) (h0 : Gf.co q 0 ≠ 0) (hpl : p.length ≤ 1000) (hql : q.length ≤ 1000) (bp op cp bq oq cq : Nat) (hqc : q.length ≤ cq) (w : World) (h1 : Rd w bp op p) (h2 : Rd w bq oq q) :
    Calls Try.prog 31 #[.slice (some ⟨bp, op, none⟩) p.length cp, .slice (some ⟨bq, oq, none⟩) q.length cq] w fun e w' => RetRem w p q e w' := by
  have hbp := h1.lt (by omega)
  have hbq := h2.lt (by omega)
  have t1 : ((q.length : Int) == 0) = false := by rw [beq_eq_false_iff_ne]; omega
  have H0 := Lib.hid h0
  have hq0 := h2 0 (by omega)
  rw [Nat.add_zero] at hq0
  have hmk := make_u8 0 (by omega)
  rw [show ((0 : Nat) : Int) = 0 from rfl] at hmk
  clear h0
  go_enter Try.func31, Try.ntmps31
  go_wp2_with (first | (go_at_call 55; refine (trimr_any q (by omega) hql H0.out _ _ _ hqc _ h2).mono ?_; rintro e w' ⟨rfl, rfl⟩) | (go_at_call 56; refine (invr_any _ H0.out _).mono ?_; rintro e w1 ⟨rfl, rfl⟩) | (at_builtin; refine app_bytes _ Try.underlying26 rfl _ _ rfl w.heap.size _ [] rfl (Ob.empty (Nat.le_refl _)) bp op cp p.length p rfl rfl (h1.below ((Below.refl _ _).alloc (Nat.le_refl _) _) hbp) (by simp; omega) (by rw [World.size_alloc]; omega) ?_))
  intro v1 w2 hOb hKeep _ _
  obtain ⟨g, c, rfl, hgb, hrow, hcl⟩ := hOb.row (by omega)
  have hB2 := hKeep _ _ ((Below.refl _ _).alloc (Nat.le_refl _) _) (Nat.le_refl _)
  clear hOb hKeep
  have HI := Lib.hid (RemJ.start p q)
  go_wp2
  go_loopw [8] (fun v wr => ∃ (k m cc : Nat) (R : List UInt8), k + m = p.length ∧ q.length ≤ m + 1 ∧ m ≤ cc ∧ v = .slice (some ⟨g, k, none⟩) m cc ∧ Own wr g R ∧ Below w.heap.size w wr ∧ Hid (RemJ p q k R)) (fun v _ => slLen v)
  case atStart => exact ⟨0, p.length, c, p, by omega, by omega, hcl, rfl, hrow, hB2, HI.out⟩
  case round =>
    obtain ⟨k, m, cc, R, hkm, hqm, hmc, rfl, hO, hB, hI⟩ := hrel
    clear hrow hB2
    have hRl : R.length = p.length := hI.out.1
    by_cases hlt : q.length ≤ m
    · have hc := hO.cell (j := k) (by omega)
      have hm0 : 0 < m := by omega
      have HRl := Lib.hid hRl
      clear hRl
      go_wp2_with (go_at_call 57; refine (mulr_any _ _ _).mono ?_; rintro e w' ⟨rfl, rfl⟩)
      obtain ⟨f, hf⟩ : ∃ f, f = Gf.mul (Gf.co R k) (Gf.inv (Gf.co q 0)) := ⟨_, rfl⟩
      rw [← hf]
      have HF := Lib.hid hf
      clear hf hc
      obtain ⟨wo, rfl⟩ : ∃ wo : World, wo = wr := ⟨_, rfl⟩
      go_loopw [10] (fun j wi => ∃ n : Nat, n ≤ q.length ∧ j = .int .i64 n ∧ Own wi g (addM R k f q n) ∧ Below w.heap.size w wi) (fun j _ => q.length - (intOf j).toNat)
      case atStart => exact ⟨0, by omega, rfl, by rw [addM_zero]; exact hO, hB⟩
      case round =>
        obtain ⟨n, hn, rfl, hO2, hB2⟩ := hrel
        clear hO hB
        by_cases hlt2 : n < q.length
        · have hcq := (h2.below hB2 hbq) n hlt2
          have hlen : k + n < (addM R k f q n).length := by rw [addM_length, HRl.out]; omega
          have hco := hO2.cell hlen
          have hfo := hO2.free hlen
          go_wp2
          have hco' : wr.drew.cell? ⟨g, k + n, none⟩ = _ := hco
          have hfo' : wr.drew.frozen? ⟨g, k + n, none⟩ = _ := hfo
          have hcq' : wr.drew.cell? ⟨bq, oq + n, none⟩ = _ := hcq
          have hO3 : Own wr.drew g _ := hO2.drew
          have hB3 : Below w.heap.size w wr.drew := hB2.drew
          refine wp_region_still_tail 14 (by kernel_rfl) (by kernel_rfl) ?_
          simp only [List.take_succ_cons, List.take_zero, List.drop_succ_cons, List.drop_zero]
          change wpStill _ _ wr.drew (fun a' => wpList _ _ _ _ a' wr.drew) _ _
          clear hco hfo hO2 hB2 hcq
          generalize wr.drew = w3 at hco' hfo' hcq' hO3 hB3 ⊢
          have hw1 : (n : Int) < (m : Int) := by omega
          have hw2 : (n : Int) < (q.length : Int) := by omega
          have hw3 : (0 : Int) ≤ (n : Int) := by omega
          repeat (first | still_step | still_call (still_of (mulr_any _ _ _)))
          refine wpStill_nil ?_
          clear hw1 hw2 hw3
          go_wp2
          go_roundw
          case rel => exact ⟨n + 1, by omega, by go_num, by rw [b_xor, ← addM_next _ _ _ _ _ hlt2]; exact hO3.set hlen _, hB3.setCell hgb _⟩
          case measure => simp [intOf]; omega
        · have hmq : n = q.length := by omega
          have HM := Lib.hid hmq
          have hmm1 : ((m : Int) - 1) = ((m - 1 : Nat) : Int) := by omega
          clear hmq
          go_wp2
          go_roundw
          case rel => exact ⟨k + 1, m - 1, cc - 1, addM R k f q q.length, by omega, by omega, by omega, rfl, by rw [← HM.out]; exact hO2, hB2, by rw [HF.out]; exact hI.out.step (by omega) (by omega) H0.out⟩
          case measure => simp only [slLen]; omega
    · have hmq : m + 1 = q.length := by omega
      have e2 : (q.length : Int) - 1 - (m : Int) = 0 := by omega
      have HD := Lib.hid (hI.out.done (by omega))
      have hdl : (R.drop k).length = m := by rw [List.length_drop, hRl]; omega
      have HDL := Lib.hid hdl
      have HMQ := Lib.hid hmq
      have hsz := hB.size
      have HO := Lib.hid hO
      have HB := Lib.hid hB
      clear hdl hRl hmq hO hB
      go_wp2_with (at_builtin; refine app_bytes _ Try.underlying26 rfl _ _ rfl w.heap.size _ (List.replicate 0 0) rfl (Ob.made (m := 0) (by omega) hsz) g k _ m (R.drop k) rfl (by rw [HDL.out]) ?hr ?hl ?hb ?_)
      case hr => have := ((HO.out.alloc (.cells (madeCells #[.int .u8 0] 0) 5)).rd.drop k); rwa [Nat.zero_add] at this
      case hl => rw [HDL.out]; simp; omega
      case hb => rw [World.size_alloc]; omega
      intro v1 w3 hOb hKeep _ _
      obtain ⟨g3, c3, rfl, hgb3, hrow3, hcl3⟩ := hOb.row (by rw [HDL.out]; have := HMQ.out; omega)
      have hB3 := hKeep _ _ (HB.out.alloc hsz _) (Nat.le_refl _)
      go_wp2
      go_ret2
      exact ⟨R.drop k, g3, c3, rfl, hrow3, hgb3, by rw [HDL.out]; have := HMQ.out; omega, HD.out, hB3⟩
end Go.Proofs.Ytjmeoeielbkkiaa
