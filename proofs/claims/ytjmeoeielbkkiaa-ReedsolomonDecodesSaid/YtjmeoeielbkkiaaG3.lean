import Derived.Test.YtjmeoeielbkkiaaG2
set_option maxRecDepth 100000
set_option linter.unusedVariables false
set_option linter.unusedSimpArgs false
namespace Go.Proofs.Ytjmeoeielbkkiaa
open Go.RowKit Go.Deep
/-- m symbols of a multiple of a row added from an index on -/
def addM (R : List UInt8) (k : Nat) (f : UInt8) (q : List UInt8) (m : Nat) : List UInt8 := Gf.addAt R k ((q.take m).map (Gf.mul f))
theorem addM_zero (R : List UInt8) (k : Nat) (f : UInt8) (q : List UInt8) : addM R k f q 0 = R := rfl
theorem addM_full (R : List UInt8) (k : Nat) (f : UInt8) (q : List UInt8) : addM R k f q q.length = Gf.addAt R k (q.map (Gf.mul f)) := by
  unfold addM
  rw [List.take_length]
theorem addM_length (R : List UInt8) (k : Nat) (f : UInt8) (q : List UInt8) (m : Nat) : (addM R k f q m).length = R.length := by
  unfold addM
  rw [Gf.addAt_length]
theorem addM_next (R : List UInt8) (k : Nat) (f : UInt8) (q : List UInt8) (m : Nat) (hm : m < q.length) :
    (addM R k f q m).set (k + m) (Gf.co (addM R k f q m) (k + m) ^^^ Gf.mul f (Gf.co q m)) = addM R k f q (m + 1) := by
  have ht : q.take (m + 1) = q.take m ++ [Gf.co q m] := by rw [Gf.co_lt hm, List.take_succ_eq_append_getElem hm]
  unfold addM
  rw [ht, List.map_append, List.map_cons, List.map_nil, Gf.addAt_snoc, List.length_map, List.length_take, Nat.min_eq_left (by omega)]
/-- the product with k rows, and m symbols of the next one -/
def prodM (p q : List UInt8) (k m : Nat) : List UInt8 := addM (Gf.prodN p q k) k (Gf.co p k) q m
theorem prodM_zero (p q : List UInt8) (k : Nat) : prodM p q k 0 = Gf.prodN p q k := rfl
theorem prodM_full (p q : List UInt8) (k : Nat) : prodM p q k q.length = Gf.prodN p q (k + 1) := by
  unfold prodM
  rw [addM_full, Gf.prodN]
theorem prodM_length (p q : List UInt8) (k m : Nat) : (prodM p q k m).length = p.length + q.length - 1 := by
  unfold prodM
  rw [addM_length, Gf.prodN_length]
theorem prodM_next (p q : List UInt8) (k m : Nat) (hm : m < q.length) :
    (prodM p q k m).set (k + m) (Gf.co (prodM p q k m) (k + m) ^^^ Gf.mul (Gf.co p k) (Gf.co q m)) = prodM p q k (m + 1) := addM_next _ _ _ _ _ hm
set_option maxRecDepth 100000 in
set_option maxHeartbeats 1000000 in
theorem product_any (p q : List UInt8) (hp : 0 < p.length) (hq : 0 < q.length) (hpl : p.length ≤ 1000) (hql : q.length ≤ 1000) (bp op cp bq oq cq : Nat) (w : World) (h1 : Rd w bp op p) (h2 : Rd w bq oq q) :
    Calls Try.prog 50 #[.slice (some ⟨bp, op, none⟩) p.length cp, .slice (some ⟨bq, oq, none⟩) q.length cq] w fun e w' => RetOwn w (Gf.prod p q) e w' := by
  have hbp := h1.lt hp
  have hbq := h2.lt hq
  have t1 : ((p.length : Int) == 0) = false := by rw [beq_eq_false_iff_ne]; omega
  have t2 : ((q.length : Int) == 0) = false := by rw [beq_eq_false_iff_ne]; omega
  obtain ⟨n, hn⟩ : ∃ n, n = p.length + q.length - 1 := ⟨_, rfl⟩
  have e1 : (p.length : Int) + (q.length : Int) - 1 = (n : Int) := by omega
  have hmk := make_u8 n (by omega)
  rw [← e1] at hmk
  have hn1 : n < p.length + q.length := by omega
  have hn2 : p.length + q.length ≤ n + 1 := by omega
  have E1 := Lib.hid e1
  have HN := Lib.hid hn
  clear e1 hn
  have hpr : Hid (Gf.prod p q = Gf.prodN p q p.length) := by
    show Gf.prod p q = _
    unfold Gf.prod
    rw [if_neg]
    rintro (e | e)
    · rw [e] at hp; simp at hp
    · rw [e] at hq; simp at hq
  go_enter Try.func50, Try.ntmps50
  go_wp2
  go_loopw [27] (fun i wr => ∃ k : Nat, k ≤ p.length ∧ i = .int .i64 k ∧ Own wr w.heap.size (Gf.prodN p q k) ∧ Below w.heap.size w wr) (fun i _ => p.length - (intOf i).toNat)
  case atStart =>
    refine ⟨0, by omega, rfl, ?_, (Below.refl _ _).alloc (Nat.le_refl _) _⟩
    rw [Gf.prodN, ← HN.out]
    exact Own.made w n
  case round =>
    obtain ⟨k, hk, rfl, hO, hB⟩ := hrel
    by_cases hlt : k < p.length
    · have hc := (h1.below hB hbp) k hlt
      go_wp2
      obtain ⟨wo, rfl⟩ : ∃ wo : World, wo = wr := ⟨_, rfl⟩
      go_loopw [34] (fun j wi => ∃ m : Nat, m ≤ q.length ∧ j = .int .i64 m ∧ Own wi w.heap.size (prodM p q k m) ∧ Below w.heap.size w wi) (fun j _ => q.length - (intOf j).toNat)
      case atStart => exact ⟨0, by omega, rfl, hO, hB⟩
      case round =>
        obtain ⟨m, hm, rfl, hO2, hB2⟩ := hrel
        by_cases hlt2 : m < q.length
        · have hcq := (h2.below hB2 hbq) m hlt2
          have hlen : k + m < (prodM p q k m).length := by rw [prodM_length, ← HN.out]; omega
          have hco := hO2.cell hlen
          have hfo := hO2.free hlen
          have hkn : k + m < n := by omega
          clear hc
          go_wp2
          have hco' : wr.drew.cell? ⟨w.heap.size, k + m, none⟩ = _ := hco
          have hfo' : wr.drew.frozen? ⟨w.heap.size, k + m, none⟩ = _ := hfo
          have hO3 : Own wr.drew w.heap.size _ := hO2.drew
          have hB3 : Below w.heap.size w wr.drew := hB2.drew
          refine wp_region_still_tail 11 (by kernel_rfl) (by kernel_rfl) ?_
          simp only [List.take_succ_cons, List.take_zero, List.drop_succ_cons, List.drop_zero]
          change wpStill _ _ wr.drew (fun a' => wpList _ _ _ _ a' wr.drew) _ _
          clear hco hfo hO2 hB2 hcq
          generalize wr.drew = w2 at hco' hfo' hO3 hB3 ⊢
          have hw1 : IntKind.i64.wrap ((k : Int) + (m : Int)) = (k : Int) + (m : Int) := IntWalk.i64_in _ (by omega)
          have hw2 : ((k : Int) + (m : Int)).toNat = k + m := by omega
          have hw3 : 0 ≤ (k : Int) + (m : Int) := by omega
          have hw4 : (k : Int) + (m : Int) < (n : Int) := by omega
          repeat (first | still_step | still_call (still_of (mul_any _ _ _)))
          refine wpStill_nil ?_
          clear hw1 hw2 hw3 hw4
          go_wp2
          go_roundw
          case rel => exact ⟨m + 1, by omega, by go_num, by rw [b_xor, ← prodM_next p q k m hlt2]; exact hO3.set hlen _, hB3.setCell (Nat.le_refl _) _⟩
          case measure => simp [intOf]; omega
        · have hmq : m = q.length := by omega
          have HM := Lib.hid hmq
          clear hmq
          go_wp2
          go_roundw
          case rel => exact ⟨k + 1, by omega, by go_num, by rw [← prodM_full, ← HM.out]; exact hO2, hB2⟩
          case measure => simp [intOf]; omega
    · have hkp : k = p.length := by omega
      have HK := Lib.hid hkp
      clear hkp
      go_wp2
      go_ret
      exact ⟨w.heap.size, n, by rw [hpr.out, Gf.prodN_length, ← HN.out]; rfl, by rw [hpr.out, ← HK.out]; exact hO, Nat.le_refl _, by rw [hpr.out, Gf.prodN_length, ← HN.out]; exact Nat.le_refl _, hB⟩
end Go.Proofs.Ytjmeoeielbkkiaa
