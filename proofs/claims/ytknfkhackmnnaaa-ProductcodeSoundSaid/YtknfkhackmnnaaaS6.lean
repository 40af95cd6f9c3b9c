import Derived.Test.YtknfkhackmnnaaaS5
set_option maxRecDepth 100000
set_option linter.unusedVariables false
set_option linter.unusedSimpArgs false
namespace Go.Proofs.Ytknfkhackmnnaaa
open Go.RowKit Go.Deep
/-- the state of a division: what is left is R, the quotient so far Q -/
def DivInv (p q : List UInt8) (n m : Nat) (Q R : List UInt8) : Prop :=
  m ≤ dg p ∧ R.length = p.length ∧ Q.length = max (p.length - n) 1 ∧ Gf.Sup m (Gf.co R) ∧ (∀ j, j + n < m → Gf.co Q j = 0) ∧ Gf.Sup (dg p - n) (Gf.co Q) ∧ (∀ i, Gf.co R i = Gf.co p i ^^^ Gf.cv (Gf.co Q) (Gf.co q) i)
theorem DivInv.start (p q : List UInt8) (n : Nat) : DivInv p q n (dg p) (List.replicate (max (p.length - n) 1) 0) p := by
  have hz : Gf.co (List.replicate (max (p.length - n) 1) (0 : UInt8)) = fun _ => 0 := funext fun i => Gf.co_replicate
  refine ⟨Nat.le_refl _, rfl, by simp, dg_sup p, fun j _ => by rw [hz], fun j _ => by rw [hz], fun i => ?_⟩
  rw [hz, Gf.zero_cv, UInt8.xor_zero]
theorem DivInv.step {p q : List UInt8} {n i : Nat} {Q R : List UInt8} (h : DivInv p q n (i + 1) Q R) (hn : n ≤ i) (hq : dg q = n + 1) :
    DivInv p q n i (Q.set (i - n) (Gf.mul (Gf.co R i) (Gf.inv (Gf.co q n)))) (addM R (i - n) (Gf.mul (Gf.co R i) (Gf.inv (Gf.co q n))) q (n + 1)) := by
  obtain ⟨hm, hR, hQ, hs, hz, hsq, hid⟩ := h
  have hdp := dg_le p
  have hq0 : Gf.co q n ≠ 0 := by have := dg_ne (l := q) (by omega); rwa [hq, Nat.add_sub_cancel] at this
  have hqs := dg_sup q
  rw [hq] at hqs
  generalize hf : Gf.mul (Gf.co R i) (Gf.inv (Gf.co q n)) = f
  have hlt : i - n < Q.length := by omega
  have hfit : i - n + ((q.take (n + 1)).map (Gf.mul f)).length ≤ R.length := by simp only [List.length_map, List.length_take]; omega
  have hrow : ∀ j, Gf.co ((q.take (n + 1)).map (Gf.mul f)) j = Gf.mul f (Gf.co q j) := fun j => by
    rw [Gf.co_mul]
    by_cases hj : j < n + 1
    · rw [Gf.co_take hj]
    · rw [hqs j (by omega), Gf.co_ge (by rw [List.length_take]; omega)]
  have hR' : ∀ j, Gf.co (addM R (i - n) f q (n + 1)) j = Gf.co R j ^^^ Gf.mul f (Gf.sh (i - n) (Gf.co q) j) := fun j => by
    unfold addM
    rw [Gf.co_addAt _ _ _ hfit, hrow]
    unfold Gf.sh
    split
    · rfl
    · rw [Gf.mul_zero]
  have hQ' : Gf.co (Q.set (i - n) f) = fun j => Gf.co Q j ^^^ Gf.mul f (Gf.xp (i - n) j) := funext fun j => by
    rw [Gf.co_set hlt]
    unfold Gf.xp
    by_cases hj : j = i - n
    · rw [if_pos hj, if_pos hj, hj, hz _ (by omega), Gf.mul_one, UInt8.zero_xor]
    · rw [if_neg hj, if_neg hj, Gf.mul_zero, UInt8.xor_zero]
  have hcv : Gf.cv (fun j => Gf.mul f (Gf.xp (i - n) j)) (Gf.co q) = fun j => Gf.mul f (Gf.sh (i - n) (Gf.co q) j) := funext fun j => by
    rw [Gf.sh_cv]
    unfold Gf.cv
    rw [Gf.mul_S]
    exact Gf.S_congr fun k _ => Gf.mul_assoc _ _ _
  refine ⟨by omega, by rw [addM_length, hR], by rw [List.length_set, hQ], fun j hj => ?_, fun j hj => ?_, fun j hj => ?_, fun j => ?_⟩
  · rw [hR']
    by_cases hji : j = i
    · subst hji
      unfold Gf.sh
      rw [if_pos (by omega), show j - (j - n) = n from by omega, ← hf, Gf.mul_assoc, Gf.inv_mul hq0, Gf.mul_one, UInt8.xor_self]
    · unfold Gf.sh
      rw [hs j (by omega), if_pos (by omega), hqs _ (by omega), Gf.mul_zero]
      rfl
  · rw [Gf.co_set hlt, if_neg (by omega)]
    exact hz j (by omega)
  · rw [Gf.co_set hlt, if_neg (by omega)]
    exact hsq j hj
  · rw [hR', hid, hQ', Gf.add_cv, hcv, UInt8.xor_assoc]
/-- quotient and remainder are handed back -/
def RetDiv (w : World) (p q : List UInt8) (n : Nat) (e : Ending) (w' : World) : Prop :=
  ∃ (Q R : List UInt8) (bq cq br cr : Nat), e = .returned (.tuple #[.slice (some ⟨bq, 0, none⟩) Q.length cq, .slice (some ⟨br, 0, none⟩) R.length cr]) ∧ Own w' bq Q ∧ Own w' br R ∧ w.heap.size ≤ bq ∧ w.heap.size ≤ br ∧ Below w.heap.size w w' ∧
    R.length = p.length ∧ Q.length = max (p.length - n) 1 ∧ Gf.Sup n (Gf.co R) ∧ Gf.Sup (dg p - n) (Gf.co Q) ∧ (∀ i, Gf.co R i = Gf.co p i ^^^ Gf.cv (Gf.co Q) (Gf.co q) i)
set_option maxRecDepth 100000 in
set_option maxHeartbeats 2000000 in
theorem divide_any (p q : List UInt8) (n : Nat) (hp : 0 < p.length) (hq : 0 < q.length) (hpl : p.length ≤ 1000) (hql : q.length ≤ 1000) (hdq : dg q = n + 1) (hpn : n < p.length) (bp op cp bq oq cq : Nat) (w : World) (h1 : Rd w bp op p) (h2 : Rd w bq oq q) :
    Calls Try.prog 94 #[.slice (some ⟨bp, op, none⟩) p.length cp, .slice (some ⟨bq, oq, none⟩) q.length cq] w fun e w' => RetDiv w p q n e w' := by
  have hbp := h1.lt hp
  have hbq := h2.lt hq
  have hnq : n < q.length := by have := dg_le q; omega
  have hdeg := degree_any q hq hql bq oq cq w h2
  rw [hdq, show ((n + 1 : Nat) : Int) - 1 = (n : Int) from by omega] at hdeg
  have HQ0 : Hid (Gf.co q n ≠ 0) := by
    have := dg_ne (l := q) (by omega)
    rw [hdq, Nat.add_sub_cancel] at this
    exact this
  have hDQ := Lib.hid hdq
  have HD := Lib.hid hdeg
  have hqn := h2 n hnq
  clear hdq hdeg
  obtain ⟨L, hL⟩ : ∃ L, L = max (p.length - n) 1 := ⟨_, rfl⟩
  have hmk := make_bytes 112 Try.underlying112 L (by omega)
  have HL := Lib.hid hL
  have e1 : (p.length : Int) - (n : Int) = (L : Int) := by omega
  have hL1 : 1 ≤ L := by omega
  have hL2 : p.length ≤ L + n := by omega
  clear hL
  go_enter Try.func94, Try.ntmps94
  go_wp2_with fail
  refine HD.out.mono ?_
  rintro e w' ⟨rfl, rfl⟩
  clear HD
  go_wp2_with fail
  refine (inv_ne_any _ HQ0 _).mono ?_
  rintro e w1 ⟨rfl, hB1⟩
  go_wp2_with fail
  refine (clone_poly p hp hpl bp op cp w1 (h1.below hB1 hbp)).mono ?_
  rintro e w2 ⟨br, cr, rfl, hOr, hbr, hcr, hB2⟩
  have hs1 := hB1.size
  have hB3 := hB1.trans (hB2.mono hs1)
  have hOr2 := hOr.alloc (.cells (madeCells #[.int .u8 0] L) 5)
  have hOq : Own (w2.alloc (.cells (madeCells #[.int .u8 0] L) 5)) w2.heap.size (List.replicate L 0) := Own.made w2 L
  have hbr2 := hOr.lt
  have hB4 := hB3.alloc hB3.size (.cells (madeCells #[.int .u8 0] L) 5)
  have hdeg := degree_any p hp hpl br 0 cr _ hOr2.rd
  have HD := Lib.hid hdeg
  have hsz : w.heap.size ≤ w2.heap.size := hB3.size
  clear hdeg hB1 hB2 hB3 hOr
  go_wp2_with fail
  refine HD.out.mono ?_
  rintro e w' ⟨rfl, rfl⟩
  clear HD hmk
  obtain ⟨bo, hbo⟩ : ∃ bo, bo = w2.heap.size := ⟨_, rfl⟩
  rw [← hbo] at hOq hsz hbr2 ⊢
  generalize hW : w2.alloc (.cells (madeCells #[.int .u8 0] L) 5) = W at hOr2 hOq hB4 ⊢
  clear hbo hW
  go_wp2
  go_loopw [11] (fun i wr => ∃ (m : Nat) (Q R : List UInt8), i = .int .i64 ((m : Int) - 1) ∧ Own wr bo Q ∧ Own wr br R ∧ Below w.heap.size w wr ∧ Hid (DivInv p q n m Q R)) (fun i _ => (intOf i + 1).toNat)
  case atStart => exact ⟨dg p, List.replicate L 0, p, rfl, hOq, hOr2, hB4, by rw [HL.out]; exact DivInv.start p q n⟩
  case round =>
    obtain ⟨m, Q, R, rfl, hQ, hR, hB, hI⟩ := hrel
    clear hOq hOr2 hB4
    have hI1 := hI.out
    have hlR : R.length = p.length := hI1.2.1
    have hlQ : Q.length = L := by rw [hI1.2.2.1, HL.out]
    have hm1 : m ≤ p.length := Nat.le_trans hI1.1 (dg_le p)
    clear hI1
    by_cases hlt : n < m
    · obtain ⟨i, rfl⟩ : ∃ i, m = i + 1 := ⟨m - 1, by omega⟩
      rw [show ((i + 1 : Nat) : Int) - 1 = (i : Int) from by omega]
      have hc := hR.cell (j := i) (by omega)
      have hj : i - n < Q.length := by omega
      have hco := hQ.cell hj
      have hfo := hQ.free hj
      have hin : n ≤ i := by omega
      have hsub : ((i : Int) - (n : Int)) = ((i - n : Nat) : Int) := by omega
      obtain ⟨d, hd⟩ : ∃ d, d = i - n := ⟨_, rfl⟩
      rw [← hd] at hco hfo hsub
      have HD := Lib.hid hd
      have hdL : d < L := by omega
      have HlR := Lib.hid hlR
      have HlQ := Lib.hid hlQ
      clear hlR hlQ hd hj
      go_wp2_with (go_at_call 82; refine (mul_any _ _ _).mono ?_; rintro e w' ⟨rfl, rfl⟩)
      obtain ⟨f, hf⟩ : ∃ f, f = Gf.mul (Gf.co R i) (Gf.inv (Gf.co q n)) := ⟨_, rfl⟩
      rw [← hf]
      have HF := Lib.hid hf
      have hQ2 := hQ.set (j := d) (by rw [HlQ.out]; exact hdL) f
      have hR2 := hR.other (a := ⟨bo, d, none⟩) (show bo ≠ br by omega) (B f)
      have hB2 := hB.setCell (p := ⟨bo, d, none⟩) hsz (B f)
      clear hf hQ hR hB hc hco hfo
      generalize hWo : wr.setCell ⟨bo, d, none⟩ (B f) = wo at hQ2 hR2 hB2 ⊢
      clear hWo
      go_loopw [53] (fun x wi => ∃ k : Nat, k ≤ n + 1 ∧ x = .int .i64 k ∧ Own wi bo (Q.set d f) ∧ Own wi br (addM R d f q k) ∧ Below w.heap.size w wi) (fun x _ => n + 1 - (intOf x).toNat)
      case atStart => exact ⟨0, by omega, rfl, hQ2, by rw [addM_zero]; exact hR2, hB2⟩
      case round =>
        obtain ⟨k, hk, rfl, hQ3, hR3, hB3⟩ := hrel
        clear hQ2 hR2 hB2
        by_cases hlt2 : k < n + 1
        · have hcq := (h2.below hB3 hbq) k (by omega)
          have hlen : d + k < (addM R d f q k).length := by rw [addM_length, HlR.out]; have := HD.out; omega
          have hco := hR3.cell hlen
          have hfo := hR3.free hlen
          have hdk : d + k < p.length := by have := HD.out; omega
          have hwbr : w.heap.size ≤ br := by omega
          have hnx := addM_next R d f q k (by omega)
          have HNX := Lib.hid hnx
          clear hnx
          go_wp2
          have hcq' : wr.drew.cell? ⟨bq, oq + k, none⟩ = _ := hcq
          have hco' : wr.drew.cell? ⟨br, d + k, none⟩ = _ := hco
          have hfo' : wr.drew.frozen? ⟨br, d + k, none⟩ = _ := hfo
          have hQ4 : Own wr.drew bo _ := hQ3.drew
          have hR4 : Own wr.drew br _ := hR3.drew
          have hB4 : Below w.heap.size w wr.drew := hB3.drew
          refine wp_region_still_tail 16 (by kernel_rfl) (by kernel_rfl) ?_
          simp only [List.take_succ_cons, List.take_zero, List.drop_succ_cons, List.drop_zero]
          change wpStill _ _ wr.drew (fun a' => wpList _ _ _ _ a' wr.drew) _ _
          clear hco hfo hQ3 hR3 hB3 hcq
          generalize wr.drew = w9 at hcq' hco' hfo' hQ4 hR4 hB4 ⊢
          have hw0 : IntKind.i64.wrap (d : Int) = (d : Int) := IntWalk.i64_in _ (by omega)
          have hw1 : IntKind.i64.wrap ((d : Int) + (k : Int)) = (d : Int) + (k : Int) := IntWalk.i64_in _ (by omega)
          have hw2 : ((d : Int) + (k : Int)).toNat = d + k := by omega
          have hw3 : 0 ≤ (d : Int) + (k : Int) := by omega
          have hw4 : (d : Int) + (k : Int) < (p.length : Int) := by omega
          have hw5 : (k : Int) < (q.length : Int) := by omega
          repeat (first | still_step | still_call (still_of (mul_any _ _ _)))
          refine wpStill_nil ?_
          clear hw0 hw1 hw2 hw3 hw4 hw5
          go_wp2
          go_roundw
          case rel => exact ⟨k + 1, by omega, by go_num, hQ4.other (show br ≠ bo by omega) _, by rw [b_xor, ← HNX.out]; exact hR4.set hlen _, hB4.setCell (p := ⟨br, d + k, none⟩) hwbr _⟩
          case measure => simp [intOf]; omega
        · have hkn : k = n + 1 := by omega
          have HK := Lib.hid hkn
          clear hkn
          go_wp2
          go_roundw
          case rel => exact ⟨i, Q.set d f, addM R d f q k, rfl, hQ3, hR3, hB3, by rw [HK.out, HD.out, HF.out]; exact hI.out.step hin hDQ.out⟩
          case measure => simp [intOf]
    · have hI1 := hI.out
      have hfin : Hid (RetDiv w p q n (.returned (.tuple #[.slice (some ⟨bo, 0, none⟩) L L, .slice (some ⟨br, 0, none⟩) p.length cr])) wr) :=
        ⟨Q, R, bo, L, br, cr, by rw [hlR, hlQ], hQ, hR, hsz, by omega, hB, hlR, hI1.2.2.1, hI1.2.2.2.1.mono (by omega), hI1.2.2.2.2.2.1, hI1.2.2.2.2.2.2⟩
      clear hI1
      rcases m with _ | i
      · rw [show ((0 : Nat) : Int) - 1 = -1 from rfl]
        go_wp2
        go_ret2
        exact hfin.out
      · rw [show ((i + 1 : Nat) : Int) - 1 = (i : Int) from by omega]
        go_wp2
        go_ret2
        exact hfin.out
end Go.Proofs.Ytknfkhackmnnaaa
