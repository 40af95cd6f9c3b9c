import Derived.Laws.CopyOwn
import Derived.Test.YtjmeoeielbkkiaaS4
set_option maxRecDepth 100000
set_option linter.unusedVariables false
set_option linter.unusedSimpArgs false
namespace Go.Proofs.Ytjmeoeielbkkiaa
open Go.RowKit Go.Deep
theorem infoU8s : (Try.prog.info? 5).map (·.size) = some 1 := by
  obtain ⟨i0, hi, hzz⟩ := Option.map_eq_some_iff.1 infoU8
  simp only [Prod.mk.injEq] at hzz
  rw [hi]
  simp [hzz.2.1]
/-- the derivative, k symbols of it -/
def derK (p : List UInt8) (k : Nat) : List UInt8 := (List.range (p.length - 1)).map fun i => if i < k then (if i % 2 = 0 then Gf.co p (i + 1) else 0) else 0
theorem derK_length (p : List UInt8) (k : Nat) : (derK p k).length = p.length - 1 := by simp [derK]
theorem co_derK (p : List UInt8) (k i : Nat) (h : i < p.length - 1) : Gf.co (derK p k) i = if i < k then (if i % 2 = 0 then Gf.co p (i + 1) else 0) else 0 := by
  rw [Gf.co_lt (by rw [derK_length]; exact h)]; simp [derK]
theorem derK_zero (p : List UInt8) : derK p 0 = List.replicate (p.length - 1) 0 := by
  refine Gf.co_ext (by simp [derK_length]) fun i hi => ?_
  rw [derK_length] at hi
  rw [co_derK _ _ _ hi, if_neg (by omega), Gf.co_replicate]
theorem derK_full (p : List UInt8) : derK p (p.length - 1) = Gf.der p := by
  refine Gf.co_ext (by rw [derK_length, Gf.der_length]) fun i hi => ?_
  rw [derK_length] at hi
  rw [co_derK _ _ _ hi, if_pos hi, Gf.co_der]
theorem derK_even (p : List UInt8) (k : Nat) (hk : k < p.length - 1) (he : k % 2 = 0) : (derK p k).set k (Gf.co p (k + 1)) = derK p (k + 1) := by
  refine Gf.co_ext (by simp [derK_length]) fun i hi => ?_
  rw [List.length_set, derK_length] at hi
  rw [Gf.co_set (by rw [derK_length]; exact hk), co_derK _ _ _ hi, co_derK _ _ _ hi]
  by_cases h : i = k
  · subst h; rw [if_pos rfl, if_pos (by omega), if_pos he]
  · rw [if_neg h]
    by_cases h2 : i < k
    · rw [if_pos h2, if_pos (show i < k + 1 by omega)]
    · rw [if_neg h2, if_neg (show ¬ i < k + 1 by omega)]
theorem derK_odd (p : List UInt8) (k : Nat) (he : ¬ k % 2 = 0) : derK p k = derK p (k + 1) := by
  refine Gf.co_ext (by simp [derK_length]) fun i hi => ?_
  rw [derK_length] at hi
  rw [co_derK _ _ _ hi, co_derK _ _ _ hi]
  by_cases h2 : i < k
  · rw [if_pos h2, if_pos (show i < k + 1 by omega)]
  · rw [if_neg h2]
    by_cases h : i = k
    · subst h; rw [if_pos (show i < i + 1 by omega), if_neg he]
    · rw [if_neg (show ¬ i < k + 1 by omega)]
set_option maxRecDepth 100000 in
set_option maxHeartbeats 1000000 in
theorem derivative_any (p : List UInt8) (hp : 0 < p.length) (hpl : p.length ≤ 1000) (bp op cp : Nat) (w : World) (h1 : Rd w bp op p) :
    Calls Try.prog 66 #[.slice (some ⟨bp, op, none⟩) p.length cp] w fun e w' => RetOwn w (Gf.der p) e w' := by
  have hbp := h1.lt hp
  obtain ⟨n, hn⟩ : ∃ n, n = p.length - 1 := ⟨_, rfl⟩
  have e1 : (p.length : Int) - 1 = (n : Int) := by omega
  have hmk := make_bytes 57 Try.underlying57 n (by omega)
  rw [← e1] at hmk
  have HN := Lib.hid hn
  have hn1 : n < p.length := by omega
  have hn2 : p.length ≤ n + 1 := by omega
  clear e1 hn
  go_enter Try.func66, Try.ntmps66
  go_wp2
  go_loopw [12] (fun i wr => ∃ k : Nat, k ≤ n ∧ i = .int .i64 k ∧ Own wr w.heap.size (derK p k) ∧ Below w.heap.size w wr) (fun i _ => n - (intOf i).toNat)
  case atStart => exact ⟨0, by omega, rfl, by rw [derK_zero, ← HN.out]; exact Own.made w n, (Below.refl _ _).alloc (Nat.le_refl _) _⟩
  case round =>
    obtain ⟨k, hk, rfl, hO, hB⟩ := hrel
    by_cases hlt : k < n
    · by_cases he : k % 2 = 0
      · have he' : ((k : Int) % 2 == 0) = true := by rw [beq_iff_eq]; omega
        have hc := (h1.below hB hbp) (k + 1) (by omega)
        have hl : k < (derK p k).length := by rw [derK_length, ← HN.out]; exact hlt
        have hco := hO.cell hl
        have hfo := hO.free hl
        have hn3 := derK_even p k (by rw [← HN.out]; exact hlt) he
        have H3 := Lib.hid hn3
        clear hn3 he
        go_wp2
        go_roundw
        case rel => exact ⟨k + 1, by omega, by go_num, by rw [← H3.out]; exact hO.set hl _, hB.setCell (Nat.le_refl _) _⟩
        case measure => simp [intOf]; omega
      · have he' : ((k : Int) % 2 == 0) = false := by rw [beq_eq_false_iff_ne]; omega
        have hn3 := derK_odd p k he
        have H3 := Lib.hid hn3
        clear hn3 he
        go_wp2
        go_roundw
        case rel => exact ⟨k + 1, by omega, by go_num, by rw [← H3.out]; exact hO, hB⟩
        case measure => simp [intOf]; omega
    · have hkn : k = n := by omega
      have HK := Lib.hid hkn
      clear hkn
      go_wp2
      go_ret
      have hd : derK p k = Gf.der p := by rw [HK.out, HN.out, derK_full]
      exact ⟨w.heap.size, n, by rw [Gf.der_length, ← HN.out]; rfl, by rw [← hd]; exact hO, Nat.le_refl _, by rw [Gf.der_length, ← HN.out]; exact Nat.le_refl _, hB⟩
/-- the sum -/
def plusL (p q : List UInt8) : List UInt8 := addM (p ++ List.replicate (max p.length q.length - p.length) 0) 0 1 q q.length
theorem plusL_length (p q : List UInt8) : (plusL p q).length = max p.length q.length := by
  unfold plusL
  rw [addM_length]
  simp
  omega
theorem co_plusL (p q : List UInt8) (i : Nat) : Gf.co (plusL p q) i = Gf.co p i ^^^ Gf.co q i := by
  unfold plusL
  rw [addM_full, Gf.co_addAt _ _ _ (by simp; omega), if_pos (Nat.zero_le _), Nat.sub_zero, Gf.co_mul, Gf.one_mul]
  congr 1
  by_cases h : i < p.length
  · rw [Gf.co_append_left h]
  · rw [Gf.co_append_right (by omega), Gf.co_replicate, Gf.co_ge (by omega)]
set_option maxRecDepth 100000 in
set_option maxHeartbeats 1000000 in
theorem plus_any (p q : List UInt8) (hp : 0 < p.length) (hq : 0 < q.length) (hpl : p.length ≤ 1000) (hql : q.length ≤ 1000) (bp op cp bq oq cq : Nat) (w : World) (h1 : Rd w bp op p) (h2 : Rd w bq oq q) :
    Calls Try.prog 44 #[.slice (some ⟨bp, op, none⟩) p.length cp, .slice (some ⟨bq, oq, none⟩) q.length cq] w fun e w' => RetOwn w (plusL p q) e w' := by
  have hbp := h1.lt hp
  have hbq := h2.lt hq
  by_cases hle : p.length < q.length
  · have hmk := make_bytes 57 Try.underlying57 q.length (by omega)
    have hmax : Hid (q.length = max p.length q.length) := by show _ = _; omega
    have hn1 : p.length ≤ q.length := by omega
    have hn2 : q.length ≤ q.length := by omega
    have C1 : Hid (∀ u : Unit, (w.alloc (.cells (madeCells #[.int .u8 0] q.length) 5)).heap[w.heap.size]? = some (.cells ((List.replicate q.length (0 : UInt8)).map B ++ []).toArray 5 (0, 0))) := by
      intro _
      rw [zeros_eq]; exact heap_alloc_new w _
    have C2 : Hid ((p.map B).length = Nat.min p.length q.length) := by
      show _ = _
      rw [List.length_map]; exact (Nat.min_eq_left hn1).symm
    have C3 : Hid (∀ j v, (p.map B)[j]? = some v → (w.alloc (.cells (madeCells #[.int .u8 0] q.length) 5)).cell? ((⟨bp, op, none⟩ : Addr).add j) = some v) := fun j v hv => by
      have hj : j < p.length := by
        rcases Nat.lt_or_ge j p.length with h | h
        · exact h
        · rw [List.getElem?_eq_none (by simpa using h)] at hv; cases hv
      have hadd : (⟨bp, op, none⟩ : Addr).add j = ⟨bp, op + j, none⟩ := by unfold Addr.add; split <;> simp_all
      rw [hadd, (h1.below ((Below.refl _ _).alloc (Nat.le_refl _) _) hbp) j hj]
      simp [List.getElem?_eq_getElem hj] at hv
      rw [← hv, Gf.co_lt hj]
    have C4 : Hid (0 + (p.map B).length ≤ ((List.replicate q.length (0 : UInt8)).map B ++ []).length) := by show _ ≤ _; simp; try omega
    have C5 : Hid (∀ v ∈ p.map B, v.oneCell' = true) := by intro v hv; obtain ⟨c, _, rfl⟩ := List.mem_map.1 hv; rfl
    go_enter Try.func44, Try.ntmps44
    go_wp2_with (refine wpList_copy_splice rfl (.tmp 14) (.tmp 15) 57 57 rfl 5 Try.underlying57 infoU8s _ _ _ _ _ _ rfl rfl w.heap.size 0 ((List.replicate q.length (0 : UInt8)).map B ++ []) 5 ?_ (p.map B) ?_ ?_ ?_ ?_ w.heap.size w ?_ (Nat.le_refl _) ?_; exact C1.out (); exact C2.out; exact fun _ => ⟨rfl, ⟨bp, op, none⟩, rfl, C3.out⟩; exact C4.out; exact C5.out; exact (Below.refl _ _).alloc (Nat.le_refl _) _)
    intro w2 hg hB2
    have hO2 : Own w2 w.heap.size (p ++ List.replicate (q.length - p.length) 0) := by
      refine Row.of_heap ?_
      rw [hg.out]
      congr 3
      simp [splice]
    clear hg hmk
    obtain ⟨R, hR⟩ : ∃ R, R = p ++ List.replicate (q.length - p.length) 0 := ⟨_, rfl⟩
    have hRl : R.length = q.length := by rw [hR]; simp; try omega
    rw [← hR] at hO2
    have HR := Lib.hid hR
    have HL := Lib.hid hRl
    clear hR hRl
    go_wp2
    go_loopw [19] (fun i wr => ∃ m : Nat, m ≤ q.length ∧ i = .int .i64 m ∧ Own wr w.heap.size (addM R 0 1 q m) ∧ Below w.heap.size w wr) (fun i _ => q.length - (intOf i).toNat)
    case atStart => exact ⟨0, by omega, rfl, hO2, hB2⟩
    case round =>
      obtain ⟨m, hm, rfl, hO, hB⟩ := hrel
      by_cases hlt : m < q.length
      · have hcq := (h2.below hB hbq) m hlt
        have hlen : m < (addM R 0 1 q m).length := by rw [addM_length, HL.out]; omega
        have hco := hO.cell hlen
        have hfo := hO.free hlen
        have hx := addM_next R 0 1 q m hlt
        rw [Nat.zero_add, Gf.one_mul] at hx
        have HX := Lib.hid hx
        clear hx
        go_wp2
        go_roundw
        case rel => exact ⟨m + 1, by omega, by go_num, by rw [b_xor, ← HX.out]; exact hO.set hlen _, hB.setCell (Nat.le_refl _) _⟩
        case measure => simp [intOf]; omega
      · have hmq : m = q.length := by omega
        have HM := Lib.hid hmq
        clear hmq
        go_wp2
        go_ret
        have hp2 : addM R 0 1 q m = plusL p q := by rw [HM.out, HR.out]; unfold plusL; rw [← hmax.out]
        exact ⟨w.heap.size, q.length, by rw [plusL_length, ← hmax.out]; rfl, by rw [← hp2]; exact hO, Nat.le_refl _, by rw [plusL_length, ← hmax.out]; exact Nat.le_refl _, hB⟩
  · have hmk := make_bytes 57 Try.underlying57 p.length (by omega)
    have hmax : Hid (p.length = max p.length q.length) := by show _ = _; omega
    have hn1 : p.length ≤ p.length := by omega
    have hn2 : q.length ≤ p.length := by omega
    have C1 : Hid (∀ u : Unit, (w.alloc (.cells (madeCells #[.int .u8 0] p.length) 5)).heap[w.heap.size]? = some (.cells ((List.replicate p.length (0 : UInt8)).map B ++ []).toArray 5 (0, 0))) := by
      intro _
      rw [zeros_eq]; exact heap_alloc_new w _
    have C2 : Hid ((p.map B).length = Nat.min p.length p.length) := by
      show _ = _
      rw [List.length_map]; exact (Nat.min_eq_left hn1).symm
    have C3 : Hid (∀ j v, (p.map B)[j]? = some v → (w.alloc (.cells (madeCells #[.int .u8 0] p.length) 5)).cell? ((⟨bp, op, none⟩ : Addr).add j) = some v) := fun j v hv => by
      have hj : j < p.length := by
        rcases Nat.lt_or_ge j p.length with h | h
        · exact h
        · rw [List.getElem?_eq_none (by simpa using h)] at hv; cases hv
      have hadd : (⟨bp, op, none⟩ : Addr).add j = ⟨bp, op + j, none⟩ := by unfold Addr.add; split <;> simp_all
      rw [hadd, (h1.below ((Below.refl _ _).alloc (Nat.le_refl _) _) hbp) j hj]
      simp [List.getElem?_eq_getElem hj] at hv
      rw [← hv, Gf.co_lt hj]
    have C4 : Hid (0 + (p.map B).length ≤ ((List.replicate p.length (0 : UInt8)).map B ++ []).length) := by show _ ≤ _; simp; try omega
    have C5 : Hid (∀ v ∈ p.map B, v.oneCell' = true) := by intro v hv; obtain ⟨c, _, rfl⟩ := List.mem_map.1 hv; rfl
    go_enter Try.func44, Try.ntmps44
    go_wp2_with (refine wpList_copy_splice rfl (.tmp 14) (.tmp 15) 57 57 rfl 5 Try.underlying57 infoU8s _ _ _ _ _ _ rfl rfl w.heap.size 0 ((List.replicate p.length (0 : UInt8)).map B ++ []) 5 ?_ (p.map B) ?_ ?_ ?_ ?_ w.heap.size w ?_ (Nat.le_refl _) ?_; exact C1.out (); exact C2.out; exact fun _ => ⟨rfl, ⟨bp, op, none⟩, rfl, C3.out⟩; exact C4.out; exact C5.out; exact (Below.refl _ _).alloc (Nat.le_refl _) _)
    intro w2 hg hB2
    have hO2 : Own w2 w.heap.size (p ++ List.replicate (p.length - p.length) 0) := by
      refine Row.of_heap ?_
      rw [hg.out]
      congr 3
      simp [splice]
    clear hg hmk
    obtain ⟨R, hR⟩ : ∃ R, R = p ++ List.replicate (p.length - p.length) 0 := ⟨_, rfl⟩
    have hRl : R.length = p.length := by rw [hR]; simp; try omega
    rw [← hR] at hO2
    have HR := Lib.hid hR
    have HL := Lib.hid hRl
    clear hR hRl
    go_wp2
    go_loopw [19] (fun i wr => ∃ m : Nat, m ≤ q.length ∧ i = .int .i64 m ∧ Own wr w.heap.size (addM R 0 1 q m) ∧ Below w.heap.size w wr) (fun i _ => q.length - (intOf i).toNat)
    case atStart => exact ⟨0, by omega, rfl, hO2, hB2⟩
    case round =>
      obtain ⟨m, hm, rfl, hO, hB⟩ := hrel
      by_cases hlt : m < q.length
      · have hcq := (h2.below hB hbq) m hlt
        have hlen : m < (addM R 0 1 q m).length := by rw [addM_length, HL.out]; omega
        have hco := hO.cell hlen
        have hfo := hO.free hlen
        have hx := addM_next R 0 1 q m hlt
        rw [Nat.zero_add, Gf.one_mul] at hx
        have HX := Lib.hid hx
        clear hx
        go_wp2
        go_roundw
        case rel => exact ⟨m + 1, by omega, by go_num, by rw [b_xor, ← HX.out]; exact hO.set hlen _, hB.setCell (Nat.le_refl _) _⟩
        case measure => simp [intOf]; omega
      · have hmq : m = q.length := by omega
        have HM := Lib.hid hmq
        clear hmq
        go_wp2
        go_ret
        have hp2 : addM R 0 1 q m = plusL p q := by rw [HM.out, HR.out]; unfold plusL; rw [← hmax.out]
        exact ⟨w.heap.size, p.length, by rw [plusL_length, ← hmax.out]; rfl, by rw [← hp2]; exact hO, Nat.le_refl _, by rw [plusL_length, ← hmax.out]; exact Nat.le_refl _, hB⟩
end Go.Proofs.Ytjmeoeielbkkiaa
