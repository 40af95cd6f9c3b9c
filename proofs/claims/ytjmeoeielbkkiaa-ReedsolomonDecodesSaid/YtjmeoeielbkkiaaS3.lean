import Derived.Test.YtjmeoeielbkkiaaS2
set_option maxRecDepth 100000
set_option linter.unusedVariables false
set_option linter.unusedSimpArgs false
namespace Go.Proofs.Ytjmeoeielbkkiaa
open Go.RowKit Go.Deep
theorem set_same {l : List UInt8} {j : Nat} (hj : j < l.length) {c : UInt8} (h : Gf.co l j = c) : l.set j c = l := by
  refine Gf.co_ext (by simp) fun i hi => ?_
  rw [Gf.co_set hj]
  split
  · next e => rw [e, h]
  · rfl
theorem store_zeros {P : Program} {t : TypeId} {g n : Nat} {L : List UInt8} (m : Nat) : ∀ (i : Nat) (w : World), Row t w g L → (∀ j, j < m → n + i + j < L.length ∧ Gf.co L (n + i + j) = 0) →
    ∃ w', (storeCells ⟨g, n, none⟩ (List.replicate m (B 0)) i).run P w = .ok () w' ∧ Row t w' g L ∧ w.grownBy w' (some g) := by
  induction m with
  | zero => intro i w h _; exact ⟨w, by simp [storeCells], h, World.grownBy.refl w _⟩
  | succ m ih =>
    intro i w h hz
    have h0 := hz 0 (by omega)
    rw [Nat.add_zero] at h0
    have hadd : (⟨g, n, none⟩ : Addr).add i = ⟨g, n + i, none⟩ := by unfold Addr.add; split <;> simp_all
    have hc := h.cell h0.1
    have hf := h.free h0.1
    have hst : (store ((⟨g, n, none⟩ : Addr).add i) (B 0)).run P w = .ok () (w.setCell ⟨g, n + i, none⟩ (B 0)) := by
      rw [hadd, run_store P w _ _ _ rfl, hc]
      simp [hf]
    have h' := h.set h0.1 0
    rw [set_same h0.1 h0.2] at h'
    obtain ⟨w', hr, hw, hg⟩ := ih (i + 1) _ h' (fun j hj => by
      have := hz (j + 1) (by omega)
      rwa [show n + i + (j + 1) = n + (i + 1) + j from by omega] at this)
    refine ⟨w', ?_, hw, World.grownBy.trans (Lib.grownBy_setCell w g (n + i) _) hg⟩
    rw [List.replicate_succ]
    simp only [storeCells, Sem.run_bind, hst, Result.andThen_ok, hr]
theorem zeroCells_eq (m : Nat) : Builtin.zeroCells #[Value.int .u8 0] m = ((List.replicate m (0 : UInt8)).map B).toArray := by
  apply Array.ext
  · simp [Builtin.zeroCells]
  · intro i h1 h2
    simp [Builtin.zeroCells, Nat.mod_one]
theorem run_append_zeros (t ti ty : TypeId) (ht : Try.prog.underlying t = some (.slice 5)) (hti : Try.prog.underlying ti = some (.int .i64)) (w : World) (g n c m : Nat) (L : List UInt8) (hL : Own w g L) (hLc : L.length = c) (hn : n ≤ c)
    (hz : ∀ j, n ≤ j → j < c → Gf.co L j = 0) (hnm : n + m ≤ 1000000) (hm : m ≠ 0) :
    ∃ g' c' w', (Builtin.append_ #[t, ti] ty #[.slice (some ⟨g, 0, none⟩) n c, .int .i64 (m : Int)]).run Try.prog w = .ok (.slice (some ⟨g', 0, none⟩) (n + m) c') w' ∧ Own w' g' (L.take n ++ List.replicate m 0) ∧
      (g' = g ∨ g' = w.heap.size) ∧ w.grownBy w' (some g) := by
  obtain ⟨i0, hi, hzz⟩ := Option.map_eq_some_iff.1 infoU8
  simp only [Prod.mk.injEq] at hzz
  obtain ⟨hz0, hz1, hz2⟩ := hzz
  have hm0 : ¬ ((m : Int) < 0) := by omega
  have hw : IntKind.i64.wrap (m : Int) = (m : Int) := IntWalk.i64_in _ (by omega)
  have hmb : ¬ (281474976710656 < (m : Int)) := by omega
  have hz3 : (Value.int .u8 0).cells = #[Value.int .u8 0] := rfl
  by_cases hroom : n + m ≤ c
  · have hlen : (L.take n ++ List.replicate m 0).length = n + m := by simp [hLc]; omega
    have htake : L.take (n + m) = L.take n ++ List.replicate m 0 := by
      refine Gf.co_ext (by rw [hlen, List.length_take]; omega) fun i hi' => ?_
      rw [List.length_take] at hi'
      rw [Gf.co_take (by omega)]
      by_cases hin : i < n
      · rw [Gf.co_append_left (by rw [List.length_take]; omega), Gf.co_take hin]
      · rw [Gf.co_append_right (by rw [List.length_take]; omega), Gf.co_replicate, hz i (by omega) (by omega)]
    obtain ⟨w', hr, hw', hg⟩ := store_zeros (P := Try.prog) (t := 5) (g := g) (n := n) (L := L) m 0 w hL (fun j hj => ⟨by omega, by rw [Nat.add_zero]; exact hz _ (by omega) (by omega)⟩)
    refine ⟨g, c, w', ?_, by rw [← htake]; exact hw'.take _, .inl rfl, hg⟩
    have hadd : (⟨g, 0, none⟩ : Addr).add n = ⟨g, n, none⟩ := by unfold Addr.add; split <;> simp_all
    have hzc := zeroCells_eq m
    have hml : ((List.replicate m (0 : UInt8)).map B) = List.replicate m (B 0) := by simp
    rw [hml] at hzc
    simp [Builtin.append_, run_underlying ht, run_underlying hti, sizeOf, typeInfo, zeroValue, hi, hz0, hz1, hz2, asInt, asIntOf, hw, hmb, hm0, hm, hroom, hz3, hzc, hadd, hr]
  · have h63 : ¬ (9223372036854775807 < (n : Int) + (m : Int)) := by omega
    have h48 : ¬ (281474976710656 < Builtin.nextslicecap (n + m) c) := by
      have := growslice_fits (need := n + m) (old := c) (bytes := 1) (by omega) (by omega)
      omega
    have hfo : (Builtin.firstCells 1 n (.slice (some ⟨g, 0, none⟩) n c)).run Try.prog w.drew = .ok ((L.take n).map B).toArray w.drew := by
      have := run_firstCells_some (P := Try.prog) w.drew 1 n ⟨g, 0, none⟩ n c ((L.take n).map B) (by simp [hLc]; omega) (fun j v hv => by
        have hj : j < n := by
          rcases Nat.lt_or_ge j n with h | h
          · exact h
          · rw [List.getElem?_eq_none (by simp; omega)] at hv; cases hv
        have hadd : (⟨g, 0, none⟩ : Addr).add j = ⟨g, j, none⟩ := by unfold Addr.add; split <;> simp_all
        rw [hadd]
        have hc : w.drew.cell? ⟨g, j, none⟩ = some (B (Gf.co L j)) := hL.drew.cell (by omega)
        rw [hc]
        have hjL : j < L.length := by omega
        simp [List.getElem?_take, hj, List.getElem?_eq_getElem hjL] at hv
        rw [← hv, Gf.co_lt hjL])
      exact this
    refine ⟨w.heap.size, grownCap w (n + m) c 5, w.drew.alloc (.cells ((L.take n).map B ++ (List.replicate m (0 : UInt8)).map B ++ (List.replicate (grownCap w (n + m) c 5 - (n + m)) (0 : UInt8)).map B).toArray 5), ?_, ?_, .inr rfl, ?_⟩
    · simp [Builtin.append_, run_underlying ht, run_underlying hti, sizeOf, typeInfo, zeroValue, hi, hz0, hz1, hz2, asInt, asIntOf, hw, hmb, hm0, hm, hroom, hz3, h63, h48, Question.forced, hfo, newRow, grownCap, zeroCells_eq]
      congr 2
      apply Array.ext'
      simp
    · refine ⟨(List.replicate (grownCap w (n + m) c 5 - (n + m)) (0 : UInt8)).map B, (0, 0), ?_, .inl (Nat.le_refl 0)⟩
      rw [List.map_append]
      exact heap_alloc_new w.drew _
    · exact ⟨rfl, rfl, rfl, by simp, fun k hk _ => Below.heap_alloc w.drew _ k hk⟩
theorem app_zeros (t ti : TypeId) (ht : Try.prog.underlying t = some (.slice 5)) (hti : Try.prog.underlying ti = some (.int .i64)) {ops : Array Oper} {rest : List Oper} {o : Oper} {a : Act} {w : World} {Q : Exit → Act → World → Prop} (hgd : o.guard = none) (s x : Operand)
    (ho : o.op = .call { callee := .builtin .append, args := #[s, x], argTypes := #[t, ti] })
    (g n c m : Nat) (hs : a.eval s = .slice (some ⟨g, 0, none⟩) n c) (hx : a.eval x = .int .i64 (m : Int)) (L : List UInt8) (hL : Own w g L) (hLc : L.length = c) (hn : n ≤ c)
    (hz : ∀ j, n ≤ j → j < c → Gf.co L j = 0) (hnm : n + m ≤ 1000000) (hm : m ≠ 0)
    (h : ∀ g' c' w', Own w' g' (L.take n ++ List.replicate m 0) → (g' = g ∨ g' = w.heap.size) → w.grownBy w' (some g) → wpList Try.prog ops Q rest (a.put o.dst (.slice (some ⟨g', 0, none⟩) (n + m) c')) w') :
    wpList Try.prog ops Q (o :: rest) a w := by
  obtain ⟨g', c', w', hr, h1, h2, h3⟩ := run_append_zeros t ti o.type ht hti w g n c m L hL hLc hn hz hnm hm
  refine wpList_plain hgd fun K hK => ?_
  unfold Oper.wp execOp
  simp only [ho, resolve, invoke, builtin, Sem.run_bind, Sem.run_pure, Result.andThen_ok, List.map_toArray, List.map_cons, List.map_nil, hs, hx, hr]
  exact hK _ _ (h g' c' w' h1 h2 h3)
/-- the whole row of a conversion -/
theorem bytesWorld_all (W : World) (s : ByteArray) : Own (Lib.bytesWorld W 5 s) W.heap.size (bl s ++ List.replicate (grownCap W s.size 0 5 - s.size) 0) := by
  have h := Lib.bytesWorld_at_new W 5 s
  have hc : Lib.bytesCells W 5 s = ((bl s ++ List.replicate (grownCap W s.size 0 5 - s.size) 0).map B ++ []).toArray := by
    apply Array.ext'
    simp [Lib.bytesCells, bl]
  refine ⟨[], ((Lib.bytesCells W 5 s).size, (Lib.bytesCells W 5 s).size + 1), by rw [h, hc], .inr ?_⟩
  rw [hc]
  simp
theorem toList_nil {s : ByteArray} (h : s.size = 0) : s.toList = [] := by
  rw [ByteArray.toList_eq]
  exact List.eq_nil_of_length_eq_zero (by rw [← h]; exact bl_length s)
theorem toList_cons {s : ByteArray} (h : s.size ≠ 0) : s.toList.isEmpty = false := by
  rw [ByteArray.toList_eq]
  cases hl : s.data.toList with
  | nil => exact absurd (by rw [← bl_length s, show bl s = [] from hl]; rfl) h
  | cons a l => rfl
theorem toList_cons' {s : ByteArray} (h : s.size ≠ 0) : (s.toList == []) = false := by
  have := toList_cons h
  cases hl : s.toList with
  | nil => rw [hl] at this; cases this
  | cons a l => rfl
/-- data and a parity that can be encoded -/
def encOk (n : Nat) (p : Int) : Bool := decide (1 ≤ p ∧ p ≤ 16 ∧ n ≠ 0 ∧ n + p ≤ 255)
theorem encOk_true {n : Nat} {p : Int} (h : encOk n p = true) : 1 ≤ p ∧ p ≤ 16 ∧ n ≠ 0 ∧ n + p ≤ 255 := by simpa [encOk] using h
def RetEnc (w : World) (s : ByteArray) (p : Nat) (e : Ending) (w' : World) : Prop :=
  ∃ r : List UInt8, e = .returned (.tuple #[.string (str (bl s ++ r)), .int .i64 0]) ∧ r.length = p ∧ Gf.IsCw (bl s ++ r) p ∧ Below w.heap.size w w'
set_option maxRecDepth 100000 in
set_option maxHeartbeats 2000000 in
theorem encode_no (s : ByteArray) (p : Int) (h : encOk s.size p = false) (hs : s.size ≤ 140737488351232) (w : World) : Calls Try.prog 12 #[.string s, .int .i64 p] w fun e w' => e = .returned (.tuple #[.string (str []), .int .i64 1]) ∧ w = w' := by

  have hn : ¬ (1 ≤ p ∧ p ≤ 16 ∧ s.size ≠ 0 ∧ s.size + p ≤ 255) := by simpa [encOk] using h
  clear h
  by_cases h1 : 1 ≤ p
  · by_cases h2 : p ≤ 16
    · by_cases h3 : s.size = 0
      · have hl : s.toList = [] := toList_nil h3
        go_enter Try.func12, Try.ntmps12
        go_wp2
        go_ret2
        exact ⟨rfl, rfl⟩
      · have hl : s.toList.isEmpty = false := toList_cons h3
        have hl2 : (s.toList == []) = false := toList_cons' h3
        have hbig : 255 < (s.size : Int) + p := by omega
        go_enter Try.func12, Try.ntmps12
        go_wp2
        go_ret2
        exact ⟨rfl, rfl⟩
    · go_enter Try.func12, Try.ntmps12
      go_wp2
      go_ret2
      exact ⟨rfl, rfl⟩
  · go_enter Try.func12, Try.ntmps12
    go_wp2
    go_ret2
    exact ⟨rfl, rfl⟩
set_option maxRecDepth 100000 in
set_option maxHeartbeats 2000000 in
theorem encode_yes (s : ByteArray) (p : Nat) (h : encOk s.size p = true) (w : World) : Calls Try.prog 12 #[.string s, .int .i64 (p : Int)] w fun e w' => RetEnc w s p e w' := by
  obtain ⟨h1, h2, h3, h4⟩ := encOk_true h
  clear h
  have hl : s.toList.isEmpty = false := toList_cons h3
  have hl2 : (s.toList == []) = false := toList_cons' h3
  have kb := conv_bytes s
  have hbl := bl_length s
  have HL := Lib.hid hbl
  have hs0 : 0 < s.size := by omega
  clear hbl h3
  go_enter Try.func12, Try.ntmps12
  go_wp2_with (first | (go_at_call 28; refine (generator_any p (by omega) _).mono ?_; rintro e w1 ⟨g, bg, cg, rfl, hO1, hb1, hG1, hB1⟩) | (at_builtin; refine app_zeros _ _ Try.underlying26 Try.underlying3 rfl _ _ rfl _ s.size _ p rfl rfl _ (bytesWorld_all _ s) ?a1 ?a2 ?a3 ?a4 ?a5 ?_))
  case a1 => simp only [List.length_append, List.length_replicate, HL.out]; have := grownCap_ge w1 s.size 0 5; omega
  case a2 => exact grownCap_ge w1 s.size 0 5
  case a3 => intro j h1 _; rw [Gf.co_append_right (by rw [HL.out]; exact h1), Gf.co_replicate]
  case a4 => omega
  case a5 => omega
  intro g2 c2 w2 hO2 hg2 hgr2
  have ht : (bl s ++ List.replicate (grownCap w1 s.size 0 5 - s.size) 0).take s.size = bl s := by
    rw [List.take_append_of_le_length (by rw [HL.out]; exact Nat.le_refl _), List.take_of_length_le (by rw [HL.out]; exact Nat.le_refl _)]
  rw [ht] at hO2
  have hsz1 := hB1.size
  have hg2' : w1.heap.size ≤ g2 := by
    rcases hg2 with h | h
    · omega
    · rw [Lib.bytesWorld_size] at h; omega
  have hB2 : Below w1.heap.size w1 w2 := (bytesWorld_below w1 s).trans ⟨hgr2.os, hgr2.tape, hgr2.output, hgr2.size, fun k hk => hgr2.block k (by rw [Lib.bytesWorld_size]; omega) (fun e => by injection e with e; omega)⟩
  have hlt1 := hO1.lt
  have hO1' := hO1.below hB2 hlt1
  have hB12 := hB1.trans (hB2.mono hsz1)
  have hsz2 := hB2.size
  have hgl := hG1.1
  have h0 : Gf.co g 0 ≠ 0 := by rw [hG1.2.1]; decide
  have hrem := remainder_any (bl s ++ List.replicate p 0) g (by simp [HL.out]; omega) (by omega) h0 (by simp [HL.out]; omega) (by omega) g2 0 c2 bg 0 cg w2 hO2.rd hO1'.rd
  rw [List.length_append, HL.out, List.length_replicate] at hrem
  have HR := Lib.hid hrem
  have HG := Lib.hid hG1
  have hB12h := Lib.hid hB12
  clear hrem hG1 hO2 hg2 hgr2 hO1 hB1 hO1' hB2 hB12 ht hgl h0
  go_wp2_with fail
  refine HR.out.mono ?_
  rintro e w3 ⟨r, b3, c3, rfl, hO3, hb3, hr1, hr2, hB3⟩
  have kc := conv_string hO3.rd c3
  have hgl := HG.out.1
  have hrl : r.length = p := by omega
  have HRL := Lib.hid hrl
  have H3 := Lib.hid hr2
  have hB4 := Lib.hid (hB12h.out.trans (hB3.mono (Nat.le_trans hsz1 hsz2)))
  have hrr : r.length ≤ 16 := by omega
  have hsr : s.size + (str r).size ≤ 9223372036854775807 := by rw [str_size]; omega
  have hcat : s ++ str r = str (bl s ++ r) := by rw [← str_append, str_bl]
  have HC := Lib.hid hcat
  clear hgl hrl hr1 hr2 hB3 hcat
  go_wp2
  go_ret2
  refine ⟨r, by rw [← HC.out]; rfl, HRL.out, fun j hj => ?_, hB4.out⟩
  rw [Gf.hor_append, H3.out _ (HG.out.2.2 j hj), Gf.hor_append, Gf.hor_zeros, List.length_replicate, HRL.out, UInt8.xor_zero, UInt8.xor_self]
end Go.Proofs.Ytjmeoeielbkkiaa
