/- A codeword whose symbols are changed at e positions and erased at s others, 2 e + s <= parity, is restored, with the number of positions that really differ: for every input. -/
import Derived.Carry
import Derived.Maps.RangeWalk
import Derived.StillTailTactics
import Derived.Test.YtjmeoeielbkkiaaBm
import Derived.Test.YtjmeoeielbkkiaaLfil
set_option linter.unusedVariables false
set_option linter.unusedSimpArgs false
namespace Go.Proofs.Ytjmeoeielbkkiaa
open Go.RowKit Go.Deep
def inEr (er : List Int) (k : Nat) (y : Int) : Bool := decide (y ∈ er.take k)
theorem inEr_zero (er : List Int) : inEr er 0 = fun _ => false := funext fun y => by simp [inEr]
theorem inEr_succ {er : List Int} {k : Nat} (h : k < er.length) : (fun y => if y = ci er k then true else inEr er k y) = inEr er (k + 1) := funext fun y => by
  unfold inEr
  rw [List.take_add_one, List.getElem?_eq_getElem h, ← ci_lt h]
  by_cases e : y = ci er k <;> simp [e]
theorem inEr_full (er : List Int) (y : Int) : inEr er er.length y = decide (y ∈ er) := by unfold inEr; rw [List.take_length]
/-- a slice of 16-bit numbers can be read, nil or not -/
def RdH (w : World) (A : Option Addr) (l : List Nat) : Prop := 0 < l.length → ∃ b off, A = some ⟨b, off, none⟩ ∧ b < w.heap.size ∧ ∀ j, j < l.length → w.cell? ⟨b, off + j, none⟩ = some (.int .u16 (l.getD j 0 : Nat))
theorem rdh_of {w : World} {x : Addr} {zs : List Int} (hc : ∀ i, i < zs.length → w.cell? (x.add i) = some (.int .u16 (zs.getD i 0))) (hw : ∀ n ∈ zs, (Lit.int .u16 n).wf = true) (n : Nat) : RdH w (some x) ((zs.take n).map Int.toNat) := fun hl => by
  have hp : 0 < zs.length := by rw [List.length_map, List.length_take] at hl; omega
  obtain ⟨b, off, rfl, h⟩ := ints_at hc hp
  refine ⟨b, off, rfl, World.block_lt_of_cell? w _ (h 0 hp), fun j hj => ?_⟩
  rw [List.length_map, List.length_take] at hj
  have hj2 : j < zs.length := by omega
  rw [h j hj2]
  have hb := (bounds_u16 (hw zs[j] (List.getElem_mem _))).1
  simp only [List.getD_eq_getElem?_getD, List.getElem?_map, List.getElem?_take, if_pos (show j < n by omega), List.getElem?_eq_getElem hj2, Option.map_some, Option.getD_some]
  rw [Int.toNat_of_nonneg hb]
theorem ch_small {zs : List Int} (hw : ∀ n ∈ zs, (Lit.int .u16 n).wf = true) (k : Nat) : ∀ n ∈ (zs.take k).map Int.toNat, n < 65536 := fun n hn => by
  obtain ⟨z, hz, rfl⟩ := List.mem_map.1 hn
  have hb := bounds_u16 (hw z (List.mem_of_mem_take hz))
  omega
/-- outside of the erased positions a difference is told -/
def Told (W L : List UInt8) (er : List Int) (f : Int → Bool) : Prop := L.length = W.length ∧ ∀ i : Nat, i < W.length → (i : Int) ∉ er → Gf.co L i ≠ Gf.co W i → f i = true
theorem told_of {W L : List UInt8} {er : List Int} (hP : posN W.length er er.length) (h : Damaged W L er) : Told W L er (fun _ => false) := ⟨h.1, fun i hi hn hd => absurd (h.2 i hi (fun e => hn ((mem_erN hP i).1 e))) hd⟩
theorem Told.set {W L : List UInt8} {er : List Int} {f : Int → Bool} (h : Told W L er f) {x : Nat} (hx : x < W.length) (c : UInt8) (b : Bool) (hb : c ≠ Gf.co W x → b = true) : Told W (L.set x c) er (fun y => if y = (x : Int) then b else f y) := by
  refine ⟨by rw [List.length_set, h.1], fun i hi hn hd => ?_⟩
  rw [Gf.co_set (by rw [h.1]; exact hx)] at hd
  by_cases e : i = x
  · subst e
    rw [if_pos rfl] at hd
    show (if (i : Int) = (i : Int) then b else f i) = true
    rw [if_pos rfl]
    exact hb hd
  · rw [if_neg e] at hd
    show (if (i : Int) = (x : Int) then b else f i) = true
    rw [if_neg (by omega)]
    exact h.2 i hi hn hd
/-- how many of some positions a loop over a map has passed -/
def passed (O : List Nat) (left : Lit → Bool) : Nat := (O.filter fun i : Nat => !left (.int .i64 (i : Int))).length
theorem passed_start {O : List Nat} {left : Lit → Bool} (h : ∀ i, i ∈ O → left (.int .i64 (i : Int)) = true) : passed O left = 0 := by
  unfold passed
  rw [List.length_eq_zero_iff, List.filter_eq_nil_iff]
  intro i hi
  simp [h i hi]
theorem passed_end {O : List Nat} {left : Lit → Bool} (h : ∀ kl, left kl = false) : passed O left = O.length := by
  unfold passed
  congr 1
  rw [List.filter_eq_self]
  intro i _
  simp [h]
theorem same_int (a b : Int) : (Lit.int .i64 a).sameKey (.int .i64 b) = decide (a = b) := by simp [Lit.sameKey]
theorem passed_step {O : List Nat} (hO : O.Nodup) (left : Lit → Bool) (x : Int) : passed O (fun z => left z && !z.sameKey (.int .i64 x)) ≤ passed O left + (if ∃ i : Nat, i ∈ O ∧ (i : Int) = x then 1 else 0) := by
  unfold passed
  induction O with
  | nil => simp
  | cons a O ih =>
    have ih := ih (List.nodup_cons.1 hO).2
    have hna := (List.nodup_cons.1 hO).1
    simp only [same_int] at ih ⊢
    rw [List.filter_cons, List.filter_cons]
    by_cases hax : (a : Int) = x
    · have hno : ¬ ∃ i : Nat, i ∈ O ∧ (i : Int) = x := fun ⟨i, h1, h2⟩ => hna (by rwa [show a = i from by omega])
      rw [if_neg hno] at ih
      have hy : ∃ i : Nat, i ∈ a :: O ∧ (i : Int) = x := ⟨a, List.mem_cons_self, hax⟩
      rw [if_pos hy]
      subst hax
      rcases hl : left (.int .i64 (a : Int)) with _ | _
      · simp at ih ⊢
        omega
      · simp at ih ⊢
        omega
    · have hiff : (∃ i : Nat, i ∈ a :: O ∧ (i : Int) = x) ↔ ∃ i : Nat, i ∈ O ∧ (i : Int) = x := by
        constructor
        · rintro ⟨i, h1, h2⟩
          rcases List.mem_cons.1 h1 with rfl | h1
          · exact absurd h2 hax
          · exact ⟨i, h1, h2⟩
        · rintro ⟨i, h1, h2⟩; exact ⟨i, List.mem_cons_of_mem _ h1, h2⟩
      by_cases hex : ∃ i : Nat, i ∈ O ∧ (i : Int) = x
      · rw [if_pos (hiff.2 hex)]
        rw [if_pos hex] at ih
        rcases hl : left (.int .i64 (a : Int)) with _ | _
        · simp [hax] at ih ⊢
          omega
        · simp [hax] at ih ⊢
          omega
      · rw [if_neg (fun h => hex (hiff.1 h))]
        rw [if_neg hex] at ih
        rcases hl : left (.int .i64 (a : Int)) with _ | _
        · simp [hax] at ih ⊢
          omega
        · simp [hax] at ih ⊢
          omega
theorem bool_inv {v : Value} {y : DataW Unit × List MemPlace} (h : plainElem Try.prog 4 v = some y) : ∃ c : Bool, v = .bool c := by
  cases v <;> simp_all [plainElem, Try.underlying4]
theorem passed_first {O : List Nat} {D : DataW Unit} {f : Int → Bool} (hD : ∀ x : Int, D.atKey (.int .i64 x) (.lit (.bool false)) = .lit (.bool (f x))) (hO : ∀ i, i ∈ O → f (i : Int) = true) : passed O (Maps.has D) = 0 := passed_start fun i hi => by
  cases hh : Maps.has D (.int .i64 (i : Int)) with
  | true => rfl
  | false =>
    have h1 := Maps.atKey_of_not_has hh (.lit (.bool false))
    rw [hD, hO i hi] at h1
    cases h1
theorem passed_next {O : List Nat} (hN : O.Nodup) {D : DataW Unit} {f : Int → Bool} (hD : ∀ x : Int, D.atKey (.int .i64 x) (.lit (.bool false)) = .lit (.bool (f x))) (hO : ∀ i, i ∈ O → f (i : Int) = true) {left : Lit → Bool} {x : Int} {c : Bool} (hat : D.atKey (.int .i64 x) (.lit (.bool false)) = .lit (.bool c)) {n : Nat} (hn : passed O left ≤ n) :
    passed O (fun z => left z && !z.sameKey (.int .i64 x)) ≤ n + (if c = true then 1 else 0) := by
  refine Nat.le_trans (passed_step hN left x) ?_
  by_cases hex : ∃ i : Nat, i ∈ O ∧ (i : Int) = x
  · obtain ⟨i, h1, rfl⟩ := hex
    rw [hD, hO i h1] at hat
    injection hat with h2
    injection h2 with h3
    subst h3
    rw [if_pos ⟨i, h1, rfl⟩, if_pos rfl]
    omega
  · rw [if_neg hex]
    omega
theorem outs_told {W L : List UInt8} {er : List Int} {f : Int → Bool} (hP : posN W.length er er.length) (h : Told W L er f) : ∀ i, i ∈ Gf.outs L W (erN er) → f (i : Int) = true := fun i hi => by
  obtain ⟨h1, h2, h3⟩ := Gf.mem_outs.1 hi
  exact h.2 i (by rw [← h.1]; exact h1) (fun e => h3 ((mem_erN hP i).2 e)) h2
set_option maxRecDepth 100000 in
set_option maxHeartbeats 2000000 in
theorem law_corrects (a : ByteArray) (p : Int) (ch : List Nat) (C : Option Addr) (cc : Nat) (er : List Int) (A : Option Addr) (c : Nat) (w : World) (ha : a.size ≤ 140737488351232) (hch : RdH w C ch) (hcw : ∀ n ∈ ch, n < 65536) (hr : RdI w A er) :
    Calls Try.prog 5 #[.string a, .int .i64 p, .slice C ch.length cc, .slice A er.length c] w fun e w' => Ret1 w (.bool true) e w' := by
  have hmm := @run_makeMap Try.prog
  go_enter Try.func5, Try.ntmps5
  go_wp2_with fail
  refine (awake_any _).mono ?_
  rintro e w1 ⟨rfl, hB1⟩
  by_cases hguard : a.size ≤ 100 ∧ ch.length ≤ 8 ∧ er.length ≤ 16
  · obtain ⟨hal, hcl, hel⟩ := hguard
    have hna : ¬ (100 : Int) < (a.size : Int) := by omega
    have hnc : ¬ (8 : Int) < (ch.length : Int) := by omega
    have hne : ¬ (16 : Int) < (er.length : Int) := by omega
    by_cases hp : encOk a.size p = true
    · obtain ⟨q, rfl⟩ : ∃ q : Nat, p = q := Int.eq_ofNat_of_zero_le (by have := encOk_true hp; omega)
      obtain ⟨hq1, hq2, hq3, hq4⟩ := encOk_true hp
      have HP := Lib.hid hp
      clear hp
      go_wp2_with fail
      refine (encode_yes a q HP.out _).mono ?_
      rintro e w2 ⟨r, rfl, hr1, hc, hB2⟩
      have hB3 := hB1.trans (hB2.mono hB1.size)
      clear hB1 hB2
      have hXs : (str (bl a ++ r)).size = a.size + q := by rw [str_size, List.length_append, bl_length, hr1]
      have hXl : (bl a ++ r).length = a.size + q := by rw [List.length_append, bl_length, hr1]
      have hps := positions_any (str (bl a ++ r)) er A c (by omega) (by omega) w2 (hr.below (Nat.le_refl _) hB3)
      have HPS := Lib.hid hps
      clear hps
      go_wp2_with fail
      refine HPS.out.mono ?_
      rintro e w3 ⟨⟨b, rfl, hb⟩, hB4⟩
      have hB5 := hB3.trans (hB4.mono hB3.size)
      clear HPS hB3 hB4
      rcases b with _ | _
      · go_wp2_with fail
        go_ret
        exact ⟨rfl, hB5⟩
      · have HPO : Hid (posN (a.size + q) er er.length) := by rw [← hXs]; exact hb.out.1 rfl
        clear hb
        have kb := conv_bytes (str (bl a ++ r))
        have hbw := bytesWorld_row w3 (str (bl a ++ r))
        have hbb := bytesWorld_below w3 (str (bl a ++ r))
        have hsz3 := hB5.size
        have hbb2 := hB5.trans (hbb.mono hsz3)
        rw [hXs] at kb
        rw [bl_str] at hbw
        clear hbb
        generalize hg : bl a ++ r = W at hXl hc hXs kb hbw hbb2
        have HG := Lib.hid hg
        have HC := Lib.hid hc
        have HXL := Lib.hid hXl
        clear hg hc hXl
        generalize hW0 : Lib.bytesWorld w3 5 (str W) = W0 at kb hbw hbb2
        have HW0 := Lib.hid hW0
        have hD0 : Hid (Damaged W W er) := ⟨rfl, fun _ _ _ => rfl⟩
        clear hW0
        go_wp2_with fail
        rw [HW0.out]
        obtain ⟨g, hg⟩ : ∃ g, g = w3.heap.size := ⟨_, rfl⟩
        rw [← hg] at hbw hsz3 ⊢
        have hgw : w.heap.size ≤ g := hsz3
        have HG3 := Lib.hid hg
        clear hg
        have hM0 : BM (W0.alloc (.map #[] 0)) W0.heap.size (inEr er 0) 0 := by rw [inEr_zero]; exact BM.made W0
        have hO0 := hbw.alloc (.map #[] 0)
        have hBb := hbb2.alloc hbb2.size (.map #[] 0)
        have hgm : g < W0.heap.size := hbw.lt
        obtain ⟨ml, hml⟩ : ∃ ml, ml = W0.heap.size := ⟨_, rfl⟩
        rw [← hml] at hM0 hgm ⊢
        generalize hw5 : W0.alloc (.map #[] 0) = w5 at hM0 hO0 hBb ⊢
        clear hw5 hml hbw hbb2 kb
        go_loopw [56] (fun i wr => ∃ (k : Nat) (L : List UInt8), k ≤ er.length ∧ i = .int .i64 k ∧ Own wr g L ∧ BM wr ml (inEr er k) k ∧ Below w.heap.size w wr ∧ Hid (Damaged W L er)) (fun i _ => er.length - (intOf i).toNat)
        case atStart => exact ⟨0, W, by omega, rfl, hO0, hM0, hBb, hD0⟩
        case round =>
          obtain ⟨k, L, hk, rfl, hO, hM, hB, hD⟩ := hrel
          clear hO0 hM0 hBb hD0
          by_cases hlt : k < er.length
          · obtain ⟨ba, oa, rfl, hba, hrr⟩ := hr (by omega)
            have hck := (hB.cell (p := ⟨ba, oa + k, none⟩) hba).trans (hrr k hlt)
            have hpk := HPO.out k hlt
            obtain ⟨x, hx⟩ := Int.eq_ofNat_of_zero_le hpk.1
            have hxl : x < a.size + q := by have := hpk.2.1; omega
            have hLl : L.length = a.size + q := by rw [hD.out.1, HXL.out]
            have hsz := hB.size
            rw [hx] at hck
            have HXK := Lib.hid hx
            have HLL := Lib.hid hLl
            clear hpk hx hLl hrr
            go_wp2_with (at_mapUpdate; refine wpList_bm_store rfl _ _ _ rfl ml k (inEr er k) rfl hM (by omega) (x : Int) rfl (WalkArith.wf_i64 ⟨by omega, by omega⟩) true rfl ?_; intro w6 hM6 hg6; have hO6 := row_block hO (hg6.block g hO.lt (by simp; omega)); have hc6 := hO6.cell (j := x) (by rw [HLL.out]; exact hxl); have hf6 := hO6.free (j := x) (by rw [HLL.out]; exact hxl))
            have hw8 : Hid ((37 * ((k : Int) + 1)) % 256 = ((UInt8.ofNat (37 * (k + 1))).toNat : Int)) := by show _ = _; simp
            have hD2 : Hid (Damaged W (L.set x (Gf.co L x ^^^ UInt8.ofNat (37 * (k + 1)))) er) := hD.out.set hlt HXK.out (by rw [HXL.out]; exact hxl) _
            have hO7 := hO6.set (j := x) (by rw [HLL.out]; exact hxl) (Gf.co L x ^^^ UInt8.ofNat (37 * (k + 1)))
            have hM7 := hM6.setCell (a := ⟨g, x, none⟩) (show g ≠ ml by omega) (B (Gf.co L x ^^^ UInt8.ofNat (37 * (k + 1))))
            have hB7 := (below_grownAt hB hg6 (by omega) hsz).setCell (p := ⟨g, x, none⟩) hgw (B (Gf.co L x ^^^ UInt8.ofNat (37 * (k + 1))))
            have hMeq : (fun y => if y = (x : Int) then true else inEr er k y) = inEr er (k + 1) := by rw [← HXK.out]; exact inEr_succ hlt
            rw [hMeq] at hM7
            clear hck hc6 hf6 hMeq hM6 hO6 hM hO hB
            rw [hw8.out, b_xor]
            go_roundw
            case rel => exact ⟨k + 1, _, by omega, by go_num, hO7, hM7, hB7, hD2⟩
            case measure => simp [intOf]; omega
          · have hkp : k = er.length := by omega
            rw [hkp] at hM
            clear hkp
            go_wp2_with fail
            have hM2 := hM.alloc (.map #[] 0)
            have hE0 := BM.made wr
            have hO2 := hO.alloc (.map #[] 0)
            have hB2 := hB.alloc hB.size (.map #[] 0)
            have hT0 : Hid (Told W L er (fun _ => false)) := told_of (by rw [HXL.out]; exact HPO.out) hD.out
            have hgr : g < wr.heap.size := hO.lt
            have hmr : ml < wr.heap.size := hM.lt
            obtain ⟨me, hme⟩ : ∃ me, me = wr.heap.size := ⟨_, rfl⟩
            rw [← hme] at hE0 hgr hmr ⊢
            generalize hw6 : wr.alloc (.map #[] 0) = w6 at hM2 hE0 hO2 hB2 ⊢
            clear hw6 hme hM hO hB hmm
            go_loopw [77] (fun i wr => ∃ (k : Nat) (L : List UInt8) (f : Int → Bool), k ≤ ch.length ∧ i = .int .i64 k ∧ Own wr g L ∧ BM wr ml (inEr er er.length) er.length ∧ BM wr me f k ∧ Below w.heap.size w wr ∧ Hid (Told W L er f)) (fun i _ => ch.length - (intOf i).toNat)
            case atStart => exact ⟨0, L, fun _ => false, by omega, rfl, hO2, hM2, hE0, hB2, hT0⟩
            case round =>
              obtain ⟨k, L, f, hk, rfl, hO, hM, hE, hB, hT⟩ := hrel
              clear hO2 hM2 hE0 hB2 hT0
              by_cases hlt : k < ch.length
              · obtain ⟨ba, oa, rfl, hba, hrr⟩ := hch (by omega)
                have hck := (hB.cell (p := ⟨ba, oa + k, none⟩) hba).trans (hrr k hlt)
                have hcv : ch.getD k 0 < 65536 := hcw _ (by rw [List.getD_eq_getElem?_getD, List.getElem?_eq_getElem hlt]; exact List.getElem_mem _)
                obtain ⟨v, hv⟩ : ∃ v, v = ch.getD k 0 := ⟨_, rfl⟩
                rw [← hv] at hck hcv
                clear hrr hv
                obtain ⟨x, hx⟩ : ∃ x, x = v / 256 % (a.size + q) := ⟨_, rfl⟩
                have hxl : x < a.size + q := by rw [hx]; exact Nat.mod_lt _ (by omega)
                have hlk := hM.look (x := (x : Int)) (WalkArith.wf_i64 ⟨by omega, by omega⟩)
                have hxi : (v : Int) / 256 % ((a.size : Int) + (q : Int)) = (x : Int) := by rw [hx]; simp
                have hLl : L.length = a.size + q := by rw [hT.out.1, HXL.out]
                have HLL := Lib.hid hLl
                clear hx hLl
                by_cases hm : (x : Int) ∈ er
                · rw [inEr_full, decide_eq_true hm] at hlk
                  have hE2 := hE.mono (Nat.le_succ k)
                  clear hm
                  go_wp2_with fail
                  go_roundw
                  case rel => exact ⟨k + 1, L, f, by omega, by go_num, hO, hM, hE2, hB, hT⟩
                  case measure => simp [intOf]; omega
                · rw [inEr_full, decide_eq_false hm] at hlk
                  have HNM := Lib.hid hm
                  clear hm
                  by_cases hz : (v : Int) % 256 = 0
                  · have hE2 := hE.mono (Nat.le_succ k)
                    go_wp2_with fail
                    go_roundw
                    case rel => exact ⟨k + 1, L, f, by omega, by go_num, hO, hM, hE2, hB, hT⟩
                    case measure => simp [intOf]; omega
                  · have hcx := hO.cell (j := x) (by rw [HLL.out]; exact hxl)
                    have hfx := hO.free (j := x) (by rw [HLL.out]; exact hxl)
                    obtain ⟨d, hd⟩ : ∃ d, d = Gf.co L x ^^^ UInt8.ofNat v := ⟨_, rfl⟩
                    have hdv : Hid (Value.int .u8 (bits .xor .u8 ((Gf.co L x).toNat : Int) ((v : Int) % 256)) = B d) := by
                      show _ = _
                      rw [hd, show (v : Int) % 256 = ((UInt8.ofNat v).toNat : Int) from by simp, b_xor]
                    have hO7 := hO.set (j := x) (by rw [HLL.out]; exact hxl) d
                    have hM7 := hM.setCell (a := ⟨g, x, none⟩) (show g ≠ ml by omega) (B d)
                    have hE7 := hE.setCell (a := ⟨g, x, none⟩) (show g ≠ me by omega) (B d)
                    have hB7 := hB.setCell (p := ⟨g, x, none⟩) hgw (B d)
                    clear hd
                    go_wp2_with fail
                    rw [hdv.out]
                    clear hcx hfx hO hM hE hB hlk hdv
                    generalize wr.setCell ⟨g, x, none⟩ (B d) = w7 at hO7 hM7 hE7 hB7 ⊢
                    have hT7 : L.length = W.length := hT.out.1
                    have hc8 : w7.drew.cell? ⟨g, x, none⟩ = some (B d) := by
                      have := hO7.drew.cell (j := x) (by rw [List.length_set, HLL.out]; exact hxl)
                      rwa [Gf.co_set (by rw [HLL.out]; exact hxl), if_pos rfl] at this
                    have hsx : x < (str W).size := by rw [hXs]; exact hxl
                    have eb := byte_at (str W) x hsx
                    rw [bl_str] at eb
                    have hi0 : (0 : Int) ≤ (x : Int) := by omega
                    have hi1 : (x : Int) < ((str W).size : Int) := by omega
                    have hi2 : (x : Int) < ((a.size + q : Nat) : Int) := by omega
                    have hi3 : (x : Int) < (a.size : Int) + (q : Int) := by omega
                    have HO8 := Lib.hid hO7.drew
                    have HM8 := Lib.hid hM7.drew
                    have HE8 := Lib.hid hE7.drew
                    have HB8 := Lib.hid hB7.drew
                    clear hO7 hM7 hE7 hB7
                    refine wp_region_still_tail 10 (by kernel_rfl) (by kernel_rfl) ?_
                    simp only [List.take_succ_cons, List.take_zero, List.drop_succ_cons, List.drop_zero]
                    change wpStill _ _ w7.drew (fun a' => wpList _ _ _ _ a' w7.drew) _ _
                    generalize w7.drew = w8 at hc8 HO8 HM8 HE8 HB8 ⊢
                    repeat still_step
                    refine wpStill_nil ?_
                    refine wpList_bm_store rfl _ _ _ rfl me k f rfl HE8.out (by omega) (x : Int) rfl (WalkArith.wf_i64 ⟨by omega, by omega⟩) _ rfl ?_
                    intro w9 hE9 hg9
                    have hO9 := row_block HO8.out (hg9.block g HO8.out.lt (by simp; omega))
                    have hM9 := HM8.out.of_block (hg9.block ml HM8.out.lt (by simp; omega))
                    have hB9 := below_grownAt HB8.out hg9 (by omega) HB8.out.size
                    have hT9 : Hid (Told W (L.set x d) er (fun y => if y = (x : Int) then ((d.toNat : Int) != ((Gf.co W x).toNat : Int)) else f y)) := hT.out.set (by rw [HXL.out]; exact hxl) d _ (fun h => by
                      rw [bne_iff_ne]
                      exact fun e => h (u8_inj e))
                    clear eb hc8
                    go_wp2_with fail
                    go_roundw
                    case rel => exact ⟨k + 1, L.set x d, _, by omega, by go_num, hO9, hM9, hE9, hB9, hT9⟩
                    case measure => simp [intOf]; omega
              · have hk8 : k ≤ 8 := by omega
                obtain ⟨D, hown, hDf⟩ := hE
                have hsz := hown.size_le
                have HDF := Lib.hid hDf
                have hwsz := hB.size
                clear hDf hM
                go_wp2_with (at_range; refine wpList_range_own _ rfl _ 36 rfl 3 4 keyed_int Try.underlying36 _ me k D rfl hown ?_; intro w7 hrg7 hg7 hs7)
                go_frame
                have hO7 := row_block hO (hg7.block g hO.lt (by simp))
                have hB7 : Below w.heap.size w w7 := hB.grown hg7 hwsz (fun k hk => by cases hk)
                obtain ⟨O, hOO⟩ : ∃ O, O = Gf.outs L W (erN er) := ⟨_, rfl⟩
                have HOO := Lib.hid hOO
                have HON : Hid O.Nodup := by show O.Nodup; rw [hOO]; exact List.Nodup.sublist List.filter_sublist List.nodup_range
                have HOF : Hid (∀ i, i ∈ O → f (i : Int) = true) := by rw [hOO]; exact outs_told (by rw [HXL.out]; exact HPO.out) hT.out
                have hp0 : Hid (passed O (Maps.has D) ≤ 0) := Nat.le_of_eq (passed_first HDF.out HOF.out)
                obtain ⟨r0, hr0⟩ : ∃ r0, r0 = wr.heap.size := ⟨_, rfl⟩
                have hmer : me < r0 := by rw [hr0]; exact hown.lt
                have hgr0 : g < r0 := by rw [hr0]; exact hO.lt
                rw [← hr0] at hrg7 ⊢
                clear hr0 hOO hown hO hB hg7 hs7
                go_loopw [19] (fun vn wr => ∃ (n cnt : Nat) (left : Lit → Bool), vn = .int .i64 n ∧ wr.ranges Try.prog 3 (plainElem Try.prog 4) me r0 k D left cnt ∧ n + cnt ≤ 8 ∧ Own wr g L ∧ Below w.heap.size w wr ∧ Hid (passed O left ≤ n)) (fun _ wr => wr.rangeLeft me r0)
                case atStart => exact ⟨0, Maps.size D, Maps.has D, rfl, hrg7, by omega, hO7, hB7, hp0⟩
                case round =>
                  obtain ⟨n, cnt, left, rfl, hrg, hnc, hO, hB, hps⟩ := hrel
                  clear hrg7 hO7 hB7 hp0
                  have hsz9 := hB.size
                  have hLl : L.length = a.size + q := by rw [hT.out.1, HXL.out]
                  have hcv9 := conv_string hO.rd (grownCap w3 (a.size + q) 0 5)
                  rw [hLl] at hcv9
                  have HLL := Lib.hid hLl
                  clear hLl
                  go_wp2_with (at_next; refine wpList_next_ranges _ rfl _ rfl 3 keyed_int (plainElem Try.prog 4) (Value.int .i64) Value.bool (fun key kl hkey => by obtain ⟨x, rfl, _⟩ := Maps.keyOf_int_inv Try.underlying3 hkey; exact ⟨x, rfl⟩) (fun v y hv => bool_inv hv) me r0 k D left cnt rfl hrg ?_ ?_; intro hc0 hl0; rotate_left; intro x cv kl y w7 cnt7 hkey hlx hy hat hrg7 hlt7 hg7 hs7 hen; have Hk := Lib.hid hkey; have Hy := Lib.hid hy; have Ha := Lib.hid hat; clear hkey hlx hy hat)
                  · have h7 : cv = true := by assumption
                    have hkl : kl = .int .i64 x := by
                      obtain ⟨x', e, h, _⟩ := Maps.keyOf_int_inv Try.underlying3 Hk.out
                      cases e
                      exact h
                    subst hkl
                    have hyv : y.1 = .lit (.bool cv) := by
                      have := Hy.out.symm.trans (plainElem_bool Try.underlying4 cv)
                      injection this with this
                      rw [this]
                    have hnx := passed_next HON.out HDF.out HOF.out ((Ha.out _).trans hyv) hps.out
                    rw [if_pos h7] at hnx
                    refine ⟨⟨n + 1, cnt7, _, by go_num, hrg7, by omega, row_block hO (hg7.block g hO.lt (by simp; omega)), below_grownAt hB hg7 (by omega) hsz9, hnx⟩, ?_⟩
                    rw [hrg7.left_eq, hrg.left_eq]
                    exact hlt7
                  · have h7 : ¬ cv = true := by simp_all
                    have hkl : kl = .int .i64 x := by
                      obtain ⟨x', e, h, _⟩ := Maps.keyOf_int_inv Try.underlying3 Hk.out
                      cases e
                      exact h
                    subst hkl
                    have hyv : y.1 = .lit (.bool cv) := by
                      have := Hy.out.symm.trans (plainElem_bool Try.underlying4 cv)
                      injection this with this
                      rw [this]
                    have hnx := passed_next HON.out HDF.out HOF.out ((Ha.out _).trans hyv) hps.out
                    rw [if_neg h7] at hnx
                    refine ⟨⟨n, cnt7, _, rfl, hrg7, by omega, row_block hO (hg7.block g hO.lt (by simp; omega)), below_grownAt hB hg7 (by omega) hsz9, hnx⟩, ?_⟩
                    rw [hrg7.left_eq, hrg.left_eq]
                    exact hlt7
                  · go_ret
                    exact ⟨rfl, hB⟩
                  · have hlim2 : 2 * n + er.length ≤ q := by omega
                    have hnear : Gf.Near L q (erN er) W := ⟨hT.out.1.symm, HC.out, by
                      have h1 := hps.out
                      rw [passed_end hl0, HOO.out] at h1
                      rw [erN_length]
                      omega⟩
                    have HNR := Lib.hid hnear
                    have hLs : (str L).size = a.size + q := by rw [str_size, HLL.out]
                    have hshp : shp (str L).size q = true := by rw [hLs]; unfold shp; exact decide_eq_true ⟨by omega, by omega, by omega, by omega, by omega⟩
                    have hpo : Hid (posN (str L).size er er.length) := by rw [hLs]; exact HPO.out
                    have hun : Hid (∀ cw, Gf.Near L q (erN er) cw → cw = W) := fun cw hcw => Gf.near_unique (by rw [HLL.out]; omega) (pos_of (by rw [HLL.out]; exact HPO.out)) hcw HNR.out
                    have hdc := decode_yes (str L) q er A c hshp (by omega) wr (hr.below (Nat.le_refl _) hB)
                    have hdf : ∀ w, Calls Try.prog 22 #[.string (str L), .string (str W)] w fun e w' => Ret1 w (.int .i64 (Gf.difs L W : Nat)) e w' := fun w => by
                      have := differ_any (str L) (str W) (by rw [hLs, hXs]) (by omega) w
                      rwa [hLs, bl_str, bl_str, show difK L W (a.size + q) = Gf.difs L W from by unfold Gf.difs difK; rw [HLL.out]] at this
                    have HDF9 := Lib.hid hdf
                    clear hnear hshp hdf hcv9 hps hl0 hc0
                    refine hdc.mono ?_
                    rintro e w10 ⟨hB10, ⟨hn, rfl⟩ | ⟨_, cw, hcw, rfl⟩ | ⟨_, hn, rfl⟩⟩
                    · exact absurd hpo.out hn
                    · rw [hun.out cw hcw, bl_str]
                      have hO10 := hO.below hB10 hO.lt
                      have hcv10 := conv_string hO10.rd (grownCap w3 (a.size + q) 0 5)
                      rw [HLL.out] at hcv10
                      have hB11 := hB.trans (hB10.mono hB.size)
                      generalize Gf.difs L W = df at HDF9 ⊢
                      clear hcw hdc hO hB hB10 hO10
                      go_wp2_with fail
                      refine (HDF9.out _).mono ?_
                      rintro e w11 ⟨rfl, hB12⟩
                      go_wp2_with fail
                      go_ret
                      exact ⟨rfl, hB11.trans (hB12.mono hB11.size)⟩
                    · exact absurd ⟨W, HNR.out⟩ hn
    · have hp1 : encOk a.size p = false := by simpa using hp
      have HP1 := Lib.hid hp1
      clear hp hp1
      go_wp2_with fail
      refine (encode_no _ _ HP1.out ha _).mono ?_
      rintro e w2 ⟨rfl, rfl⟩
      go_wp2
      go_ret
      exact ⟨rfl, hB1⟩
  · have hcase : (100 : Int) < (a.size : Int) ∨ (¬ (100 : Int) < (a.size : Int) ∧ (8 : Int) < (ch.length : Int)) ∨ (¬ (100 : Int) < (a.size : Int) ∧ ¬ (8 : Int) < (ch.length : Int) ∧ (16 : Int) < (er.length : Int)) := by omega
    clear hguard
    rcases hcase with h1 | ⟨h1, h2⟩ | ⟨h1, h2, h3⟩
    · go_wp2_with fail
      go_ret
      exact ⟨rfl, hB1⟩
    · go_wp2_with fail
      go_ret
      exact ⟨rfl, hB1⟩
    · go_wp2_with fail
      go_ret
      exact ⟨rfl, hB1⟩
end Go.Proofs.Ytjmeoeielbkkiaa
