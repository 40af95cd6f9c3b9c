import Derived.Test.YtknfkhackmnnaaaPe
import Derived.Test.YtknfkhackmnnaaaW4
set_option maxRecDepth 100000
set_option linter.unusedVariables false
set_option linter.unusedSimpArgs false
namespace Go.Proofs.Ytknfkhackmnnaaa
open Go Go.RowKit Go.Deep
attribute [local go_sem] Oper.semAt_some
/-! Encode of the product code -/
set_option maxRecDepth 100000 in
theorem penc_no (s : ByteArray) (m : Int) (h : ¬ (okM m = true ∧ s.size = 2352)) (w : World) : Calls Try.prog 17 #[.string s, .int .i64 m] w fun e w' => Ret1 w (.tuple #[.string (str []), .int .i64 1]) e w' := by
  cases hk : okM m with
  | false =>
    have hfi := first_any m w
    rw [hk] at hfi
    have HF := Lib.hid hfi
    clear hfi h
    go_enter Try.func17, Try.ntmps17
    go_wp2_with (go_at_call 33; refine HF.out.mono ?_; rintro e w' ⟨rfl, rfl⟩)
    go_ret2
    exact ⟨rfl, (Below.refl _ _).alloc (Nat.le_refl _) _⟩
  | true =>
    have hfi := first_any m w
    rw [hk] at hfi
    have HF := Lib.hid hfi
    have hs : s.size ≠ 2352 := fun e => h ⟨hk, e⟩
    have hb : ((s.size : Int) != 2352) = true := by rw [bne_iff_ne]; omega
    clear hfi h hs
    go_enter Try.func17, Try.ntmps17
    go_wp2_with (go_at_call 33; refine HF.out.mono ?_; rintro e w' ⟨rfl, rfl⟩)
    go_ret2
    exact ⟨rfl, (Below.refl _ _).alloc (Nat.le_refl _) _⟩
theorem Row.own {t : TypeId} {W W' : World} {b : Nat} {L : List UInt8} {row : Option Nat} (h : Row t W b L) (hg : W.grownBy W' row) (hr : ∀ r, row = some r → ∃ o : Obj, W.heap[r]? = some o ∧ o.isCells = false) : Row t W' b L := by
  obtain ⟨rest, fr, hb, hf⟩ := h
  exact ⟨rest, fr, (grownBy_keeps_cells hg hr hb rfl).trans hb, hf⟩
/-- the variables of 'Encode', and what lay before -/
structure EI (w : World) (f cap n2 : Nat) (L : List UInt8) (W : World) : Prop where
  c0 : W.cell? ⟨w.heap.size, 0, none⟩ = some (.int .i64 (f : Int))
  c2 : W.cell? ⟨n2, 0, none⟩ = some (.slice (some ⟨w.heap.size + 1, 0, none⟩) 2352 cap)
  row : Own W (w.heap.size + 1) L
  bel : Below w.heap.size w W
theorem EI.own {w : World} {f cap n2 : Nat} {L : List UInt8} {W W' : World} {row : Option Nat} {B : Nat} (hB : w.heap.size ≤ B) (hs : EI w f cap n2 L W) (hg : W.grownBy W' row) (hr : ∀ r, row = some r → B ≤ r ∧ ∃ o : Obj, W.heap[r]? = some o ∧ o.isCells = false) : EI w f cap n2 L W' :=
  ⟨cell_kept hs.c0 hg (fun r e => (hr r e).2), cell_kept hs.c2 hg (fun r e => (hr r e).2), Row.own hs.row hg (fun r e => (hr r e).2), hs.bel.grown hg hs.bel.size (fun k e => Nat.le_trans hB (hr k e).1)⟩
theorem EI.below {w : World} {f cap n2 : Nat} {L : List UInt8} {W W' : World} (h : EI w f cap n2 L W) (hB : Below W.heap.size W W') : EI w f cap n2 L W' :=
  ⟨(hB.cell (p := ⟨_, 0, none⟩) (World.block_lt_of_cell? W _ h.c0)).trans h.c0, (hB.cell (p := ⟨_, 0, none⟩) (World.block_lt_of_cell? W _ h.c2)).trans h.c2, Row.below h.row hB h.row.lt, h.bel.trans (hB.mono h.bel.size)⟩
theorem EI.put {w : World} {f cap n2 : Nat} {L L' : List UInt8} {W W' : World} (h : EI w f cap n2 L W) (hn : w.heap.size + 1 < n2) (hg : W.grownBy W' (some (w.heap.size + 1))) (hr : Own W' (w.heap.size + 1) L') : EI w f cap n2 L' W' :=
  ⟨(World.cell?_of_block (hg.block _ (World.block_lt_of_cell? W _ h.c0) (fun e => by have := Option.some.inj e; dsimp only at this; omega))).trans h.c0, (World.cell?_of_block (hg.block _ (World.block_lt_of_cell? W _ h.c2) (fun e => by have := Option.some.inj e; dsimp only at this; omega))).trans h.c2, hr, h.bel.grown hg h.bel.size (fun k e => by have := Option.some.inj e; omega)⟩
set_option maxRecDepth 100000 in
set_option maxHeartbeats 20000000 in
theorem penc_yes (s : ByteArray) (m : Int) (hm : okM m = true) (hs : s.size = 2352) (w : World) :
    Calls Try.prog 17 #[.string s, .int .i64 m] w fun e w' => ∃ L, e = .returned (.tuple #[.string (str L), .int .i64 0]) ∧ EncOf (bl s) (frM m) L ∧ Below w.heap.size w w' := by
  have hcb := conv_bytes s
  have hfr := frM_le m
  have hfi := first_any m w
  rw [hm] at hfi
  rw [hs] at hcb
  have HF := Lib.hid hfi
  have HS := Lib.hid hs
  obtain ⟨f, hf⟩ : ∃ f, f = frM m := ⟨_, rfl⟩
  rw [← hf] at HF hfr ⊢
  clear hfi hf
  refine (callsIn_wide (n := 3)).1 ?_
  refine callsIn_of_wp_marks Try.func17 rfl trivial ?_ rfl
  simp only [Try.ntmps17, List.size_toArray, List.length_cons, List.length_nil, Nat.reduceAdd, Nat.reduceSub, Array.replicate_succ, Array.replicate_zero, List.push_toArray, List.append_toArray, List.nil_append, List.cons_append]
  gi_wp2_with (first | (refine ⟨trivial, ?_⟩; gi_at_call 33; refine (callsIn_wide.2 HF.out).mono ?_; rintro e w' ⟨rfl, rfl⟩) | (refine ⟨trivial, ?_⟩; gi_at_call 34; refine (callsIn_wide.2 (words_any _)).mono ?_; rintro e w' ⟨rfl, rfl⟩))
  have hw1 : (w.alloc (.cells #[.int .i64 (f : Int)] 3)).heap.size = w.heap.size + 1 := by simp
  have hcf := new_cell w (.int .i64 (f : Int)) 3
  have hbel1 : Below w.heap.size w (w.alloc (.cells #[.int .i64 (f : Int)] 3)) := (Below.refl _ w).alloc (Nat.le_refl _) _
  revert hw1 hcf hbel1
  generalize w.alloc (.cells #[.int .i64 (f : Int)] 3) = w1
  intro hw1 hcf hbel1
  have hbw := bytesWorld_row w1 s
  have hbb := bytesWorld_below w1 s
  rw [hw1] at hbw
  revert hbw hbb
  generalize Lib.bytesWorld w1 5 s = w2
  intro hbw hbb
  generalize grownCap w1 2352 0 5 = cap
  have hlt := hbw.lt
  obtain ⟨n2, hn2⟩ : ∃ n2, n2 = w2.heap.size := ⟨_, rfl⟩
  have hco := new_cell w2 (.slice (some ⟨w.heap.size + 1, 0, none⟩) 2352 cap) 43
  have hb2 : Below w2.heap.size w2 (w2.alloc (.cells #[.slice (some ⟨w.heap.size + 1, 0, none⟩) 2352 cap] 43)) := (Below.refl _ w2).alloc (Nat.le_refl _) _
  have hz : (w2.alloc (.cells #[.slice (some ⟨w.heap.size + 1, 0, none⟩) 2352 cap] 43)).heap.size = n2 + 1 := by rw [hn2]; simp
  rw [← hn2] at hco hb2 hlt ⊢
  have hEI : EI w f cap n2 (bl s) (w2.alloc (.cells #[.slice (some ⟨w.heap.size + 1, 0, none⟩) 2352 cap] 43)) := by
    have hbe := hbb.cell (p := ⟨w.heap.size, 0, none⟩) (by rw [hw1]; exact Nat.lt_succ_self _)
    exact ⟨old_cell _ (hbe.trans hcf.1), hco.1, Row.alloc hbw _, (hbel1.trans (hbb.mono hbel1.size)).trans (hb2.mono (by omega))⟩
  clear hco hb2 hbw hbb hcf hbel1 hw1
  generalize w2.alloc (.cells #[.slice (some ⟨w.heap.size + 1, 0, none⟩) 2352 cap] 43) = W0 at hEI hz ⊢
  clear hn2
  refine rangeE rfl (show 1 ≤ 3 by omega) (gf := 60) (lb := #[]) rfl trivial (enters_of Try.func60 (by kernel_rfl) rfl) (words1_seq 2 (by omega) W0) (Below.refl _ _) rfl
    (fun k W => ∃ L, EI w f cap n2 L W ∧ EncI (bl s) f k L) (fun c W => False)
    (fun k A B row hs hg hr => by
      obtain ⟨L, h1, h2⟩ := hs
      exact ⟨L, EI.own (by omega) h1 hg hr, h2⟩) (fun c _ _ _ _ hs _ _ => hs) ⟨_, hEI, ⟨by rw [bl_length, HS.out], fun o _ => rfl, fun j hj => by omega⟩⟩
    (fun k x a' W => Ew W0.heap.size k x W ∧ a' = { tmps := #[.string s, .int .i64 m, undef, undef, .string { data := #[] }, .int .i64 0, .pointer (some ⟨w.heap.size, 0, none⟩), .bool true, .pointer (some ⟨n2, 0, none⟩), x, undef, undef, undef, .tuple #[.int .i64 (f : Int), .bool true], .int .i64 m, .tuple #[.int .i64 (f : Int), .bool true], .int .i64 (f : Int), .bool true, .bool true, .bool false, .bool false, .string s, .int .i64 2352, .bool false, .bool false, .string s, .slice (some ⟨w.heap.size + 1, 0, none⟩) 2352 cap, .func (.func 60) #[] #[], x, undef, undef, undef, undef, undef, undef, undef, undef, undef, undef, undef, undef, undef, undef, undef, undef, undef, undef, undef, undef], defers := [] })
    (fun k x a' => OwnFrom.and (Ew.own _ _ _ _) (ownFrom_pure _ _)) ?assign ?body ?done ?stop
  case assign =>
    intro lp k x W K hI hE hk hK
    gi_wp2
    exact hK _ _ (KeepsFrom.refl _ _) hI ⟨hE, rfl⟩
  case body =>
    rintro lp k x a' W ⟨L, hS, hEn⟩ ⟨hE, rfl⟩ hk
    obtain ⟨g, c, rfl, hgB, hgl, hgr, hgc⟩ := hE.at
    have h0 := hS.c0
    have h2 := hS.c2
    have hmx : Try.prog.follows .mixedOrders = true := by kernel_rfl
    obtain ⟨q, hq⟩ : ∃ q, (wordN k).length = q + 2 := ⟨wl k - 2, by rw [wl_eq]; rcases wl_cases k with h | h <;> omega⟩
    have hq45 : q + 2 ≤ 45 := by rw [← hq]; exact wordN_le k
    have hDl : (wordD k).length = q := by rw [wordD_length, ← wl_eq, hq]; omega
    have hLl := hEn.len
    have htk := take_any L (wordD k) f (fun j hj => by
      rw [hDl] at hj
      have hw := wl_eq k
      rw [wordD_at (by omega), hLl]
      exact (wf_lt hk (by omega)).2) (by omega) (by omega) (by omega) (w.heap.size + 1) 0 cap g c W.drew (Row.rd hS.row) hS.row.lt (hgr.take _) hgl
    rw [hDl, hLl] at htk
    rw [hq] at hgc ⊢
    have HT := Lib.hid htk
    have hi1 : ((q : Int) + 2) - 2 = (q : Int) := by omega
    have hi2 : q ≤ q + 2 := by omega
    have hi3 : q ≤ c := by omega
    have hi4 : (0 : Int) ≤ (q : Int) := by omega
    have hi5 : (q : Int) ≤ (c : Int) := by omega
    have hi6 : ¬ (c : Int) < (q : Int) := by omega
    have hi7 : ¬ (q : Int) < 0 := by omega
    have hi8 : IntKind.i64.wrap (q : Int) = (q : Int) := IntWalk.i64_in _ (by omega)
    have hi9 : IntKind.i64.wrap ((q : Int) + 2 - 2) = (q : Int) := by rw [hi1]; exact hi8
    have h0' : W.drew.cell? ⟨w.heap.size, 0, none⟩ = some (.int .i64 (f : Int)) := h0
    have h2' : W.drew.cell? ⟨n2, 0, none⟩ = some (.slice (some ⟨w.heap.size + 1, 0, none⟩) 2352 cap) := h2
    have hSd : EI w f cap n2 L W.drew := ⟨hS.c0, hS.c2, Row.drew hS.row, hS.bel.drew⟩
    have hgd : RdN W.drew g (wordN k) := hgr
    have hgl' : g < W.drew.heap.size := hgl
    have hen : encOk (str (tkL L f (wordD k))).size 2 = true := by
      rw [str_size, tkL_length, hDl]
      have := wl_cases k
      rw [← wl_eq, hq] at this
      unfold encOk
      exact decide_eq_true ⟨by omega, by omega, by omega, by omega⟩
    have hsp : ∀ r : List UInt8, r.length = 2 → (wordN k).length ≤ (str (tkL L f (wordD k) ++ r)).size := fun r hr => by rw [str_size, List.length_append, tkL_length, hDl, hq, hr]; omega
    have HEN := Lib.hid hen
    have HSD := Lib.hid hSd
    have HGD := Lib.hid hgd
    have HSP := Lib.hid hsp
    have HEI2 := Lib.hid hEn
    have hkB : KeepsFrom W0.heap.size W W.drew := (KeepsOthers.drew W).from _
    have HQ := Lib.hid hq
    have HKB := Lib.hid hkB
    have HGL := Lib.hid hgl'
    have HLL := Lib.hid hLl
    have HGB := Lib.hid hgB
    have HLT := Lib.hid hlt
    have HZ := Lib.hid hz
    clear htk hgr hE hSd hgd hen hsp hEn hS hDl hkB hgl' hgl hLl hgB hlt hz
    gi_wp2
    clear h0 h2
    gi_region_with_o (refine ⟨trivial, ?_⟩; gi_at_call 35; refine (CallsIn.inRound lp (callsIn_wide.2 HT.out)).mono ?_; rintro e w9 ⟨rfl, hB9⟩)
    all_goals
      have hgl' := HGL.out
      have hLl := HLL.out
      have hgB := HGB.out
      have hlt := HLT.out
      have hz := HZ.out
      have hS9 := HSD.out.below hB9
      have hg9 := HGD.out.below hB9 hgl'
      have hz9 := hB9.size
      gi_wp2_with fail
      refine ⟨trivial, (CallsIn.inRound lp (callsIn_wide.2 (encode_yes (str (tkL L f (wordD k))) 2 HEN.out w9))).mono ?_⟩
      rintro e w10 ⟨r, rfl, hr, hc, hB10⟩
      rw [bl_str] at hc ⊢
      have hS10 := hS9.below hB10
      have hg10 := hg9.below hB10 (Nat.lt_of_lt_of_le hgl' hz9)
      have hz10 := hB10.size
      have h0'' := hS10.c0
      have h2'' := hS10.c2
      have hpt := put_any L (wordN k) f (str (tkL L f (wordD k) ++ r)) (fun j hj => by rw [hLl]; exact wordN_lt hk hj) (by have := wordN_le k; omega) (HSP.out r hr) (by omega) (by omega) (w.heap.size + 1) cap g c w10 hS10.row hg10 (by omega) (by omega)
      rw [hLl, HQ.out] at hpt
      have HPT := Lib.hid hpt
      clear hpt hg9 hS9 h0' h2'
      gi_wp2_with fail
      refine ⟨trivial, (CallsIn.inRound lp (callsIn_wide.2 HPT.out)).mono ?_⟩
      rintro e w11 ⟨rfl, hO11, hG11⟩
      gi_wp2
      have hst := HEI2.out.step (by omega) hk hr hc
      rw [HQ.out] at hst
      exact ⟨((HKB.out.trans (keeps_below _ hB9)).trans (keeps_below _ hB10)).trans (KeepsFrom.of_grownBy hG11 (fun j e => by have := Option.some.inj e; omega)), _, hS10.put hlt hG11 hO11, hst⟩
  case done =>
    rintro D W hD ⟨L, hS, hEn⟩ hK
    have h2 := hS.c2
    have hcv := conv_string (Row.rd hS.row) cap
    rw [hEn.len] at hcv
    gi_wp2
    refine ⟨by simp, .inl ⟨_, _, rfl, run_takeDeferred hK, ?_⟩⟩
    refine ⟨_, by simp [results, Try.f17, go_sem], ⟨L, rfl, hEn.enc, hS.bel.trans (belowK_b (w := w) (Nat.le_refl _) W D _ _ (by omega) hK rfl rfl)⟩⟩
  case stop =>
    rintro D c W hD h hK
    exact h.elim
end Go.Proofs.Ytknfkhackmnnaaa
