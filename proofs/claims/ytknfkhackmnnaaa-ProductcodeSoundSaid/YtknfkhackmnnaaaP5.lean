import Derived.Lib.QuietBelow
import Derived.Test.YtknfkhackmnnaaaP4
import Derived.Test.YtknfkhackmnnaaaQ4
import Derived.Test.YtknfkhackmnnaaaPe
import Derived.Test.YtknfkhackmnnaaaW4
set_option maxRecDepth 100000
set_option linter.unusedVariables false
set_option linter.unusedSimpArgs false
namespace Go.Proofs.Ytknfkhackmnnaaa
open Go Go.RowKit Go.Deep Go.Sort
/-! the reference's Encode -/
theorem calls_ex {P : Program} {f : FuncId} {args : Array Value} {w : World} {R : Ending → World → Prop} (h : Calls P f args w R) : ∃ e w', R e w' := by
  obtain ⟨e, w', _, hr, _⟩ := h []
  exact ⟨e, w', hr⟩
theorem enc_ex (d : List UInt8) (p : Nat) (h : encOk d.length p = true) : ∃ r : List UInt8, r.length = p ∧ Gf.IsCw (d ++ r) p := by
  obtain ⟨e, w', r, _, hr, hc, _⟩ := calls_ex (encode_yes (str d) p (by rw [str_size]; exact h) default)
  rw [bl_str] at hc
  exact ⟨r, hr, hc⟩
theorem firstr_any (m : Int) (hm : okM m = true) (w : World) : Calls Try.prog 22 #[.int .i64 m] w fun e w' => e = .returned (.int .i64 (frM m : Int)) ∧ w = w' := by
  have h : m = 0 ∨ m = 1 := by simpa [okM] using hm
  rcases h with rfl | rfl
  · go_enter Try.func22, Try.ntmps22
    go_wp2
    go_ret
    exact ⟨rfl, rfl⟩
  · go_enter Try.func22, Try.ntmps22
    go_wp2
    go_ret
    exact ⟨rfl, rfl⟩
theorem fitsr_any (s : ByteArray) (m : Int) (w : World) : Calls Try.prog 38 #[.string s, .int .i64 m] w fun e w' => e = .returned (.bool (decide (s.size = 2352) && okM m)) ∧ w = w' := by
  by_cases hs : s.size = 2352
  · by_cases h0 : m = 0
    · subst h0
      have hr : Hid ((decide (s.size = 2352) && okM 0) = true) := by show _ = _; rw [hs]; rfl
      go_enter Try.func38, Try.ntmps38
      go_wp2
      go_ret
      exact ⟨by rw [hr.out]; rfl, rfl⟩
    · by_cases h1 : m = 1
      · subst h1
        have hr : Hid ((decide (s.size = 2352) && okM 1) = true) := by show _ = _; rw [hs]; rfl
        go_enter Try.func38, Try.ntmps38
        go_wp2
        go_ret
        exact ⟨by rw [hr.out]; rfl, rfl⟩
      · have hr : Hid ((decide (s.size = 2352) && okM m) = false) := by show _ = _; simp [okM, h0, h1]
        have b0 : (m == 0) = false := by simpa using h0
        have b1 : (m == 1) = false := by simpa using h1
        go_enter Try.func38, Try.ntmps38
        go_wp2
        go_ret
        exact ⟨by rw [hr.out]; rfl, rfl⟩
  · have hr : Hid ((decide (s.size = 2352) && okM m) = false) := by show _ = _; simp [hs]
    have hb : ((s.size : Int) == 2352) = false := by rw [beq_eq_false_iff_ne]; omega
    clear hs
    go_enter Try.func38, Try.ntmps38
    go_wp2
    go_ret
    exact ⟨by rw [hr.out]; rfl, rfl⟩
/-! what is written, by two stores -/
theorem wf_get {k i : Nat} (hi : i < (wordN k).length) : (wordN k).getD i 0 = wf k i := wordN_at (by rw [← wl_eq]; exact hi)
theorem putK_same {L : List UInt8} {f k : Nat} {r : List UInt8} (hL : L.length = 2352) (hk : k < 138) {o : Nat} (ho : ∀ p, p < wl k → wl k ≤ p + 2 → wf k p ≠ o) : Gf.co (putK L f (wordN k) (tkL L f (wordD k) ++ r) (wordN k).length) o = Gf.co L o := by
  have hwl := wl_eq k
  have hb : ∀ i, i < (wordN k).length → (wordN k).getD i 0 < L.length := fun i hi => by
    rw [hL]
    exact wordN_lt hk hi
  by_cases hlow : o < f
  · exact putK_low hlow hb
  · by_cases hin : ∃ i, i < wl k ∧ wf k i = o
    · obtain ⟨i, hi, rfl⟩ := hin
      have hi2 : i < wl k - 2 := by
        rcases Nat.lt_or_ge i (wl k - 2) with h | h
        · exact h
        · exact absurd rfl (ho i hi (by omega))
      have e := putK_in (s := tkL L f (wordD k) ++ r) (f := f) (i := i) hb (by rw [hwl]; exact hi) (by rw [wordN_at hi]; omega) (fun j hj e => by
        rw [wordN_at hi, wf_get hj] at e
        exact wf_inj hk (by rw [← hwl]; exact hj) hi e)
      rw [wordN_at hi] at e
      rw [e, Gf.co_append_left (by rw [tkL_length, wordD_length]; exact hi2), co_tkL _ _ _ (by rw [wordD_length]; exact hi2), wordD_at hi2, if_pos (by omega)]
    · refine putK_out hb fun i hi e => hin ⟨i, by rw [← hwl]; exact hi, ?_⟩
      rw [← e, wf_get hi]
theorem putK_two {L : List UInt8} {f k q : Nat} {r : List UInt8} (hL : L.length = 2352) (hf : f ≤ 2000) (hk : k < 138) (hq : wl k = q + 2) :
    putK L f (wordN k) (tkL L f (wordD k) ++ r) (wordN k).length = (L.set (wf k q) (Gf.co (tkL L f (wordD k) ++ r) q)).set (wf k (q + 1)) (Gf.co (tkL L f (wordD k) ++ r) (q + 1)) := by
  have hwl := wl_eq k
  have hb : ∀ i, i < (wordN k).length → (wordN k).getD i 0 < L.length := fun i hi => by
    rw [hL]
    exact wordN_lt hk hi
  have h1 := wf_lt hk (i := q) (by omega)
  have h2 := wf_lt hk (i := q + 1) (by omega)
  have hin : ∀ i, i < wl k → wl k ≤ i + 2 → Gf.co (putK L f (wordN k) (tkL L f (wordD k) ++ r) (wordN k).length) (wf k i) = Gf.co (tkL L f (wordD k) ++ r) i := fun i hi hi2 => by
    have e := putK_in (s := tkL L f (wordD k) ++ r) (f := f) (i := i) hb (by rw [hwl]; exact hi) (by rw [wordN_at hi]; have := wf_low hk hi hi2; omega) (fun j hj e => by
      rw [wordN_at hi, wf_get hj] at e
      exact wf_inj hk (by rw [← hwl]; exact hj) hi e)
    rw [wordN_at hi] at e
    exact e
  refine Gf.co_ext (by rw [putK_length, List.length_set, List.length_set]) fun o ho => ?_
  rw [Gf.co_set (by rw [List.length_set, hL]; exact h2.2), Gf.co_set (by rw [hL]; exact h1.2)]
  by_cases e2 : o = wf k (q + 1)
  · rw [if_pos e2, e2]
    exact hin (q + 1) (by omega) (by omega)
  · rw [if_neg e2]
    by_cases e1 : o = wf k q
    · rw [if_pos e1, e1]
      exact hin q (by omega) (by omega)
    · rw [if_neg e1]
      refine putK_same hL hk fun p hp hp2 e => ?_
      rcases (show p = q ∨ p = q + 1 by omega) with h | h <;> subst h
      · exact e1 e.symm
      · exact e2 e.symm
/-- the words in memory, beyond block b -/
def WsAt (g b : Nat) (W : World) : Prop := ∀ j, j < 138 → ∃ gj cj, W.cell? ⟨g, j, none⟩ = some (.slice (some ⟨gj, 0, none⟩) (wordN j).length cj) ∧ b < gj ∧ gj < W.heap.size ∧ RdN W gj (wordN j) ∧ (wordN j).length ≤ cj
theorem WsAt.below {g b : Nat} {W W' : World} (h : WsAt g b W) (hg : g < W.heap.size) (hB : Below W.heap.size W W') : WsAt g b W' := fun j hj => by
  obtain ⟨gj, cj, h1, h2, h3, h4, h5⟩ := h j hj
  exact ⟨gj, cj, (hB.cell (p := ⟨g, j, none⟩) hg).trans h1, h2, Nat.lt_of_lt_of_le h3 hB.size, h4.below hB h3, h5⟩
theorem WsAt.grown {g b : Nat} {W W' : World} (h : WsAt g b W) (hg : g < W.heap.size) (hgb : b < g) (hG : W.grownBy W' (some b)) : WsAt g b W' := fun j hj => by
  obtain ⟨gj, cj, h1, h2, h3, h4, h5⟩ := h j hj
  exact ⟨gj, cj, (World.cell?_of_block (hG.block g hg (fun e => by have := Option.some.inj e; omega))).trans h1, h2, Nat.lt_of_lt_of_le h3 hG.size, fun i hi => (World.cell?_of_block (hG.block gj h3 (fun e => by have := Option.some.inj e; omega))).trans (h4 i hi), h5⟩
theorem pencr_no (s : ByteArray) (m : Int) (h : ¬ (okM m = true ∧ s.size = 2352)) (w : World) : Calls Try.prog 18 #[.string s, .int .i64 m] w fun e w' => Ret1 w (.tuple #[.string (str []), .int .i64 1]) e w' := by
  have hfi := fitsr_any s m w
  have hb : (decide (s.size = 2352) && okM m) = false := by
    cases hk : okM m with
    | false => simp
    | true => simp; exact fun e => h ⟨hk, e⟩
  rw [hb] at hfi
  have HF := Lib.hid hfi
  clear hfi hb h
  go_enter Try.func18, Try.ntmps18
  go_wp2_with (go_at_call 38; refine HF.out.mono ?_; rintro e w' ⟨rfl, rfl⟩)
  go_ret2
  exact ⟨rfl, Below.refl _ _⟩
set_option maxRecDepth 100000 in
set_option maxHeartbeats 4000000 in
theorem pencr_yes (s : ByteArray) (m : Int) (hm : okM m = true) (hs : s.size = 2352) (w : World) :
    Calls Try.prog 18 #[.string s, .int .i64 m] w fun e w' => ∃ L, e = .returned (.tuple #[.string (str L), .int .i64 0]) ∧ EncOf (bl s) (frM m) L ∧ Below w.heap.size w w' := by
  have hcb := conv_bytes s
  have hfr := frM_le m
  have hfi := fitsr_any s m w
  rw [hm, decide_eq_true hs, Bool.true_and] at hfi
  have hF := firstr_any m hm
  rw [hs] at hcb
  have HF := Lib.hid hfi
  have HFR := Lib.hid hF
  have HS := Lib.hid hs
  have hbw := bytesWorld_row w s
  have hbb := bytesWorld_below w s
  have hbz := hbw.lt
  have HBW := Lib.hid hbw
  have HBB := Lib.hid hbb
  obtain ⟨f, hf⟩ : ∃ f, f = frM m := ⟨_, rfl⟩
  rw [← hf] at HFR hfr ⊢
  clear hfi hf hF hbw hbb hm
  go_enter Try.func18, Try.ntmps18
  go_wp2_with (first | (go_at_call 38; refine HF.out.mono ?_; rintro e w' ⟨rfl, rfl⟩) | (go_at_call 39; refine (wordsr_any _).mono ?_; rintro e w2 ⟨g, c, rfl, hg0, hg1, hws, hB2⟩))
  have hrow : Own w2 w.heap.size (bl s) := HBW.out.below hB2 hbz
  have hB02 := HBB.out.trans (hB2.mono HBB.out.size)
  have hwsA : WsAt g w.heap.size w2 := fun j hj => by
    obtain ⟨x, hx, gj, cj, rfl, h1, h2, h3, h4, h5⟩ := hws j hj
    exact ⟨gj, cj, hx, by omega, h2, h3, h4⟩
  have hgb : w.heap.size < g := by omega
  clear HBW HBB hws hB2 hg0 hbz HF
  go_loopw [8] (fun i wr => ∃ (k : Nat) (L : List UInt8), k ≤ 138 ∧ i = .int .i64 k ∧ Own wr w.heap.size L ∧ Hid (EncI (bl s) f k L) ∧ WsAt g w.heap.size wr ∧ Below w.heap.size w wr ∧ g < wr.heap.size) (fun i _ => 138 - (intOf i).toNat)
  case atStart => exact ⟨0, bl s, by omega, rfl, hrow, ⟨by rw [bl_length, HS.out], fun o _ => rfl, fun j hj => by omega⟩, hwsA, hB02, hg1⟩
  case round =>
    clear hrow hB02 hwsA
    obtain ⟨k, L, hk, rfl, hO, hE, hWs, hB, hgl⟩ := hrel
    by_cases hlt : k < 138
    · obtain ⟨gj, cj, hcj, hgb2, hgl2, hrd, hcap⟩ := hWs k hlt
      obtain ⟨q, hq⟩ : ∃ q, (wordN k).length = q + 2 := ⟨wl k - 2, by rw [wl_eq]; rcases wl_cases k with h | h <;> omega⟩
      have hq45 : q + 2 ≤ 45 := by rw [← hq]; exact wordN_le k
      have hwq : wl k = q + 2 := by rw [← wl_eq, hq]
      have hDl : (wordD k).length = q := by rw [wordD_length, hwq]; omega
      have hLl := hE.out.len
      obtain ⟨r, hr, hcw⟩ := enc_ex (tkL L f (wordD k)) 2 (by
        rw [tkL_length, hDl]
        have := wl_cases k
        unfold encOk
        exact decide_eq_true ⟨by omega, by omega, by omega, by omega⟩)
      have hen : encOk (str (tkL L f (wordD k))).size 2 = true := by
        rw [str_size, tkL_length, hDl]
        have := wl_cases k
        unfold encOk
        exact decide_eq_true ⟨by omega, by omega, by omega, by omega⟩
      have cF : ∀ d os, Calls Try.prog 22 #[.int .i64 m] (grow (redrawn wr d) os) fun e w'' => e = .returned (.int .i64 (f : Int)) ∧ ∃ p : Regrown, w'' = grow (redrawn wr p.d) p.os := fun d os => (HFR.out (grow (redrawn wr d) os)).mono (by
        rintro e w' ⟨rfl, rfl⟩
        exact ⟨rfl, ⟨d, os⟩, rfl⟩)
      have cS : ∀ d os, Calls Try.prog 41 #[.slice (some ⟨w.heap.size, 0, none⟩) 2352 (grownCap w 2352 0 5), .slice (some ⟨gj, 0, none⟩) q cj, .int .i64 (f : Int)] (grow (redrawn wr d) os) fun e w'' => e = .returned (.string (str (tkL L f (wordD k)))) ∧ ∃ p : Regrown, w'' = grow (redrawn wr p.d) p.os := fun d os => by
        have hb := below_regrown wr d os
        have h := symr_any L (wordD k) f (fun j hj => by
          rw [hDl] at hj
          rw [wordD_at (by omega), hLl]
          exact (wf_lt hlt (by omega)).2) (by omega) (by omega) (by omega) w.heap.size 0 (grownCap w 2352 0 5) gj cj (grow (redrawn wr d) os) (Row.rd (hO.below hb hO.lt)) (Nat.lt_of_lt_of_le hO.lt hb.size) ((hrd.below hb hgl2).take _) (Nat.lt_of_lt_of_le hgl2 hb.size)
        rw [hDl, hLl] at h
        exact Calls.regrown_of h
      have cE : ∀ d os, Calls Try.prog 40 #[.string (str (tkL L f (wordD k))), .int .i64 2] (grow (redrawn wr d) os) fun e w'' => e = .returned (.tuple #[.string (str (tkL L f (wordD k) ++ r)), .int .i64 0]) ∧ ∃ p : Regrown, w'' = grow (redrawn wr p.d) p.os := fun d os => by
        refine Calls.regrown_of ((encr_yes (str (tkL L f (wordD k))) 2 hen _).mono ?_)
        rintro e w' ⟨r', rfl, hr', hc', hB'⟩
        rw [bl_str] at hc' ⊢
        have e := Gf.enc_unique (p := 2) (by rw [tkL_length, hDl]; omega) hr hr' hcw hc'
        subst e
        exact ⟨rfl, hB'⟩
      have hstp := hE.out.step (by omega) hlt hr hcw
      rw [putK_two hLl (by omega) hlt hwq] at hstp
      have ho1 := wf_lt hlt (i := q) (by omega)
      have ho2 := wf_lt hlt (i := q + 1) (by omega)
      have hc1 : wr.cell? ⟨gj, q, none⟩ = some (.int .i64 ((wf k q : Nat) : Int)) := by rw [hrd q (by omega), wf_get (by omega)]
      have hc2 : wr.cell? ⟨gj, q + 1, none⟩ = some (.int .i64 ((wf k (q + 1) : Nat) : Int)) := by rw [hrd (q + 1) (by omega), wf_get (by omega)]
      have hSs : (str (tkL L f (wordD k) ++ r)).size = q + 2 := by rw [str_size, List.length_append, tkL_length, hDl, hr]
      have hne : wf k q ≠ wf k (q + 1) := fun e => by have := wf_inj hlt (by omega) (by omega) e; omega
      rw [hq] at hcap hcj
      obtain ⟨S, hSe⟩ : ∃ S, S = str (tkL L f (wordD k) ++ r) := ⟨_, rfl⟩
      have hbS : tkL L f (wordD k) ++ r = bl S := by rw [hSe, bl_str]
      rw [← hSe] at cE hSs
      rw [hbS] at hstp
      clear hSe hbS
      obtain ⟨o1, h1e⟩ : ∃ o1, o1 = wf k q := ⟨_, rfl⟩
      obtain ⟨o2, h2e⟩ : ∃ o2, o2 = wf k (q + 1) := ⟨_, rfl⟩
      rw [← h1e] at hc1 ho1 hne hstp
      rw [← h2e] at hc2 ho2 hne hstp
      clear h1e h2e
      have hs1 : q < S.size := by omega
      have hs2 : q + 1 < S.size := by omega
      have hb1 := byte_at S q hs1
      have hb2 := byte_at S (q + 1) hs2
      have hi1 : ((q : Int) + 2) - 2 = (q : Int) := by omega
      have hi1' : ((q : Int) + 2) - 1 = (q : Int) + 1 := by omega
      have hi2 : q ≤ q + 2 := by omega
      have hi3 : q ≤ cj := by omega
      have hi4 : (0 : Int) ≤ (q : Int) := by omega
      have hi5 : (q : Int) ≤ (cj : Int) := by omega
      have hi8 : IntKind.i64.wrap (q : Int) = (q : Int) := IntWalk.i64_in _ (by omega)
      have hi9 : IntKind.i64.wrap ((q : Int) + 2 - 2) = (q : Int) := by rw [hi1]; exact hi8
      have hj8 : IntKind.i64.wrap ((q : Int) + 2 - 1) = (q : Int) + 1 := by rw [hi1']; exact IntWalk.i64_in _ (by omega)
      have hj12 : IntKind.i64.wrap ((q : Int) + 1) = (q : Int) + 1 := IntWalk.i64_in _ (by omega)
      have hj10 : (q : Int) < (S.size : Int) := by omega
      have hj11 : (q : Int) + 1 < (S.size : Int) := by omega
      have hlen138 : (k : Int) < 138 := by omega
      have HST := Lib.hid hstp
      have HO := Lib.hid hO
      have HWS := Lib.hid hWs
      have HB := Lib.hid hB
      clear hstp hO hWs hB hE hrd hcw hr hen hDl hwq hq hq45
      go_wp2
      refine wp_region_quiet_below (by kernel_rfl) (by kernel_rfl) ?_
      repeat (quiet_step (first | exact cF _ _ | exact cS _ _ | exact cE _ _))
      refine wpQuiet_nil ?_
      intro _ hw'
      obtain ⟨⟨dq, osq⟩, hw''⟩ := hw'
      subst hw''
      have hbg := below_regrown wr dq osq
      go_wp2
      revert hbg
      generalize grow (redrawn wr dq) osq = w5
      intro hbg
      have hc15 := (hbg.cell (p := ⟨gj, q, none⟩) hgl2).trans hc1
      have hc25 := (hbg.cell (p := ⟨gj, q + 1, none⟩) hgl2).trans hc2
      have hO5 := HO.out.below hbg HO.out.lt
      have hW5 := HWS.out.below hgl hbg
      have hB5 := HB.out.trans (hbg.mono HB.out.size)
      have hgl5 : g < w5.heap.size := Nat.lt_of_lt_of_le hgl hbg.size
      have hlL : L.length = 2352 := hLl
      have hj1 : (q : Int) < (q : Int) + 2 := by omega
      have hj2 : (q : Int) + 1 < (q : Int) + 2 := by omega
      have hj3 : 0 ≤ (q : Int) + 1 := by omega
      have hj4 : (o1 : Int) < 2352 := by omega
      have hj5 : (o2 : Int) < 2352 := by omega
      have hj6 : (0 : Int) ≤ (o1 : Int) := by omega
      have hj7 : (0 : Int) ≤ (o2 : Int) := by omega
      have hj9 : ((q : Int) + 1).toNat = q + 1 := by omega
      have hcd : w5.drew.cell? ⟨gj, q, none⟩ = some (.int .i64 (o1 : Int)) := hc15
      have hod : w5.drew.cell? ⟨w.heap.size, o1, none⟩ = some (B (Gf.co L o1)) := hO5.cell (j := o1) (by omega)
      have hfd : w5.drew.frozen? ⟨w.heap.size, o1, none⟩ = false := hO5.free (j := o1) (by omega)
      have hc2d : w5.drew.cell? ⟨gj, q + 1, none⟩ = some (.int .i64 (o2 : Int)) := hc25
      have hO5d : Own w5.drew w.heap.size L := hO5.drew
      have hW5d : WsAt g w.heap.size w5.drew := hW5
      have hB5d : Below w.heap.size w w5.drew := hB5.drew
      have hgl5d : g < w5.drew.heap.size := hgl5
      have hgj5d : gj < w5.drew.heap.size := Nat.lt_of_lt_of_le hgl2 hbg.size
      refine wp_region_still_tail 13 (by kernel_rfl) (by kernel_rfl) ?_
      simp only [List.take_succ_cons, List.take_zero, List.drop_succ_cons, List.drop_zero]
      change wpStill _ _ w5.drew (fun a' => wpList _ _ _ _ a' w5.drew) _ _
      revert hcd hod hfd hc2d hO5d hW5d hB5d hgl5d hgj5d
      clear hc15 hc25 hO5 hW5 hB5 hgl5 hbg cF cS cE hc1 hc2 HO HWS HB hcj
      generalize w5.drew = w6
      intro hcd hod hfd hc2d hO6 hW6 hB6 hgl6 hgj6
      have HO := Lib.hid hO6
      have HW := Lib.hid hW6
      have HB := Lib.hid hB6
      have HGL := Lib.hid hgl6
      have HGJ := Lib.hid hgj6
      have HC2 := Lib.hid hc2d
      clear hO6 hW6 hB6 hgl6 hgj6 hc2d
      repeat still_step
      refine wpStill_nil ?_
      go_wp2
      have hG7 := Lib.grownBy_setCell w6 w.heap.size o1 (Value.int .u8 ((Gf.co (bl S) q).toNat : Int))
      have hO7 : Own (w6.setCell ⟨w.heap.size, o1, none⟩ (Value.int .u8 ((Gf.co (bl S) q).toNat : Int))) w.heap.size (L.set o1 (Gf.co (bl S) q)) := HO.out.set (by omega) _
      have hW7 := HW.out.grown HGL.out hgb hG7
      have hB7 := HB.out.setCell (p := ⟨w.heap.size, o1, none⟩) (Nat.le_refl _) (Value.int .u8 ((Gf.co (bl S) q).toNat : Int))
      have hgl7 := Nat.lt_of_lt_of_le HGL.out hG7.size
      have hc27 := (World.cell?_of_block (a := ⟨gj, q + 1, none⟩) (hG7.block gj HGJ.out (fun e => by have := Option.some.inj e; omega))).trans HC2.out
      clear hG7 HO HW HB HGL HGJ HC2 hcd hod hfd
      revert hO7 hW7 hB7 hgl7 hc27
      generalize w6.setCell ⟨w.heap.size, o1, none⟩ (Value.int .u8 ((Gf.co (bl S) q).toNat : Int)) = w7
      intro hO7 hW7 hB7 hgl7 hc27
      have hl7 : (L.set o1 (Gf.co (bl S) q)).length = 2352 := by rw [List.length_set]; exact hlL
      have hc2d : w7.drew.cell? ⟨gj, q + 1, none⟩ = some (.int .i64 (o2 : Int)) := hc27
      have hod : w7.drew.cell? ⟨w.heap.size, o2, none⟩ = some (B (Gf.co (L.set o1 (Gf.co (bl S) q)) o2)) := hO7.cell (j := o2) (by omega)
      have hfd : w7.drew.frozen? ⟨w.heap.size, o2, none⟩ = false := hO7.free (j := o2) (by omega)
      have hO7d : Own w7.drew w.heap.size (L.set o1 (Gf.co (bl S) q)) := hO7.drew
      have hW7d : WsAt g w.heap.size w7.drew := hW7
      have hB7d : Below w.heap.size w w7.drew := hB7.drew
      have hgl7d : g < w7.drew.heap.size := hgl7
      refine wp_region_still_tail 13 (by kernel_rfl) (by kernel_rfl) ?_
      simp only [List.take_succ_cons, List.take_zero, List.drop_succ_cons, List.drop_zero]
      change wpStill _ _ w7.drew (fun a' => wpList _ _ _ _ a' w7.drew) _ _
      revert hc2d hod hfd hO7d hW7d hB7d hgl7d
      clear hO7 hW7 hB7 hgl7 hc27
      generalize w7.drew = w8
      intro hc2d hod hfd hO8 hW8 hB8 hgl8
      have HO := Lib.hid hO8
      have HW := Lib.hid hW8
      have HB := Lib.hid hB8
      have HGL := Lib.hid hgl8
      clear hO8 hW8 hB8 hgl8
      repeat still_step
      refine wpStill_nil ?_
      go_wp2
      have hG9 := Lib.grownBy_setCell w8 w.heap.size o2 (Value.int .u8 ((Gf.co (bl S) (q + 1)).toNat : Int))
      have hO9 : Own (w8.setCell ⟨w.heap.size, o2, none⟩ (Value.int .u8 ((Gf.co (bl S) (q + 1)).toNat : Int))) w.heap.size ((L.set o1 (Gf.co (bl S) q)).set o2 (Gf.co (bl S) (q + 1))) := HO.out.set (by rw [hl7]; omega) _
      have hW9 := HW.out.grown HGL.out hgb hG9
      have hB9 := HB.out.setCell (p := ⟨w.heap.size, o2, none⟩) (Nat.le_refl _) (Value.int .u8 ((Gf.co (bl S) (q + 1)).toNat : Int))
      have hgl9 := Nat.lt_of_lt_of_le HGL.out hG9.size
      clear hG9 HO HW HB HGL hc2d hod hfd
      go_roundw
      case rel => exact ⟨k + 1, _, by omega, by go_num, hO9, HST, hW9, hB9, hgl9⟩
      case measure => simp [intOf]; omega
    · have hkp : k = 138 := by omega
      rw [hkp] at hE
      have hLl := hE.out.len
      have hcv := conv_string hO.rd (grownCap w 2352 0 5)
      rw [hLl] at hcv
      clear hkp hLl
      go_wp2
      go_ret2
      exact ⟨L, rfl, hE.out.enc, hB⟩
end Go.Proofs.Ytknfkhackmnnaaa
