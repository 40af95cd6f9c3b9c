import Derived.Test.YtknfkhackmnnaaaP5
set_option maxRecDepth 100000
set_option linter.unusedVariables false
set_option linter.unusedSimpArgs false
namespace Go.Proofs.Ytknfkhackmnnaaa
open Go Go.RowKit Go.Deep Go.Sort
/-! the reference's Valid -/
def WsV (g : Nat) (W : World) : Prop := ∀ j, j < 138 → ∃ gj cj, W.cell? ⟨g, j, none⟩ = some (.slice (some ⟨gj, 0, none⟩) (wordN j).length cj) ∧ gj < W.heap.size ∧ RdN W gj (wordN j)
theorem WsV.below {g : Nat} {W W' : World} (h : WsV g W) (hg : g < W.heap.size) (hB : Below W.heap.size W W') : WsV g W' := fun j hj => by
  obtain ⟨gj, cj, h1, h3, h4⟩ := h j hj
  exact ⟨gj, cj, (hB.cell (p := ⟨g, j, none⟩) hg).trans h1, Nat.lt_of_lt_of_le h3 hB.size, h4.below hB h3⟩
set_option maxRecDepth 100000 in
set_option maxHeartbeats 4000000 in
theorem pvalidr_any (s : ByteArray) (m : Int) (w : World) : Calls Try.prog 20 #[.string s, .int .i64 m] w fun e w' => Ret1 w (.bool (pvl s m)) e w' := by
  by_cases h : okM m = true ∧ s.size = 2352
  · obtain ⟨hm, hs⟩ := h
    have hcb := conv_bytes s
    have hfr := frM_le m
    have hfi := fitsr_any s m w
    rw [hm, decide_eq_true hs, Bool.true_and] at hfi
    have hF := firstr_any m hm
    rw [hs] at hcb
    have hp : Hid (pvl s m = sndL (bl s) (frM m)) := by show _ = _; simp [pvl, hm, hs]
    have HF := Lib.hid hfi
    have HFR := Lib.hid hF
    have HS := Lib.hid hs
    obtain ⟨f, hf⟩ : ∃ f, f = frM m := ⟨_, rfl⟩
    rw [← hf] at HFR hfr hp
    clear hfi hf hF hm hs
    go_enter Try.func20, Try.ntmps20
    go_wp2_with (first | (go_at_call 38; refine HF.out.mono ?_; rintro e w' ⟨rfl, rfl⟩) | (go_at_call 39; refine (wordsr_any _).mono ?_; rintro e w2 ⟨g, c, rfl, hg0, hg1, hws, hB2⟩))
    have hwsA : WsV g w2 := fun j hj => by
      obtain ⟨x, hx, gj, cj, rfl, h1, h2, h3, h4, h5⟩ := hws j hj
      exact ⟨gj, cj, hx, h2, h3⟩
    clear hws hg0 HF
    go_loopw [6] (fun i wr => ∃ k : Nat, k ≤ 138 ∧ i = .int .i64 k ∧ Hid (∀ j, j < k → okW (bl s) f j = true) ∧ WsV g wr ∧ Below w.heap.size w wr ∧ g < wr.heap.size) (fun i _ => 138 - (intOf i).toNat)
    case atStart => exact ⟨0, by omega, rfl, fun j hj => by omega, hwsA, hB2, hg1⟩
    case round =>
      clear hwsA hB2
      obtain ⟨k, hk, rfl, hE, hWs, hB, hgl⟩ := hrel
      by_cases hlt : k < 138
      · obtain ⟨gj, cj, hcj, hgl2, hrd⟩ := hWs k hlt
        obtain ⟨n, hn⟩ : ∃ n, n = (wordN k).length := ⟨_, rfl⟩
        have hn45 : n ≤ 45 := by rw [hn]; exact wordN_le k
        have hbw := bytesWorld_row wr.drew s
        have hbb := bytesWorld_below wr.drew s
        have hsy := symr_any (bl s) (wordN k) f (fun j hj => by rw [bl_length, HS.out]; exact wordN_lt hlt hj) (by omega) (by rw [bl_length, HS.out]; omega) (by omega) wr.heap.size 0 (grownCap wr.drew 2352 0 5) gj cj (Lib.bytesWorld wr.drew 5 s) hbw.rd hbw.lt (RdN.below (w := wr.drew) hrd hbb hgl2) (Nat.lt_of_lt_of_le hgl2 hbb.size)
        rw [bl_length, HS.out, ← hn] at hsy
        rw [← hn] at hcj
        have hcjd : wr.drew.cell? ⟨g, k, none⟩ = some (.slice (some ⟨gj, 0, none⟩) n cj) := hcj
        have hW9 : Hid (∀ W', Below (Lib.bytesWorld wr.drew 5 s).heap.size (Lib.bytesWorld wr.drew 5 s) W' → WsV g W' ∧ Below w.heap.size w W' ∧ g < W'.heap.size) := fun W' hB' => by
          have hb : Below wr.heap.size wr W' := ((Below.refl wr.heap.size wr).drew.trans hbb).trans (hB'.mono hbb.size)
          exact ⟨hWs.below hgl hb, hB.trans (hb.mono hB.size), Nat.lt_of_lt_of_le hgl hb.size⟩
        have hcjb : (Lib.bytesWorld wr.drew 5 s).cell? ⟨g, k, none⟩ = some (.slice (some ⟨gj, 0, none⟩) n cj) := (hbb.cell (p := ⟨g, k, none⟩) hgl).trans hcj
        have hj1 : (k : Int) < 138 := by omega
        have hj2 : (0 : Int) ≤ (k : Int) := by omega
        have HSY := Lib.hid hsy
        have hvs : okW (bl s) f k = vld (str (tkL (bl s) f (wordN k))) 2 := rfl
        cases hv : okW (bl s) f k with
        | true =>
          have hvl : ∀ W', Calls Try.prog 43 #[.string (str (tkL (bl s) f (wordN k))), .int .i64 2] W' fun e w' => Ret1 W' (.bool true) e w' := fun W' => by
            have h := validr_any (str (tkL (bl s) f (wordN k))) 2 W'
            rw [← hvs, hv] at h
            exact h
          have hE2 : Hid (∀ j, j < k + 1 → okW (bl s) f j = true) := fun j hj => by
            rcases Nat.lt_or_ge j k with h | h
            · exact hE.out j h
            · rw [show j = k by omega]; exact hv
          have HV := Lib.hid hvl
          clear hvl hv hvs hE hsy hbw hbb hn hrd hWs hB hn45 hgl2
          go_wp2
          clear hcj
          go_region_with ((first | (go_at_call 22; refine (HFR.out _).mono ?_; rintro e w' ⟨rfl, rfl⟩) | (go_at_call 41; refine HSY.out.mono ?_; rintro e w5 ⟨rfl, hB5⟩) | (go_at_call 43; refine (HV.out _).mono ?_; rintro e w6 ⟨rfl, hB6⟩)))
          all_goals
            obtain ⟨hWs6, hB66, hgl6⟩ := hW9.out w6 (hB5.trans (hB6.mono hB5.size))
            go_wp2
            go_roundw
            case rel => exact ⟨k + 1, by omega, by go_num, hE2, hWs6, hB66, hgl6⟩
            case measure => simp [intOf]; omega
        | false =>
          have hvl : ∀ W', Calls Try.prog 43 #[.string (str (tkL (bl s) f (wordN k))), .int .i64 2] W' fun e w' => Ret1 W' (.bool false) e w' := fun W' => by
            have h := validr_any (str (tkL (bl s) f (wordN k))) 2 W'
            rw [← hvs, hv] at h
            exact h
          have hsf : Hid (sndL (bl s) f = false) := by
            show _ = _
            cases hq : sndL (bl s) f with
            | false => rfl
            | true =>
              have := List.all_eq_true.1 hq k (List.mem_range.2 hlt)
              rw [hv] at this
              exact this.symm
          have HV := Lib.hid hvl
          clear hvl hv hvs hE hsy hbw hbb hn hrd hWs hB hn45 hgl2
          go_wp2
          clear hcj
          go_region_with ((first | (go_at_call 22; refine (HFR.out _).mono ?_; rintro e w' ⟨rfl, rfl⟩) | (go_at_call 41; refine HSY.out.mono ?_; rintro e w5 ⟨rfl, hB5⟩) | (go_at_call 43; refine (HV.out _).mono ?_; rintro e w6 ⟨rfl, hB6⟩)))
          all_goals
            obtain ⟨hWs6, hB66, hgl6⟩ := hW9.out w6 (hB5.trans (hB6.mono hB5.size))
            go_wp2
            go_ret
            exact ⟨by rw [hp.out, hsf.out]; rfl, hB66⟩
      · have hkp : k = 138 := by omega
        rw [hkp] at hE
        have hst : Hid (sndL (bl s) f = true) := List.all_eq_true.2 fun k hk => hE.out k (List.mem_range.1 hk)
        clear hkp
        go_wp2
        go_ret
        exact ⟨by rw [hp.out, hst.out]; rfl, hB⟩
  · have hfi := fitsr_any s m w
    have hb : (decide (s.size = 2352) && okM m) = false := by
      cases hk : okM m with
      | false => simp
      | true => simp; exact fun e => h ⟨hk, e⟩
    have hp : Hid (pvl s m = false) := by
      show _ = _
      unfold pvl
      cases hk : okM m with
      | false => rfl
      | true => rw [decide_eq_false (fun e => h ⟨hk, e⟩)]; rfl
    rw [hb] at hfi
    have HF := Lib.hid hfi
    clear hfi hb h
    go_enter Try.func20, Try.ntmps20
    go_wp2_with (go_at_call 38; refine HF.out.mono ?_; rintro e w' ⟨rfl, rfl⟩)
    go_ret
    exact ⟨by rw [hp.out]; rfl, Below.refl _ _⟩
end Go.Proofs.Ytknfkhackmnnaaa
