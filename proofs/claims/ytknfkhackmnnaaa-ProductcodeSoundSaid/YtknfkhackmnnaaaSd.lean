import Derived.Deep.LoopGhost
import Derived.Test.YtknfkhackmnnaaaSb
set_option maxRecDepth 100000
set_option linter.unusedVariables false
set_option linter.unusedSimpArgs false
namespace Go.Proofs.Ytknfkhackmnnaaa
open Go.RowKit Go.Deep
/-- the state of the decoder's loop -/
def DecInv (xi : List UInt8) (p s : Nat) (la lb lu lv : List UInt8) : Prop :=
  ∃ da, Gf.Eu p s (Gf.co xi) (Gf.co la) (Gf.co lb) (Gf.co lu) (Gf.co lv) da ∧ dg lb ≤ p ∧ p ≤ la.length ∧ la.length ≤ p + 1 ∧ p ≤ lb.length ∧ lb.length ≤ p + 1 ∧ 1 ≤ lu.length ∧ lu.length ≤ 1 + 17 * (p - dg lb) ∧ 1 ≤ lv.length ∧ lv.length ≤ 1 + 17 * (p - dg lb)
theorem dg_sup_le {l : List UInt8} {m : Nat} (h : Gf.Sup m (Gf.co l)) : dg l ≤ m := by
  rcases Nat.lt_or_ge m (dg l) with hlt | hge
  · exact absurd (h (dg l - 1) (by omega)) (dg_ne (by omega))
  · exact hge
def topL (p : Nat) : List UInt8 := (List.replicate (p + 1) 0).set p 1
theorem topL_length (p : Nat) : (topL p).length = p + 1 := by simp [topL]
theorem co_topL (p : Nat) : Gf.co (topL p) = Gf.xp p := funext fun i => by
  unfold topL Gf.xp
  rw [Gf.co_set (by simp), Gf.co_replicate]
theorem topL_cells (p : Nat) : (madeCells #[Value.int .u8 0] (p + 1)).setIfInBounds p (.int .u8 1) = ((topL p).map B).toArray := by
  rw [zeros_eq]
  unfold topL
  rw [List.map_set, List.append_nil, List.setIfInBounds_toArray]
  rfl
theorem co_zero1 : Gf.co [0] = fun _ => 0 := funext fun i => Gf.co_replicate (n := 1)
theorem DecInv.start {xi : List UInt8} {p s : Nat} (hs : s ≤ p) (hx : xi.length = p) (hp : 1 ≤ p) : DecInv xi p s (topL p) xi [0] [1] := by
  refine ⟨p, ?_, by have := dg_le xi; omega, by rw [topL_length]; omega, by rw [topL_length]; omega, by omega, by omega, by simp, by simp, by simp, by simp⟩
  rw [co_topL, co_zero1, co_one1]
  exact Gf.Eu.start hs (hx ▸ Gf.co_sup xi)
theorem DecInv.step {xi la lb lu lv Q R : List UInt8} {p s n : Nat} (h : DecInv xi p s la lb lu lv) (hn : dg lb = n + 1) (hs : p + s ≤ 2 * n) (hp : p ≤ 16)
    (hR : R.length = la.length) (hQ : Q.length = max (la.length - n) 1) (hRs : Gf.Sup n (Gf.co R)) (hQs : Gf.Sup (dg la - n) (Gf.co Q)) (hd : ∀ i, Gf.co R i = Gf.co la i ^^^ Gf.cv (Gf.co Q) (Gf.co lb) i) :
    DecInv xi p s lb R lv (plusL lu (Gf.prod Q lv)) ∧ dg R < dg lb ∧ (Gf.prod Q lv).length ≤ 600 ∧ 0 < (Gf.prod Q lv).length := by
  obtain ⟨da, hE, h1, h2, h3, h4, h5, h6, h7, h8, h9⟩ := h
  have hlt : n < da := by have := dg_sup_le hE.sb; omega
  have hda : dg la ≤ da + 1 := dg_sup_le hE.sa
  have hdR : dg R ≤ n := dg_sup_le hRs
  have hQne : Q ≠ [] := fun e => by rw [e] at hQ; simp at hQ; omega
  have hvne : lv ≠ [] := fun e => by rw [e] at h8; simp at h8
  have hpr := Gf.prod_length hQne hvne
  have hQ17 : Q.length ≤ 17 := by omega
  have hbs := dg_sup lb
  rw [hn] at hbs
  refine ⟨⟨n, ?_, by omega, by omega, by omega, by omega, by omega, by omega, by omega, by rw [plusL_length]; omega, by rw [plusL_length, hpr]; omega⟩, by omega, by omega, by omega⟩
  have hco : Gf.co (plusL lu (Gf.prod Q lv)) = fun i => Gf.co lu i ^^^ Gf.cv (Gf.co Q) (Gf.co lv) i := funext fun i => by
    rw [co_plusL, Gf.co_prod hQne hvne]
  rw [hco]
  exact hE.step hbs hlt (hQs.mono (by omega)) hRs (funext hd) hs
theorem dec_near {l lu lv la lb : List UInt8} {p : Nat} {er : List Int} (hn : l.length ≤ 255) (hp1 : 1 ≤ p) (hP : posN l.length er er.length) (hle : er.length ≤ p) (h : DecInv (xiL l p er) p er.length la lb lu lv) (hms : 2 * dg lb ≤ p + er.length + 1)
    {cw : List UInt8} (hc : Gf.Near l p (erN er) cw) : Gf.rep l (Gf.prod lv (gamL l.length er er.length)) lb = cw := by
  obtain ⟨da, hE, h1, h2, h3, h4, h5, h6, h7, h8, h9⟩ := h
  have hvne : lv ≠ [] := fun e => by rw [e] at h8; simp at h8
  rw [← erN_length er] at hE hms hle
  refine Gf.rep_near hn (pos_of hP) hle hc hE (dg_sup lb) hms (xiL_eqm hp1) ?_
  rw [Gf.co_prod hvne (gamL_ne _ _ _).1, co_gamL _ _ _ (Nat.le_refl _), List.take_of_length_le (by rw [erN_length]; exact Nat.le_refl _)]
theorem outs_outK {l c : List UInt8} {er : List Int} (hP : posN l.length er er.length) : (Gf.outs l c (erN er)).length = outK l c er l.length := by
  unfold Gf.outs outK
  congr 1
  refine List.filter_congr fun i hi => ?_
  congr 2
  rw [Bool.eq_iff_iff, List.contains_iff_mem, decide_eq_true_eq]
  exact mem_erN hP i
/-- what Decode hands back for a word and positions that belong together -/
def RetDec (w : World) (s : ByteArray) (p : Nat) (er : List Int) (e : Ending) (w' : World) : Prop :=
  Below w.heap.size w w' ∧
  ((¬ posN s.size er er.length ∧ e = .returned (.tuple #[.string (str []), .int .i64 0, .int .i64 1])) ∨
   (posN s.size er er.length ∧ ∃ cw, Gf.Near (bl s) p (erN er) cw ∧ e = .returned (.tuple #[.string (str cw), .int .i64 (Gf.difs (bl s) cw : Nat), .int .i64 0])) ∨
   (posN s.size er er.length ∧ (¬ ∃ cw, Gf.Near (bl s) p (erN er) cw) ∧ e = .returned (.tuple #[.string (str []), .int .i64 0, .int .i64 11])))
set_option maxRecDepth 100000 in
theorem decode_no (s : ByteArray) (p : Int) (A : Option Addr) (n c : Nat) (h : shp s.size p = false) (w : World) :
    Calls Try.prog 68 #[.string s, .int .i64 p, .slice A n c] w fun e w' => e = .returned (.tuple #[.string (str []), .int .i64 0, .int .i64 1]) ∧ w = w' := by
  go_enter Try.func68, Try.ntmps68
  go_wp2_with (go_at_call 92; refine (start_no s p A n c h _).mono ?_; rintro e w1 ⟨rfl, rfl⟩)
  go_ret3
  exact ⟨rfl, rfl⟩
/-- the loop of the decoder has come to its end -/
theorem dec_none {l : List UInt8} {p : Nat} {er : List Int} (hlt : p < er.length) : ¬ ∃ cw, Gf.Near l p (erN er) cw := fun ⟨cw, h⟩ => by
  have := h.2.2
  rw [erN_length] at this
  omega
theorem near_self {l : List UInt8} {p : Nat} (h : Gf.IsCw l p) : Gf.Near l p (erN []) l ∧ Gf.difs l l = 0 := by
  have h1 : Gf.outs l l (erN []) = [] := by
    rw [List.eq_nil_iff_forall_not_mem]
    intro i hi
    exact (Gf.mem_outs.1 hi).2.1 rfl
  refine ⟨⟨rfl, h, by rw [h1]; simp [erN]⟩, by simp [Gf.difs]⟩

attribute [local irreducible] Gf.rep Gf.prod
set_option maxRecDepth 100000 in
set_option maxHeartbeats 2000000 in
theorem decode_yes (s : ByteArray) (p : Nat) (er : List Int) (A : Option Addr) (c : Nat) (h : shp s.size p = true) (hl : er.length ≤ 100000) (w : World) (hr : RdI w A er) :
    Calls Try.prog 68 #[.string s, .int .i64 (p : Int), .slice A er.length c] w fun e w' => RetDec w s p er e w' := by
  obtain ⟨h1, h2, h3, h4, h5⟩ := shp_true h
  have H := Lib.hid h
  have hbl := bl_length s
  have HL := Lib.hid hbl
  clear h hbl
  go_enter Try.func68, Try.ntmps68
  go_wp2_with fail
  refine (start_yes s p er A c H.out hl _ hr).mono ?_
  rintro e w1 (⟨hP, hle, bg, cg, bx, cx, rfl, hOg, hOx, hbg, hbx, hB⟩ | ⟨hP, rfl, hB⟩ | ⟨hP, hlt, rfl, hB⟩)
  · have hxl := xiL_length (l := bl s) (p := p) (er := er) (by omega)
    have hz0 : ∀ W, Own W bx (xiL (bl s) p er) → Calls Try.prog 89 #[.slice (some ⟨bx, 0, none⟩) p cx] W fun e w' => e = .returned (.bool (zeroL (xiL (bl s) p er))) ∧ W = w' := fun W hW => by
      have := zero_any (xiL (bl s) p er) (by rw [hxl]; omega) (by rw [hxl]; omega) bx 0 cx W hW.rd
      rwa [hxl] at this
    have HZ0 := Lib.hid hz0
    have HXL := Lib.hid hxl
    have HP := Lib.hid hP
    clear hz0 hxl hP
    by_cases hfast : er.length = 0 ∧ zeroL (xiL (bl s) p er) = true
    · obtain ⟨h0, hz⟩ := hfast
      obtain rfl : er = [] := List.length_eq_zero_iff.1 h0
      have hcw := (zeroL_xi (l := bl s) (by omega)).1 hz
      have hfin : Hid (Gf.Near (bl s) p (erN []) (bl s) ∧ Gf.difs (bl s) (bl s) = 0) := near_self hcw
      clear h0
      go_wp2_with (go_at_call 89; refine (HZ0.out _ hOx).mono ?_; rintro e w2 ⟨rfl, rfl⟩)
      go_ret3
      exact ⟨hB, .inr (.inl ⟨HP.out, bl s, hfin.out.1, by rw [hfin.out.2]; rfl⟩)⟩
    · have hcase : (Hid (er.length = 0) ∧ ((er.length : Int) == 0) = true ∧ (er.length == 0) = true ∧ zeroL (xiL (bl s) p er) = false) ∨ (((er.length : Int) == 0) = false ∧ (er.length == 0) = false) := by
        by_cases h0 : er.length = 0
        · refine .inl ⟨h0, by rw [h0]; rfl, by rw [h0]; rfl, ?_⟩
          simpa [h0] using hfast
        · refine .inr ⟨?_, ?_⟩
          · rw [beq_eq_false_iff_ne]; omega
          · rw [beq_eq_false_iff_ne]; omega
      have HF := Lib.hid hfast
      clear hfast
      have hmk := make_bytes 112 Try.underlying112 (p + 1) (by omega)
      rw [show ((p + 1 : Nat) : Int) = (p : Int) + 1 from rfl] at hmk
      have hOa := Own.made w1 (p + 1)
      have hca := hOa.cell (j := p) (by simp)
      have hfa := hOa.free (j := p) (by simp)
      rcases hcase with ⟨_, hb1, hb2, hz⟩ | ⟨hb1, hb2⟩
      · go_wp2_with (go_at_call 89; refine (HZ0.out _ hOx).mono ?_; rintro e w2 ⟨rfl, rfl⟩)
        clear hb1 hb2 hz
        rw [topL_cells]
        have hs1 : w.heap.size ≤ w1.heap.size := hB.size
        have hA0 := ((Own.lit w1 (topL p)).alloc (.cells #[.int .u8 0] 5)).alloc (.cells #[.int .u8 1] 5)
        have hX0 := ((hOx.alloc (.cells ((topL p).map B).toArray 5)).alloc (.cells #[.int .u8 0] 5)).alloc (.cells #[.int .u8 1] 5)
        have hG0 := ((hOg.alloc (.cells ((topL p).map B).toArray 5)).alloc (.cells #[.int .u8 0] 5)).alloc (.cells #[.int .u8 1] 5)
        have hU0 : Own (((w1.alloc (.cells ((topL p).map B).toArray 5)).alloc (.cells #[.int .u8 0] 5)).alloc (.cells #[.int .u8 1] 5)) (w1.heap.size + 1) [0] := by
          have := (Own.lit (w1.alloc (.cells ((topL p).map B).toArray 5)) [0]).alloc (.cells #[.int .u8 1] 5)
          rw [World.size_alloc] at this
          exact this
        have hV0 : Own (((w1.alloc (.cells ((topL p).map B).toArray 5)).alloc (.cells #[.int .u8 0] 5)).alloc (.cells #[.int .u8 1] 5)) (w1.heap.size + 1 + 1) [1] := by
          have := Own.lit ((w1.alloc (.cells ((topL p).map B).toArray 5)).alloc (.cells #[.int .u8 0] 5)) [1]
          rw [World.size_alloc, World.size_alloc] at this
          exact this
        have hB0 : Below w.heap.size w (((w1.alloc (.cells ((topL p).map B).toArray 5)).alloc (.cells #[.int .u8 0] 5)).alloc (.cells #[.int .u8 1] 5)) := by
          have h1 := hB.alloc hB.size (.cells ((topL p).map B).toArray 5)
          have h2 := h1.alloc h1.size (.cells #[.int .u8 0] 5)
          exact h2.alloc h2.size (.cells #[.int .u8 1] 5)
        have HS := Lib.hid (DecInv.start (xi := xiL (bl s) p er) hle HXL.out (by omega))
        clear hca hfa hmk hOa hB hOg hOx
        generalize hw5 : ((w1.alloc (.cells ((topL p).map B).toArray 5)).alloc (.cells #[.int .u8 0] 5)).alloc (.cells #[.int .u8 1] 5) = w5 at hA0 hX0 hG0 hU0 hV0 hB0 ⊢
        clear hw5
        go_loopg [12, 13, 14, 15] (dg (xiL (bl s) p er)) (fun k va vb vu vv wr => ∃ (la lb lu lv : List UInt8) (ba ca bb cb bu cu bv cv : Nat), va = .slice (some ⟨ba, 0, none⟩) la.length ca ∧ vb = .slice (some ⟨bb, 0, none⟩) lb.length cb ∧ vu = .slice (some ⟨bu, 0, none⟩) lu.length cu ∧ vv = .slice (some ⟨bv, 0, none⟩) lv.length cv ∧ Own wr ba la ∧ Own wr bb lb ∧ Own wr bu lu ∧ Own wr bv lv ∧ Own wr bg (gamL s.size er er.length) ∧ Below w.heap.size w wr ∧ Hid (dg lb = k ∧ DecInv (xiL (bl s) p er) p er.length la lb lu lv))
        case atStart =>
          exact ⟨topL p, xiL (bl s) p er, [0], [1], _, p + 1, bx, cx, _, 1, _, 1, by rw [topL_length], by rw [HXL.out], rfl, rfl, hA0, hX0, hU0, hV0, hG0, hB0, rfl, HS.out⟩
        case round =>
          obtain ⟨la, lb, lu, lv, ba, ca, bb, cb, bu, cu, bv, cv, rfl, rfl, rfl, rfl, hA, hX, hU, hV, hG, hBw, hI⟩ := hrel
          clear hA0 hX0 hU0 hV0 hG0 hB0 hs1 HS
          have hI1 := hI.out
          obtain ⟨hgk, da, hE, e1, e2, e3, e4, e5, e6, e7, e8, e9⟩ := hI1
          have hdl := dg_le lb
          have hdeg := degree_any lb (by omega) (by omega) bb 0 cb wr hX.rd
          by_cases hc : p + er.length + 2 ≤ 2 * dg lb
          · obtain ⟨n, hn⟩ : ∃ n, dg lb = n + 1 := ⟨dg lb - 1, by omega⟩
            rw [hn, show ((n + 1 : Nat) : Int) - 1 = (n : Int) from by omega] at hdeg
            have hnda : n < da := by have := dg_sup_le hE.sb; omega
            have hdap := hE.hp
            have hc2 : p + er.length ≤ 2 * n := by omega
            have hdv := divide_any la lb n (by omega) (by omega) (by omega) (by omega) hn (by omega) ba 0 ca bb 0 cb wr hA.rd hX.rd
            have HN := Lib.hid hn
            have HDG := Lib.hid hdeg
            have HDV := Lib.hid hdv
            have HLs : Hid (0 < lu.length ∧ lu.length ≤ 1000 ∧ 0 < lv.length ∧ lv.length ≤ 1000) := ⟨by omega, by omega, by omega, by omega⟩
            have hnp : n ≤ 16 := by omega
            clear hgk hE e1 e2 e3 e4 e5 e6 e7 e8 e9 hdl hdeg hdv hn hnda hdap hc
            go_wp2_with (go_at_call 93; refine HDG.out.mono ?_; rintro e w' ⟨rfl, rfl⟩)
            refine HDV.out.mono ?_
            rintro e w3 ⟨Q, R, bq, cq, br, cr, rfl, hQ, hR, hbq, hbr, hB3, k1, k2, k3, k4, k5⟩
            obtain ⟨hD2, hdR, hpl, hp0⟩ := hI.out.2.step HN.out hc2 (by omega) k1 k2 k3 k4 k5
            have HD2 := Lib.hid hD2
            have HDR := Lib.hid hdR
            have HQl : Hid (0 < Q.length ∧ Q.length ≤ 1000) := by
              obtain ⟨hgk, da, hE, e1, e2, e3, e4, e5, e6, e7, e8, e9⟩ := hI.out
              exact ⟨by omega, by omega⟩
            clear k1 k2 k3 k4 k5 hD2 hdR
            have hs3 := hB3.size
            have hsw := hBw.size
            have hX3 := hX.below hB3 hX.lt
            have hU3 := hU.below hB3 hU.lt
            have hV3 := hV.below hB3 hV.lt
            have hG3 := hG.below hB3 hG.lt
            have hBw3 := hBw.trans (hB3.mono hsw)
            have htm := times_any Q lv HQl.out.1 HLs.out.2.2.1 HQl.out.2 HLs.out.2.2.2 bq 0 cq bv 0 cv w3 hQ.rd hV3.rd
            have HTM := Lib.hid htm
            have hwl3 : w.heap.size ≤ w3.heap.size := hBw3.size
            clear hA hX hU hV hG hBw hB3 htm HDV HDG
            go_wp2_with fail
            refine HTM.out.mono ?_
            rintro e w4 ⟨bt, ct, rfl, hT, hbt, hct, hB4⟩
            have hU4 := hU3.below hB4 hU3.lt
            have hX4 := hX3.below hB4 hX3.lt
            have hV4 := hV3.below hB4 hV3.lt
            have hG4 := hG3.below hB4 hG3.lt
            have hR4 := hR.below hB4 hR.lt
            have hBw4 := hBw3.trans (hB4.mono hwl3)
            have hplus := plus_any lu (Gf.prod Q lv) HLs.out.1 hp0 HLs.out.2.1 (by omega) bu 0 cu bt 0 ct w4 hU4.rd hT.rd
            have HPS := Lib.hid hplus
            have hwl4 : w.heap.size ≤ w4.heap.size := hBw4.size
            clear hU3 hX3 hV3 hG3 hR hBw3 hB4 hplus HTM hT
            go_wp2_with fail
            refine HPS.out.mono ?_
            rintro e w5' ⟨bp, cp, rfl, hPl, hbp, hcp, hB5⟩
            have hX5 := hX4.below hB5 hX4.lt
            have hV5 := hV4.below hB5 hV4.lt
            have hG5 := hG4.below hB5 hG4.lt
            have hR5 := hR4.below hB5 hR4.lt
            have hBw5 := hBw4.trans (hB5.mono hwl4)
            clear hU4 hX4 hV4 hG4 hR4 hBw4 hB5 HPS
            go_wp2_with fail
            go_roundg (dg R)
            case measure => have := HDR.out; have := hI.out.1; omega
            case rel => exact ⟨lb, R, lv, plusL lu (Gf.prod Q lv), bb, cb, br, cr, bv, cv, bp, cp, rfl, rfl, rfl, rfl, hX5, hR5, hV5, hPl, hG5, hBw5, rfl, HD2.out⟩
          · have hms : 2 * dg lb ≤ p + er.length + 1 := by omega
            have hgam := gamL_ne s.size er er.length
            have hvne : lv ≠ [] := fun e => by rw [e] at e8; simp at e8
            have hprl : (Gf.prod lv (gamL s.size er er.length)).length = lv.length + er.length := by
              rw [Gf.prod_length hvne hgam.1, hgam.2]; omega
            have htm := times_any lv (gamL s.size er er.length) (by omega) (by rw [hgam.2]; omega) (by omega) (by rw [hgam.2]; omega) bv 0 cv bg 0 cg wr hV.rd hG.rd
            rw [hgam.2] at htm
            have HNEAR : Hid (∀ cw, Gf.Near (bl s) p (erN er) cw → Gf.rep (bl s) (Gf.prod lv (gamL s.size er er.length)) lb = cw) := fun cw hcw => by
              have := dec_near (l := bl s) (by rw [HL.out]; omega) (by omega) (by rw [HL.out]; exact HP.out) hle hI.out.2 hms hcw
              rwa [HL.out] at this
            obtain ⟨psi, hpsi⟩ : ∃ psi, psi = Gf.prod lv (gamL s.size er er.length) := ⟨_, rfl⟩
            rw [← hpsi] at htm hprl
            have hpl0 : 0 < psi.length := by omega
            have hpl1 : psi.length ≤ 1000 := by omega
            have hbl1 : lb.length ≤ 1000 := by omega
            obtain ⟨d, hd⟩ : ∃ d, d = dg lb := ⟨_, rfl⟩
            rw [← hd] at hdeg hc
            have hd17 : d ≤ 17 := by omega
            have HTM := Lib.hid htm
            have HDG := Lib.hid hdeg
            have HPSI := Lib.hid hpsi
            have HD := Lib.hid hd
            have hsw := hBw.size
            have hsx := hX.lt
            clear hgk hE e1 e2 e3 e4 e5 e6 e7 e8 e9 hdl hdeg hms hgam hvne hprl htm hpsi hd
            go_wp2_with (go_at_call 93; refine HDG.out.mono ?_; rintro e w' ⟨rfl, rfl⟩)
            refine HTM.out.mono ?_
            rintro e w3 ⟨bt, ct, rfl, hT, hbt, hct, hB3⟩
            have hX3 := hX.below hB3 hsx
            have hBw3 := hBw.trans (hB3.mono hsw)
            have hs3 := hB3.size
            have hrep := repair_any s psi lb (by omega) (by omega) hpl1 hbl1 hpl0 bt 0 ct bb 0 cb w3 hT.rd hX3.rd (by omega)
            have HR := Lib.hid hrep
            have hws3 := hBw3.size
            clear HTM HDG hA hX hU hV hG hBw hB3 hrep
            go_wp2_with fail
            refine HR.out.mono ?_
            rintro e w4 ⟨rfl, hB4⟩
            have hBw4 := hBw3.trans (hB4.mono hws3)
            have hws4 := hBw4.size
            obtain ⟨out, hout⟩ : ∃ out, out = Gf.rep (bl s) psi lb := ⟨_, rfl⟩
            rw [← hout]
            have hol : (str out).size = s.size := by rw [hout, str_size, Gf.rep_length, HL.out]
            have HO := Lib.hid hout
            have HOL := Lib.hid hol
            have hch := changes_any s (str out) er A c hol.symm (by omega) (by omega) w4 (hr.below (Nat.le_refl _) hBw4)
            have HCH := Lib.hid hch
            clear HR hBw3 hB4 hout hol hch
            go_wp2_with fail
            refine HCH.out.mono ?_
            rintro e w5 ⟨rfl, hB5⟩
            have hBw5 := hBw4.trans (hB5.mono hws4)
            have hws5 := hBw5.size
            rw [show bl (str out) = out from rfl]
            have ho1 := outs_outK (l := bl s) (c := out) (er := er) (by rw [HL.out]; exact HP.out)
            rw [HL.out] at ho1
            have ho2 : Gf.difs (bl s) out = difK (bl s) out s.size := by unfold Gf.difs difK; rw [HL.out]
            have hole := outK_le (bl s) out er s.size
            have hdle := difK_le (bl s) out s.size
            have HNE : Hid (∀ cw, Gf.Near (bl s) p (erN er) cw → out = cw) := fun cw hcw => by
              rw [HO.out, HPSI.out]; exact HNEAR.out cw hcw
            have hvi := vld_iff (str out) p
            rw [show bl (str out) = out from rfl] at hvi
            have hol2 : out.length = (bl s).length := by rw [← str_size, HOL.out, HL.out]
            obtain ⟨o, hoo⟩ : ∃ o, o = outK (bl s) out er s.size := ⟨_, rfl⟩
            obtain ⟨d2, hd2⟩ : ∃ d2, d2 = difK (bl s) out s.size := ⟨_, rfl⟩
            rw [← hoo] at ho1 hole
            rw [← hd2] at ho2 hdle
            have hgo : Hid (IntKind.i64 = IntKind.i64) := rfl
            rw [← hoo, ← hd2]
            have HVI := Lib.hid hvi
            have HO1 := Lib.hid ho1
            have HO2 := Lib.hid ho2
            have HOL2 := Lib.hid hol2
            clear hBw4 hB5 HCH hoo hd2 hvi ho1 ho2 hol2
            by_cases hvb : vld (str out) p = true
            · by_cases hlim : 2 * o + er.length ≤ p
              · have hfin : Hid (Gf.Near (bl s) p (erN er) out) := ⟨HOL2.out, (HVI.out.1 hvb).2, by rw [HO1.out, erN_length]; exact hlim⟩
                go_wp2_with (go_at_call 65; refine (valid_any _ _ _).mono ?_; rintro e w6 ⟨rfl, hB6⟩)
                go_ret3
                exact ⟨hBw5.trans (hB6.mono hws5), .inr (.inl ⟨HP.out, out, hfin.out, by rw [HO2.out]; rfl⟩)⟩
              · have hfin : Hid (¬ ∃ cw, Gf.Near (bl s) p (erN er) cw) := fun ⟨cw, hcw⟩ => by
                  have h7 := HNE.out cw hcw
                  subst h7
                  have h8 := hcw.2.2
                  rw [HO1.out, erN_length] at h8
                  exact hlim h8
                go_wp2_with (go_at_call 65; refine (valid_any _ _ _).mono ?_; rintro e w6 ⟨rfl, hB6⟩)
                go_ret3
                exact ⟨hBw5.trans (hB6.mono hws5), .inr (.inr ⟨HP.out, hfin.out, rfl⟩)⟩
            · have hfin : Hid (¬ ∃ cw, Gf.Near (bl s) p (erN er) cw) := fun ⟨cw, hcw⟩ => by
                have h7 := HNE.out cw hcw
                subst h7
                exact hvb (HVI.out.2 ⟨by rw [HOL.out]; exact H.out, hcw.2.1⟩)
              have hvb : vld (str out) p = false := by simpa using hvb
              go_wp2_with (go_at_call 65; refine (valid_any _ _ _).mono ?_; rintro e w6 ⟨rfl, hB6⟩)
              go_ret3
              exact ⟨hBw5.trans (hB6.mono hws5), .inr (.inr ⟨HP.out, hfin.out, rfl⟩)⟩
      · go_wp2_with fail
        clear hb1 hb2
        rw [topL_cells]
        have hs1 : w.heap.size ≤ w1.heap.size := hB.size
        have hA0 := ((Own.lit w1 (topL p)).alloc (.cells #[.int .u8 0] 5)).alloc (.cells #[.int .u8 1] 5)
        have hX0 := ((hOx.alloc (.cells ((topL p).map B).toArray 5)).alloc (.cells #[.int .u8 0] 5)).alloc (.cells #[.int .u8 1] 5)
        have hG0 := ((hOg.alloc (.cells ((topL p).map B).toArray 5)).alloc (.cells #[.int .u8 0] 5)).alloc (.cells #[.int .u8 1] 5)
        have hU0 : Own (((w1.alloc (.cells ((topL p).map B).toArray 5)).alloc (.cells #[.int .u8 0] 5)).alloc (.cells #[.int .u8 1] 5)) (w1.heap.size + 1) [0] := by
          have := (Own.lit (w1.alloc (.cells ((topL p).map B).toArray 5)) [0]).alloc (.cells #[.int .u8 1] 5)
          rw [World.size_alloc] at this
          exact this
        have hV0 : Own (((w1.alloc (.cells ((topL p).map B).toArray 5)).alloc (.cells #[.int .u8 0] 5)).alloc (.cells #[.int .u8 1] 5)) (w1.heap.size + 1 + 1) [1] := by
          have := Own.lit ((w1.alloc (.cells ((topL p).map B).toArray 5)).alloc (.cells #[.int .u8 0] 5)) [1]
          rw [World.size_alloc, World.size_alloc] at this
          exact this
        have hB0 : Below w.heap.size w (((w1.alloc (.cells ((topL p).map B).toArray 5)).alloc (.cells #[.int .u8 0] 5)).alloc (.cells #[.int .u8 1] 5)) := by
          have h1 := hB.alloc hB.size (.cells ((topL p).map B).toArray 5)
          have h2 := h1.alloc h1.size (.cells #[.int .u8 0] 5)
          exact h2.alloc h2.size (.cells #[.int .u8 1] 5)
        have HS := Lib.hid (DecInv.start (xi := xiL (bl s) p er) hle HXL.out (by omega))
        clear hca hfa hmk hOa hB hOg hOx
        generalize hw5 : ((w1.alloc (.cells ((topL p).map B).toArray 5)).alloc (.cells #[.int .u8 0] 5)).alloc (.cells #[.int .u8 1] 5) = w5 at hA0 hX0 hG0 hU0 hV0 hB0 ⊢
        clear hw5
        go_loopg [12, 13, 14, 15] (dg (xiL (bl s) p er)) (fun k va vb vu vv wr => ∃ (la lb lu lv : List UInt8) (ba ca bb cb bu cu bv cv : Nat), va = .slice (some ⟨ba, 0, none⟩) la.length ca ∧ vb = .slice (some ⟨bb, 0, none⟩) lb.length cb ∧ vu = .slice (some ⟨bu, 0, none⟩) lu.length cu ∧ vv = .slice (some ⟨bv, 0, none⟩) lv.length cv ∧ Own wr ba la ∧ Own wr bb lb ∧ Own wr bu lu ∧ Own wr bv lv ∧ Own wr bg (gamL s.size er er.length) ∧ Below w.heap.size w wr ∧ Hid (dg lb = k ∧ DecInv (xiL (bl s) p er) p er.length la lb lu lv))
        case atStart =>
          exact ⟨topL p, xiL (bl s) p er, [0], [1], _, p + 1, bx, cx, _, 1, _, 1, by rw [topL_length], by rw [HXL.out], rfl, rfl, hA0, hX0, hU0, hV0, hG0, hB0, rfl, HS.out⟩
        case round =>
          obtain ⟨la, lb, lu, lv, ba, ca, bb, cb, bu, cu, bv, cv, rfl, rfl, rfl, rfl, hA, hX, hU, hV, hG, hBw, hI⟩ := hrel
          clear hA0 hX0 hU0 hV0 hG0 hB0 hs1 HS
          have hI1 := hI.out
          obtain ⟨hgk, da, hE, e1, e2, e3, e4, e5, e6, e7, e8, e9⟩ := hI1
          have hdl := dg_le lb
          have hdeg := degree_any lb (by omega) (by omega) bb 0 cb wr hX.rd
          by_cases hc : p + er.length + 2 ≤ 2 * dg lb
          · obtain ⟨n, hn⟩ : ∃ n, dg lb = n + 1 := ⟨dg lb - 1, by omega⟩
            rw [hn, show ((n + 1 : Nat) : Int) - 1 = (n : Int) from by omega] at hdeg
            have hnda : n < da := by have := dg_sup_le hE.sb; omega
            have hdap := hE.hp
            have hc2 : p + er.length ≤ 2 * n := by omega
            have hdv := divide_any la lb n (by omega) (by omega) (by omega) (by omega) hn (by omega) ba 0 ca bb 0 cb wr hA.rd hX.rd
            have HN := Lib.hid hn
            have HDG := Lib.hid hdeg
            have HDV := Lib.hid hdv
            have HLs : Hid (0 < lu.length ∧ lu.length ≤ 1000 ∧ 0 < lv.length ∧ lv.length ≤ 1000) := ⟨by omega, by omega, by omega, by omega⟩
            have hnp : n ≤ 16 := by omega
            clear hgk hE e1 e2 e3 e4 e5 e6 e7 e8 e9 hdl hdeg hdv hn hnda hdap hc
            go_wp2_with (go_at_call 93; refine HDG.out.mono ?_; rintro e w' ⟨rfl, rfl⟩)
            refine HDV.out.mono ?_
            rintro e w3 ⟨Q, R, bq, cq, br, cr, rfl, hQ, hR, hbq, hbr, hB3, k1, k2, k3, k4, k5⟩
            obtain ⟨hD2, hdR, hpl, hp0⟩ := hI.out.2.step HN.out hc2 (by omega) k1 k2 k3 k4 k5
            have HD2 := Lib.hid hD2
            have HDR := Lib.hid hdR
            have HQl : Hid (0 < Q.length ∧ Q.length ≤ 1000) := by
              obtain ⟨hgk, da, hE, e1, e2, e3, e4, e5, e6, e7, e8, e9⟩ := hI.out
              exact ⟨by omega, by omega⟩
            clear k1 k2 k3 k4 k5 hD2 hdR
            have hs3 := hB3.size
            have hsw := hBw.size
            have hX3 := hX.below hB3 hX.lt
            have hU3 := hU.below hB3 hU.lt
            have hV3 := hV.below hB3 hV.lt
            have hG3 := hG.below hB3 hG.lt
            have hBw3 := hBw.trans (hB3.mono hsw)
            have htm := times_any Q lv HQl.out.1 HLs.out.2.2.1 HQl.out.2 HLs.out.2.2.2 bq 0 cq bv 0 cv w3 hQ.rd hV3.rd
            have HTM := Lib.hid htm
            have hwl3 : w.heap.size ≤ w3.heap.size := hBw3.size
            clear hA hX hU hV hG hBw hB3 htm HDV HDG
            go_wp2_with fail
            refine HTM.out.mono ?_
            rintro e w4 ⟨bt, ct, rfl, hT, hbt, hct, hB4⟩
            have hU4 := hU3.below hB4 hU3.lt
            have hX4 := hX3.below hB4 hX3.lt
            have hV4 := hV3.below hB4 hV3.lt
            have hG4 := hG3.below hB4 hG3.lt
            have hR4 := hR.below hB4 hR.lt
            have hBw4 := hBw3.trans (hB4.mono hwl3)
            have hplus := plus_any lu (Gf.prod Q lv) HLs.out.1 hp0 HLs.out.2.1 (by omega) bu 0 cu bt 0 ct w4 hU4.rd hT.rd
            have HPS := Lib.hid hplus
            have hwl4 : w.heap.size ≤ w4.heap.size := hBw4.size
            clear hU3 hX3 hV3 hG3 hR hBw3 hB4 hplus HTM hT
            go_wp2_with fail
            refine HPS.out.mono ?_
            rintro e w5' ⟨bp, cp, rfl, hPl, hbp, hcp, hB5⟩
            have hX5 := hX4.below hB5 hX4.lt
            have hV5 := hV4.below hB5 hV4.lt
            have hG5 := hG4.below hB5 hG4.lt
            have hR5 := hR4.below hB5 hR4.lt
            have hBw5 := hBw4.trans (hB5.mono hwl4)
            clear hU4 hX4 hV4 hG4 hR4 hBw4 hB5 HPS
            go_wp2_with fail
            go_roundg (dg R)
            case measure => have := HDR.out; have := hI.out.1; omega
            case rel => exact ⟨lb, R, lv, plusL lu (Gf.prod Q lv), bb, cb, br, cr, bv, cv, bp, cp, rfl, rfl, rfl, rfl, hX5, hR5, hV5, hPl, hG5, hBw5, rfl, HD2.out⟩
          · have hms : 2 * dg lb ≤ p + er.length + 1 := by omega
            have hgam := gamL_ne s.size er er.length
            have hvne : lv ≠ [] := fun e => by rw [e] at e8; simp at e8
            have hprl : (Gf.prod lv (gamL s.size er er.length)).length = lv.length + er.length := by
              rw [Gf.prod_length hvne hgam.1, hgam.2]; omega
            have htm := times_any lv (gamL s.size er er.length) (by omega) (by rw [hgam.2]; omega) (by omega) (by rw [hgam.2]; omega) bv 0 cv bg 0 cg wr hV.rd hG.rd
            rw [hgam.2] at htm
            have HNEAR : Hid (∀ cw, Gf.Near (bl s) p (erN er) cw → Gf.rep (bl s) (Gf.prod lv (gamL s.size er er.length)) lb = cw) := fun cw hcw => by
              have := dec_near (l := bl s) (by rw [HL.out]; omega) (by omega) (by rw [HL.out]; exact HP.out) hle hI.out.2 hms hcw
              rwa [HL.out] at this
            obtain ⟨psi, hpsi⟩ : ∃ psi, psi = Gf.prod lv (gamL s.size er er.length) := ⟨_, rfl⟩
            rw [← hpsi] at htm hprl
            have hpl0 : 0 < psi.length := by omega
            have hpl1 : psi.length ≤ 1000 := by omega
            have hbl1 : lb.length ≤ 1000 := by omega
            obtain ⟨d, hd⟩ : ∃ d, d = dg lb := ⟨_, rfl⟩
            rw [← hd] at hdeg hc
            have hd17 : d ≤ 17 := by omega
            have HTM := Lib.hid htm
            have HDG := Lib.hid hdeg
            have HPSI := Lib.hid hpsi
            have HD := Lib.hid hd
            have hsw := hBw.size
            have hsx := hX.lt
            clear hgk hE e1 e2 e3 e4 e5 e6 e7 e8 e9 hdl hdeg hms hgam hvne hprl htm hpsi hd
            go_wp2_with (go_at_call 93; refine HDG.out.mono ?_; rintro e w' ⟨rfl, rfl⟩)
            refine HTM.out.mono ?_
            rintro e w3 ⟨bt, ct, rfl, hT, hbt, hct, hB3⟩
            have hX3 := hX.below hB3 hsx
            have hBw3 := hBw.trans (hB3.mono hsw)
            have hs3 := hB3.size
            have hrep := repair_any s psi lb (by omega) (by omega) hpl1 hbl1 hpl0 bt 0 ct bb 0 cb w3 hT.rd hX3.rd (by omega)
            have HR := Lib.hid hrep
            have hws3 := hBw3.size
            clear HTM HDG hA hX hU hV hG hBw hB3 hrep
            go_wp2_with fail
            refine HR.out.mono ?_
            rintro e w4 ⟨rfl, hB4⟩
            have hBw4 := hBw3.trans (hB4.mono hws3)
            have hws4 := hBw4.size
            obtain ⟨out, hout⟩ : ∃ out, out = Gf.rep (bl s) psi lb := ⟨_, rfl⟩
            rw [← hout]
            have hol : (str out).size = s.size := by rw [hout, str_size, Gf.rep_length, HL.out]
            have HO := Lib.hid hout
            have HOL := Lib.hid hol
            have hch := changes_any s (str out) er A c hol.symm (by omega) (by omega) w4 (hr.below (Nat.le_refl _) hBw4)
            have HCH := Lib.hid hch
            clear HR hBw3 hB4 hout hol hch
            go_wp2_with fail
            refine HCH.out.mono ?_
            rintro e w5 ⟨rfl, hB5⟩
            have hBw5 := hBw4.trans (hB5.mono hws4)
            have hws5 := hBw5.size
            rw [show bl (str out) = out from rfl]
            have ho1 := outs_outK (l := bl s) (c := out) (er := er) (by rw [HL.out]; exact HP.out)
            rw [HL.out] at ho1
            have ho2 : Gf.difs (bl s) out = difK (bl s) out s.size := by unfold Gf.difs difK; rw [HL.out]
            have hole := outK_le (bl s) out er s.size
            have hdle := difK_le (bl s) out s.size
            have HNE : Hid (∀ cw, Gf.Near (bl s) p (erN er) cw → out = cw) := fun cw hcw => by
              rw [HO.out, HPSI.out]; exact HNEAR.out cw hcw
            have hvi := vld_iff (str out) p
            rw [show bl (str out) = out from rfl] at hvi
            have hol2 : out.length = (bl s).length := by rw [← str_size, HOL.out, HL.out]
            obtain ⟨o, hoo⟩ : ∃ o, o = outK (bl s) out er s.size := ⟨_, rfl⟩
            obtain ⟨d2, hd2⟩ : ∃ d2, d2 = difK (bl s) out s.size := ⟨_, rfl⟩
            rw [← hoo] at ho1 hole
            rw [← hd2] at ho2 hdle
            have hgo : Hid (IntKind.i64 = IntKind.i64) := rfl
            rw [← hoo, ← hd2]
            have HVI := Lib.hid hvi
            have HO1 := Lib.hid ho1
            have HO2 := Lib.hid ho2
            have HOL2 := Lib.hid hol2
            clear hBw4 hB5 HCH hoo hd2 hvi ho1 ho2 hol2
            by_cases hvb : vld (str out) p = true
            · by_cases hlim : 2 * o + er.length ≤ p
              · have hfin : Hid (Gf.Near (bl s) p (erN er) out) := ⟨HOL2.out, (HVI.out.1 hvb).2, by rw [HO1.out, erN_length]; exact hlim⟩
                go_wp2_with (go_at_call 65; refine (valid_any _ _ _).mono ?_; rintro e w6 ⟨rfl, hB6⟩)
                go_ret3
                exact ⟨hBw5.trans (hB6.mono hws5), .inr (.inl ⟨HP.out, out, hfin.out, by rw [HO2.out]; rfl⟩)⟩
              · have hfin : Hid (¬ ∃ cw, Gf.Near (bl s) p (erN er) cw) := fun ⟨cw, hcw⟩ => by
                  have h7 := HNE.out cw hcw
                  subst h7
                  have h8 := hcw.2.2
                  rw [HO1.out, erN_length] at h8
                  exact hlim h8
                go_wp2_with (go_at_call 65; refine (valid_any _ _ _).mono ?_; rintro e w6 ⟨rfl, hB6⟩)
                go_ret3
                exact ⟨hBw5.trans (hB6.mono hws5), .inr (.inr ⟨HP.out, hfin.out, rfl⟩)⟩
            · have hfin : Hid (¬ ∃ cw, Gf.Near (bl s) p (erN er) cw) := fun ⟨cw, hcw⟩ => by
                have h7 := HNE.out cw hcw
                subst h7
                exact hvb (HVI.out.2 ⟨by rw [HOL.out]; exact H.out, hcw.2.1⟩)
              have hvb : vld (str out) p = false := by simpa using hvb
              go_wp2_with (go_at_call 65; refine (valid_any _ _ _).mono ?_; rintro e w6 ⟨rfl, hB6⟩)
              go_ret3
              exact ⟨hBw5.trans (hB6.mono hws5), .inr (.inr ⟨HP.out, hfin.out, rfl⟩)⟩
  · have HP := Lib.hid hP
    clear hP
    go_wp2
    go_ret3
    exact ⟨hB, .inl ⟨HP.out, rfl⟩⟩
  · have HP := Lib.hid hP
    have HN := Lib.hid (dec_none (l := bl s) hlt)
    clear hP hlt
    go_wp2
    go_ret3
    exact ⟨hB, .inr (.inr ⟨HP.out, HN.out, rfl⟩)⟩
end Go.Proofs.Ytknfkhackmnnaaa
