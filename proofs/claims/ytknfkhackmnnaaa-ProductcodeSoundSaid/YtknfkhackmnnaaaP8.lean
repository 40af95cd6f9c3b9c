import Derived.Deep.LoopGhost
import Derived.Test.YtknfkhackmnnaaaP7
set_option maxRecDepth 100000
set_option linter.unusedVariables false
set_option linter.unusedSimpArgs false
namespace Go.Proofs.Ytknfkhackmnnaaa
open Go Go.RowKit Go.Deep
attribute [local go_sem] Oper.semAt_some
/-! Peel -/
theorem wpIn_loop_ghost {F : Fence} {n : Nat} {P : Program} {Q : Exit → Act → World → Prop} {a : Act} {w : World} {c : Code} (I : Nat → Act → World → Prop) (n₀ : Nat) (h₀ : I n₀ a w)
    (round : ∀ k a w, I k a w → c.wpIn F n P (Exit.then (fun a' w' => ∃ n', n' < k ∧ I n' a' w') Q) a w) : (Code.loop c).wpIn F n P Q a w := by
  refine wpIn_loop (fun a w => ∃ n, I n a w) (fun a w => leastOf (fun n => I n a w)) ⟨n₀, h₀⟩ ?_
  intro a w hI
  refine Code.wpIn_mono ?_ (round _ a w (leastOf_spec hI).1)
  intro e a' w' hq
  cases e with
  | normal =>
    obtain ⟨n', hlt, hI'⟩ := hq
    exact show (∃ n, I n a' w') ∧ leastOf (fun n => I n a' w') < leastOf (fun n => I n a w) from ⟨⟨n', hI'⟩, Nat.lt_of_le_of_lt ((leastOf_spec ⟨n', hI'⟩).2 n' hI') hlt⟩
  | exit id => exact hq
  | goto l => exact hq
  | ret => exact hq
  | panic ch => exact hq
  | outgrown => exact hq
theorem posK_none {S : List Nat} {k : Nat} (h : (posK S (wordN k) (wordN k).length).length = 0) : relK S (wordN k) (wordN k).length = S := relK_same fun o ho hm => by
  have := posK_pos ho hm
  omega
/-- the frame of 'Peel' -/
def pFr (m : Int) (A : Option Addr) (n c f lp mb ag : Nat) (u27 u28 u43 : Value) : Array Value :=
  #[.int .i64 m, .slice A n c, undef, undef, .slice none 0 0, .int .i64 0, .int .i64 (f : Int), .bool true, .pointer (some ⟨lp, 0, none⟩), .pointer (some ⟨ag, 0, none⟩), undef, undef, .tuple #[.int .i64 (f : Int), .bool true], .int .i64 m, .tuple #[.int .i64 (f : Int), .bool true], .int .i64 (f : Int), .bool true, .bool true, .bool false, .tuple #[.map (some mb), .bool true], .int .i64 (f : Int), .slice A n c, .tuple #[.map (some mb), .bool true], .map (some mb), .bool true, .bool true, .bool false, u27, u28, undef, undef, undef, undef, undef, undef, undef, undef, undef, undef, undef, undef, undef, undef, u43, undef, undef, undef, undef]
/-- what Clone and DeleteFunc leave -/
def RetDel (w W : World) (L : List Nat) (e : Ending) (w3 : World) : Prop :=
  ∃ A c, e = .returned (.slice A L.length c) ∧ RdI w3 A (L.map fun p : Nat => (p : Int)) ∧ (∀ b, b < W.heap.size → w3.heap[b]? = W.heap[b]?) ∧ Below w.heap.size w w3 ∧ (∀ g : Addr, A = some g → W.heap.size ≤ g.block)
def pI (w : World) (m : Int) (A : Option Addr) (n c f lp mb nb : Nat) (S0 : List Nat) (k : Nat) (a : Act) (W : World) : Prop :=
  ∃ (j ag : Nat) (Ds : List Nat) (g : Bool) (u27 u28 u43 : Value), a = { tmps := pFr m A n c f lp mb ag u27 u28 u43, defers := dl Ds } ∧ PQ w w.heap.size mb nb lp ag Ds (itP j S0) g W ∧ (g = false → peelP (itP j S0) = itP j S0) ∧ Ds.Nodup ∧ lp < ag ∧ (∀ D, D ∈ Ds → D ≠ ag) ∧ 2 * (itP j S0).length + (if g = true then 1 else 0) ≤ k
def RetLs (w : World) (L : List Nat) (er : Int) (e : Ending) (w' : World) : Prop :=
  Below w.heap.size w w' ∧ ∃ A c, e = .returned (.tuple #[.slice A L.length c, .int .i64 er]) ∧ RdI w' A (L.map fun p : Nat => (p : Int))
set_option maxRecDepth 100000 in
set_option maxHeartbeats 4000000 in
theorem peel_yes (m : Int) (er : List Int) (A : Option Addr) (c : Nat) (hl : er.length ≤ 100000) (w : World) (h : RdI w A er) (hk : okM m = true) (hst : stN (frM m) er er.length) :
    Calls Try.prog 26 #[.int .i64 m, .slice A er.length c] w fun e w' => RetLs w (peelR (erN er)) 0 e w' := by
  have hfr := frM_le m
  have hfi := first_any m w
  have hse := set_any (frM m) (by omega) er A c hl w h
  rw [hk] at hfi
  have HF := Lib.hid hfi
  obtain ⟨f, hf⟩ : ∃ f, f = frM m := ⟨_, rfl⟩
  rw [← hf] at HF hfr hst hse
  have HSE := Lib.hid hse
  have HST := Lib.hid hst
  clear hfi hse hst hk hf
  refine (callsIn_wide (n := 3)).1 ?_
  refine callsIn_of_wp_marks Try.func26 rfl trivial ?_ rfl
  simp only [Try.ntmps26, List.size_toArray, List.length_cons, List.length_nil, Nat.reduceAdd, Nat.reduceSub, Array.replicate_succ, Array.replicate_zero, List.push_toArray, List.append_toArray, List.nil_append, List.cons_append]
  gi_wp2_with (first | (refine ⟨trivial, ?_⟩; gi_at_call 33; refine (callsIn_wide.2 HF.out).mono ?_; rintro e w' ⟨rfl, rfl⟩) | (refine ⟨trivial, ?_⟩; gi_at_call 44; refine (callsIn_wide.2 HSE.out).mono ?_; rintro e w1 ⟨hB1, ⟨hno, -⟩ | ⟨-, mb, rfl, hmb, hBS⟩⟩; exact absurd HST.out hno))
  have hms := BS.below hBS ((Below.refl _ w1).alloc (Nat.le_refl _) (.cells #[.map (some mb)] 44)) hBS.lt
  have hmlt := hBS.lt
  have hPQ : PQ w w.heap.size mb er.length w1.heap.size (w1.heap.size + 1) [] (erN er) true ((w1.alloc (.cells #[.map (some mb)] 44)).alloc (.cells #[.bool true] 4)) := by
    have h2 := new_cell (w1.alloc (.cells #[.map (some mb)] 44)) (.bool true) 4
    rw [World.size_alloc] at h2
    exact ⟨old_cell _ (new_cell w1 (.map (some mb)) 44).1, h2.1, h2.2, hms.below ((Below.refl _ _).alloc (Nat.le_refl _) _) (by rw [World.size_alloc]; omega), (hB1.alloc hB1.size _).alloc (by rw [World.size_alloc]; have := hB1.size; omega) _, fun D hD => by cases hD⟩
  have hn1 := hB1.size
  obtain ⟨lp, hlp⟩ : ∃ lp, lp = w1.heap.size := ⟨_, rfl⟩
  rw [← hlp] at hPQ hmlt hn1 ⊢
  clear hlp hms hBS hB1
  generalize (w1.alloc (.cells #[.map (some mb)] 44)).alloc (.cells #[.bool true] 4) = W0 at hPQ ⊢
  have HRD := Lib.hid h
  clear h HF HSE
  refine wpIn_loop_ghost (pI w m A er.length c f lp mb er.length (erN er)) (2 * (erN er).length + 1) ⟨0, lp + 1, [], true, _, _, _, rfl, hPQ, (fun h => by cases h), List.nodup_nil, by omega, (fun D hD => by cases hD), Nat.le_refl _⟩ ?_
  clear hPQ
  rintro k a W ⟨j, ag, Ds, g, u27, u28, u43, rfl, hP, hfix, hnd, hag, hDa, hmu⟩
  cases g with
  | false =>
    have f9 := hP.c9
    have HP := Lib.hid hP
    clear hP
    have hT : itP j (erN er) = peelR (erN er) := peelR_of (hfix rfl)
    have hsub : (peelR (erN er)).Sublist (erN er) := by rw [← hT]; exact itP_sub j _
    rw [hT] at HP
    have hnl : (erN er).length = er.length := by unfold erN; rw [List.length_map]
    have hSn : (erN er).Nodup := by
      refine List.pairwise_iff_getElem.2 fun i j hi hj hij e => ?_
      rw [hnl] at hi hj
      have h1 := posN_mono HST.out.1 i j hij hj
      have h0 := (HST.out.1 i hi).1
      have ei : (erN er)[i]'(by rw [hnl]; exact hi) = (ci er i).toNat := by simp [erN, ci, List.getD_eq_getElem?_getD, hi]
      have ej : (erN er)[j]'(by rw [hnl]; exact hj) = (ci er j).toNat := by simp [erN, ci, List.getD_eq_getElem?_getD, hj]
      rw [ei, ej] at e
      omega
    have hSl : ∀ x, x ∈ erN er → x < 100001 := fun x hx => by
      obtain ⟨i, hi, rfl⟩ := List.getElem_of_mem hx
      rw [hnl] at hi
      have h1 := (HST.out.1 i hi).2.1
      have ei : (erN er)[i]'(by rw [hnl]; exact hi) = (ci er i).toNat := by simp [erN, ci, List.getD_eq_getElem?_getD, hi]
      rw [ei]
      omega
    have hfs := filter_sub hsub hSn
    have hwl := HP.out.bel.size
    have hDlt : ∀ D, D ∈ Ds → D < W.heap.size := fun D hD => (Array.getElem?_eq_some_iff.1 (HP.out.dfs D hD).2).1
    have hdel : ∀ (v : Value) (w2 : World), w2.ownsRow W.heap.size 3 1 v (erN er).length ((erN er).map vN) → v ≠ .slice none 0 0 → Below W.heap.size W w2 → Calls Try.prog 48 #[v, .func (.func 50) #[] #[.pointer (some ⟨lp, 0, none⟩)]] w2 (RetDel w W (peelR (erN er))) := fun v w2 ho hne hB => by
      have hlpW := World.block_lt_of_cell? W _ HP.out.c8
      refine (delete_any (erN er) (peelR (erN er)) hSl lp mb er.length W.heap.size v w2 ho hne (by omega) ((hB.cell (p := ⟨lp, 0, none⟩) hlpW).trans HP.out.c8) (HP.out.bs.below hB HP.out.bs.lt) hlpW HP.out.bs.lt).mono ?_
      rintro e w3 ⟨g, c3, rfl, hbg, hgl, hrd, hbe, hbl, hsz⟩
      rw [hfs] at hrd ⊢
      refine ⟨some ⟨g, 0, none⟩, c3, rfl, fun hl => ⟨g, 0, rfl, hgl, fun j hj => ?_⟩, fun b hb => (hbl b hb).trans (hB.block b hb), hbe _ _ (HP.out.bel.trans (hB.mono hwl)) hwl, fun g' e => by injection e with e; rw [← e]; exact hbg⟩
      rw [List.length_map] at hj
      rw [Nat.zero_add, hrd j hj, ci_cast _ hj]
      simp [List.getD_eq_getElem?_getD, hj]
    have hcl : Calls Try.prog 49 #[.slice A er.length c] W fun e w2 => ∃ v, e = .returned v ∧ Calls Try.prog 48 #[v, .func (.func 50) #[] #[.pointer (some ⟨lp, 0, none⟩)]] w2 (RetDel w W (peelR (erN er))) := by
      by_cases hpos : 0 < er.length
      · obtain ⟨b, off, rfl, hb', hcells⟩ := HRD.out hpos
        have hx := Try.slices_Clone_int b off er.length c er W (Nat.le_refl _) (by omega) (fun j hj => by
          rw [(HP.out.bel.cell (p := ⟨b, off + j, none⟩) hb').trans (hcells j hj)]
          rfl)
        refine hx.mono ?_
        rintro e w' ⟨v', rfl, ho, hne, hB⟩
        refine ⟨v', rfl, hdel v' w' ?_ hne hB⟩
        rw [List.take_length] at ho
        have e : er.map (Value.int .i64) = (erN er).map vN := by
          unfold erN
          rw [List.map_map]
          refine List.map_congr_left fun z hz => ?_
          obtain ⟨i, hi, rfl⟩ := List.getElem_of_mem hz
          have h0 := (HST.out.1 i hi).1
          have hci : ci er i = er[i] := by simp [ci, List.getD_eq_getElem?_getD, hi]
          rw [hci] at h0
          simp only [Function.comp, vN]
          rw [Int.toNat_of_nonneg h0]
        rw [hnl, ← e]
        exact ho
      · have h0 : er = [] := List.length_eq_zero_iff.1 (by omega)
        subst h0
        cases A with
        | none =>
          refine (Try.slices_Clone_int_nil 0 c W).mono ?_
          rintro e w' ⟨rfl, rfl⟩
          refine ⟨_, rfl, (delete_nil _ _).mono ?_⟩
          rintro e w3 ⟨rfl, rfl⟩
          have hT0 : peelR (erN []) = [] := List.sublist_nil.1 hsub
          rw [hT0]
          exact ⟨none, 0, rfl, RdI.nil _ _, fun _ _ => rfl, HP.out.bel, fun g e => by cases e⟩
        | some a =>
          refine (Try.slices_Clone_int_zero a c W).mono ?_
          rintro e w' ⟨v', rfl, ho, hne, hB⟩
          exact ⟨v', rfl, hdel v' w' ho hne hB⟩
    have HCL := Lib.hid hcl
    clear hcl hdel hfs hSl hSn hsub hT
    unfold pFr
    gi_wp2_with (first | (refine ⟨trivial, ?_⟩; gi_at_call 49; refine (callsIn_wide.2 HCL.out).mono ?_; rintro e w2 ⟨v2, rfl, hDF⟩; have HDF := Lib.hid hDF; clear hDF) | (refine ⟨trivial, ?_⟩; gi_at_call 48; refine (callsIn_wide.2 HDF.out).mono ?_; rintro e w3 ⟨A3, c3, rfl, hr3, hb3, hB3, hg3⟩))
    have hlw : ∀ D, D ∈ Ds → lp < D := fun D hD => (HP.out.dfs D hD).1
    show LeavesInM _ _ _ _ _ _ (dl Ds) _ _
    refine leaves_all Ds w3 hnd (fun D hD => (hb3 D (hDlt D hD)).trans (HP.out.dfs D hD).2) fun W' e1 e2 e3 e4 e5 => ?_
    refine ⟨_, by simp [results, Try.f26, go_sem], ⟨e1.trans hB3.os, e2.trans hB3.tape, e3.trans hB3.output, by rw [e4]; exact hB3.size, fun b hb => (e5 b (fun hD => by have := hlw b hD; omega)).trans (hB3.block b hb)⟩, A3, c3, rfl, fun hl => ?_⟩
    obtain ⟨b, off, hA, hlt, hc⟩ := hr3 hl
    have hnb : ¬ b ∈ Ds := fun hD => by
      have h1 := hDlt b hD
      have h2 := hg3 _ hA
      dsimp only at h2
      omega
    exact ⟨b, off, hA, by rw [e4]; exact hlt, fun i hi => (World.cell?_of_block (e5 b hnb)).trans (hc i hi)⟩
  | true =>
    have f9 := hP.c9
    have z9 := hP.z9
    have hwl := hP.bel.size
    have hDlt : ∀ D, D ∈ Ds → D < W.heap.size := fun D hD => (Array.getElem?_eq_some_iff.1 (hP.dfs D hD).2).1
    have hagW := World.block_lt_of_cell? W _ f9
    have hPs := hP.set hag (by omega) (by omega) hDa false
    have hmbW := hP.bs.lt
    obtain ⟨S, hS⟩ : ∃ S, S = itP j (erN er) := ⟨_, rfl⟩
    rw [← hS] at hPs hmu
    have HSJ := Lib.hid hS
    clear hP hfix hS
    unfold pFr
    gi_wp2_with (refine ⟨trivial, ?_⟩; gi_at_call 34; refine (callsIn_wide.2 (words_any _)).mono ?_; rintro e w' ⟨rfl, rfl⟩)
    have hWs : (W.setCell ⟨ag, 0, none⟩ (.bool false)).heap.size = W.heap.size := by simp
    have hmbs : mb < (W.setCell ⟨ag, 0, none⟩ (.bool false)).heap.size := by omega
    generalize W.setCell ⟨ag, 0, none⟩ (.bool false) = W1 at hPs hWs hmbs ⊢
    refine rangeE rfl (show 1 ≤ 3 by omega) (gf := 60) (lb := #[]) rfl trivial (enters_of Try.func60 (by kernel_rfl) rfl) (words1_seq 2 (by omega) W1) (Below.refl _ _) rfl
      (fun q V => PQ w w.heap.size mb er.length lp ag Ds (peelK S q) (agK S q) V ∧ w.heap.size ≤ V.heap.size) (fun c W => False)
      (fun q A B row hs hg hr => ⟨PQ.own hs.1 hs.2 (by omega) (by omega) hmbs (fun D hD => by have := hDlt D hD; omega) (by omega) hg hr, Nat.le_trans hs.2 hg.size⟩) (fun c _ _ _ _ hs _ _ => hs) ⟨hPs, by omega⟩
      (fun q x a' V => Ew W1.heap.size q x V ∧ a' = { tmps := #[.int .i64 m, .slice A er.length c, undef, undef, .slice none 0 0, .int .i64 0, .int .i64 (f : Int), .bool true, .pointer (some ⟨lp, 0, none⟩), .pointer (some ⟨ag, 0, none⟩), x, undef, .tuple #[.int .i64 (f : Int), .bool true], .int .i64 m, .tuple #[.int .i64 (f : Int), .bool true], .int .i64 (f : Int), .bool true, .bool true, .bool false, .tuple #[.map (some mb), .bool true], .int .i64 (f : Int), .slice A er.length c, .tuple #[.map (some mb), .bool true], .map (some mb), .bool true, .bool true, .bool false, .bool true, .func (.func 60) #[] #[], x, undef, undef, undef, undef, undef, undef, undef, undef, undef, undef, undef, undef, undef, u43, undef, undef, undef, undef], defers := [] })
      (fun q x a' => OwnFrom.and (Ew.own _ _ _ _) (ownFrom_pure _ _)) ?assign ?body ?done ?stop
    case assign =>
      intro l q x V K hI hE hq hK
      gi_wp2
      exact hK _ _ (KeepsFrom.refl _ _) hI ⟨hE, rfl⟩
    case body =>
      rintro l q x a' V ⟨hV, hsz⟩ ⟨hE, rfl⟩ hq
      obtain ⟨g, gc, rfl, hgB, hgl, hgr, hgc⟩ := hE.at
      have hle := wordN_le q
      have hos2 : ∀ j, j < (wordN q).length → (wordN q).getD j 0 ≤ 100000 := fun j hj => by have := wordN_lt hq hj; omega
      have c8 := hV.c8
      have hpos := positionsP_any (wordN q) (peelK S q) er.length hos2 (by omega) g gc mb V hgr hgl hV.bs
      have HPOS := Lib.hid hpos
      have HV := Lib.hid hV
      have hlpV := World.block_lt_of_cell? V _ c8
      have HG := Lib.hid hgr
      have hgm : g ≠ mb := by omega
      have HGM := Lib.hid hgm
      have HST2 : Hid (peelK S (q + 1) = peelW (peelK S q) q) := rfl
      have HAG : Hid (agK S (q + 1) = (agK S q || (decide (1 ≤ (posK (peelK S q) (wordN q) (wordN q).length).length) && decide ((posK (peelK S q) (wordN q) (wordN q).length).length ≤ 2)))) := rfl
      have HKR := fun V2 hB => release_any (wordN q) (peelK S q) er.length hos2 (by omega) g gc mb V2 (HG.out.below hB hgl) (Nat.lt_of_lt_of_le hgl hB.size) (HV.out.bs.below hB HV.out.bs.lt) HGM.out
      have HR := Lib.hid HKR
      clear hE hpos hV hgr HKR hgc hgm
      by_cases hc : 1 ≤ (posK (peelK S q) (wordN q) (wordN q).length).length ∧ (posK (peelK S q) (wordN q) (wordN q).length).length ≤ 2
      · obtain ⟨h1, h2⟩ := hc
        have HP1 : Hid (peelK S (q + 1) = relK (peelK S q) (wordN q) (wordN q).length) := by
          show _ = _
          rw [HST2.out]
          unfold peelW
          rw [if_pos h2]
        have HA1 : Hid (agK S (q + 1) = true) := by
          show _ = _
          rw [HAG.out, decide_eq_true h1, decide_eq_true h2]
          simp
        have h1i : (1 : Int) ≤ ((posK (peelK S q) (wordN q) (wordN q).length).length : Int) := by omega
        have h2i : ((posK (peelK S q) (wordN q) (wordN q).length).length : Int) ≤ 2 := by omega
        clear h1 h2
        gi_wp2_with (first | (refine ⟨trivial, ?_⟩; gi_at_call 46; refine (CallsIn.inRound l (callsIn_wide.2 HPOS.out)).mono ?_; rintro e V2 ⟨Ap, cp, rfl, hrp, hBp⟩; have f8 := (HV.out.below hsz hBp).c8) | (refine ⟨trivial, ?_⟩; gi_at_call 47; refine (CallsIn.inRound l (callsIn_wide.2 (HR.out V2 hBp))).mono ?_; rintro e V3 ⟨⟨v3, rfl⟩, hS3, hG3⟩; have hP3 := (HV.out.below hsz hBp).rel (Nat.le_trans hsz hBp.size) (by omega) (by omega) hmb hG3 hS3; have f9' := hP3.c9; have z9' := hP3.z9; have HP3 := Lib.hid hP3; have HG3 := Lib.hid hG3; clear hP3 hS3 hG3))
        have hsz3 := Nat.le_trans (Nat.le_trans hsz hBp.size) HG3.out.size
        have hP4 := HP3.out.set hag (by omega) (by omega) hDa true
        refine ⟨((keeps_below _ hBp).trans (KeepsFrom.of_grownBy HG3.out (fun j e => by have := Option.some.inj e; omega))).trans ((KeepsOthers.setCell _ _ _).from _), ?_, by simp; exact hsz3⟩
        rw [HP1.out, HA1.out]
        exact hP4
      · have HP1 : Hid (peelK S (q + 1) = peelK S q) := by
          show _ = _
          rw [HST2.out]
          unfold peelW
          split
          · exact posK_none (by omega)
          · rfl
        have HA1 : Hid (agK S (q + 1) = agK S q) := by
          show _ = _
          rw [HAG.out]
          by_cases h1 : 1 ≤ (posK (peelK S q) (wordN q) (wordN q).length).length
          · rw [decide_eq_false (fun h2 => hc ⟨h1, h2⟩)]
            simp
          · rw [decide_eq_false h1]
            simp
        have hci : ((posK (peelK S q) (wordN q) (wordN q).length).length : Int) < 1 ∨ ((1 : Int) ≤ ((posK (peelK S q) (wordN q) (wordN q).length).length : Int) ∧ (2 : Int) < ((posK (peelK S q) (wordN q) (wordN q).length).length : Int)) := by omega
        clear hc
        rcases hci with hci | ⟨hci, hci2⟩
        all_goals
          gi_wp2_with (refine ⟨trivial, ?_⟩; gi_at_call 46; refine (CallsIn.inRound l (callsIn_wide.2 HPOS.out)).mono ?_; rintro e V2 ⟨Ap, cp, rfl, hrp, hBp⟩)
          refine ⟨keeps_below _ hBp, ?_, Nat.le_trans hsz hBp.size⟩
          rw [HP1.out, HA1.out]
          exact HV.out.below hsz hBp
    case done =>
      rintro D V hD ⟨hV, hsz⟩ hK
      have c9 := hV.c9
      have HV := Lib.hid hV
      clear hV
      gi_wp2
      have hDV : D < V.heap.size := (Array.getElem?_eq_some_iff.1 hK).1
      have hit : itP (j + 1) (erN er) = peelK S 138 := by rw [itP_succ, ← HSJ.out, peelP_def]
      have hPn : PQ w w.heap.size mb er.length lp V.heap.size (D :: Ds) (itP (j + 1) (erN er)) (agK S 138) (V.alloc (.cells #[.bool (agK S 138)] 4)) := by
        rw [hit]
        refine ⟨old_cell _ HV.out.c8, (new_cell V _ _).1, (new_cell V _ _).2, HV.out.bs.of_block (Below.heap_alloc V _ mb HV.out.bs.lt), HV.out.bel.alloc hsz _, fun E hE => ?_⟩
        rcases List.mem_cons.1 hE with rfl | hE
        · exact ⟨by omega, (Below.heap_alloc V _ E hDV).trans hK⟩
        · obtain ⟨h1, h2⟩ := HV.out.dfs E hE
          exact ⟨h1, (Below.heap_alloc V _ E (Array.getElem?_eq_some_iff.1 h2).1).trans h2⟩
      have hnd2 : (D :: Ds).Nodup := List.nodup_cons.2 ⟨fun hm => by have := hDlt D hm; omega, hnd⟩
      have hDa2 : ∀ E, E ∈ D :: Ds → E ≠ V.heap.size := fun E hE => by
        rcases List.mem_cons.1 hE with rfl | hE
        · omega
        · have := (Array.getElem?_eq_some_iff.1 (HV.out.dfs E hE).2).1
          omega
      have hlpV : lp < V.heap.size := World.block_lt_of_cell? V _ HV.out.c8
      have hmu2 : 2 * S.length + 1 ≤ k := by simpa using hmu
      cases hq : agK S 138 with
      | true =>
        rw [hq] at hPn
        have hlt := agK_true hq
        exact ⟨2 * (itP (j + 1) (erN er)).length + 1, by rw [hit]; omega, j + 1, V.heap.size, D :: Ds, true, _, _, _, rfl, hPn, (fun h => by cases h), hnd2, hlpV, hDa2, Nat.le_refl _⟩
      | false =>
        rw [hq] at hPn
        have hsame := agK_false hq
        have hfx : peelP (itP (j + 1) (erN er)) = itP (j + 1) (erN er) := by rw [hit, hsame, peelP_def, hsame]
        exact ⟨2 * (itP (j + 1) (erN er)).length, by rw [hit, hsame]; omega, j + 1, V.heap.size, D :: Ds, false, _, _, _, rfl, hPn, (fun _ => hfx), hnd2, hlpV, hDa2, Nat.le_refl _⟩
    case stop =>
      rintro D c V hD h hK
      exact h.elim
set_option maxRecDepth 100000 in
theorem peel_no (m : Int) (er : List Int) (A : Option Addr) (c : Nat) (hl : er.length ≤ 100000) (w : World) (h : RdI w A er) (hno : ¬ (okM m = true ∧ stN (frM m) er er.length)) :
    Calls Try.prog 26 #[.int .i64 m, .slice A er.length c] w fun e w' => RetLs w [] 1 e w' := by
  have hfr := frM_le m
  have hfi := first_any m w
  have hse := set_any (frM m) (by omega) er A c hl w h
  by_cases hk : okM m = true
  · have HNO : Hid (¬ stN (frM m) er er.length) := fun h => hno ⟨hk, h⟩
    rw [hk] at hfi
    have HF := Lib.hid hfi
    have HSE := Lib.hid hse
    clear hfi hse hk hno h
    go_enter Try.func26, Try.ntmps26
    go_wp2_with (first | (go_at_call 33; refine HF.out.mono ?_; rintro e w' ⟨rfl, rfl⟩) | (go_at_call 44; refine HSE.out.mono ?_; rintro e w1 ⟨hB1, ⟨-, rfl⟩ | ⟨hyes, -⟩⟩; rotate_left; exact absurd hyes HNO.out))
    go_ret2
    exact ⟨hB1.alloc hB1.size _, none, 0, rfl, RdI.nil _ _⟩
  · rw [show okM m = false by simpa using hk] at hfi
    have HF := Lib.hid hfi
    clear hfi hse hk hno h
    go_enter Try.func26, Try.ntmps26
    go_wp2_with (go_at_call 33; refine HF.out.mono ?_; rintro e w' ⟨rfl, rfl⟩)
    go_ret2
    exact ⟨Below.refl _ _, none, 0, rfl, RdI.nil _ _⟩
end Go.Proofs.Ytknfkhackmnnaaa
