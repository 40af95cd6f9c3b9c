import Derived.Test.YtknfkhackmnnaaaW2
set_option maxRecDepth 100000
set_option linter.unusedVariables false
set_option linter.unusedSimpArgs false
namespace Go.Proofs.Ytknfkhackmnnaaa
open Go Go.RowKit Go.Deep
attribute [local go_sem] Oper.semAt_some
/-! all words of a sector -/
def pwN (n k : Nat) : List Nat := (List.range k).map fun i => 12 + 2 * (n / 2 + 43 * i) + n % 2
def qwN (n : Nat) : List Nat := ((List.range 43).map fun i => 12 + 2 * ((44 * i + 43 * (n / 2)) % 1118) + n % 2) ++ [12 + 2 * (1118 + n / 2) + n % 2, 12 + 2 * (1144 + n / 2) + n % 2]
def wordN (k : Nat) : List Nat := if k < 86 then pwN k 26 else qwN (k - 86)
def vI (o : Nat) : Value := .int .i64 ((o : Nat) : Int)
theorem pwI_map (n k : Nat) : pwI n k = (pwN n k).map vI := by simp [pwI, pwN, vI]
theorem qwL_map (n : Nat) : qwL n = (qwN n).map vI := by simp [qwL, qwI, qwN, vI]
theorem wordL_map (k : Nat) : wordL k = (wordN k).map vI := by
  unfold wordL wordN
  split
  · exact pwI_map _ _
  · exact qwL_map _
theorem wordN_length (k : Nat) : (wordN k).length = if k < 86 then 26 else 45 := by
  unfold wordN
  split <;> simp [pwN, qwN]
theorem wordN_le (k : Nat) : (wordN k).length ≤ 45 := by
  rw [wordN_length]
  split <;> omega
theorem wordN_mem {k o : Nat} (hk : k < 138) (h : o ∈ wordN k) : 12 ≤ o ∧ o < 2352 := by
  unfold wordN at h
  split at h
  · simp only [pwN, List.mem_map, List.mem_range] at h
    obtain ⟨i, hi, rfl⟩ := h
    omega
  · simp only [qwN, List.mem_append, List.mem_map, List.mem_range, List.mem_cons, List.not_mem_nil, or_false] at h
    rcases h with ⟨i, hi, rfl⟩ | rfl | rfl <;> omega
theorem getD_mem {l : List Nat} {j : Nat} (h : j < l.length) : l.getD j 0 ∈ l := by
  rw [List.getD_eq_getElem?_getD, List.getElem?_eq_getElem h]
  exact List.getElem_mem h
theorem wordN_lt {k j : Nat} (hk : k < 138) (h : j < (wordN k).length) : (wordN k).getD j 0 < 2352 := (wordN_mem hk (getD_mem h)).2
/-- what the iterator hands over -/
theorem Ew.at {B k : Nat} {x : Value} {W : World} (h : Ew B k x W) : ∃ g c, x = .slice (some ⟨g, 0, none⟩) (wordN k).length c ∧ B ≤ g ∧ g < W.heap.size ∧ RdN W g (wordN k) ∧ (wordN k).length ≤ c := by
  obtain ⟨g, c, rfl, hb, hlt, hc, hcc⟩ := h
  have hlen : (wordL k).length = (wordN k).length := by rw [wordL_map, List.length_map]
  refine ⟨g, c, by rw [hlen], hb, hlt, fun j hj => ?_, by rw [← hlen]; exact hcc⟩
  rw [hc j (by rw [hlen]; exact hj), wordL_map, List.getElem?_map, List.getD_eq_getElem?_getD, List.getElem?_eq_getElem hj]
  rfl
theorem Ew.own (B B' k : Nat) (x : Value) : OwnFrom B' (fun (_ : Unit) W => Ew B k x W) := fun s W W' row hs hg hr => by
  obtain ⟨g, c, rfl, hb, hlt, hc, hcc⟩ := hs
  exact ⟨g, c, rfl, hb, Nat.lt_of_lt_of_le hlt hg.size, fun j hj => by
    have h := hc j hj
    rw [List.getElem?_eq_getElem hj] at h ⊢
    exact cell_kept h hg (fun r e => (hr r e).2), hcc⟩
theorem words_any (w : World) : Calls Try.prog 34 #[] w fun e w' => e = .returned (.func (.func 60) #[] #[]) ∧ w = w' := by
  go_enter Try.func34, Try.ntmps34
  go_wp2
  go_ret
  exact ⟨rfl, rfl⟩
theorem new_cell (w : World) (v : Value) (t : TypeId) : (w.alloc (.cells #[v] t)).cell? ⟨w.heap.size, 0, none⟩ = some v ∧ (w.alloc (.cells #[v] t)).frozen? ⟨w.heap.size, 0, none⟩ = false := by
  constructor
  · exact cell_new w v t
  · have h : (w.alloc (.cells #[v] t)).heap[w.heap.size]? = some (.cells #[v] t) := World.alloc_heap_new w _
    simp only [World.frozen?, h]
    rfl
theorem old_cell {w : World} {a : Addr} {v : Value} (o : Obj) (h : w.cell? a = some v) : (w.alloc o).cell? a = some v := (World.cell?_of_block (Below.heap_alloc w o _ (World.block_lt_of_cell? w _ h))).trans h
theorem keeps_below {W W' : World} (B : Nat) (h : Below W.heap.size W W') : KeepsFrom B W W' := ⟨h.size, fun k o _ hk _ => (h.block k (Array.getElem?_eq_some_iff.1 hk).1).trans hk⟩
/-- the three variables of 'sound', and what lay before -/
structure SI (w : World) (b cl f : Nat) (r : Bool) (W : World) : Prop where
  c0 : W.cell? ⟨w.heap.size, 0, none⟩ = some (.slice (some ⟨b, 0, none⟩) 2352 cl)
  c1 : W.cell? ⟨w.heap.size + 1, 0, none⟩ = some (.int .i64 (f : Int))
  c2 : W.cell? ⟨w.heap.size + 1 + 1, 0, none⟩ = some (.bool r)
  z2 : W.frozen? ⟨w.heap.size + 1 + 1, 0, none⟩ = false
  bel : Below w.heap.size w W
theorem SI.own {β : Type} (w : World) (b cl f : Nat) (r : Bool) (B : Nat) (hB : w.heap.size ≤ B) : OwnFrom B (fun (_ : β) W => SI w b cl f r W) := fun s W W' row hs hg hr => ⟨cell_kept hs.c0 hg (fun r e => (hr r e).2), cell_kept hs.c1 hg (fun r e => (hr r e).2), cell_kept hs.c2 hg (fun r e => (hr r e).2), (frozen_kept hs.c2 hg (fun r e => (hr r e).2)).trans hs.z2, hs.bel.grown hg hs.bel.size (fun k e => Nat.le_trans hB (hr k e).1)⟩
theorem SI.below {w : World} {b cl f : Nat} {r : Bool} {W W' : World} (h : SI w b cl f r W) (hB : Below W.heap.size W W') : SI w b cl f r W' :=
  ⟨(hB.cell (p := ⟨_, 0, none⟩) (World.block_lt_of_cell? W _ h.c0)).trans h.c0, (hB.cell (p := ⟨_, 0, none⟩) (World.block_lt_of_cell? W _ h.c1)).trans h.c1, (hB.cell (p := ⟨_, 0, none⟩) (World.block_lt_of_cell? W _ h.c2)).trans h.c2, (World.frozen?_of_block (hB.block _ (World.block_lt_of_cell? W _ h.c2))).trans h.z2, h.bel.trans (hB.mono h.bel.size)⟩
theorem SI.set {w : World} {b cl f : Nat} {r : Bool} {W : World} (h : SI w b cl f r W) (r' : Bool) : SI w b cl f r' (W.setCell ⟨w.heap.size + 1 + 1, 0, none⟩ (.bool r')) :=
  ⟨(World.cell?_setCell_far _ _ _ _ (by simp; try omega)).trans h.c0, (World.cell?_setCell_far _ _ _ _ (by simp; try omega)).trans h.c1, World.cell?_setCell_same' _ _ _ (by rw [h.c2]; rfl), by rw [World.frozen?_setCell]; exact h.z2, h.bel.setCell (p := ⟨w.heap.size + 1 + 1, 0, none⟩) (by simp; omega) _⟩
def okW (l : List UInt8) (f k : Nat) : Bool := vld (str (tkL l f (wordN k))) 2
def sndL (l : List UInt8) (f : Nat) : Bool := (List.range 138).all (okW l f)
set_option maxRecDepth 100000 in
set_option maxHeartbeats 2000000 in
theorem sound_any (l : List UInt8) (hll : l.length = 2352) (f : Nat) (hf : f ≤ 1000) (b cl : Nat) (w : World) (hl : Rd w b 0 l) (hb : b < w.heap.size) :
    Calls Try.prog 42 #[.slice (some ⟨b, 0, none⟩) 2352 cl, .int .i64 (f : Int)] w fun e w' => Ret1 w (.bool (sndL l f)) e w' := by
  refine (callsIn_wide (n := 3)).1 ?_
  refine callsIn_of_wp_marks Try.func42 rfl trivial ?_ rfl
  simp only [Try.ntmps42, List.size_toArray, List.length_cons, List.length_nil, Nat.reduceAdd, Nat.reduceSub, Array.replicate_succ, Array.replicate_zero, List.push_toArray, List.append_toArray, List.nil_append, List.cons_append]
  gi_wp2_with (refine ⟨trivial, ?_⟩; gi_at_call 34; refine (callsIn_wide.2 (words_any _)).mono ?_; rintro e w' ⟨rfl, rfl⟩)
  have c0 := new_cell w (.slice (some ⟨b, 0, none⟩) 2352 cl) 43
  have c1 := new_cell (w.alloc (.cells #[.slice (some ⟨b, 0, none⟩) 2352 cl] 43)) (.int .i64 (f : Int)) 3
  have c2 := new_cell ((w.alloc (.cells #[.slice (some ⟨b, 0, none⟩) 2352 cl] 43)).alloc (.cells #[.int .i64 (f : Int)] 3)) (.bool false) 4
  simp only [World.size_alloc] at c1 c2
  have hB0 : Below w.heap.size w (((w.alloc (.cells #[.slice (some ⟨b, 0, none⟩) 2352 cl] 43)).alloc (.cells #[.int .i64 (f : Int)] 3)).alloc (.cells #[.bool false] 4)) := (((Below.refl _ w).alloc (Nat.le_refl _) _).alloc (by simp) _).alloc (by simp; omega) _
  have hSI : SI w b cl f false _ := ⟨old_cell _ (old_cell _ c0.1), old_cell _ c1.1, c2.1, c2.2, hB0⟩
  have hz : (((w.alloc (.cells #[.slice (some ⟨b, 0, none⟩) 2352 cl] 43)).alloc (.cells #[.int .i64 (f : Int)] 3)).alloc (.cells #[.bool false] 4)).heap.size = w.heap.size + 3 := by simp
  clear c0 c1 c2 hB0
  generalize (((w.alloc (.cells #[.slice (some ⟨b, 0, none⟩) 2352 cl] 43)).alloc (.cells #[.int .i64 (f : Int)] 3)).alloc (.cells #[.bool false] 4)) = W0 at hSI hz ⊢
  refine rangeE rfl (show 1 ≤ 3 by omega) (gf := 60) (lb := #[]) rfl trivial (enters_of Try.func60 (by kernel_rfl) rfl) (words1_seq 2 (by omega) W0) (Below.refl _ _) rfl
    (fun k W => SI w b cl f false W ∧ ∀ j, j < k → okW l f j = true) (fun c W => SI w b cl f false W ∧ c = .ret ∧ sndL l f = false)
    (OwnFrom.and (SI.own _ _ _ _ _ _ (by omega)) (ownFrom_pure _ _)) (fun c => OwnFrom.and (SI.own _ _ _ _ _ _ (by omega)) (ownFrom_pure _ _)) ⟨hSI, fun j hj => by omega⟩
    (fun k x a' W => Ew W0.heap.size k x W ∧ a' = { tmps := #[.slice (some ⟨b, 0, none⟩) 2352 cl, .int .i64 (f : Int), .pointer (some ⟨w.heap.size, 0, none⟩), .pointer (some ⟨w.heap.size + 1, 0, none⟩), .pointer (some ⟨w.heap.size + 1 + 1, 0, none⟩), x, .func (.func 60) #[] #[], x, undef, undef, undef, undef, undef, undef], defers := [] })
    (fun k x a' => OwnFrom.and (Ew.own _ _ _ _) (ownFrom_pure _ _)) ?assign ?body ?done ?stop
  case assign =>
    intro lp k x W K hI hE hk hK
    gi_wp2
    exact hK _ _ (KeepsFrom.refl _ _) hI ⟨hE, rfl⟩
  case body =>
    rintro lp k x a' W ⟨hS, hok⟩ ⟨hE, rfl⟩ hk
    obtain ⟨g, c, rfl, hgB, hgl, hgr, _⟩ := hE.at
    have h0 := hS.c0
    have h1 := hS.c1
    have h2 := hS.c2
    have hz2 := hS.z2
    have hle := wordN_le k
    have hsW := hS.bel.size
    have htk := take_any l (wordN k) f (fun j hj => by rw [hll]; exact wordN_lt hk hj) (by omega) (by omega) hf b 0 cl g c W (hl.below hS.bel hb) (by omega) hgr hgl
    rw [hll] at htk
    have hkw : okW l f k = vld (str (tkL l f (wordN k))) 2 := rfl
    by_cases hv : okW l f k = true
    · have hvl : ∀ W', Calls Try.prog 65 #[.string (str (tkL l f (wordN k))), .int .i64 2] W' fun e w' => Ret1 W' (.bool true) e w' := fun W' => by
        have h := valid_any (str (tkL l f (wordN k))) 2 W'
        rw [← hkw, hv] at h
        exact h
      have HT := Lib.hid htk
      have HV := Lib.hid hvl
      have HS := Lib.hid hS
      have HOK := Lib.hid hok
      clear htk hvl hS hok hkw hgr
      gi_wp2_with (first | (refine ⟨trivial, ?_⟩; gi_at_call 35; refine (CallsIn.inRound lp (callsIn_wide.2 HT.out)).mono ?_; rintro e w1 ⟨rfl, hB1⟩) | (refine ⟨trivial, ?_⟩; gi_at_call 65; refine (CallsIn.inRound lp (callsIn_wide.2 (HV.out _))).mono ?_; rintro e w2 ⟨rfl, hB2⟩))
      have hB := hB1.trans (hB2.mono hB1.size)
      exact ⟨keeps_below _ hB, HS.out.below hB, fun j hj => by
        rcases Nat.lt_or_ge j k with h | h
        · exact HOK.out j h
        · rw [show j = k by omega]; exact hv⟩
    · have hvf : okW l f k = false := by simpa using hv
      have hvl : ∀ W', Calls Try.prog 65 #[.string (str (tkL l f (wordN k))), .int .i64 2] W' fun e w' => Ret1 W' (.bool false) e w' := fun W' => by
        have h := valid_any (str (tkL l f (wordN k))) 2 W'
        rw [← hkw, hvf] at h
        exact h
      have hsf : sndL l f = false := by
        cases hq : sndL l f with
        | false => rfl
        | true =>
          have := List.all_eq_true.1 hq k (List.mem_range.2 hk)
          rw [hvf] at this
          exact this.symm
      have HT := Lib.hid htk
      have HV := Lib.hid hvl
      have HS := Lib.hid hS
      have HSF := Lib.hid hsf
      clear htk hvl hS hok hkw hgr hsf hvf
      gi_wp2_with (first | (refine ⟨trivial, ?_⟩; gi_at_call 35; refine (CallsIn.inRound lp (callsIn_wide.2 HT.out)).mono ?_; rintro e w1 ⟨rfl, hB1⟩) | (refine ⟨trivial, ?_⟩; gi_at_call 65; refine (CallsIn.inRound lp (callsIn_wide.2 (HV.out _))).mono ?_; rintro e w2 ⟨rfl, hB2⟩; have hB := hB1.trans (hB2.mono hB1.size); have hS2 := HS.out.below hB; have h2' := hS2.c2; have hz2' := hS2.z2))
      exact ⟨(keeps_below _ hB).trans ((KeepsOthers.setCell _ _ _).from _), hS2.set _, rfl, HSF.out⟩
  case done =>
    rintro D W hD ⟨hS, hok⟩ hK
    have h2 := hS.c2
    have hz2 := hS.z2
    have hst : sndL l f = true := List.all_eq_true.2 fun k hk => hok k (List.mem_range.1 hk)
    gi_wp2
    have hS2 := hS.set true
    have hK' := (KeepsOthers.setCell W ⟨w.heap.size + 1 + 1, 0, none⟩ (.bool true)).same D _ hK rfl
    refine ⟨by simp, .inl ⟨_, _, rfl, run_takeDeferred hK', ?_⟩⟩
    have hc5 := cell_kept hS2.c2 (grownBy_putObj' _ D (.deferred none)) (fun r e => by cases e; exact ⟨_, hK', rfl⟩)
    refine ⟨.bool true, ?_, by rw [hst], hS2.bel.trans (belowK_b (w := w) (Nat.le_refl _) _ D _ _ (by omega) hK' rfl rfl)⟩
    simp [results, Try.f42, go_sem, hc5]
  case stop =>
    rintro D c W hD ⟨hS, rfl, hsf⟩ hK
    gi_wp2
    refine ⟨by simp, .inl ⟨_, _, rfl, run_takeDeferred hK, ?_⟩⟩
    have hc5 := cell_kept hS.c2 (grownBy_putObj' _ D (.deferred none)) (fun r e => by cases e; exact ⟨_, hK, rfl⟩)
    refine ⟨.bool false, ?_, by rw [hsf], hS.bel.trans (belowK_b (w := w) (Nat.le_refl _) _ D _ _ (by omega) hK rfl rfl)⟩
    simp [results, Try.f42, go_sem, hc5]
end Go.Proofs.Ytknfkhackmnnaaa
