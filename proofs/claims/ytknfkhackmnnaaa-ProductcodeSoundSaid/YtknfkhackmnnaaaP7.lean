import Derived.Lib.OwnBridge
import Derived.Test.YtknfkhackmnnaaaD8
import Derived.Test.YtknfkhackmnnaaaW4
import Derived.Test.YtknfkhackmnnaaaShelfd
set_option maxRecDepth 100000
set_option linter.unusedVariables false
set_option linter.unusedSimpArgs false
namespace Go.Proofs.Ytknfkhackmnnaaa
open Go Go.RowKit Go.Deep
attribute [local go_sem] Oper.semAt_some
/-! Peel: the walk -/
set_option maxRecDepth 100000 in
set_option maxHeartbeats 1000000 in
theorem peel1_any (x : Nat) (hx : x ≤ 100000) (lp mb nb : Nat) (T : List Nat) (W : World) (hc : W.cell? ⟨lp, 0, none⟩ = some (.map (some mb))) (hS : BS W mb nb T) :
    Calls Try.prog 50 #[.int .i64 (x : Int), .pointer (some ⟨lp, 0, none⟩)] W fun e w' => e = .returned (.bool (!decide (x ∈ T))) ∧ ∃ q, w' = W.drewN q := by
  have hlk := hS.look hx
  by_cases h : x ∈ T
  · rw [decide_eq_true h] at hlk ⊢
    clear h hS
    go_enter Try.func50, Try.ntmps50
    go_wp2
    go_ret
    exact ⟨rfl, 0, rfl⟩
  · rw [decide_eq_false h] at hlk ⊢
    clear h hS
    go_enter Try.func50, Try.ntmps50
    go_wp2
    go_ret
    exact ⟨rfl, 0, rfl⟩
/-- the calls left for the end: one a range, all empty -/
def dl (Ds : List Nat) : List Deferred := Ds.map fun D => { target := .collected D, args := #[] }
theorem leaves_all {F : Fence} {n : Nat} {fn : Func} {tmps : Array Value} {R : Ending → World → Prop} : ∀ (Ds : List Nat) (W : World), Ds.Nodup → (∀ D, D ∈ Ds → W.heap[D]? = some (.deferred (some []))) →
    (∀ W' : World, W'.os = W.os → W'.tape = W.tape → W'.output = W.output → W'.heap.size = W.heap.size → (∀ b, ¬ b ∈ Ds → W'.heap[b]? = W.heap[b]?) → LeavesInM F n Try.prog fn tmps R [] .returning W') →
    LeavesInM F n Try.prog fn tmps R (dl Ds) .returning W
  | [], W, _, _, h => h W rfl rfl rfl rfl fun b _ => rfl
  | D :: Ds, W, hn, hd, h => by
    obtain ⟨hn1, hn2⟩ := List.nodup_cons.1 hn
    have hD := hd D (List.mem_cons_self)
    have hlt : D < W.heap.size := (Array.getElem?_eq_some_iff.1 hD).1
    have hg := grownBy_putObj' W D (.deferred none)
    have hsz : (W.putObj D (.deferred none)).heap.size = W.heap.size := by simp [World.putObj]
    refine ⟨by simp, .inl ⟨_, _, rfl, run_takeDeferred hD, ?_⟩⟩
    refine leaves_all Ds _ hn2 (fun E hE => ?_) fun W' h1 h2 h3 h4 h5 => ?_
    · have hne : E ≠ D := fun e => hn1 (e ▸ hE)
      exact (hg.block E (Array.getElem?_eq_some_iff.1 (hd E (List.mem_cons_of_mem _ hE))).1 (fun e => hne (Option.some.inj e))).trans (hd E (List.mem_cons_of_mem _ hE))
    · refine h W' (h1.trans hg.os) (h2.trans hg.tape) (h3.trans hg.output) (h4.trans hsz) fun b hb => ?_
      have hb1 : ¬ b ∈ Ds := fun h => hb (List.mem_cons_of_mem _ h)
      have hb2 : b ≠ D := fun e => hb (e ▸ List.mem_cons_self)
      rw [h5 b hb1]
      simp only [World.putObj]
      rw [Array.getElem?_setIfInBounds_ne (fun e => hb2 e.symm)]
/-- the variables of 'Peel', and what lay before -/
structure PQ (w0 : World) (n0 mb nb lp ag : Nat) (Ds : List Nat) (S : List Nat) (g : Bool) (W : World) : Prop where
  c8 : W.cell? ⟨lp, 0, none⟩ = some (.map (some mb))
  c9 : W.cell? ⟨ag, 0, none⟩ = some (.bool g)
  z9 : W.frozen? ⟨ag, 0, none⟩ = false
  bs : BS W mb nb S
  bel : Below n0 w0 W
  dfs : ∀ D, D ∈ Ds → lp < D ∧ W.heap[D]? = some (.deferred (some []))
theorem PQ.of_blocks {w0 : World} {n0 mb nb lp ag : Nat} {Ds S : List Nat} {g : Bool} {W W' : World} (h : PQ w0 n0 mb nb lp ag Ds S g W) (hb : ∀ b, b < W.heap.size → W'.heap[b]? = W.heap[b]?) (hbel : Below n0 w0 W') : PQ w0 n0 mb nb lp ag Ds S g W' := by
  have hl := World.block_lt_of_cell? W _ h.c8
  have hg := World.block_lt_of_cell? W _ h.c9
  refine ⟨(World.cell?_of_block (hb _ hl)).trans h.c8, (World.cell?_of_block (hb _ hg)).trans h.c9, ?_, h.bs.of_block (hb _ h.bs.lt), hbel, fun D hD => ?_⟩
  · have hz := h.z9
    simp only [World.frozen?, hb _ hg]
    exact hz
  · obtain ⟨h1, h2⟩ := h.dfs D hD
    exact ⟨h1, (hb D (Array.getElem?_eq_some_iff.1 h2).1).trans h2⟩
theorem PQ.below {w0 : World} {n0 mb nb lp ag : Nat} {Ds S : List Nat} {g : Bool} {W W' : World} (h : PQ w0 n0 mb nb lp ag Ds S g W) (hn : n0 ≤ W.heap.size) (hB : Below W.heap.size W W') : PQ w0 n0 mb nb lp ag Ds S g W' :=
  h.of_blocks (fun b hb => hB.block b hb) (h.bel.trans (hB.mono hn))
theorem PQ.own {w0 : World} {n0 mb nb lp ag B : Nat} {Ds S : List Nat} {g : Bool} {W W' : World} {row : Option Nat} (h : PQ w0 n0 mb nb lp ag Ds S g W) (hn : n0 ≤ W.heap.size) (hlp : lp < B) (hag : ag < B) (hmb : mb < B) (hDs : ∀ D, D ∈ Ds → D < B) (hnB : n0 ≤ B) (hg : W.grownBy W' row) (hr : ∀ r, row = some r → B ≤ r ∧ ∃ o : Obj, W.heap[r]? = some o ∧ o.isCells = false) : PQ w0 n0 mb nb lp ag Ds S g W' := by
  have hl := World.block_lt_of_cell? W _ h.c8
  have hga := World.block_lt_of_cell? W _ h.c9
  have hb : ∀ b, b < W.heap.size → b < B → W'.heap[b]? = W.heap[b]? := fun b h1 h2 => hg.block b h1 (fun e => by have := (hr b e.symm).1; omega)
  refine ⟨(World.cell?_of_block (hb _ hl hlp)).trans h.c8, (World.cell?_of_block (hb _ hga hag)).trans h.c9, ?_, h.bs.of_block (hb _ h.bs.lt hmb), h.bel.grown hg hn (fun k e => by have := (hr k e).1; omega), fun D hD => ?_⟩
  · have hz := h.z9
    simp only [World.frozen?, hb _ hga hag]
    exact hz
  · obtain ⟨h1, h2⟩ := h.dfs D hD
    exact ⟨h1, (hb D (Array.getElem?_eq_some_iff.1 h2).1 (hDs D hD)).trans h2⟩
theorem PQ.rel {w0 : World} {n0 mb nb lp ag : Nat} {Ds S S' : List Nat} {g : Bool} {W W' : World} (h : PQ w0 n0 mb nb lp ag Ds S g W) (hn : n0 ≤ W.heap.size) (hlp : mb < lp) (hag : mb < ag) (hmb : n0 ≤ mb) (hg : W.grownBy W' (some mb)) (hr : BS W' mb nb S') : PQ w0 n0 mb nb lp ag Ds S' g W' := by
  have hl := World.block_lt_of_cell? W _ h.c8
  have hga := World.block_lt_of_cell? W _ h.c9
  have hb : ∀ b, b < W.heap.size → b ≠ mb → W'.heap[b]? = W.heap[b]? := fun b h1 h2 => hg.block b h1 (fun e => h2 (Option.some.inj e))
  refine ⟨(World.cell?_of_block (hb _ hl (by show lp ≠ mb; omega))).trans h.c8, (World.cell?_of_block (hb _ hga (by show ag ≠ mb; omega))).trans h.c9, ?_, hr, h.bel.grown hg hn (fun k e => by have := Option.some.inj e; omega), fun D hD => ?_⟩
  · have hz := h.z9
    simp only [World.frozen?, hb _ hga (by show ag ≠ mb; omega)]
    exact hz
  · obtain ⟨h1, h2⟩ := h.dfs D hD
    exact ⟨h1, (hb D (Array.getElem?_eq_some_iff.1 h2).1 (by omega)).trans h2⟩
theorem PQ.set {w0 : World} {n0 mb nb lp ag : Nat} {Ds S : List Nat} {g : Bool} {W : World} (h : PQ w0 n0 mb nb lp ag Ds S g W) (hlp : lp < ag) (hmb : mb < ag) (hn : n0 ≤ ag) (hDs : ∀ D, D ∈ Ds → D ≠ ag) (g' : Bool) : PQ w0 n0 mb nb lp ag Ds S g' (W.setCell ⟨ag, 0, none⟩ (.bool g')) := by
  refine ⟨(World.cell?_setCell_far _ _ _ _ (by simp; omega)).trans h.c8, World.cell?_setCell_same' _ _ _ (by rw [h.c9]; rfl), by rw [World.frozen?_setCell]; exact h.z9, h.bs.of_block (Below.heap_setCell W _ _ mb (by simp; omega)), h.bel.setCell (p := ⟨ag, 0, none⟩) hn _, fun D hD => ?_⟩
  obtain ⟨h1, h2⟩ := h.dfs D hD
  exact ⟨h1, (Below.heap_setCell W _ _ D (by simp; exact hDs D hD)).trans h2⟩
/-! what is struck out -/
def fN (x : Nat) : Fin 100001 := if h : x < 100001 then ⟨x, h⟩ else 0
def eF (x : Fin 100001) : Value := vN x.val
theorem eF_fN {x : Nat} (h : x < 100001) : eF (fN x) = vN x := by
  unfold eF fN
  rw [dif_pos h]
theorem map_fN {S : List Nat} (h : ∀ x, x ∈ S → x < 100001) : (S.map fN).map eF = S.map vN := by
  rw [List.map_map]
  exact List.map_congr_left fun x hx => eF_fN (h x hx)
theorem filter_fN {S T : List Nat} (h : ∀ x, x ∈ S → x < 100001) : ((S.map fN).filter fun x => !!decide (x.val ∈ T)) = (S.filter fun x => decide (x ∈ T)).map fN := by
  rw [List.filter_map]
  congr 1
  refine List.filter_congr fun x hx => ?_
  have e : (fN x).val = x := by
    unfold fN
    rw [dif_pos (h x hx)]
  simp [e]
theorem filter_sub : ∀ {T S : List Nat}, T.Sublist S → S.Nodup → S.filter (fun x => decide (x ∈ T)) = T
  | _, _, .slnil, _ => rfl
  | T, x :: S, .cons _ h, hn => by
    obtain ⟨h1, h2⟩ := List.nodup_cons.1 hn
    rw [List.filter_cons_of_neg (by simp; exact fun hx => h1 (h.subset hx))]
    exact filter_sub h h2
  | x :: T, _ :: S, .cons_cons _ h, hn => by
    obtain ⟨h1, h2⟩ := List.nodup_cons.1 hn
    rw [List.filter_cons_of_pos (by simp)]
    congr 1
    refine Eq.trans (List.filter_congr fun y hy => ?_) (filter_sub h h2)
    have : y ≠ x := fun e => h1 (e ▸ hy)
    simp [this]
set_option maxRecDepth 100000 in
theorem delete_any (S T : List Nat) (hS : ∀ x, x ∈ S → x < 100001) (lp mb nb base : Nat) (v : Value) (W : World) (hv : W.ownsRow base 3 1 v S.length (S.map vN)) (hvn : v ≠ .slice none 0 0) (hlen : S.length ≤ 100000)
    (hc : W.cell? ⟨lp, 0, none⟩ = some (.map (some mb))) (hbs : BS W mb nb T) (hlp : lp < base) (hmb : mb < base) :
    Calls Try.prog 48 #[v, .func (.func 50) #[] #[.pointer (some ⟨lp, 0, none⟩)]] W fun e w' => ∃ g c, e = .returned (.slice (some ⟨g, 0, none⟩) (S.filter fun x => decide (x ∈ T)).length c) ∧ base ≤ g ∧ g < w'.heap.size ∧ RdN w' g (S.filter fun x => decide (x ∈ T)) ∧ (∀ B w0, Below B w0 W → B ≤ base → Below B w0 w') ∧ (∀ b, b < base → w'.heap[b]? = W.heap[b]?) ∧ W.heap.size = w'.heap.size := by
  have hv' : W.ownsRow base 3 1 v S.length ((S.map fN).map eF) := by rw [map_fN hS]; exact hv
  obtain ⟨g, cap, rfl, hbg, hgl, hn, hm, hl, hH⟩ := Go.Lib.holds_of_ownsRow (enc := eF) hv' hvn
  have hds : (S.map fN).toArray.size = S.length := by simp
  have hsw : ∀ (n : Nat) (os : Array Obj) (dk : Array (Fin 100001)) (b : Nat), b < base → (sortWorld eF W g 0 n dk os).heap[b]? = W.heap[b]? := fun n os dk b hb => by
    unfold sortWorld
    rw [Go.Sort.heap_grow_old _ _ (by rw [Go.Sort.size_putRow]; show b < W.heap.size; omega)]
    simp [Go.Sort.putRow, Go.Sort.mapBlock, Go.Sort.ahead, Array.getElem?_modify, show g ≠ b by omega]
  have h := Go.Proofs.AnyE.slices_DeleteFunc Try.laysDf eF (fun _ => rfl) (fun x => !decide (x.val ∈ T)) 50 #[.pointer (some ⟨lp, 0, none⟩)] (enters_of Try.func50 (by kernel_rfl) rfl) 0 (fun w => Try.zeroValue3 w) g 0 cap (S.map fN).toArray W
    (fun W' x hb => peel1_any x.val (by omega) lp mb nb T W' ((hb.cell (p := ⟨lp, 0, none⟩) (by show lp < W.heap.size; omega)).trans hc) (hbs.below hb (by omega)))
    (fun n os dk x _ => peel1_any x.val (by omega) lp mb nb T _ ((World.cell?_of_block (hsw n os dk lp hlp)).trans hc) (hbs.of_block (hsw n os dk mb hmb)))
    hH (by rw [hds]; omega) (by rw [hds]; omega)
  rw [hds] at h
  refine Calls.mono (show Calls Try.prog 48 _ _ _ from h) ?_
  rintro e w' ⟨rfl, q, rfl⟩
  have hfl : ((S.map fN).filter fun x => !!decide (x.val ∈ T)).length ≤ S.length := by
    refine Nat.le_trans (List.length_filter_le _ _) ?_
    simp
  have hO := Go.Lib.ownsRow_putRow (q := q) (ys := ((S.map fN).filter fun x => !!decide (x.val ∈ T)) ++ List.replicate (S.length - ((S.map fN).filter fun x => !!decide (x.val ∈ T)).length) 0) hv' (by rw [List.length_append, List.length_replicate]; omega) hfl
  rw [List.take_left, filter_fN hS, map_fN (fun x hx => hS x (List.mem_filter.1 hx).1), List.length_map] at hO
  simp only [List.toList_toArray, filter_fN hS, List.length_map] at hO ⊢
  refine ⟨g, cap, rfl, hbg, ?_, fun j hj => ?_, fun B w0 hB hBb => Go.Lib.below_putRow hB (by omega), fun b hb => ?_, ?_⟩
  · rw [Go.Sort.size_putRow]; exact hgl
  · have := World.ownsRow.cellAt hO j (by omega)
    rw [this]
    simp [List.getD_eq_getElem?_getD, hj, vN]
  · simp [Go.Sort.putRow, Go.Sort.mapBlock, Go.Sort.ahead, Array.getElem?_modify, show g ≠ b by omega]
  · rw [Go.Sort.size_putRow]; rfl
set_option maxRecDepth 100000 in
theorem delete_nil (lb : Array Value) (W : World) : Calls Try.prog 48 #[.slice none 0 0, .func (.func 50) #[] lb] W fun e w' => e = .returned (.slice none 0 0) ∧ W = w' := by
  have hI : ∀ w, Calls Try.prog 71 #[.slice none 0 0, .func (.func 50) #[] lb] w fun e w' => e = .returned (.int .i64 (-1)) ∧ w = w' := fun w => by
    go_enter Try.func71, Try.ntmps71
    go_wp2
    go_loopw [8] (fun i wr => i = .int .i64 0 ∧ wr = w) (fun i _ => (intOf i).toNat)
    case atStart => exact ⟨rfl, rfl⟩
    case round =>
      obtain ⟨rfl, rfl⟩ := hrel
      go_wp2
      go_ret
      exact ⟨rfl, rfl⟩
  have HI := Lib.hid hI
  clear hI
  go_enter Try.func48, Try.ntmps48
  go_wp2_with (go_at_call 71; refine (HI.out _).mono ?_; rintro e w2 ⟨rfl, rfl⟩)
  go_ret
  exact ⟨rfl, rfl⟩
end Go.Proofs.Ytknfkhackmnnaaa
