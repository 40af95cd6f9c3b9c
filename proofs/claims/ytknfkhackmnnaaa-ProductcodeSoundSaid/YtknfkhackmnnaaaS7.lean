import Derived.RangeFuncNested
import Derived.RangeFuncBound
import Derived.RangeFuncCalls
import Derived.RangeFuncLeaves
import Derived.RangeFuncBox
import Derived.Shelf.Abstract
import Derived.Shelf.RegionOpen
import Derived.OwnWalkIn
import Derived.TacticsInMore
import Derived.LoopNIn
import Derived.LoopIn
import Derived.Test.YtknfkhackmnnaaaS6
set_option maxRecDepth 100000
set_option linter.unusedVariables false
set_option linter.unusedSimpArgs false
namespace Go.Proofs.Ytknfkhackmnnaaa
open Go.RowKit Go.Deep Go.Shelf
attribute [local go_sem] Oper.semAt_some
/-- what comes out of a polynomial from its end on -/
def bwd (l : List UInt8) (k : Nat) : List (Nat × UInt8) := (List.range k).map fun j => (l.length - 1 - j, Gf.co l (l.length - 1 - j))
theorem bwd_succ (l : List UInt8) (k : Nat) : bwd l (k + 1) = bwd l k ++ [(l.length - 1 - k, Gf.co l (l.length - 1 - k))] := by simp [bwd, List.range_succ]
theorem bwd_length (l : List UInt8) (k : Nat) : (bwd l k).length = k := by simp [bwd]
/-- what a round must keep: old memory, and the box of the slice -/
def KB (n₀ Bs : Nat) (W W' : World) : Prop := Below n₀ W W' ∧ ∀ v, W.cell? ⟨Bs, 0, none⟩ = some v → W'.cell? ⟨Bs, 0, none⟩ = some v
theorem KB.t {n₀ Bs : Nat} {A B C : World} (h : KB n₀ Bs A B) (k : KB n₀ Bs B C) : KB n₀ Bs A C := ⟨h.1.trans k.1, fun v hv => k.2 v (h.2 v hv)⟩
theorem KB.refl (n₀ Bs : Nat) (W : World) : KB n₀ Bs W W := ⟨Below.refl _ _, fun _ h => h⟩
theorem KB.put {n₀ Bs : Nat} {w : World} (hn : n₀ ≤ w.heap.size) (W : World) (l : Nat) (o o' : Obj) (hl : w.heap.size ≤ l) (ho : W.heap[l]? = some o) (hc : o.isCells = false) (hk : o.isWalk = false) : KB n₀ Bs W (W.putObj l o') := by
  refine ⟨belowK_b hn W l o o' hl ho hc hk, fun v hv => ?_⟩
  by_cases e : Bs = l
  · subst e
    simp only [World.cell?, ho] at hv
    cases o <;> simp [Obj.isCells] at hc hv
  · rw [← hv]
    refine World.cell?_of_block ?_
    show (W.heap.setIfInBounds l o')[Bs]? = _
    rw [Array.getElem?_setIfInBounds_ne (fun e' => e e'.symm)]
set_option maxRecDepth 100000 in
set_option maxHeartbeats 2000000 in
theorem bwd1_in (F : Fence) (n : Nat) (hF : F.fn 119) (hro : F.round = none) (hn : 1 ≤ n) (l Bs n₀ b off cap : Nat) (p : List UInt8) (hpl : p.length ≤ 1000) (hb : b < n₀) (J Jx : List (Nat × UInt8) → World → Prop)
    (hY : ∀ pre x W, J pre W → pre.length < p.length → YieldAt F (n - 1) Try.prog l #[.int .i64 (x.1 : Int), B x.2] W fun e W' =>
      (e = .returned (.bool true) ∧ J (pre ++ [x]) W' ∧ KB n₀ Bs W W') ∨ (e = .returned (.bool false) ∧ Jx (pre ++ [x]) W'))
    (W : World) (hBs : W.cell? ⟨Bs, 0, none⟩ = some (.slice (some ⟨b, off, none⟩) p.length cap)) (hc : Rd W b off p) (h0 : J [] W) :
    CallsIn F n Try.prog 119 #[.func (.yield l) #[] #[], .pointer (some ⟨Bs, 0, none⟩)] W fun e W' => (∃ v, e = .returned v) ∧
      ((∃ ys, ys = bwd p p.length ∧ J ys W') ∨ (∃ pre, (∃ k, k ≤ p.length ∧ pre = bwd p k) ∧ Jx pre W')) := by
  refine callsIn_of_wp Try.func119 rfl hF ?_ hro
  simp only [Try.ntmps119, List.size_toArray, List.length_cons, List.length_nil, Nat.reduceAdd, Nat.reduceSub, Array.replicate_succ, Array.replicate_zero, List.push_toArray, List.append_toArray, List.nil_append, List.cons_append]
  gi_wp2
  gi_loopw [3] (fun i wr => ∃ k : Nat, k ≤ p.length ∧ i = .int .i64 (((p.length - k : Nat) : Int) - 1) ∧ J (bwd p k) wr ∧ KB n₀ Bs W wr)
    (fun i _ => (intOf i + 1).toNat)
  case atStart => exact ⟨0, Nat.zero_le _, rfl, h0, KB.refl _ _ _⟩
  case round =>
    obtain ⟨k, hk, rfl, hJs, hnx⟩ := hrel
    have hBs2 : wr.cell? ⟨Bs, 0, none⟩ = some (.slice (some ⟨b, off, none⟩) p.length cap) := hnx.2 _ hBs
    by_cases hlt : k < p.length
    · obtain ⟨i, hi⟩ : ∃ i, i = p.length - 1 - k := ⟨_, rfl⟩
      have hil : i < p.length := by omega
      rw [show (((p.length - k : Nat) : Int) - 1) = (i : Int) from by omega]
      have hcx : wr.cell? ⟨b, off + i, none⟩ = some (B (Gf.co p i)) := (hnx.1.cell (p := ⟨b, off + i, none⟩) hb).trans (hc i hil)
      have hsn := bwd_succ p k
      rw [← hi] at hsn
      obtain ⟨fn, tmps, assign, body, hy, hR⟩ := hY _ (i, Gf.co p i) wr hJs (by rw [bwd_length]; exact hlt)
      rw [← hsn] at hR
      dsimp only at hy
      have HI := Lib.hid hi
      clear hi hsn
      gi_wp2
      refine hR.mono ?_
      rintro e W3 (⟨rfl, hJ3, hk3⟩ | ⟨rfl, hJx3⟩)
      · gi_wp2
        go_roundw
        case rel => exact ⟨k + 1, by omega, by have := HI.out; congr 1; omega, hJ3, hnx.t hk3⟩
        case measure => simp [intOf]
      · gi_wp2
        refine bodyPost_ret (results_none rfl _ _ _) rfl ?_
        exact ⟨⟨_, rfl⟩, .inr ⟨_, ⟨k + 1, by omega, rfl⟩, hJx3⟩⟩
    · obtain rfl : k = p.length := by omega
      rw [show (((p.length - p.length : Nat) : Int) - 1) = -1 from by omega]
      gi_wp2
      go_end0
      exact ⟨⟨_, rfl⟩, .inl ⟨_, rfl, hJs⟩⟩
set_option maxRecDepth 100000 in
theorem backward_any (a : Option Addr) (len cap : Nat) (w : World) : Calls Try.prog 118 #[.slice a len cap] w fun e w' => e = .returned (.func (.func 119) #[] #[.pointer (some ⟨w.heap.size, 0, none⟩)]) ∧ w.alloc (.cells #[.slice a len cap] 112) = w' := by
  go_enter Try.func118, Try.ntmps118
  go_wp2
  go_ret
  exact ⟨rfl, rfl⟩
theorem bwd_stops (F : Fence) (n : Nat) (hF : F.fn 119) (hro : F.round = none) (hn : 1 ≤ n) (Bs n₀ b off cap : Nat) (p : List UInt8) (hpl : p.length ≤ 1000) (w : World) (hBn : Bs < w.heap.size) (hn₀ : n₀ ≤ w.heap.size) (hb : b < n₀)
    (hBs : w.cell? ⟨Bs, 0, none⟩ = some (.slice (some ⟨b, off, none⟩) p.length cap)) (hc : Rd w b off p) :
    SeqStopsK F n Try.prog 119 #[.pointer (some ⟨Bs, 0, none⟩)] (fun x : Nat × UInt8 => #[Value.int .i64 (x.1 : Int), B x.2]) (KB n₀ Bs) (fun ys => ys = bwd p p.length)
      (fun pre => ∃ k, k ≤ p.length ∧ pre = bwd p k) p.length w := fun l J Jx W hW _ _ hY h0 =>
  bwd1_in F n hF hro hn l Bs n₀ b off cap p hpl hb J Jx hY W ((hW.cell (p := ⟨Bs, 0, none⟩) hBn).trans hBs) (hc.below hW (by omega)) h0
/-- Horner's rule over what comes -/
def hv (x : UInt8) (pre : List (Nat × UInt8)) : UInt8 := pre.foldl (fun s y => Gf.mul s x ^^^ y.2) 0
theorem hv_snoc (x : UInt8) (pre : List (Nat × UInt8)) (y : Nat × UInt8) : hv x (pre ++ [y]) = Gf.mul (hv x pre) x ^^^ y.2 := by simp [hv]
theorem evl_drop (p : List UInt8) (x : UInt8) (i : Nat) (h : i < p.length) : Gf.evl (p.drop i) x = Gf.mul (Gf.evl (p.drop (i + 1)) x) x ^^^ Gf.co p i := by
  rw [List.drop_eq_getElem_cons h, Gf.co_lt h]
  rfl
theorem hv_bwd (p : List UInt8) (x : UInt8) (k : Nat) (hk : k ≤ p.length) : hv x (bwd p k) = Gf.evl (p.drop (p.length - k)) x := by
  induction k with
  | zero => rw [Nat.sub_zero, List.drop_length]; rfl
  | succ k ih =>
    rw [bwd_succ, hv_snoc, ih (by omega), evl_drop p x (p.length - (k + 1)) (by omega), show p.length - (k + 1) + 1 = p.length - k from by omega, show p.length - 1 - k = p.length - (k + 1) from by omega]
set_option maxRecDepth 100000 in
set_option maxHeartbeats 2000000 in
theorem at_any (p : List UInt8) (x : UInt8) (hpl : p.length ≤ 1000) (b off cap : Nat) (w : World) (h1 : Rd w b off p) (hb : b < w.heap.size) :
    Calls Try.prog 112 #[.slice (some ⟨b, off, none⟩) p.length cap, B x] w fun e w' => Ret1 w (B (Gf.evl p x)) e w' := by
  refine (callsIn_wide (n := 6)).1 ?_
  refine callsIn_of_wp_marks Try.func112 rfl trivial ?_ rfl
  simp only [Try.ntmps112, List.size_toArray, List.length_cons, List.length_nil, Nat.reduceAdd, Nat.reduceSub, Array.replicate_succ, Array.replicate_zero, List.push_toArray, List.append_toArray, List.nil_append, List.cons_append]
  gi_wp2_with (refine ⟨trivial, ?_⟩; gi_at_call 118; refine (callsIn_wide.2 (backward_any _ _ _ _)).mono ?_; rintro e w' ⟨rfl, rfl⟩)
  have bX := Boxed.new w 5 (B x)
  have bS := Boxed.new (w.alloc (.cells #[B x] 5)) 5 (B 0)
  have bN := Boxed.new ((w.alloc (.cells #[B x] 5)).alloc (.cells #[B 0] 5)) 112 (.slice (some ⟨b, off, none⟩) p.length cap)
  simp only [World.size_alloc] at bS bN
  have hB0 : Below w.heap.size w (((w.alloc (.cells #[B x] 5)).alloc (.cells #[B 0] 5)).alloc (.cells #[.slice (some ⟨b, off, none⟩) p.length cap] 112)) := (((Below.refl _ w).alloc (Nat.le_refl _) _).alloc (by simp) _).alloc (by simp; omega) _
  refine wpIn_rangeFunc_ownG rfl (by omega) (gf := 119) (lb := #[.pointer (some ⟨w.heap.size + 1 + 1, 0, none⟩)]) rfl trivial (enters_of Try.func119 (by kernel_rfl) rfl)
    (bwd_stops Fence.wide _ trivial rfl (by omega) (w.heap.size + 1 + 1) w.heap.size b off cap p hpl _ (by simp) (by simp; omega) hb bN.cell (h1.below hB0 hb)) KB.t (KB.put (by simp; omega)) (Below.refl _ _) (fun _ => rfl)
    (fun pre W => ((W.cell? ⟨w.heap.size + 1, 0, none⟩ = some (B (hv x pre)) ∧ W.frozen? ⟨w.heap.size + 1, 0, none⟩ = false) ∧ W.cell? ⟨w.heap.size, 0, none⟩ = some (B x)) ∧ Below w.heap.size w W)
    (fun _ _ _ => False)
    (OwnFrom.and (Own.from (fun s A C row hs hg hr => ⟨⟨cell_kept hs.1.1 hg hr, (frozen_kept hs.1.1 hg hr).trans hs.1.2⟩, cell_kept hs.2 hg hr⟩) _) (ownFrom_below (Nat.le_refl _) (by simp; omega)))
    (fun _ _ _ _ _ hs _ _ => hs)
    ⟨⟨⟨(bS.alloc _).cell, (bS.alloc _).frozen⟩, ((bX.alloc _).alloc _).cell⟩, hB0⟩
    (fun y => { tmps := #[.slice (some ⟨b, off, none⟩) p.length cap, B x, undef, .pointer (some ⟨w.heap.size, 0, none⟩), .int .u8 0, .pointer (some ⟨w.heap.size + 1, 0, none⟩), undef, B y.2, .slice (some ⟨b, off, none⟩) p.length cap, .func (.func 119) #[] #[.pointer (some ⟨w.heap.size + 1 + 1, 0, none⟩)], .int .i64 (y.1 : Int), B y.2, undef, undef, undef, undef, undef, undef], defers := [] }) ?assign ?body ?done ?stop
  case assign =>
    intro l y W K hK
    gi_wp2
    exact hK
  case body =>
    rintro l pre y W ⟨⟨⟨hc, hf⟩, hcx⟩, hB⟩ _
    gi_wp2_with (refine ⟨trivial, ?_⟩; gi_at_call 82; refine (CallsIn.inRound l (callsIn_wide.2 (mul_any _ _ _))).mono ?_; rintro e w' ⟨rfl, rfl⟩)
    rw [b_xor, ← hv_snoc]
    refine ⟨(KeepsOthers.setCell _ _ _).from _, ⟨(Below.refl _ _).setCell (p := ⟨w.heap.size + 1, 0, none⟩) (by simp) _, fun v h => ?_⟩, ⟨⟨World.cell?_setCell_same' _ _ _ (by rw [hc]; rfl), by rw [World.frozen?_setCell]; exact hf⟩, ?_⟩, hB.setCell (p := ⟨w.heap.size + 1, 0, none⟩) (by simp) _⟩
    · rw [← h]; exact World.cell?_of_block (Below.heap_setCell _ _ _ _ (by simp))
    · rw [← hcx]; exact World.cell?_of_block (Below.heap_setCell _ _ _ _ (by simp))
  case done =>
    rintro D ys W hD rfl ⟨⟨⟨hc, hf⟩, hcx⟩, hB⟩ hK
    gi_wp2
    refine ⟨by simp, .inl ⟨_, _, rfl, run_takeDeferred hK, ?_⟩⟩
    refine ⟨_, results_tmp rfl _ _ _, ?_, hB.trans (belowK_b (w := w) (Nat.le_refl _) W D _ _ (by simp at hD; omega) hK rfl rfl)⟩
    rw [hv_bwd p x p.length (Nat.le_refl _), Nat.sub_self, List.drop_zero]
    rfl
  case stop =>
    rintro D c pre W _ _ h _
    exact h.elim
end Go.Proofs.Ytknfkhackmnnaaa
