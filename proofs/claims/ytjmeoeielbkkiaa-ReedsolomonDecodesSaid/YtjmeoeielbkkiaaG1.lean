import Derived.Deep.WholeRow
import Derived.Test.YtjmeoeielbkkiaaG
set_option maxRecDepth 100000
set_option linter.unusedVariables false
set_option linter.unusedSimpArgs false
namespace Go.Proofs.Ytjmeoeielbkkiaa
open Go.RowKit Go.Deep
def Z255 : Array Value := ((List.replicate 255 (0 : UInt8)).map B ++ []).toArray
theorem info255 : (Try.prog.info? 93).map (fun i => (i.zero, i.size)) = some (some (.agg Z255), 255) := by kernel_rfl
def alList (k : Nat) : List UInt8 := (List.range k).map Gf.al
theorem alList_length (k : Nat) : (alList k).length = k := by simp [alList]
def pwL (k : Nat) : List UInt8 := alList k ++ List.replicate (255 - k) 0
theorem pwL_length {k : Nat} (h : k ≤ 255) : (pwL k).length = 255 := by simp [pwL, alList_length]; omega
theorem pwL_set {k : Nat} (h : k < 255) : (pwL k).set k (Gf.al k) = pwL (k + 1) := by
  unfold pwL
  rw [List.set_append_right _ _ (by rw [alList_length]; omega), alList_length, Nat.sub_self]
  have : List.replicate (255 - k) (0 : UInt8) = 0 :: List.replicate (255 - (k + 1)) 0 := by
    rw [show 255 - k = (255 - (k + 1)) + 1 from by omega, List.replicate_succ]
  rw [this, List.set_cons_zero, show alList (k + 1) = alList k ++ [Gf.al k] from by simp [alList, List.range_succ]]
  simp
def PW : Array Value := ((alList 255).map B ++ []).toArray
theorem PW_size : PW.size = 255 := by simp [PW, alList_length]
/-- the array of powers is handed back -/
def RetPW (w : World) (e : Ending) (w' : World) : Prop := e = .returned (.agg PW) ∧ Below w.heap.size w w'
theorem pwL_zero : Z255 = ((pwL 0).map B ++ []).toArray := by unfold Z255 pwL alList; rw [List.range_zero, List.map_nil, List.nil_append]
theorem pwL_full : pwL 255 = alList 255 := by unfold pwL; rw [Nat.sub_self, List.replicate_zero, List.append_nil]
theorem PW_one : PW.all (·.oneCell') = true := by
  unfold PW
  rw [List.append_nil]
  simp
  exact fun _ _ => rfl
/-- a block of just an array's cells -/
def Arr (t : TypeId) (w : World) (b : Nat) (l : List UInt8) : Prop := w.heap[b]? = some (.cells (l.map B ++ []).toArray t (0, 0))
theorem Arr.row {t : TypeId} {w : World} {b : Nat} {l : List UInt8} (h : Arr t w b l) : Row t w b l := Row.of_heap h
theorem Arr.set {t : TypeId} {w : World} {b : Nat} {l : List UInt8} (h : Arr t w b l) {j : Nat} (c : UInt8) : Arr t (w.setCell ⟨b, j, none⟩ (B c)) b (l.set j c) := by
  unfold Arr at *
  simp [World.setCell, Array.getElem?_modify, h, List.map_set]
theorem heap_below_row {w w' : World} {n b : Nat} {o : Obj} (h : w.heap[b]? = some o) (hb : Below n w w') (hn : b < n) : w'.heap[b]? = some o := by rw [hb.block b hn, h]
set_option maxRecDepth 100000 in
theorem powers_any (w : World) : Calls Try.prog 78 #[] w fun e w' => RetPW w e w' := by
  have hz := (zero_of_info info255).1
  go_enter Try.func78, Try.ntmps78
  go_wp2
  go_loopw [2, 4] (fun a i wr => ∃ k : Nat, k ≤ 255 ∧ i = .int .i64 k ∧ a = B (Gf.al k) ∧ Arr 93 wr (w.heap.size + 1) (pwL k) ∧ Hid (wr.heap[w.heap.size]? = some (.cells Z255 93 (0, 0))) ∧ Below w.heap.size w wr) (fun _ i _ => 255 - (intOf i).toNat)
  case atStart =>
    exact ⟨0, by omega, rfl, rfl, by unfold Arr; rw [← pwL_zero]; exact heap_alloc2_new _ _ _, heap_alloc2_old _ _ _, ((Below.refl _ _).alloc (Nat.le_refl _) _).alloc (by simp) _⟩
  case round =>
    obtain ⟨k, hk, rfl, rfl, hrow, hz0, hB⟩ := hrel
    by_cases hlt : k < 255
    · have hl : k < (pwL k).length := by rw [pwL_length hk]; exact hlt
      have hc := hrow.row.cell hl
      have hf := hrow.row.free hl
      go_wp2_with (go_at_call 60; refine (double_any _ _).mono ?_; rintro e w' ⟨rfl, rfl⟩)
      go_roundw
      case rel => exact ⟨k + 1, by omega, by go_num, rfl, by rw [← pwL_set hlt]; exact hrow.set _, (Below.heap_setCell _ _ _ _ (by simp)).trans hz0.out, hB.setCell (by simp) _⟩
      case measure => simp [intOf]; omega
    · obtain rfl : k = 255 := by omega
      clear hz
      go_wp2_with (first | (refine wpList_load_row rfl 93 _ rfl (w.heap.size + 1) rfl 93 _ (0, 0) _ hrow Try.underlying93 rfl ?_ ?_; (rw [pwL_full]; exact (zero_of_info info255).2)) | (refine wpList_store_row rfl 93 _ _ rfl w.heap.size rfl 93 _ _ rfl hz0.out ?_ ?_ ?_ ?_))
      · exact (zero_of_info info255).2.trans (by rw [pwL_full]; exact congrArg some PW_size.symm)
      · rw [pwL_full]; exact (show Z255.size = 255 from by simp [Z255]).trans PW_size.symm
      · rw [pwL_full]; exact PW_one
      · rw [pwL_full]
        refine bodyPost_ret (results_cell_row rfl _ _ w.heap.size 93 PW (0, 0) _ rfl (setRow_heap _ _ _ _ _ _ hz0.out) Try.underlying93 rfl ((zero_of_info info255).2.trans (congrArg some PW_size.symm))) rfl ⟨rfl, ?_⟩
        exact hB.trans ⟨rfl, rfl, rfl, by rw [size_setRow]; exact Nat.le_refl _, fun k hk => setRow_other _ _ _ _ (by omega)⟩
end Go.Proofs.Ytjmeoeielbkkiaa
