import Derived.Test.YtknfkhackmnnaaaBs
import Derived.Test.YtknfkhackmnnaaaW6
import Derived.Test.YtknfkhackmnnaaaSd
import Derived.Test.YtknfkhackmnnaaaW3
set_option maxRecDepth 100000
set_option linter.unusedVariables false
set_option linter.unusedSimpArgs false
namespace Go.Proofs.Ytknfkhackmnnaaa
open Go Go.RowKit Go.Deep
/-! the erased offsets: a word's positions among them, a word's release -/
def relK (S os : List Nat) (k : Nat) : List Nat := S.filter fun y => decide (¬ y ∈ os.take k)
def posK (S os : List Nat) (k : Nat) : List Nat := (List.range k).filter fun i => decide (os.getD i 0 ∈ S)
theorem relK_zero (S os : List Nat) : relK S os 0 = S := by simp [relK]
theorem relK_succ (S os : List Nat) {k : Nat} (hk : k < os.length) : (relK S os k).filter (fun y => decide (y ≠ os.getD k 0)) = relK S os (k + 1) := by
  unfold relK
  rw [List.filter_filter]
  refine List.filter_congr fun y _ => ?_
  have hg : os.getD k 0 = os[k] := by simp [hk]
  rw [List.take_succ_eq_append_getElem hk, hg, Bool.eq_iff_iff]
  simp only [Bool.and_eq_true, decide_eq_true_eq, List.mem_append, List.mem_singleton, not_or]
  exact And.comm
theorem posK_succ_yes {S os : List Nat} {k : Nat} (h : os.getD k 0 ∈ S) : posK S os (k + 1) = posK S os k ++ [k] := by
  unfold posK
  rw [List.range_succ, List.filter_append, List.filter_cons_of_pos (by simpa using h)]
  rfl
theorem posK_succ_no {S os : List Nat} {k : Nat} (h : ¬ os.getD k 0 ∈ S) : posK S os (k + 1) = posK S os k := by
  unfold posK
  rw [List.range_succ, List.filter_append, List.filter_cons_of_neg (by simpa using h)]
  simp
theorem posK_length_le (S os : List Nat) (k : Nat) : (posK S os k).length ≤ k := by
  unfold posK
  exact Nat.le_trans (List.length_filter_le _ _) (by simp)
set_option maxRecDepth 100000 in
set_option maxHeartbeats 2000000 in
theorem release_any (os : List Nat) (S : List Nat) (nb : Nat) (hos : ∀ j, j < os.length → os.getD j 0 ≤ 100000) (hn : os.length ≤ 1000) (g c b : Nat) (w : World) (hg : RdN w g os) (hgw : g < w.heap.size) (hb : BS w b nb S) (hgb : g ≠ b) :
    Calls Try.prog 47 #[.slice (some ⟨g, 0, none⟩) os.length c, .map (some b)] w fun e w' => (∃ v, e = .returned v) ∧ BS w' b nb (relK S os os.length) ∧ w.grownBy w' (some b) := by
  obtain ⟨n, hnn⟩ : ∃ n, n = os.length := ⟨_, rfl⟩
  rw [← hnn] at hn ⊢
  have HN := Lib.hid hnn
  have hg' : ∀ j, j < n → w.cell? ⟨g, j, none⟩ = some (.int .i64 ((os.getD j 0 : Nat) : Int)) := fun j hj => hg j (by rw [← hnn]; exact hj)
  clear hnn hg
  go_enter Try.func47, Try.ntmps47
  go_wp2
  go_loopw [8] (fun i wr => ∃ k : Nat, k ≤ n ∧ i = .int .i64 k ∧ BS wr b nb (relK S os k) ∧ w.grownBy wr (some b)) (fun i _ => n - (intOf i).toNat)
  case atStart => exact ⟨0, by omega, rfl, by rw [relK_zero]; exact hb, World.grownBy.refl _ _⟩
  case round =>
    obtain ⟨k, hk, rfl, hO, hG⟩ := hrel
    by_cases hlt : k < n
    · have hlen : k < os.length := by rw [← HN.out]; exact hlt
      have hck : wr.cell? ⟨g, k, none⟩ = some (.int .i64 ((os.getD k 0 : Nat) : Int)) := (World.cell?_of_block (hG.block g hgw (fun e => hgb (by cases e; rfl)))).trans (hg' k hlt)
      have HX := Lib.hid (hos k hlen)
      have HR := Lib.hid (relK_succ S os hlen)
      revert hck HX HR
      generalize os.getD k 0 = x
      intro hck HX HR
      have HO := Lib.hid hO
      have HG := Lib.hid hG
      clear hO hG
      go_wp2_with (at_delete; refine wpList_bs_drop rfl _ _ rfl b nb _ rfl HO.out x rfl HX.out ?_; intro w2 hO2 hG2)
      rw [HR.out] at hO2
      have hG3 := HG.out.trans hG2
      clear hG2
      go_roundw
      case rel => exact ⟨k + 1, by omega, by go_num, hO2, hG3⟩
      case measure => simp [intOf]; omega
    · have hkp : k = n := by omega
      subst hkp
      go_wp2
      go_end0
      exact ⟨⟨_, rfl⟩, hO, hG⟩
def RetPos (w : World) (ps : List Nat) (e : Ending) (w' : World) : Prop :=
  ∃ A c, e = .returned (.slice A ps.length c) ∧ RdI w' A (ps.map fun p : Nat => (p : Int)) ∧ Below w.heap.size w w'
set_option maxRecDepth 100000 in
set_option maxHeartbeats 2000000 in
theorem positionsP_any (os : List Nat) (S : List Nat) (nb : Nat) (hos : ∀ j, j < os.length → os.getD j 0 ≤ 100000) (hn : os.length ≤ 1000) (g c b : Nat) (w : World) (hg : RdN w g os) (hgw : g < w.heap.size) (hb : BS w b nb S) :
    Calls Try.prog 46 #[.slice (some ⟨g, 0, none⟩) os.length c, .map (some b)] w fun e w' => RetPos w (posK S os os.length) e w' := by
  obtain ⟨n, hnn⟩ : ∃ n, n = os.length := ⟨_, rfl⟩
  rw [← hnn] at hn ⊢
  have HN := Lib.hid hnn
  have hg' : ∀ j, j < n → w.cell? ⟨g, j, none⟩ = some (.int .i64 ((os.getD j 0 : Nat) : Int)) := fun j hj => hg j (by rw [← hnn]; exact hj)
  clear hnn hg
  go_enter Try.func46, Try.ntmps46
  go_wp2
  go_loopw [5, 10] (fun v i wr => ∃ k : Nat, k ≤ n ∧ i = .int .i64 k ∧ Ocv 3 wr w.heap.size v ((posK S os k).map vN) ∧ Below w.heap.size w wr) (fun _ i _ => n - (intOf i).toNat)
  case atStart => exact ⟨0, by omega, rfl, Ocv.nil _ _ _, Below.refl _ _⟩
  case round =>
    obtain ⟨k, hk, rfl, hO, hB⟩ := hrel
    by_cases hlt : k < n
    · have hlen : k < os.length := by rw [← HN.out]; exact hlt
      have hck := (hB.cell (p := ⟨g, k, none⟩) hgw).trans (hg' k hlt)
      have hbs := hb.below hB hb.lt
      have hlk := hbs.look (hos k hlen)
      have hpy := Lib.hid (fun h => posK_succ_yes (S := S) (os := os) (k := k) h)
      have hpn := Lib.hid (fun h => posK_succ_no (S := S) (os := os) (k := k) h)
      have hple := posK_length_le S os k
      revert hck hlk hpy hpn
      generalize os.getD k 0 = x
      intro hck hlk hpy hpn
      have hsz := hB.size
      have HO := Lib.hid hO
      have HB := Lib.hid hB
      by_cases hS : x ∈ S
      · rw [decide_eq_true hS] at hlk
        have hp := Lib.hid (hpy.out hS)
        clear hO hB hpy hpn hS hbs
        go_wp2_with (at_builtin; refine wpList_appv 24 3 (.int .i64 0) 8 Try.underlying24 infoIntP rfl (by omega) rfl _ _ rfl w.heap.size (posK S os k).length _ ((posK S os k).map vN) rfl (HO.out.alloc _) (by rw [List.length_map]) _ _ 1 [Value.int .i64 (k : Int)] rfl rfl (by omega) (one_cell (cell_new _ _ _)) (one_mem rfl) (by omega) (by rw [World.size_alloc]; omega) ?_; intro g2 c3 w4 hO4 hK4 _ hg4)
        have hB4 := hK4 _ _ (HB.out.alloc hsz _) (Nat.le_refl _)
        have hO5 : Hid (Ocv 3 w4 w.heap.size (.slice (some ⟨g2, 0, none⟩) ((posK S os k).length + 1) c3) ((posK S os (k + 1)).map vN)) := by
          show Ocv _ _ _ _ _
          rw [hp.out, List.map_append]
          exact hO4
        clear hK4 hO4 HO HB
        go_wp2
        go_roundw
        case rel => exact ⟨k + 1, by omega, by go_num, hO5.out, hB4⟩
        case measure => simp [intOf]; omega
      · rw [decide_eq_false hS] at hlk
        have hp := Lib.hid (hpn.out hS)
        clear hO hB hpy hpn hS hbs
        go_wp2
        go_roundw
        case rel => exact ⟨k + 1, by omega, by go_num, by rw [hp.out]; exact HO.out, HB.out⟩
        case measure => simp [intOf]; omega
    · have hkp : k = n := by omega
      subst hkp
      obtain ⟨A, c, rfl, hr⟩ := RdI.of_ocv hO
      go_wp2
      go_ret
      exact ⟨A, c, rfl, hr, hB⟩
end Go.Proofs.Ytknfkhackmnnaaa
set_option maxRecDepth 100000
set_option linter.unusedVariables false
set_option linter.unusedSimpArgs false
namespace Go.Proofs.Ytknfkhackmnnaaa
open Go Go.RowKit Go.Deep
/-! the set of erased offsets -/
def stN (f : Nat) (er : List Int) (k : Nat) : Prop := posN 2352 er k ∧ ∀ j, j < k → (f : Int) ≤ ci er j
theorem stN_zero (f : Nat) (er : List Int) : stN f er 0 := ⟨fun j hj => by omega, fun j hj => by omega⟩
theorem stN_step {f : Nat} {er : List Int} {k : Nat} (h : stN f er k) (h0 : (f : Int) ≤ ci er k) (h1 : ci er k < 2352) (h2 : 0 < k → ci er (k - 1) < ci er k) : stN f er (k + 1) :=
  ⟨posN_step h.1 (by omega) (by omega) h2, fun j hj => by
    rcases Nat.lt_or_ge j k with h3 | h3
    · exact h.2 j h3
    · rw [show j = k by omega]; exact h0⟩
theorem posN_mono {n : Nat} {er : List Int} {k : Nat} (h : posN n er k) : ∀ i j, i < j → j < k → ci er i < ci er j := fun i j => by
  induction j with
  | zero => intro hi; omega
  | succ j ih =>
    intro hi hk
    have h1 := (h (j + 1) hk).2.2 (by omega)
    rw [Nat.add_sub_cancel] at h1
    rcases Nat.lt_or_ge i j with h2 | h2
    · have := ih h2 (by omega); omega
    · rw [show i = j by omega]; exact h1
theorem erN_take_succ {er : List Int} {k : Nat} (hk : k < er.length) : erN (er.take (k + 1)) = erN (er.take k) ++ [(ci er k).toNat] := by
  unfold erN ci
  rw [List.take_succ_eq_append_getElem hk, List.map_append]
  simp [hk]
theorem stN_new {f : Nat} {er : List Int} {k : Nat} (hk : k < er.length) (h : stN f er (k + 1)) : ¬ (ci er k).toNat ∈ erN (er.take k) := fun hm => by
  obtain ⟨y, hy, he⟩ := List.mem_map.1 hm
  obtain ⟨i, hi, rfl⟩ := List.getElem_of_mem hy
  rw [List.length_take] at hi
  have h1 := posN_mono h.1 i k (by omega) (by omega)
  have h2 := (h.1 i (by omega)).1
  have h3 : (er.take k)[i] = ci er i := by
    unfold ci
    rw [List.getElem_take]
    simp [List.getD_eq_getElem?_getD, show i < er.length by omega]
  rw [h3] at he
  omega
def RetSet (w : World) (f : Nat) (er : List Int) (e : Ending) (w' : World) : Prop :=
  Below w.heap.size w w' ∧ ((¬ stN f er er.length ∧ e = .returned (.tuple #[.map none, .bool false])) ∨
    (stN f er er.length ∧ ∃ b, e = .returned (.tuple #[.map (some b), .bool true]) ∧ w.heap.size ≤ b ∧ BS w' b er.length (erN er)))
theorem RetSet.no {w w' : World} {f : Nat} {er : List Int} (h : ¬ stN f er er.length) (hB : Below w.heap.size w w') : RetSet w f er (.returned (.tuple #[.map none, .bool false])) w' := ⟨hB, .inl ⟨h, rfl⟩⟩
theorem run_map0 : ∀ w : World, (Instr.makeMap 44 none).run Try.prog w = .ok (.map (some w.heap.size)) (w.alloc (.map #[] 0)) := fun w => by
  rfl
set_option maxRecDepth 100000 in
set_option maxHeartbeats 2000000 in
theorem set_any (f : Nat) (hf : f ≤ 1000) (er : List Int) (A : Option Addr) (c : Nat) (hl : er.length ≤ 100000) (w : World) (h : RdI w A er) :
    Calls Try.prog 44 #[.int .i64 (f : Int), .slice A er.length c] w fun e w' => RetSet w f er e w' := by
  have hmk := run_map0
  go_enter Try.func44, Try.ntmps44
  go_wp2
  clear hmk
  go_loopw [12] (fun i wr => ∃ k : Nat, k ≤ er.length ∧ i = .int .i64 k ∧ Hid (stN f er k) ∧ Hid (BS wr w.heap.size k (erN (er.take k))) ∧ Hid (Below w.heap.size w wr)) (fun i _ => er.length - (intOf i).toNat)
  case atStart => exact ⟨0, by omega, rfl, stN_zero f er, BS.made w, (Below.refl _ _).alloc (Nat.le_refl _) _⟩
  case round =>
    obtain ⟨k, hk, rfl, hP, hS, hB⟩ := hrel
    by_cases hlt : k < er.length
    · obtain ⟨ba, oa, rfl, hba, hr⟩ := h (by omega)
      have hcn : ∀ j, j < er.length → wr.cell? ⟨ba, oa + j, none⟩ = some (.int .i64 (ci er j)) := fun j hj => (hB.out.cell (p := ⟨ba, oa + j, none⟩) hba).trans (hr j hj)
      have hck := hcn k hlt
      have HCN := Lib.hid hcn
      have HER := Lib.hid (erN_take_succ hlt)
      have HNEW := Lib.hid (fun h => stN_new (f := f) hlt h)
      clear hcn hr
      have hk0 : (0 : Int) ≤ (k : Int) := by omega
      have hk1 : (k : Int) < (er.length : Int) := by omega
      by_cases h0 : ci er k < (f : Int)
      · have hnP : Hid (¬ stN f er er.length) := fun hh => by have := hh.2 k hlt; omega
        have hd : decide (ci er k < (f : Int)) = true := decide_eq_true h0
        go_wp2
        go_ret2
        exact RetSet.no hnP.out hB.out
      · have hd : decide (ci er k < (f : Int)) = false := decide_eq_false h0
        by_cases h1 : (2352 : Int) ≤ ci er k
        · have hnP : Hid (¬ stN f er er.length) := fun hh => by have := (hh.1 k hlt).2.1; omega
          have hd1 : decide ((2352 : Int) ≤ ci er k) = true := decide_eq_true h1
          go_wp2
          go_ret2
          exact RetSet.no hnP.out hB.out
        · have hd1 : decide ((2352 : Int) ≤ ci er k) = false := decide_eq_false h1
          obtain ⟨x, hx⟩ : ∃ x : Nat, x = (ci er k).toNat := ⟨_, rfl⟩
          have hxe : ci er k = (x : Int) := by omega
          have hxl : x < 2352 := by omega
          have hfx : f ≤ x := by omega
          have hxs : x ≤ 100000 := by omega
          have HX := Lib.hid hx
          have HXE := Lib.hid hxe
          rw [hxe] at hck
          have HH0 := Lib.hid h0
          have HH1 := Lib.hid h1
          clear hx hxe h0 h1 hd hd1
          rcases k with _ | j
          · have hn : Hid (stN f er (0 + 1)) := stN_step hP.out (by have := HH0.out; omega) (by have := HH1.out; omega) (fun h => absurd h (Nat.lt_irrefl 0))
            rw [Nat.add_zero] at hck
            have hnew := Lib.hid (HNEW.out hn.out)
            rw [← HX.out] at hnew
            clear HH0 HH1 HXE HNEW
            go_wp2_with (at_mapUpdate; refine wpList_bs_store rfl _ _ _ rfl w.heap.size 0 _ rfl hS.out (by omega) x rfl hxs rfl hnew.out ?_; intro w2 hO2 hG2)
            have hB2 := below_grownAt hB.out hG2 (Nat.le_refl _) hB.out.size
            have hO3 : Hid (BS w2 w.heap.size (0 + 1) (erN (er.take (0 + 1)))) := by
              show BS _ _ _ _
              rw [HER.out, ← HX.out]
              exact hO2
            clear hO2 hG2
            go_roundw
            case rel => exact ⟨0 + 1, by omega, by go_num, hn, hO3, hB2⟩
            case measure => simp [intOf]; omega
          · have hcj := HCN.out j (by omega)
            have hj0 : (0 : Int) ≤ (j : Int) := by omega
            have hj1 : (j : Int) < (er.length : Int) := by omega
            have hj2 : (((j + 1 : Nat) : Int) - 1) = (j : Int) := by omega
            by_cases h2 : (x : Int) ≤ ci er j
            · have hnP : Hid (¬ stN f er er.length) := fun hh => by have := (hh.1 (j + 1) hlt).2.2 (by omega); rw [Nat.add_sub_cancel, HXE.out] at this; omega
              have hd2 : decide ((x : Int) ≤ ci er j) = true := decide_eq_true h2
              clear HH0 HH1 HXE HNEW h2
              go_wp2
              go_ret2
              exact RetSet.no hnP.out hB.out
            · have hn : Hid (stN f er (j + 1 + 1)) := stN_step hP.out (by have := HH0.out; omega) (by have := HH1.out; omega) (fun _ => by rw [Nat.add_sub_cancel, HXE.out]; omega)
              have hd2 : decide ((x : Int) ≤ ci er j) = false := decide_eq_false h2
              have hnew := Lib.hid (HNEW.out hn.out)
              rw [← HX.out] at hnew
              clear HH0 HH1 HXE HNEW h2
              go_wp2_with (at_mapUpdate; refine wpList_bs_store rfl _ _ _ rfl w.heap.size (j + 1) _ rfl hS.out (by omega) x rfl hxs rfl hnew.out ?_; intro w2 hO2 hG2)
              have hB2 := below_grownAt hB.out hG2 (Nat.le_refl _) hB.out.size
              have hO3 : Hid (BS w2 w.heap.size (j + 1 + 1) (erN (er.take (j + 1 + 1)))) := by
                show BS _ _ _ _
                rw [HER.out, ← HX.out]
                exact hO2
              clear hO2 hG2
              go_roundw
              case rel => exact ⟨j + 1 + 1, by omega, by go_num, hn, hO3, hB2⟩
              case measure => simp [intOf]; omega
    · have hkp : k = er.length := by omega
      have HK := Lib.hid hkp
      clear hkp
      go_wp2
      go_ret2
      have hS2 := hS.out
      have hP2 := hP.out
      rw [HK.out] at hS2 hP2
      rw [List.take_length] at hS2
      exact ⟨hB.out, .inr ⟨hP2, _, rfl, Nat.le_refl _, hS2⟩⟩
end Go.Proofs.Ytknfkhackmnnaaa
set_option maxRecDepth 100000
set_option linter.unusedVariables false
set_option linter.unusedSimpArgs false
namespace Go.Proofs.Ytknfkhackmnnaaa
open Go Go.RowKit Go.Deep
/-! what does not take part is zero -/
def insB (s : List UInt8) (f : Nat) (os : List Nat) (i : Nat) : Bool := decide (f ≤ os.getD i 0) || decide (Gf.co s i = 0)
def insK (s : List UInt8) (f : Nat) (os : List Nat) (k : Nat) : Bool := (List.range k).all fun i => insB s f os i
theorem insK_succ (s : List UInt8) (f : Nat) (os : List Nat) (k : Nat) : insK s f os (k + 1) = (insK s f os k && insB s f os k) := by
  simp [insK, List.range_succ]
theorem insK_false {s : List UInt8} {f : Nat} {os : List Nat} {k n : Nat} (hk : k < n) (h : insB s f os k = false) : insK s f os n = false := by
  cases hq : insK s f os n with
  | false => rfl
  | true =>
    have := List.all_eq_true.1 hq k (List.mem_range.2 hk)
    rw [h] at this
    exact this.symm
set_option maxRecDepth 100000 in
set_option maxHeartbeats 1000000 in
theorem pass1_any (s : ByteArray) (f : Nat) (hf : f ≤ 1000) (os : List Nat) (hos : ∀ j, j < os.length → os.getD j 0 ≤ 100000) (hn : os.length ≤ 1000) (hs : os.length ≤ s.size) (bw bf bc g c k : Nat) (hk : k < os.length) (w : World) (h1 : w.cell? ⟨bw, 0, none⟩ = some (.slice (some ⟨g, 0, none⟩) os.length c)) (h2 : w.cell? ⟨bf, 0, none⟩ = some (.int .i64 (f : Int))) (h3 : w.cell? ⟨bc, 0, none⟩ = some (.string s)) (hg : RdN w g os) :
    Calls Try.prog 69 #[.int .i64 (k : Int), .pointer (some ⟨bw, 0, none⟩), .pointer (some ⟨bf, 0, none⟩), .pointer (some ⟨bc, 0, none⟩)] w fun e w' => e = .returned (.bool (insB (bl s) f os k)) ∧ ∃ m, w' = w.drewN m := by
  have hgk := hg k hk
  have hok := hos k hk
  have HI : Hid (insB (bl s) f os k = (decide (f ≤ os.getD k 0) || decide (Gf.co (bl s) k = 0))) := rfl
  obtain ⟨n, hnn⟩ : ∃ n, n = os.length := ⟨_, rfl⟩
  rw [← hnn] at hk hn h1 hs
  clear hnn hg hos
  revert hgk hok HI
  generalize os.getD k 0 = x
  intro hgk hok HI
  have hb2 : k < s.size := by omega
  have eb := byte_at s k hb2
  have hi0 : (0 : Int) ≤ (k : Int) := by omega
  have hi1 : (k : Int) < (s.size : Int) := by omega
  have hi2 : (k : Int) < (n : Int) := by omega
  have H1 : ∀ m, (w.drewN m).cell? ⟨bw, 0, none⟩ = some (.slice (some ⟨g, 0, none⟩) n c) := fun _ => h1
  have H2 : ∀ m, (w.drewN m).cell? ⟨bf, 0, none⟩ = some (.int .i64 (f : Int)) := fun _ => h2
  have H3 : ∀ m, (w.drewN m).cell? ⟨bc, 0, none⟩ = some (.string s) := fun _ => h3
  have HG : ∀ m, (w.drewN m).cell? ⟨g, k, none⟩ = some (.int .i64 (x : Int)) := fun _ => hgk
  clear h1 h2 h3 hgk
  by_cases hfx : f ≤ x
  · have hr : Hid (insB (bl s) f os k = true) := by show _ = _; rw [HI.out, decide_eq_true hfx]; rfl
    clear HI
    go_enter Try.func69, Try.ntmps69
    go_wp2
    go_quiet (fail)
    go_wp2
    go_ret
    exact ⟨by rw [hr.out]; rfl, _, rfl⟩
  · have hfx2 : x < f := by omega
    by_cases hz : Gf.co (bl s) k = 0
    · have hr : Hid (insB (bl s) f os k = true) := by show _ = _; rw [HI.out, decide_eq_true hz, Bool.or_true]
      rw [hz] at eb
      clear HI hz hfx
      go_enter Try.func69, Try.ntmps69
      go_wp2
      go_quiet (fail)
      go_wp2
      go_ret
      exact ⟨by rw [hr.out]; rfl, _, rfl⟩
    · have hr : Hid (insB (bl s) f os k = false) := by show _ = _; rw [HI.out, decide_eq_false hz, decide_eq_false hfx]; rfl
      have hz2 : (((Gf.co (bl s) k).toNat : Int) == 0) = false := by
        rw [beq_eq_false_iff_ne]
        exact fun h => hz (u8_inj (by rw [h]; rfl))
      clear HI hz hfx
      go_enter Try.func69, Try.ntmps69
      go_wp2
      go_quiet (fail)
      go_wp2
      go_ret
      exact ⟨by rw [hr.out, show decide (f ≤ x) = false from decide_eq_false (by omega)]; rfl, _, rfl⟩
set_option maxRecDepth 100000 in
set_option maxHeartbeats 1000000 in
theorem all_any (s : ByteArray) (f : Nat) (hf : f ≤ 1000) (os : List Nat) (hos : ∀ j, j < os.length → os.getD j 0 ≤ 100000) (hn : os.length ≤ 1000) (hs : os.length ≤ s.size) (bw bf bc g c : Nat) (w : World) (h1 : w.cell? ⟨bw, 0, none⟩ = some (.slice (some ⟨g, 0, none⟩) os.length c)) (h2 : w.cell? ⟨bf, 0, none⟩ = some (.int .i64 (f : Int))) (h3 : w.cell? ⟨bc, 0, none⟩ = some (.string s)) (hg : RdN w g os) :
    Calls Try.prog 70 #[.int .i64 (os.length : Int), .func (.func 69) #[] #[.pointer (some ⟨bw, 0, none⟩), .pointer (some ⟨bf, 0, none⟩), .pointer (some ⟨bc, 0, none⟩)]] w fun e w' => e = .returned (.bool (insK (bl s) f os os.length)) ∧ ∃ m, w' = w.drewN m := by
  have hc : ∀ k, k < os.length → ∀ m, Calls Try.prog 69 #[.int .i64 (k : Int), .pointer (some ⟨bw, 0, none⟩), .pointer (some ⟨bf, 0, none⟩), .pointer (some ⟨bc, 0, none⟩)] (w.drewN m) fun e w' => e = .returned (.bool (insB (bl s) f os k)) ∧ ∃ m', w' = w.drewN m' := fun k hk m =>
    (pass1_any s f hf os hos hn hs bw bf bc g c k hk (w.drewN m) h1 h2 h3 hg).mono fun e w' ⟨he, m', hw⟩ => ⟨he, m + m', by rw [hw, World.drewN_drewN]⟩
  have HC := Lib.hid hc
  clear hc h1 h2 h3 hg hs hos
  obtain ⟨n, hnn⟩ : ∃ n, n = os.length := ⟨_, rfl⟩
  rw [← hnn] at HC hn ⊢
  clear hnn
  go_enter Try.func70, Try.ntmps70
  go_wp2
  go_loopw [7] (fun i wr => ∃ k : Nat, k ≤ n ∧ i = .int .i64 k ∧ Hid (insK (bl s) f os k = true) ∧ ∃ m, wr = w.drewN m) (fun i _ => n - (intOf i).toNat)
  case atStart => exact ⟨0, by omega, rfl, rfl, 0, rfl⟩
  case round =>
    obtain ⟨k, hk, rfl, hP, m, rfl⟩ := hrel
    by_cases hlt : k < n
    · have hc := HC.out k hlt m
      cases hq : insB (bl s) f os k with
      | true =>
        rw [hq] at hc
        have hP2 : Hid (insK (bl s) f os (k + 1) = true) := by show _ = _; rw [insK_succ, hP.out, hq]; rfl
        have HCC := Lib.hid hc
        clear hc hq
        go_wp2_with (go_at_call 69; refine HCC.out.mono ?_; rintro e w2 ⟨rfl, m2, rfl⟩)
        go_roundw
        case rel => exact ⟨k + 1, by omega, by go_num, hP2, m2, rfl⟩
        case measure => simp [intOf]; omega
      | false =>
        rw [hq] at hc
        have hP2 : Hid (insK (bl s) f os n = false) := insK_false hlt hq
        have HCC := Lib.hid hc
        clear hc hq
        go_wp2_with (go_at_call 69; refine HCC.out.mono ?_; rintro e w2 ⟨rfl, m2, rfl⟩)
        go_ret
        exact ⟨by rw [hP2.out]; rfl, m2, rfl⟩
    · have hkp : k = n := by omega
      subst hkp
      go_wp2
      go_ret
      exact ⟨by rw [hP.out]; rfl, m, rfl⟩
end Go.Proofs.Ytknfkhackmnnaaa
set_option maxRecDepth 100000
set_option linter.unusedVariables false
set_option linter.unusedSimpArgs false
namespace Go.Proofs.Ytknfkhackmnnaaa
open Go Go.RowKit Go.Deep
/-! a word decoded, in plain terms; all words once -/
open Classical in
noncomputable def dcd (s : List UInt8) (ps : List Nat) : Option (List UInt8) := if h : ∃ cw, Gf.Near s 2 ps cw then some h.choose else none
theorem dcd_some {s : List UInt8} {ps : List Nat} {cw : List UInt8} (h : dcd s ps = some cw) : Gf.Near s 2 ps cw := by
  unfold dcd at h
  split at h
  · rename_i hx
    have := Option.some.inj h
    rw [← this]
    exact hx.choose_spec
  · cases h
theorem dcd_none {s : List UInt8} {ps : List Nat} (h : dcd s ps = none) : ¬ ∃ cw, Gf.Near s 2 ps cw := by
  unfold dcd at h
  split at h
  · cases h
  · assumption
theorem dcd_eq {s : List UInt8} {ps : List Nat} {cw : List UInt8} (hs : s.length ≤ 255) (hP : Gf.Pos s.length ps) (h : Gf.Near s 2 ps cw) : dcd s ps = some cw := by
  cases hd : dcd s ps with
  | none => exact absurd ⟨cw, h⟩ (dcd_none hd)
  | some c => exact congrArg some (Gf.near_unique (w := s) hs hP (dcd_some hd) h)
def outD : Option (List UInt8) → ByteArray
  | none => str []
  | some cw => str cw
def errD : Option (List UInt8) → Int
  | none => 11
  | some _ => 0
theorem posK_mono (S os : List Nat) (k : Nat) : (posK S os k).Pairwise (· < ·) := (List.pairwise_lt_range).filter _
theorem posK_lt {S os : List Nat} {k x : Nat} (h : x ∈ posK S os k) : x < k := by
  unfold posK at h
  have := (List.mem_filter.1 h).1
  simpa using this
theorem erN_cast (ps : List Nat) : erN (ps.map fun p : Nat => (p : Int)) = ps := by
  unfold erN
  rw [List.map_map]
  conv => rhs; rw [← List.map_id ps]
  exact List.map_congr_left fun x _ => by simp
theorem ci_cast (ps : List Nat) {j : Nat} (hj : j < ps.length) : ci (ps.map fun p : Nat => (p : Int)) j = (ps[j] : Int) := by
  unfold ci
  simp [List.getD_eq_getElem?_getD, hj]
theorem posN_posK (S os : List Nat) (n : Nat) : posN n ((posK S os n).map fun p : Nat => (p : Int)) ((posK S os n).map fun p : Nat => (p : Int)).length := fun j hj => by
  rw [List.length_map] at hj
  rw [ci_cast _ hj]
  refine ⟨by omega, by have := posK_lt (List.getElem_mem hj); omega, fun h0 => ?_⟩
  rw [ci_cast _ (show j - 1 < _ by omega)]
  have := List.pairwise_iff_getElem.1 (posK_mono S os n) (j - 1) j (by omega) hj (by omega)
  omega
theorem pos_posK (S os : List Nat) (n : Nat) : Gf.Pos n (posK S os n) := by
  have := pos_of (posN_posK S os n)
  rwa [erN_cast] at this
/-- the decoder at a word of the product code, for fixed results -/
theorem dec_word (t : List UInt8) (S os : List Nat) (ht : t.length = os.length) (h3 : 3 ≤ os.length) (h255 : os.length ≤ 255) : ∃ dn : Int, ∀ (A : Option Addr) (c : Nat) (w : World), RdI w A ((posK S os os.length).map fun p : Nat => (p : Int)) →
    Calls Try.prog 68 #[.string (str t), .int .i64 2, .slice A (posK S os os.length).length c] w fun e w' => Ret1 w (.tuple #[.string (outD (dcd t (posK S os os.length))), .int .i64 dn, .int .i64 (errD (dcd t (posK S os os.length)))]) e w' := by
  have hP := posN_posK S os os.length
  have hsz : (str t).size = os.length := by rw [str_size, ht]
  have hsh : shp (str t).size ((2 : Nat) : Int) = true := by
    rw [hsz]
    simp [shp]
    omega
  have hlen : ((posK S os os.length).map fun p : Nat => (p : Int)).length ≤ 100000 := by
    rw [List.length_map]
    have := posK_length_le S os os.length
    omega
  cases hd : dcd t (posK S os os.length) with
  | none =>
    refine ⟨0, fun A c w hr => ?_⟩
    have h := decode_yes (str t) 2 _ A c hsh hlen w hr
    rw [List.length_map] at h
    refine h.mono ?_
    rintro e w' ⟨hB, ⟨hn, rfl⟩ | ⟨_, cw', hc', rfl⟩ | ⟨_, hn, rfl⟩⟩
    · rw [hsz] at hn; exact absurd hP hn
    · rw [erN_cast] at hc'; exact absurd ⟨cw', hc'⟩ (dcd_none hd)
    · exact ⟨rfl, hB⟩
  | some cw =>
    refine ⟨(Gf.difs t cw : Nat), fun A c w hr => ?_⟩
    have h := decode_yes (str t) 2 _ A c hsh hlen w hr
    rw [List.length_map] at h
    refine h.mono ?_
    rintro e w' ⟨hB, ⟨hn, rfl⟩ | ⟨_, cw', hc', rfl⟩ | ⟨_, hn, rfl⟩⟩
    · rw [hsz] at hn; exact absurd hP hn
    · rw [erN_cast] at hc'
      have e1 := Gf.near_unique (w := t) (by omega) (by rw [ht]; exact pos_posK S os os.length) hc' (dcd_some hd)
      subst e1
      exact ⟨rfl, hB⟩
    · rw [erN_cast] at hn; exact absurd ⟨cw, dcd_some hd⟩ hn
/-- one word -/
noncomputable def stepW (f : Nat) (l : List UInt8) (S : List Nat) (ch : Bool) (os : List Nat) : List UInt8 × List Nat × Bool :=
  match dcd (tkL l f os) (posK S os os.length) with
  | none => (l, S, ch)
  | some cw => if insK cw f os os.length = true then (putK l f os cw os.length, relK S os os.length, chK l f os cw os.length || ch) else (l, S, ch)
/-- the first k words -/
noncomputable def passW (f : Nat) (l : List UInt8) (S : List Nat) : Nat → List UInt8 × List Nat × Bool
  | 0 => (l, S, false)
  | k + 1 => stepW f (passW f l S k).1 (passW f l S k).2.1 (passW f l S k).2.2 (wordN k)
theorem stepW_length (f : Nat) (l : List UInt8) (S : List Nat) (ch : Bool) (os : List Nat) : (stepW f l S ch os).1.length = l.length := by
  unfold stepW
  split
  · rfl
  · split
    · exact putK_length _ _ _ _ _
    · rfl
theorem passW_length (f : Nat) (l : List UInt8) (S : List Nat) : ∀ k, (passW f l S k).1.length = l.length
  | 0 => rfl
  | k + 1 => by
    show (stepW _ _ _ _ _).1.length = _
    rw [stepW_length, passW_length f l S k]
end Go.Proofs.Ytknfkhackmnnaaa
