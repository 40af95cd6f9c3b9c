import Derived.Test.YtknfkhackmnnaaaS8
set_option maxRecDepth 100000
set_option linter.unusedVariables false
set_option linter.unusedSimpArgs false
namespace Go.Proofs.Ytknfkhackmnnaaa
open Go.RowKit Go.Deep
/-- an element of a list of numbers -/
def ci (l : List Int) (j : Nat) : Int := l.getD j 0
theorem ci_lt {l : List Int} {j : Nat} (h : j < l.length) : ci l j = l[j] := by
  unfold ci; rw [List.getD_eq_getElem?_getD, List.getElem?_eq_getElem h]; rfl
/-- a slice of numbers can be read, nil or not -/
def RdI (w : World) (A : Option Addr) (l : List Int) : Prop := 0 < l.length → ∃ b off, A = some ⟨b, off, none⟩ ∧ b < w.heap.size ∧ ∀ j, j < l.length → w.cell? ⟨b, off + j, none⟩ = some (.int .i64 (ci l j))
theorem RdI.below {n : Nat} {w w' : World} {A : Option Addr} {l : List Int} (h : RdI w A l) (hn : w.heap.size ≤ n) (hb : Below n w w') : RdI w' A l := fun hl => by
  obtain ⟨b, off, e, hlt, hc⟩ := h hl
  exact ⟨b, off, e, Nat.lt_of_lt_of_le hlt hb.size, fun j hj => (hb.cell (p := ⟨b, off + j, none⟩) (by show b < n; omega)).trans (hc j hj)⟩
theorem RdI.nil (w : World) (A : Option Addr) : RdI w A [] := fun h => absurd h (Nat.lt_irrefl 0)
set_option maxRecDepth 100000 in
theorem index_any (l : List Int) (v : Int) (A : Option Addr) (c : Nat) (hl : l.length ≤ 100000) (w : World) (h : RdI w A l) :
    Calls Try.prog 51 #[.slice A l.length c, .int .i64 v] w fun e w' => (∃ n : Int, e = .returned (.int .i64 n) ∧ Hid (-1 ≤ n ∧ (0 ≤ n ↔ v ∈ l))) ∧ w = w' := by
  go_enter Try.func51, Try.ntmps51
  go_wp2
  go_loop [8] (fun i => ∃ k : Nat, k ≤ l.length ∧ i = .int .i64 k ∧ Hid (∀ j, j < k → ci l j ≠ v)) (fun i => l.length - (intOf i).toNat)
  case atStart => exact ⟨0, by omega, rfl, fun j hj => by omega⟩
  case round =>
    obtain ⟨k, hk, rfl, hz⟩ := hrel
    by_cases hlt : k < l.length
    · obtain ⟨b, off, rfl, hb, hr⟩ := h (by omega)
      have hc := hr k hlt
      have HR := Lib.hid hr
      clear hr
      by_cases h0 : v = ci l k
      · have hb1 : (v == ci l k) = true := by rw [h0]; simp
        have H0 := Lib.hid h0
        clear h0
        go_wp2
        go_ret
        exact ⟨⟨_, rfl, by omega, fun _ => by rw [H0.out, ci_lt hlt]; exact List.getElem_mem _, fun _ => by omega⟩, rfl⟩
      · have hb1 : (v == ci l k) = false := by simpa using h0
        have H0 := Lib.hid h0
        clear h0
        go_wp2
        go_round
        case rel => exact ⟨k + 1, by omega, by go_num, fun j hj => by
          rcases Nat.lt_or_ge j k with h | h
          · exact hz.out j h
          · obtain rfl : j = k := by omega
            exact fun e => H0.out e.symm⟩
        case measure => simp [intOf]; omega
    · have hkp : k = l.length := by omega
      have HK := Lib.hid hkp
      clear hkp
      go_wp2
      go_ret
      refine ⟨⟨-1, rfl, by omega, fun h => by omega, fun h => ?_⟩, rfl⟩
      obtain ⟨j, hj, e⟩ := List.getElem_of_mem h
      exact absurd ((ci_lt hj).trans e) (hz.out j (by rw [HK.out]; exact hj))
set_option maxRecDepth 100000 in
theorem contains_any (l : List Int) (v : Int) (A : Option Addr) (c : Nat) (hl : l.length ≤ 100000) (w : World) (h : RdI w A l) :
    Calls Try.prog 27 #[.slice A l.length c, .int .i64 v] w fun e w' => e = .returned (.bool (decide (v ∈ l))) ∧ w = w' := by
  go_enter Try.func27, Try.ntmps27
  go_wp2_with (go_at_call 51; refine (index_any l v _ _ hl _ h).mono ?_; rintro e w' ⟨⟨n, rfl, hn⟩, rfl⟩)
  go_ret
  refine ⟨?_, rfl⟩
  have : decide (0 ≤ n) = decide (v ∈ l) := by
    rw [Bool.eq_iff_iff, decide_eq_true_eq, decide_eq_true_eq, hn.out.2]
  rw [← this]; rfl
/-- where two words differ, below an index -/
def difK (a b : List UInt8) (k : Nat) : Nat := ((List.range k).filter fun i => decide (Gf.co a i ≠ Gf.co b i)).length
def outK (a b : List UInt8) (er : List Int) (k : Nat) : Nat := ((List.range k).filter fun i => decide (Gf.co a i ≠ Gf.co b i) && !decide ((i : Int) ∈ er)).length
theorem difK_succ (a b : List UInt8) (k : Nat) : difK a b (k + 1) = difK a b k + if Gf.co a k ≠ Gf.co b k then 1 else 0 := by
  unfold difK
  rw [List.range_succ, List.filter_append, List.length_append, List.filter_cons]
  by_cases h : Gf.co a k = Gf.co b k <;> simp [h]
theorem outK_succ (a b : List UInt8) (er : List Int) (k : Nat) : outK a b er (k + 1) = outK a b er k + if Gf.co a k ≠ Gf.co b k ∧ ¬ (k : Int) ∈ er then 1 else 0 := by
  unfold outK
  rw [List.range_succ, List.filter_append, List.length_append, List.filter_cons]
  by_cases h : Gf.co a k = Gf.co b k <;> by_cases h2 : (k : Int) ∈ er <;> simp [h, h2]
theorem difK_le (a b : List UInt8) (k : Nat) : difK a b k ≤ k := by
  have := List.length_filter_le (fun i => decide (Gf.co a i ≠ Gf.co b i)) (List.range k)
  rwa [List.length_range] at this
theorem outK_le (a b : List UInt8) (er : List Int) (k : Nat) : outK a b er k ≤ k := by
  have := List.length_filter_le (fun i => decide (Gf.co a i ≠ Gf.co b i) && !decide ((i : Int) ∈ er)) (List.range k)
  rwa [List.length_range] at this
theorem byte_at (s : ByteArray) (k : Nat) (h : k < s.size) : s[k] = Gf.co (bl s) k := by
  rw [Gf.co_lt (by rw [bl_length]; exact h)]
  simp [bl]
  rfl
theorem pw_below_drewN' {B : Nat} {w W : World} (h : Below B w W) (n : Nat) : Below B w (W.drewN n) := ⟨h.os, h.tape, h.output, h.size, h.block⟩
set_option maxRecDepth 100000 in
set_option maxHeartbeats 1000000 in
theorem changes_any (a b : ByteArray) (er : List Int) (A : Option Addr) (c : Nat) (hab : a.size = b.size) (ha : a.size ≤ 255) (hl : er.length ≤ 100000) (w : World) (h : RdI w A er) :
    Calls Try.prog 98 #[.string a, .string b, .slice A er.length c] w fun e w' => e = .returned (.tuple #[.int .i64 (difK (bl a) (bl b) a.size : Nat), .int .i64 (outK (bl a) (bl b) er a.size : Nat)]) ∧ Below w.heap.size w w' := by
  have hb1 : a.size ≤ b.size := by omega
  have hb2 : b.size ≤ a.size := by omega
  clear hab
  go_enter Try.func98, Try.ntmps98
  go_wp2
  go_loopw [8, 9, 13] (fun x y i wr => ∃ k d o : Nat, k ≤ a.size ∧ i = .int .i64 k ∧ x = .int .i64 d ∧ y = .int .i64 o ∧ d ≤ k ∧ o ≤ k ∧ Hid (d = difK (bl a) (bl b) k ∧ o = outK (bl a) (bl b) er k) ∧ Below w.heap.size w wr) (fun _ _ i _ => a.size - (intOf i).toNat)
  case atStart => exact ⟨0, 0, 0, by omega, rfl, rfl, rfl, by omega, by omega, ⟨rfl, rfl⟩, Below.refl _ _⟩
  case round =>
    obtain ⟨k, d, o, hk, rfl, rfl, rfl, hd, ho, hdo, hB⟩ := hrel
    by_cases hlt : k < a.size
    · have hlt2 : k < b.size := by omega
      have ea := byte_at a k hlt
      have eb := byte_at b k hlt2
      have hi0 : (0 : Int) ≤ (k : Int) := by omega
      have hi1 : (k : Int) < (a.size : Int) := by omega
      have hi2 : (k : Int) < (b.size : Int) := by omega
      have hds := difK_succ (bl a) (bl b) k
      have hos := outK_succ (bl a) (bl b) er k
      by_cases he : Gf.co (bl a) k = Gf.co (bl b) k
      · have hb1 : (((Gf.co (bl a) k).toNat : Int) == ((Gf.co (bl b) k).toNat : Int)) = true := by rw [he]; simp
        have hn : Hid (d = difK (bl a) (bl b) (k + 1) ∧ o = outK (bl a) (bl b) er (k + 1)) := by
          rw [hds, hos, if_neg (by simpa using he), if_neg (fun h => h.1 he)]
          exact hdo.out
        clear hds hos he
        go_wp2
        go_quiet (fail)
        clear ea eb
        go_wp2
        go_roundw
        case rel => exact ⟨k + 1, d, o, by omega, by go_num, rfl, rfl, by omega, by omega, hn, pw_below_drewN' hB _⟩
        case measure => simp [intOf]; omega
      · have hb1 : (((Gf.co (bl a) k).toNat : Int) == ((Gf.co (bl b) k).toNat : Int)) = false := by rw [beq_eq_false_iff_ne]; exact fun e => he (u8_inj e)
        have hcn : ∀ n, RdI (wr.drewN n) A er := fun n => h.below (Nat.le_refl _) (pw_below_drewN' hB n)
        have HCN := Lib.hid hcn
        clear hcn
        by_cases hm : (k : Int) ∈ er
        · have hn : Hid (d + 1 = difK (bl a) (bl b) (k + 1) ∧ o = outK (bl a) (bl b) er (k + 1)) := by
            rw [hds, hos, if_pos he, if_neg (fun h => h.2 hm)]
            exact ⟨by rw [← hdo.out.1], hdo.out.2⟩
          have hmb : decide ((k : Int) ∈ er) = true := decide_eq_true hm
          clear hds hos he hm
          go_wp2
          go_quiet (fail)
          clear ea eb
          go_wp2_with (go_at_call 27; refine (contains_any er _ A c hl _ (HCN.out _)).mono ?_; rintro e w' ⟨rfl, rfl⟩)
          go_roundw
          case rel => exact ⟨k + 1, d + 1, o, by omega, by go_num, by go_num, rfl, by omega, by omega, hn, pw_below_drewN' hB _⟩
          case measure => simp [intOf]; omega
        · have hn : Hid (d + 1 = difK (bl a) (bl b) (k + 1) ∧ o + 1 = outK (bl a) (bl b) er (k + 1)) := by
            rw [hds, hos, if_pos he, if_pos ⟨he, hm⟩]
            exact ⟨by rw [← hdo.out.1], by rw [← hdo.out.2]⟩
          have hmb : decide ((k : Int) ∈ er) = false := decide_eq_false hm
          clear hds hos he hm
          go_wp2
          go_quiet (fail)
          clear ea eb
          go_wp2_with (go_at_call 27; refine (contains_any er _ A c hl _ (HCN.out _)).mono ?_; rintro e w' ⟨rfl, rfl⟩)
          go_roundw
          case rel => exact ⟨k + 1, d + 1, o + 1, by omega, by go_num, by go_num, by go_num, by omega, by omega, hn, pw_below_drewN' hB _⟩
          case measure => simp [intOf]; omega
    · have hkp : k = a.size := by omega
      have HK := Lib.hid hkp
      clear hkp
      go_wp2
      go_ret2
      exact ⟨by rw [hdo.out.1, hdo.out.2, HK.out]; rfl, hB⟩
end Go.Proofs.Ytknfkhackmnnaaa
