import Derived.Test.YtjmeoeielbkkiaaS1
set_option maxRecDepth 100000
set_option linter.unusedVariables false
set_option linter.unusedSimpArgs false
namespace Go.Proofs.Ytjmeoeielbkkiaa
open Go.RowKit Go.Deep
/-- a word and a parity belong together -/
def shp (n : Nat) (p : Int) : Bool := decide (2 ≤ n ∧ n ≤ 255 ∧ 1 ≤ p ∧ p ≤ 16 ∧ p < n)
theorem shp_true {n : Nat} {p : Int} (h : shp n p = true) : 2 ≤ n ∧ n ≤ 255 ∧ 1 ≤ p ∧ p ≤ 16 ∧ p < n := by simpa [shp] using h
set_option maxRecDepth 100000 in
set_option maxHeartbeats 2000000 in
theorem shaped_any (s : ByteArray) (p : Int) (w : World) : Calls Try.prog 32 #[.string s, .int .i64 p] w fun e w' => e = .returned (.bool (shp s.size p)) ∧ w = w' := by
  have no : (¬ (2 ≤ s.size ∧ s.size ≤ 255 ∧ 1 ≤ p ∧ p ≤ 16 ∧ p < s.size)) → Hid (shp s.size p = false) := fun h => by
    show _ = _
    simpa [shp] using h
  by_cases h1 : 2 ≤ s.size
  · by_cases h2 : s.size ≤ 255
    · by_cases h3 : 1 ≤ p
      · by_cases h4 : p ≤ 16
        · by_cases h5 : p < s.size
          · have hs : Hid (shp s.size p = true) := by
              show _ = _
              simp [shp]; omega
            clear no
            go_enter Try.func32, Try.ntmps32
            go_wp2
            go_ret
            exact ⟨by rw [hs.out]; simp [h5], rfl⟩
          · have hs := no (by omega)
            clear no
            go_enter Try.func32, Try.ntmps32
            go_wp2
            go_ret
            exact ⟨by rw [hs.out]; simp [h5], rfl⟩
        · have hs := no (by omega)
          clear no
          go_enter Try.func32, Try.ntmps32
          go_wp2
          go_ret
          exact ⟨by rw [hs.out]; simp [h4], rfl⟩
      · have hs := no (by omega)
        clear no
        go_enter Try.func32, Try.ntmps32
        go_wp2
        go_ret
        exact ⟨by rw [hs.out]; simp [h3], rfl⟩
    · have hs := no (by omega)
      clear no
      go_enter Try.func32, Try.ntmps32
      go_wp2
      go_ret
      exact ⟨by rw [hs.out]; simp [h2], rfl⟩
  · have hs := no (by omega)
    clear no
    go_enter Try.func32, Try.ntmps32
    go_wp2
    go_ret
    exact ⟨by rw [hs.out]; simp [h1], rfl⟩
/-- the syndromes -/
def syn (l : List UInt8) (p : Nat) : List UInt8 := (List.range p).map fun j => Gf.hor l (Gf.al j)
theorem syn_length (l : List UInt8) (p : Nat) : (syn l p).length = p := by simp [syn]
theorem co_syn (l : List UInt8) (p j : Nat) (h : j < p) : Gf.co (syn l p) j = Gf.hor l (Gf.al j) := by
  rw [Gf.co_lt (by rw [syn_length]; exact h)]; simp [syn]
theorem zeroL_syn (l : List UInt8) (p : Nat) : zeroL (syn l p) = true ↔ Gf.IsCw l p := by
  rw [zeroL_iff, syn_length]
  exact ⟨fun h j hj => by rw [← co_syn l p j hj]; exact h j hj, fun h j hj => by rw [co_syn l p j hj]; exact h j hj⟩
def synZ (l : List UInt8) (k : Nat) : List UInt8 := syn l k ++ List.replicate (16 - k) 0
theorem synZ_length (l : List UInt8) {k : Nat} (h : k ≤ 16) : (synZ l k).length = 16 := by simp [synZ, syn_length]; omega
theorem synZ_set (l : List UInt8) {k : Nat} (h : k < 16) : (synZ l k).set k (Gf.hor l (Gf.al k)) = synZ l (k + 1) := by
  unfold synZ
  rw [List.set_append_right _ _ (by rw [syn_length]; omega), syn_length, Nat.sub_self]
  have : List.replicate (16 - k) (0 : UInt8) = 0 :: List.replicate (16 - (k + 1)) 0 := by
    rw [show 16 - k = (16 - (k + 1)) + 1 from by omega, List.replicate_succ]
  rw [this, List.set_cons_zero, show syn l (k + 1) = syn l k ++ [Gf.hor l (Gf.al k)] from by simp [syn, List.range_succ]]
  simp
def Z16 : Array Value := ((List.replicate 16 (0 : UInt8)).map B ++ []).toArray
theorem info16 : (Try.prog.info? 51).map (fun i => (i.zero, i.size)) = some (some (.agg Z16), 16) := by kernel_rfl
theorem synZ_zero (l : List UInt8) : Z16 = ((synZ l 0).map B ++ []).toArray := by
  unfold Z16 synZ syn
  rw [List.range_zero, List.map_nil, List.nil_append]
theorem synZ_take (l : List UInt8) {k : Nat} : (synZ l k).take k = syn l k := by
  unfold synZ
  rw [List.take_append_of_le_length (by rw [syn_length]; omega), List.take_of_length_le (by rw [syn_length]; omega)]
/-- a row of its own and a second result -/
def Ret2Own (w : World) (l : List UInt8) (v : Value) (e : Ending) (w' : World) : Prop :=
  ∃ b c, e = .returned (.tuple #[.slice (some ⟨b, 0, none⟩) l.length c, v]) ∧ Own w' b l ∧ w.heap.size ≤ b ∧ l.length ≤ c ∧ Below w.heap.size w w'
set_option maxRecDepth 100000 in
theorem syndromes_no (s : ByteArray) (p : Int) (h : shp s.size p = false) (w : World) : Calls Try.prog 14 #[.string s, .int .i64 p] w fun e w' => e = .returned (.tuple #[.slice none 0 0, .int .i64 1]) ∧ w = w' := by
  go_enter Try.func14, Try.ntmps14
  go_wp2_with (go_at_call 32; refine (shaped_any _ _ _).mono ?_; rintro e w' ⟨rfl, rfl⟩)
  go_ret2
  exact ⟨rfl, rfl⟩
set_option maxRecDepth 100000 in
set_option maxHeartbeats 1000000 in
theorem syndromes_yes (s : ByteArray) (p : Nat) (h : shp s.size p = true) (w : World) : Calls Try.prog 14 #[.string s, .int .i64 (p : Int)] w fun e w' => Ret2Own w (syn (bl s) p) (.int .i64 0) e w' := by
  obtain ⟨h1, h2, h3, h4, h5⟩ := shp_true h
  have hz := (zero_of_info info16).1
  have kb := conv_bytes s
  have hl := bl_length s
  have HL := Lib.hid hl
  clear hl
  go_enter Try.func14, Try.ntmps14
  go_wp2_with (go_at_call 32; refine (shaped_any _ _ _).mono ?_; rintro e w' ⟨rfl, rfl⟩)
  go_loopw [7, 14] (fun x i wr => ∃ k : Nat, k ≤ p ∧ i = .int .i64 k ∧ x = B (Gf.al k) ∧ Arr 51 wr w.heap.size (synZ (bl s) k) ∧ Below w.heap.size w wr) (fun _ i _ => p - (intOf i).toNat)
  case atStart => exact ⟨0, by omega, rfl, rfl, by unfold Arr; rw [← synZ_zero]; exact heap_alloc_new w _, (Below.refl _ _).alloc (Nat.le_refl _) _⟩
  case round =>
    obtain ⟨k, hk, rfl, rfl, hA, hB⟩ := hrel
    by_cases hlt : k < p
    · have hs := synZ_set (bl s) (k := k) (by omega)
      have HS := Lib.hid hs
      clear hs hz
      have hbw := bytesWorld_row wr s
      have hbb := bytesWorld_below wr s
      have hsz : w.heap.size < wr.heap.size := hA.row.lt
      have he := eval_any (bl s) (Gf.al k) (by rw [HL.out]; omega) (by rw [HL.out]; omega) wr.heap.size 0 (grownCap wr s.size 0 5) _ hbw.rd
      rw [HL.out] at he
      have HE := Lib.hid he
      have HBB := Lib.hid hbb
      clear he hbw hbb
      go_wp2_with fail
      refine HE.out.mono ?_
      rintro e w2 ⟨rfl, hB2⟩
      have hB3 : Below wr.heap.size wr w2 := HBB.out.trans (hB2.mono (by rw [Lib.bytesWorld_size]; omega))
      have hA2 : Arr 51 w2 w.heap.size (synZ (bl s) k) := heap_below_row hA hB3 hsz
      have hc := hA2.row.cell (j := k) (by rw [synZ_length _ (by omega)]; omega)
      have hf := hA2.row.free (j := k) (by rw [synZ_length _ (by omega)]; omega)
      have hB4 := hB.trans (hB3.mono hB.size)
      have HB4 := Lib.hid hB4
      clear HE HBB hB2 hA hB hB3 hB4 kb
      go_wp2_with (go_at_call 34; refine (mul_any _ 2 _).mono ?_; rintro e w' ⟨rfl, rfl⟩)
      go_roundw
      case rel => exact ⟨k + 1, by omega, by go_num, by rw [Gf.mul_comm, show (2 : UInt8) = Gf.al 1 from by decide, Gf.al_add, Nat.add_comm], by rw [← HS.out]; exact hA2.set _, HB4.out.setCell (Nat.le_refl _) _⟩
      case measure => simp [intOf]; omega
    · have hkp : k = p := by omega
      have HK := Lib.hid hkp
      clear hkp
      have hrd : Rd wr w.heap.size 0 (syn (bl s) p) := by
        have := hA.row.rd.take k
        rwa [synZ_take, HK.out] at this
      have hcl := clone_any (syn (bl s) p) (by rw [syn_length]; omega) (by rw [syn_length]; omega) w.heap.size 0 16 wr hrd
      rw [syn_length] at hcl
      have HC := Lib.hid hcl
      clear hcl hrd
      go_wp2_with fail
      refine HC.out.mono ?_
      rintro e w2 ⟨b2, c2, rfl, hO2, hb2, hc2, hB2⟩
      have hbs := hB.size
      have hB3 := hB.trans (hB2.mono hbs)
      go_wp2
      go_ret2
      exact ⟨b2, c2, rfl, hO2, by omega, hc2, hB3⟩
end Go.Proofs.Ytjmeoeielbkkiaa
