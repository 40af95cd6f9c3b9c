import Derived.Test.YtknfkhackmnnaaaS9
set_option maxRecDepth 100000
set_option linter.unusedVariables false
set_option linter.unusedSimpArgs false
namespace Go.Proofs.Ytknfkhackmnnaaa
open Go.RowKit Go.Deep
/-- the first k numbers are strictly increasing positions of a word of length n -/
def posN (n : Nat) (er : List Int) (k : Nat) : Prop := ∀ j, j < k → 0 ≤ ci er j ∧ ci er j < n ∧ (0 < j → ci er (j - 1) < ci er j)
theorem posN_ge {n : Nat} {er : List Int} {k : Nat} (h : posN n er k) : ∀ j, j < k → (j : Int) ≤ ci er j := by
  intro j
  induction j with
  | zero => intro hj; exact (h 0 hj).1
  | succ j ih =>
    intro hj
    have h1 := ih (by omega)
    have h2 := (h (j + 1) hj).2.2 (by omega)
    rw [Nat.add_sub_cancel] at h2
    omega
theorem posN_le {n : Nat} {er : List Int} {k : Nat} (h : posN n er k) : k ≤ n := by
  rcases k with _ | k
  · omega
  · have h1 := posN_ge h k (by omega)
    have h2 := (h k (by omega)).2.1
    omega
theorem posN_step {n : Nat} {er : List Int} {k : Nat} (h : posN n er k) (h0 : 0 ≤ ci er k) (h1 : ci er k < n) (h2 : 0 < k → ci er (k - 1) < ci er k) : posN n er (k + 1) := fun j hj => by
  by_cases e : j = k
  · subst e; exact ⟨h0, h1, h2⟩
  · exact h j (by omega)
def erN (er : List Int) : List Nat := er.map Int.toNat
theorem erN_length (er : List Int) : (erN er).length = er.length := by simp [erN]
theorem erN_get {er : List Int} {j : Nat} (h : j < er.length) : (erN er)[j]'(by rw [erN_length]; exact h) = (ci er j).toNat := by
  simp [erN, ci_lt h]
theorem pos_of {n : Nat} {er : List Int} (h : posN n er er.length) : Gf.Pos n (erN er) := by
  constructor
  · have : ∀ i j, i < j → j < er.length → ci er i < ci er j := by
      intro i j hij
      induction j with
      | zero => omega
      | succ j ih =>
        intro hj
        have h2 := (h (j + 1) hj).2.2 (by omega)
        rw [Nat.add_sub_cancel] at h2
        by_cases e : i = j
        · subst e; exact h2
        · exact Int.lt_trans (ih (by omega) (by omega)) h2
    rw [List.pairwise_iff_getElem]
    intro i j hi hj hij
    rw [erN_length] at hi hj
    rw [erN_get hi, erN_get hj]
    have h1 := this i j hij hj
    have h2 := (h i hi).1
    omega
  · intro k hk
    obtain ⟨j, hj, rfl⟩ := List.getElem_of_mem hk
    rw [erN_length] at hj
    rw [erN_get hj]
    have h1 := (h j hj).1
    have h2 := (h j hj).2.1
    omega
theorem mem_erN {n : Nat} {er : List Int} (h : posN n er er.length) (i : Nat) : i ∈ erN er ↔ (i : Int) ∈ er := by
  unfold erN
  rw [List.mem_map]
  constructor
  · rintro ⟨a, ha, rfl⟩
    obtain ⟨j, hj, rfl⟩ := List.getElem_of_mem ha
    have h1 := (h j hj).1
    rw [ci_lt hj] at h1
    rw [Int.toNat_of_nonneg h1]
    exact ha
  · exact fun hi => ⟨_, hi, by simp⟩
/-- the polynomial of the first k erased positions -/
def gamL (n : Nat) (er : List Int) : Nat → List UInt8
  | 0 => [1]
  | k + 1 => Gf.prod (gamL n er k) [1, Gf.X n (ci er k).toNat]
theorem gamL_ne (n : Nat) (er : List Int) (k : Nat) : gamL n er k ≠ [] ∧ (gamL n er k).length = k + 1 := by
  induction k with
  | zero => exact ⟨by simp [gamL], rfl⟩
  | succ k ih =>
    have hl : (gamL n er (k + 1)).length = k + 2 := by
      rw [gamL, Gf.prod_length ih.1 (by simp), ih.2]; rfl
    exact ⟨(fun e => by rw [e] at hl; cases hl), hl⟩
theorem co_lin1 (X : UInt8) : Gf.co [1, X] = Gf.loc X := by
  funext i
  unfold Gf.loc
  rcases i with _ | _ | i <;> simp [Gf.co]
theorem co_one1 : Gf.co [1] = Gf.one := by
  funext i
  unfold Gf.one
  rcases i with _ | i <;> simp [Gf.co]
theorem co_gamL (n : Nat) (er : List Int) (k : Nat) (hk : k ≤ er.length) : Gf.co (gamL n er k) = Gf.L (Gf.Xs n ((erN er).take k)) := by
  induction k with
  | zero => exact co_one1
  | succ k ih =>
    rw [gamL, Gf.co_prod (gamL_ne n er k).1 (by simp), ih (by omega), co_lin1]
    rw [List.take_succ_eq_append_getElem (by rw [erN_length]; omega), erN_get (by omega)]
    unfold Gf.Xs
    rw [List.map_append, Gf.L_append, List.map_cons, List.map_nil]
    congr 1
    rw [Gf.L, Gf.L, Gf.cv_one]
/-- the erased positions' polynomial, or none -/
def RetEr (w : World) (n : Nat) (er : List Int) (e : Ending) (w' : World) : Prop :=
  (posN n er er.length ∧ ∃ b c, e = .returned (.tuple #[.slice (some ⟨b, 0, none⟩) (er.length + 1) c, .bool true]) ∧ Own w' b (gamL n er er.length) ∧ w.heap.size ≤ b ∧ Below w.heap.size w w') ∨
  (¬ posN n er er.length ∧ e = .returned (.tuple #[.slice none 0 0, .bool false]) ∧ Below w.heap.size w w')
set_option maxRecDepth 100000 in
set_option maxHeartbeats 2000000 in
theorem erasures_any (s : ByteArray) (er : List Int) (A : Option Addr) (c : Nat) (hs : s.size ≤ 255) (hl : er.length ≤ 100000) (w : World) (h : RdI w A er) :
    Calls Try.prog 109 #[.string s, .slice A er.length c] w fun e w' => RetEr w s.size er e w' := by
  go_enter Try.func109, Try.ntmps109
  go_wp2
  go_loopw [6, 12] (fun v i wr => ∃ k b c : Nat, k ≤ er.length ∧ i = .int .i64 k ∧ v = .slice (some ⟨b, 0, none⟩) (k + 1) c ∧ Own wr b (gamL s.size er k) ∧ w.heap.size ≤ b ∧ Hid (posN s.size er k) ∧ Below w.heap.size w wr) (fun _ i _ => er.length - (intOf i).toNat)
  case atStart => exact ⟨0, w.heap.size, 1, by omega, rfl, rfl, Own.lit w [1], Nat.le_refl _, fun j hj => by omega, (Below.refl _ _).alloc (Nat.le_refl _) _⟩
  case round =>
    obtain ⟨k, b, c2, hk, rfl, rfl, hO, hb, hP, hB⟩ := hrel
    by_cases hlt : k < er.length
    · obtain ⟨ba, oa, rfl, hba, hr⟩ := h (by omega)
      have hcn : ∀ j, j < er.length → wr.cell? ⟨ba, oa + j, none⟩ = some (.int .i64 (ci er j)) := fun j hj => (hB.cell (p := ⟨ba, oa + j, none⟩) hba).trans (hr j hj)
      have hck := hcn k hlt
      have hkn := posN_le hP.out
      have HCN := Lib.hid hcn
      clear hcn hr
      by_cases h0 : 0 ≤ ci er k
      · by_cases h1 : ci er k < s.size
        · by_cases h2 : 0 < k → ci er (k - 1) < ci er k
          · have hP2 := Lib.hid (posN_step hP.out h0 h1 h2)
            obtain ⟨x, hx⟩ := Int.eq_ofNat_of_zero_le h0
            rw [hx] at hck h1
            have hxs : x < s.size := by omega
            have XH := Lib.hid hx
            rcases k with _ | j
            · clear h2 hx h0
              rw [Nat.add_zero] at hck
              have hO2 := hO.alloc (.cells #[Value.int .u8 1, B (Gf.X s.size x)] 5)
              have hL : Own (wr.alloc (.cells #[Value.int .u8 1, B (Gf.X s.size x)] 5)) wr.heap.size [1, Gf.X s.size x] := Own.lit wr [1, Gf.X s.size x]
              have hpr := times_any (gamL s.size er 0) [1, Gf.X s.size x] (by rw [(gamL_ne s.size er _).2]; omega) (by simp) (by rw [(gamL_ne s.size er _).2]; omega) (by simp) b 0 c2 wr.heap.size 0 2 _ hO2.rd hL.rd
              rw [(gamL_ne s.size er _).2, show ([1, Gf.X s.size x] : List UInt8).length = 2 from rfl] at hpr
              have hgl : gamL s.size er (0 + 1) = Gf.prod (gamL s.size er 0) [1, Gf.X s.size x] := (show gamL s.size er (0 + 1) = Gf.prod (gamL s.size er 0) [1, Gf.X s.size (ci er 0).toNat] from rfl).trans (by rw [XH.out]; rfl)
              have hpl : (Gf.prod (gamL s.size er 0) [1, Gf.X s.size x]).length = 0 + 1 + 1 := by rw [← hgl, (gamL_ne s.size er _).2]
              have HG := Lib.hid hgl
              have HPL := Lib.hid hpl
              have HPR := Lib.hid hpr
              clear hgl hpl hpr hO2 hL hO
              go_wp2_with (first | (go_at_call 117; refine (locator_any s x hxs hs _).mono ?_; rintro e w' ⟨rfl, rfl⟩) | fail)
              refine HPR.out.mono ?_
              rintro e w2 ⟨b2, c3, rfl, hO3, hb2, hc2, hB2⟩
              have hbs := hB.size
              simp at hb2
              have hB3 := (hB.alloc hB.size _).trans (hB2.mono (show w.heap.size ≤ _ by simp; omega))
              rw [HPL.out]
              clear hB hB2
              go_wp2
              go_roundw
              case rel => exact ⟨0 + 1, b2, c3, by omega, by go_num, rfl, by rw [HG.out]; exact hO3, by omega, hP2.out, hB3⟩
              case measure => simp [intOf]; omega
            · have hcj := HCN.out j (by omega)
              have hyx : ci er j < (x : Int) := by have := h2 (by omega); rw [Nat.add_sub_cancel, hx] at this; exact this
              clear h2 hx h0
              have hO2 := hO.alloc (.cells #[Value.int .u8 1, B (Gf.X s.size x)] 5)
              have hL : Own (wr.alloc (.cells #[Value.int .u8 1, B (Gf.X s.size x)] 5)) wr.heap.size [1, Gf.X s.size x] := Own.lit wr [1, Gf.X s.size x]
              have hpr := times_any (gamL s.size er (j + 1)) [1, Gf.X s.size x] (by rw [(gamL_ne s.size er _).2]; omega) (by simp) (by rw [(gamL_ne s.size er _).2]; omega) (by simp) b 0 c2 wr.heap.size 0 2 _ hO2.rd hL.rd
              rw [(gamL_ne s.size er _).2, show ([1, Gf.X s.size x] : List UInt8).length = 2 from rfl] at hpr
              have hgl : gamL s.size er ((j + 1) + 1) = Gf.prod (gamL s.size er (j + 1)) [1, Gf.X s.size x] := (show gamL s.size er ((j + 1) + 1) = Gf.prod (gamL s.size er (j + 1)) [1, Gf.X s.size (ci er (j + 1)).toNat] from rfl).trans (by rw [XH.out]; rfl)
              have hpl : (Gf.prod (gamL s.size er (j + 1)) [1, Gf.X s.size x]).length = (j + 1) + 1 + 1 := by rw [← hgl, (gamL_ne s.size er _).2]
              have HG := Lib.hid hgl
              have HPL := Lib.hid hpl
              have HPR := Lib.hid hpr
              clear hgl hpl hpr hO2 hL hO
              go_wp2_with (first | (go_at_call 117; refine (locator_any s x hxs hs _).mono ?_; rintro e w' ⟨rfl, rfl⟩) | fail)
              refine HPR.out.mono ?_
              rintro e w2 ⟨b2, c3, rfl, hO3, hb2, hc2, hB2⟩
              have hbs := hB.size
              simp at hb2
              have hB3 := (hB.alloc hB.size _).trans (hB2.mono (show w.heap.size ≤ _ by simp; omega))
              rw [HPL.out]
              clear hB hB2
              go_wp2
              go_roundw
              case rel => exact ⟨(j + 1) + 1, b2, c3, by omega, by go_num, rfl, by rw [HG.out]; exact hO3, by omega, hP2.out, hB3⟩
              case measure => simp [intOf]; omega
          · have hnP : Hid (¬ posN s.size er er.length) := fun hh => h2 (hh k hlt).2.2
            obtain ⟨x, hx⟩ := Int.eq_ofNat_of_zero_le h0
            rw [hx] at hck h1
            rcases k with _ | j
            · exact absurd (fun h => absurd h (Nat.lt_irrefl 0)) h2
            · have hcj := HCN.out j (by omega)
              have hyx : ¬ ci er j < (x : Int) := fun hh => h2 fun _ => by rw [Nat.add_sub_cancel, hx]; exact hh
              clear h2 hx h0
              go_wp2
              go_ret2
              exact .inr ⟨hnP.out, rfl, hB⟩
        · have hnP : Hid (¬ posN s.size er er.length) := fun hh => h1 (hh k hlt).2.1
          obtain ⟨x, hx⟩ := Int.eq_ofNat_of_zero_le h0
          rw [hx] at hck h1
          have hxs : s.size ≤ x := by omega
          clear hx h0 h1
          rcases k with _ | j
          · rw [Nat.add_zero] at hck
            go_wp2
            go_ret2
            exact .inr ⟨hnP.out, rfl, hB⟩
          · go_wp2
            go_ret2
            exact .inr ⟨hnP.out, rfl, hB⟩
      · have hnP : Hid (¬ posN s.size er er.length) := fun hh => h0 (hh k hlt).1
        have hx : ci er k < 0 := by omega
        clear h0
        rcases k with _ | j
        · rw [Nat.add_zero] at hck
          go_wp2
          go_ret2
          exact .inr ⟨hnP.out, rfl, hB⟩
        · go_wp2
          go_ret2
          exact .inr ⟨hnP.out, rfl, hB⟩
    · have hkp : k = er.length := by omega
      have HK := Lib.hid hkp
      clear hkp
      go_wp2
      go_ret2
      exact .inl ⟨by rw [← HK.out]; exact hP.out, b, c2, by rw [← HK.out]; rfl, by rw [← HK.out]; exact hO, hb, hB⟩
end Go.Proofs.Ytknfkhackmnnaaa
