import Derived.Test.YtknfkhackmnnaaaD7
set_option maxRecDepth 100000
set_option linter.unusedVariables false
set_option linter.unusedSimpArgs false
namespace Go.Proofs.Ytknfkhackmnnaaa
/-! the plain law of Decode: erasures that peel away -/
def peelW (S : List Nat) (k : Nat) : List Nat := if (posK S (wordN k) (wordN k).length).length ≤ 2 then relK S (wordN k) (wordN k).length else S
def peelK (S : List Nat) : Nat → List Nat
  | 0 => S
  | k + 1 => peelW (peelK S k) k
def peelP (S : List Nat) : List Nat := peelK S 138
theorem peelP_def (S : List Nat) : peelP S = peelK S 138 := rfl
/-- whether a word among the first k is peeled -/
def agK (S : List Nat) : Nat → Bool
  | 0 => false
  | k + 1 => agK S k || (decide (1 ≤ (posK (peelK S k) (wordN k) (wordN k).length).length) && decide ((posK (peelK S k) (wordN k) (wordN k).length).length ≤ 2))
def itP : Nat → List Nat → List Nat
  | 0, S => S
  | j + 1, S => itP j (peelP S)
theorem relK_sub (S os : List Nat) (k : Nat) : (relK S os k).Sublist S := List.filter_sublist
theorem peelW_sub (S : List Nat) (k : Nat) : (peelW S k).Sublist S := by
  unfold peelW
  split
  · exact relK_sub _ _ _
  · exact List.Sublist.refl _
theorem peelK_sub (S : List Nat) : ∀ k, (peelK S k).Sublist S
  | 0 => List.Sublist.refl _
  | k + 1 => (peelW_sub _ _).trans (peelK_sub S k)
theorem peelP_sub (S : List Nat) : (peelP S).Sublist S := peelK_sub S 138
theorem peelP_eq {S : List Nat} (h : ¬ (peelP S).length < S.length) : peelP S = S := (peelP_sub S).eq_of_length (by have := (peelP_sub S).length_le; omega)
theorem itP_sub : ∀ (j : Nat) (S : List Nat), (itP j S).Sublist S
  | 0, _ => List.Sublist.refl _
  | j + 1, S => (itP_sub j _).trans (peelP_sub S)
theorem itP_fix {S : List Nat} (h : peelP S = S) : ∀ j, itP j S = S
  | 0 => rfl
  | j + 1 => by rw [itP, h]; exact itP_fix h j
theorem itP_add : ∀ (j k : Nat) (S : List Nat), itP (j + k) S = itP k (itP j S)
  | 0, k, S => by rw [Nat.zero_add]; rfl
  | j + 1, k, S => by
    rw [show j + 1 + k = (j + k) + 1 by omega]
    exact itP_add j k (peelP S)
theorem itP_succ (j : Nat) (S : List Nat) : itP (j + 1) S = peelP (itP j S) := itP_add j 1 S
theorem itP_one {S : List Nat} {j k : Nat} (hj : peelP (itP j S) = itP j S) (hk : peelP (itP k S) = itP k S) : itP j S = itP k S := by
  rcases Nat.le_total j k with h | h
  · obtain ⟨d, rfl⟩ : ∃ d, k = j + d := ⟨k - j, by omega⟩
    rw [itP_add, itP_fix hj]
  · obtain ⟨d, rfl⟩ : ∃ d, j = k + d := ⟨j - k, by omega⟩
    rw [itP_add, itP_fix hk]
theorem itP_end : ∀ (n : Nat) (S : List Nat), S.length ≤ n → peelP (itP n S) = itP n S
  | 0, S, h => (peelP_sub _).eq_of_length (by have := (peelP_sub (itP 0 S)).length_le; have : (itP 0 S).length = 0 := by show S.length = 0; omega
                                              omega)
  | n + 1, S, h => by
    by_cases e : (peelP S).length < S.length
    · exact itP_end n (peelP S) (by omega)
    · have := peelP_eq e
      rw [itP_fix this, this]
/-- what remains -/
def peelR (S : List Nat) : List Nat := itP S.length S
theorem peelR_fix (S : List Nat) : peelP (peelR S) = peelR S := itP_end _ _ (Nat.le_refl _)
theorem peelR_of {S : List Nat} {j : Nat} (h : peelP (itP j S) = itP j S) : itP j S = peelR S := itP_one h (peelR_fix S)
theorem relK_same {S os : List Nat} (h : ∀ o, o ∈ S → ¬ o ∈ os) : relK S os os.length = S := by
  unfold relK
  rw [List.take_length, List.filter_eq_self]
  intro o ho
  exact decide_eq_true (h o ho)
theorem posK_pos {S : List Nat} {k o : Nat} (h1 : o ∈ S) (h2 : o ∈ wordN k) : 1 ≤ (posK S (wordN k) (wordN k).length).length := by
  obtain ⟨i, hi, rfl⟩ := mem_word_iff.1 h2
  refine List.length_pos_of_mem (mem_posK.2 ⟨by rw [wl_eq]; exact hi, ?_⟩)
  rw [wordN_at hi]
  exact h1
theorem agK_false {S : List Nat} : ∀ {k : Nat}, agK S k = false → peelK S k = S
  | 0, _ => rfl
  | k + 1, h => by
    simp only [agK, Bool.or_eq_false_iff] at h
    have ih := agK_false h.1
    show peelW (peelK S k) k = S
    rw [ih] at h ⊢
    unfold peelW
    split
    · rename_i h2
      refine relK_same fun o ho hm => ?_
      have h3 := posK_pos ho hm
      have := h.2
      rw [decide_eq_true h3, decide_eq_true h2] at this
      cases this
    · rfl
theorem relK_lt {S : List Nat} {k : Nat} (h : 1 ≤ (posK S (wordN k) (wordN k).length).length) : (relK S (wordN k) (wordN k).length).length < S.length := by
  have hm := List.getElem_mem h
  obtain ⟨h1, h2⟩ := mem_posK.1 hm
  have hle := (relK_sub S (wordN k) (wordN k).length).length_le
  rcases Nat.lt_or_ge (relK S (wordN k) (wordN k).length).length S.length with h3 | h3
  · exact h3
  · have he := (relK_sub S (wordN k) (wordN k).length).eq_of_length (by omega)
    have h4 : (wordN k).getD (posK S (wordN k) (wordN k).length)[0] 0 ∈ relK S (wordN k) (wordN k).length := he.symm ▸ h2
    exact absurd (getD_mem h1) (mem_relK.1 h4).2
theorem agK_true {S : List Nat} : ∀ {k : Nat}, agK S k = true → (peelK S k).length < S.length
  | 0, h => by cases h
  | k + 1, h => by
    simp only [agK, Bool.or_eq_true, Bool.and_eq_true, decide_eq_true_eq] at h
    show (peelW (peelK S k) k).length < S.length
    have hle := (peelW_sub (peelK S k) k).length_le
    have hle2 := (peelK_sub S k).length_le
    rcases h with h | ⟨h1, h2⟩
    · have := agK_true h
      omega
    · have := relK_lt h1
      unfold peelW
      rw [if_pos h2]
      omega
/-- only erased bytes are wrong -/
structure EraI (C : List UInt8) (f : Nat) (l : List UInt8) (S : List Nat) : Prop where
  len : l.length = 2352
  ag : ∀ o, o < 2352 → Gf.co l o ≠ Gf.co C o → o ∈ S
  lo : ∀ o, o ∈ S → f ≤ o ∧ o < 2352
theorem era_step {C l : List UInt8} {f k : Nat} {S : List Nat} (ch : Bool) (h : EraI C f l S) (hs : sndL C f = true) (hk : k < 138) : EraI C f (stepW f l S ch (wordN k)).1 (stepW f l S ch (wordN k)).2.1 ∧ (stepW f l S ch (wordN k)).2.1 = peelW S k := by
  unfold peelW
  have h3 : Gf.outs (tkL l f (wordN k)) (tkL C f (wordN k)) (posK S (wordN k) (wordN k).length) = [] := List.eq_nil_iff_forall_not_mem.2 fun i hi => by
    obtain ⟨a1, b, c, d⟩ := outs_tk hi
    refine d (mem_posK.2 ⟨by rw [wl_eq]; exact a1, ?_⟩)
    rw [wordN_at a1]
    exact h.ag _ (wf_lt hk a1).2 c
  by_cases hp : (posK S (wordN k) (wordN k).length).length ≤ 2
  · obtain ⟨h1, h2, h4, h5⟩ := step_fix (l := l) (S := S) ch hk hs h.len (by rw [h3, List.length_nil]; omega)
    rw [if_pos hp]
    refine ⟨⟨h2, fun o ho hne => ?_, fun o ho => ?_⟩, h1⟩
    · rw [h1]
      by_cases hm : o ∈ wordN k
      · rcases Nat.lt_or_ge o f with hf | hf
        · rw [h5 o (.inr hf)] at hne
          have := (h.lo o (h.ag o ho hne)).1
          omega
        · exact absurd (h4 o hm hf) hne
      · rw [h5 o (.inl hm)] at hne
        exact mem_relK.2 ⟨h.ag o ho hne, hm⟩
    · rw [h1] at ho
      exact h.lo o (mem_relK.1 ho).1
  · rw [if_neg hp, step_far ch (by omega)]
    exact ⟨h, rfl⟩
theorem era_pass {C l : List UInt8} {f : Nat} {S : List Nat} (h : EraI C f l S) (hs : sndL C f = true) : ∀ k, k ≤ 138 → EraI C f (passW f l S k).1 (passW f l S k).2.1 ∧ (passW f l S k).2.1 = peelK S k
  | 0, _ => ⟨h, rfl⟩
  | k + 1, hk => by
    obtain ⟨h1, h2⟩ := era_pass h hs k (by omega)
    have := era_step (k := k) (passW f l S k).2.2 h1 hs (by omega)
    refine ⟨this.1, this.2.trans ?_⟩
    rw [h2]
    rfl
attribute [local irreducible] passW peelP in
theorem era_dec {C : List UInt8} {f : Nat} (hs : sndL C f = true) : ∀ (n : Nat) (l : List UInt8) (S : List Nat) (i : Nat), EraI C f l S → (0 < i → peelP S = S) → i ≤ 16 → 17 * S.length + 16 - i < n →
    EraI C f (decL f n l S i).1 (decL f n l S i).2 ∧ peelP (decL f n l S i).2 = (decL f n l S i).2 ∧ ∃ j, (decL f n l S i).2 = itP j S
  | 0, l, S, i, _, _, _, hn => by omega
  | n + 1, l, S, i, h, hi, hi16, hn => by
    obtain ⟨h1, h2⟩ := era_pass h hs 138 (Nat.le_refl _)
    have h2 : (passW f l S 138).2.1 = peelP S := h2.trans (peelP_def S).symm
    simp only [decL]
    revert h1 h2
    generalize passW f l S 138 = p
    intro h1 h2
    split
    · exact ⟨h, hi (by omega), 0, rfl⟩
    · split
      · rename_i h3
        rw [h2] at h1 h3 ⊢
        obtain ⟨a, b, j, c⟩ := era_dec hs n p.1 (peelP S) 0 h1 (fun h => absurd h (Nat.lt_irrefl 0)) (by omega) (by omega)
        exact ⟨a, b, j + 1, c⟩
      · rename_i h3
        rw [h2] at h1 h3 ⊢
        have h4 := peelP_eq h3
        split
        · rw [h4] at h1 ⊢
          exact era_dec hs n p.1 S (i + 1) h1 (fun _ => h4) (by omega) (by omega)
        · exact ⟨h1, by rw [h4, h4], 1, rfl⟩
/-- what peels away is restored -/
theorem era_fix {C x : List UInt8} {f : Nat} {S : List Nat} (hs : sndL C f = true) (hC : C.length = 2352) (h : EraI C f x S) (hp : peelR S = []) : decP f x S = (C, []) := by
  obtain ⟨h1, h2, j, h3⟩ := era_dec hs (17 * S.length + 17) x S 0 h (fun h => absurd h (Nat.lt_irrefl 0)) (by omega) (by omega)
  have h4 : (decP f x S).2 = [] := by
    show (decL f (17 * S.length + 17) x S 0).2 = []
    rw [h3] at h2 ⊢
    rw [peelR_of h2, hp]
  have h5 : (decP f x S).1 = C := by
    have h6 : EraI C f (decP f x S).1 (decP f x S).2 := h1
    refine Gf.co_ext (by rw [h6.len, hC]) fun o ho => ?_
    rw [h6.len] at ho
    refine Classical.byContradiction fun hne => ?_
    have := h6.ag o ho hne
    rw [h4] at this
    cases this
  exact Prod.ext h5 h4
end Go.Proofs.Ytknfkhackmnnaaa
