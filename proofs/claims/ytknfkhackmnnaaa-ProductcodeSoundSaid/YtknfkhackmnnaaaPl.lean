import Derived.Test.YtknfkhackmnnaaaW3
set_option linter.unusedVariables false
namespace Go.Proofs.Ytknfkhackmnnaaa
/-! the plain law of the words: where each offset stands -/
def cntF (g : Nat → Nat) (a : Nat) : Nat → Nat
  | 0 => 0
  | j + 1 => cntF g a j + if g j = a then 1 else 0
def sumF (h : Nat → Nat) : Nat → Nat
  | 0 => 0
  | j + 1 => sumF h j + h j
theorem cntF_le (g : Nat → Nat) (a : Nat) : ∀ j, cntF g a j ≤ j
  | 0 => Nat.le_refl _
  | j + 1 => by
    have := cntF_le g a j
    simp only [cntF]
    split <;> omega
theorem cntF_zero {g : Nat → Nat} {a : Nat} : ∀ {N : Nat}, (∀ j, j < N → g j ≠ a) → cntF g a N = 0
  | 0, _ => rfl
  | N + 1, h => by
    simp only [cntF]
    rw [cntF_zero (fun j hj => h j (by omega)), if_neg (h N (by omega))]
theorem cntF_one {g : Nat → Nat} {a j0 : Nat} : ∀ {N : Nat}, j0 < N → g j0 = a → (∀ j, j < N → g j = a → j = j0) → cntF g a N = 1
  | 0, h, _, _ => by omega
  | N + 1, h, h1, h2 => by
    simp only [cntF]
    by_cases e : j0 = N
    · subst e
      rw [if_pos h1, cntF_zero (fun j hj hg => by have := h2 j (by omega) hg; omega)]
    · rw [cntF_one (show j0 < N by omega) h1 (fun j hj => h2 j (by omega)), if_neg (fun hg => by have := h2 N (by omega) hg; omega)]
theorem cntF_congr {g g' : Nat → Nat} {a : Nat} : ∀ {N : Nat}, (∀ j, j < N → g j = g' j) → cntF g a N = cntF g' a N
  | 0, _ => rfl
  | N + 1, h => by
    simp only [cntF]
    rw [cntF_congr (fun j hj => h j (by omega)), h N (by omega)]
theorem sumF_zero {h : Nat → Nat} : ∀ {N : Nat}, (∀ n, n < N → h n = 0) → sumF h N = 0
  | 0, _ => rfl
  | N + 1, hz => by
    simp only [sumF]
    rw [sumF_zero (fun j hj => hz j (by omega)), hz N (by omega)]
theorem sumF_one {h : Nat → Nat} {n0 : Nat} : ∀ {N : Nat}, n0 < N → h n0 = 1 → (∀ n, n < N → n ≠ n0 → h n = 0) → sumF h N = 1
  | 0, h, _, _ => by omega
  | N + 1, h, h1, h2 => by
    simp only [sumF]
    by_cases e : n0 = N
    · subst e
      rw [h1, sumF_zero (fun n hn => h2 n (by omega) (by omega))]
    · rw [sumF_one (show n0 < N by omega) h1 (fun n hn => h2 n (by omega)), h2 N (by omega) (fun h => e h.symm)]
def pf (n i : Nat) : Nat := 12 + 2 * (n / 2 + 43 * i) + n % 2
def qf (n i : Nat) : Nat := if i < 43 then 12 + 2 * ((44 * i + 43 * (n / 2)) % 1118) + n % 2 else if i = 43 then 12 + 2 * (1118 + n / 2) + n % 2 else 12 + 2 * (1144 + n / 2) + n % 2
theorem pwN_at (n j : Nat) (h : j < 26) : (pwN n 26).getD j 0 = pf n j := by
  rw [List.getD_eq_getElem?_getD]
  simp [pwN, pf, h]
theorem qwN_at (n j : Nat) (h : j < 45) : (qwN n).getD j 0 = qf n j := by
  rw [List.getD_eq_getElem?_getD]
  unfold qwN qf
  by_cases h1 : j < 43
  · rw [if_pos h1, List.getElem?_append_left (by simpa using h1)]
    simp [h1]
  · rw [if_neg h1, List.getElem?_append_right (by simp; omega)]
    by_cases h2 : j = 43
    · subst h2
      simp
    · obtain rfl : j = 44 := by omega
      simp
def cP (a n : Nat) : Nat := cntF (pf n) a 26
def cQ (a n : Nat) : Nat := cntF (qf n) a 45
theorem part_p (a : Nat) (h1 : 12 ≤ a) (h2 : a < 2248) : sumF (cP a) 86 = 1 := by
  refine sumF_one (n0 := 2 * ((a - 12) / 2 % 43) + (a - 12) % 2) (by omega) (cntF_one (j0 := (a - 12) / 2 / 43) (by omega) ?_ ?_) (fun n hn hne => cntF_zero fun j hj => ?_)
  · unfold pf
    omega
  · intro j hj h
    unfold pf at h
    omega
  · unfold pf
    omega
theorem part_p0 (a : Nat) (h1 : 2248 ≤ a) : sumF (cP a) 86 = 0 := sumF_zero fun n hn => cntF_zero fun j hj => by
  unfold pf
  omega
theorem q_inv {i m k : Nat} (hi : i < 43) (hm : m < 26) (h : (44 * i + 43 * m) % 1118 = k) : i = k % 43 ∧ m = (k / 43 + 52 - k % 43) % 26 := by
  obtain ⟨c, hc⟩ : ∃ c, c = (44 * i + 43 * m) / 1118 := ⟨_, rfl⟩
  have hs : 44 * i + 43 * m = 1118 * c + k := by omega
  have hc2 : c ≤ 2 := by omega
  have hq : 26 * c ≤ i + m := by omega
  obtain ⟨q, hqq⟩ : ∃ q, q = i + m - 26 * c := ⟨_, rfl⟩
  have hk : k = 43 * q + i := by omega
  have e1 : k % 43 = i := by omega
  have e2 : k / 43 = q := by omega
  rw [e1, e2]
  refine ⟨rfl, ?_⟩
  rcases (show c = 0 ∨ c = 1 ∨ c = 2 by omega) with h | h | h <;> subst h <;> omega
theorem part_q (a : Nat) (h1 : 12 ≤ a) (h2 : a < 2248) : sumF (cQ a) 52 = 1 := by
  obtain ⟨k, hk⟩ : ∃ k, k = (a - 12) / 2 := ⟨_, rfl⟩
  have hk2 : k < 1118 := by omega
  refine sumF_one (n0 := 2 * ((k / 43 + 52 - k % 43) % 26) + (a - 12) % 2) (by omega) (cntF_one (j0 := k % 43) (by omega) ?_ ?_) (fun n hn hne => cntF_zero fun j hj => ?_)
  · unfold qf
    rw [if_pos (by omega)]
    have : (44 * (k % 43) + 43 * ((2 * ((k / 43 + 52 - k % 43) % 26) + (a - 12) % 2) / 2)) % 1118 = k := by
      rw [show (2 * ((k / 43 + 52 - k % 43) % 26) + (a - 12) % 2) / 2 = (k / 43 + 52 - k % 43) % 26 by omega]
      omega
    rw [this]
    omega
  · intro j hj h
    unfold qf at h
    split at h
    · exact (q_inv (k := k) (m := (2 * ((k / 43 + 52 - k % 43) % 26) + (a - 12) % 2) / 2) (by assumption) (by omega) (by omega)).1
    · split at h <;> omega
  · unfold qf
    intro h
    split at h
    · have := (q_inv (k := k) (m := n / 2) (by assumption) (by omega) (by omega)).2
      omega
    · split at h <;> omega
theorem part_q1 (a : Nat) (h1 : 2248 ≤ a) (h2 : a < 2352) : sumF (cQ a) 52 = 1 := by
  refine sumF_one (n0 := 2 * ((a - 2248) / 2 % 26) + a % 2) (by omega) (cntF_one (j0 := if a < 2300 then 43 else 44) (by split <;> omega) ?_ ?_) (fun n hn hne => cntF_zero fun j hj => ?_)
  · unfold qf
    split <;> simp <;> omega
  · intro j hj h
    unfold qf at h
    split at h
    · omega
    · split at h <;> split <;> omega
  · unfold qf
    intro h
    split at h
    · omega
    · split at h <;> omega
end Go.Proofs.Ytknfkhackmnnaaa
