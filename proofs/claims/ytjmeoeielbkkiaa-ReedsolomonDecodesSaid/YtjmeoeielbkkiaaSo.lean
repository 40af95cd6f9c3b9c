import Derived.Test.YtjmeoeielbkkiaaDe
set_option linter.unusedVariables false
namespace Go.Proofs.Ytjmeoeielbkkiaa
/-! the plain law of the reference's equations -/
/-- a vector that satisfies all equations -/
def Zr (p n : Nat) (M : Nat → Nat → UInt8) (y : Nat → UInt8) : Prop := ∀ i, i < p → Gf.S (n + 1) (fun j => Gf.mul (M i j) (y j)) = 0
def Eqv (p n : Nat) (M M' : Nat → Nat → UInt8) : Prop := ∀ y, Zr p n M y ↔ Zr p n M' y
theorem Eqv.trans {p n : Nat} {A B C : Nat → Nat → UInt8} (h : Eqv p n A B) (k : Eqv p n B C) : Eqv p n A C := fun y => (h y).trans (k y)
theorem Eqv.refl (p n : Nat) (A : Nat → Nat → UInt8) : Eqv p n A A := fun _ => Iff.rfl
theorem mul_cancel {x c : UInt8} (hc : c ≠ 0) (h : Gf.mul x c = 0) : x = 0 := by
  have : Gf.mul (Gf.mul x c) (Gf.inv c) = x := by rw [Gf.mul_assoc, Gf.mul_inv hc, Gf.mul_one]
  rw [← this, h, Gf.zero_mul]
def swapM (M : Nat → Nat → UInt8) (k q : Nat) : Nat → Nat → UInt8 := fun i => if i = q then M k else if i = k then M q else M i
def scaleM (M : Nat → Nat → UInt8) (k : Nat) (c : UInt8) : Nat → Nat → UInt8 := fun i => if i = k then fun j => Gf.mul (M k j) c else M i
def addMx (M : Nat → Nat → UInt8) (k a : Nat) : Nat → Nat → UInt8 := fun i => if i = a then fun j => M a j ^^^ Gf.mul (M k j) (M a k) else M i
theorem swapM_q (M : Nat → Nat → UInt8) (k q : Nat) : swapM M k q q = M k := by simp [swapM]
theorem swapM_k (M : Nat → Nat → UInt8) (k q : Nat) : swapM M k q k = M q := by
  unfold swapM
  by_cases h : k = q
  · rw [if_pos h, h]
  · rw [if_neg h, if_pos rfl]
theorem swapM_o (M : Nat → Nat → UInt8) {k q i : Nat} (h1 : i ≠ q) (h2 : i ≠ k) : swapM M k q i = M i := by simp [swapM, h1, h2]
theorem scaleM_k (M : Nat → Nat → UInt8) (k : Nat) (c : UInt8) : scaleM M k c k = fun j => Gf.mul (M k j) c := by simp [scaleM]
theorem scaleM_o (M : Nat → Nat → UInt8) {k i : Nat} (c : UInt8) (h : i ≠ k) : scaleM M k c i = M i := by simp [scaleM, h]
theorem addMx_a (M : Nat → Nat → UInt8) (k a : Nat) : addMx M k a a = fun j => M a j ^^^ Gf.mul (M k j) (M a k) := by simp [addMx]
theorem addMx_o (M : Nat → Nat → UInt8) {k a i : Nat} (h : i ≠ a) : addMx M k a i = M i := by simp [addMx, h]
theorem eqv_swap {p n : Nat} (M : Nat → Nat → UInt8) {k q : Nat} (hk : k < p) (hq : q < p) : Eqv p n M (swapM M k q) := fun y => by
  constructor
  · intro h i hi
    by_cases h1 : i = q
    · rw [h1, swapM_q]; exact h k hk
    · by_cases h2 : i = k
      · rw [h2, swapM_k]; exact h q hq
      · rw [swapM_o M h1 h2]; exact h i hi
  · intro h i hi
    by_cases h1 : i = q
    · have := h k hk
      rw [swapM_k] at this
      rw [h1]; exact this
    · by_cases h2 : i = k
      · have := h q hq
        rw [swapM_q] at this
        rw [h2]; exact this
      · have := h i hi
        rw [swapM_o M h1 h2] at this
        exact this
theorem S_scale (n : Nat) (r y : Nat → UInt8) (c : UInt8) : Gf.S n (fun j => Gf.mul (Gf.mul (r j) c) (y j)) = Gf.mul (Gf.S n (fun j => Gf.mul (r j) (y j))) c := by
  rw [Gf.S_mul]
  exact Gf.S_congr fun j _ => by rw [Gf.mul_assoc, Gf.mul_comm c, ← Gf.mul_assoc]
theorem eqv_scale {p n : Nat} (M : Nat → Nat → UInt8) {k : Nat} {c : UInt8} (hk : k < p) (hc : c ≠ 0) : Eqv p n M (scaleM M k c) := fun y => by
  have e : Gf.S (n + 1) (fun j => Gf.mul (scaleM M k c k j) (y j)) = Gf.mul (Gf.S (n + 1) (fun j => Gf.mul (M k j) (y j))) c := by rw [scaleM_k, S_scale]
  constructor
  · intro h i hi
    by_cases h1 : i = k
    · rw [h1, e, h k hk, Gf.zero_mul]
    · rw [scaleM_o M c h1]; exact h i hi
  · intro h i hi
    have := h i hi
    by_cases h1 : i = k
    · rw [h1, e] at this
      rw [h1]
      exact mul_cancel hc this
    · rw [scaleM_o M c h1] at this
      exact this
theorem eqv_add {p n : Nat} (M : Nat → Nat → UInt8) {k a : Nat} (hk : k < p) (ha : a < p) (hne : a ≠ k) : Eqv p n M (addMx M k a) := fun y => by
  have e : Gf.S (n + 1) (fun j => Gf.mul (addMx M k a a j) (y j)) = Gf.S (n + 1) (fun j => Gf.mul (M a j) (y j)) ^^^ Gf.mul (Gf.S (n + 1) (fun j => Gf.mul (M k j) (y j))) (M a k) := by
    rw [addMx_a, ← S_scale, ← Gf.S_xor]
    exact Gf.S_congr fun j _ => Gf.add_mul _ _ _
  constructor
  · intro h i hi
    by_cases h1 : i = a
    · rw [h1, e, h a ha, h k hk, Gf.zero_mul, UInt8.xor_zero]
    · rw [addMx_o M h1]; exact h i hi
  · intro h i hi
    have hkk := h k hk
    rw [addMx_o M (fun h => hne h.symm)] at hkk
    have := h i hi
    by_cases h1 : i = a
    · rw [h1, e, hkk, Gf.zero_mul, UInt8.xor_zero] at this
      rw [h1]
      exact this
    · rw [addMx_o M h1] at this
      exact this
/-- the first columns are unit vectors -/
def Un (p k : Nat) (M : Nat → Nat → UInt8) : Prop := ∀ i, i < p → ∀ j, j < k → M i j = if i = j then 1 else 0
theorem S_unit {k i : Nat} {f : Nat → UInt8} : Gf.S k (fun j => Gf.mul (if i = j then 1 else 0) (f j)) = if i < k then f i else 0 := by
  by_cases h : i < k
  · rw [if_pos h, Gf.S_single h (fun j _ hj => by rw [if_neg (fun e => hj e.symm), Gf.zero_mul]), if_pos rfl, Gf.one_mul]
  · rw [if_neg h]
    exact Gf.S_zero' fun j hj => by rw [if_neg (by omega), Gf.zero_mul]
theorem no_pivot {p n k : Nat} {M : Nat → Nat → UInt8} (hk : k < n) (hU : Un p k M) (h : ∀ i, k ≤ i → i < p → M i k = 0) : ∃ y : Nat → UInt8, y k = 1 ∧ y n = 0 ∧ Zr p n M y := by
  obtain ⟨y, hy⟩ : ∃ y : Nat → UInt8, y = fun j => if j < k then M j k else if j = k then 1 else 0 := ⟨_, rfl⟩
  have hlt : ∀ j, j < k → y j = M j k := fun j hj => by rw [hy]; exact if_pos hj
  have hkk : y k = 1 := by rw [hy]; simp
  have hgt : ∀ j, k < j → y j = 0 := fun j hj => by
    rw [hy]
    show (if j < k then M j k else if j = k then 1 else 0) = 0
    rw [if_neg (by omega), if_neg (by omega)]
  clear hy
  refine ⟨y, hkk, hgt n hk, fun i hi => ?_⟩
  rw [Gf.S_ext (n := k + 1) (by omega) (fun j h1 h2 => by rw [hgt j (by omega), Gf.mul_zero]), Gf.S]
  rw [Gf.S_congr (g := fun j => Gf.mul (if i = j then 1 else 0) (M j k)) (fun j hj => by rw [hU i hi j hj, hlt j hj]), S_unit, hkk, Gf.mul_one]
  by_cases hik : i < k
  · rw [if_pos hik, UInt8.xor_self]
  · rw [if_neg hik, h i (by omega) hi, UInt8.xor_self]
theorem zr_final {p n : Nat} {M : Nat → Nat → UInt8} (hn : n ≤ p) (hU : Un p n M) {y : Nat → UInt8} (hy : y n = 1) : Zr p n M y ↔ (∀ i, i < n → y i = M i n) ∧ ∀ i, n ≤ i → i < p → M i n = 0 := by
  have e : ∀ i, i < p → Gf.S (n + 1) (fun j => Gf.mul (M i j) (y j)) = (if i < n then y i else 0) ^^^ M i n := fun i hi => by
    rw [Gf.S, hy, Gf.mul_one, Gf.S_congr (g := fun j => Gf.mul (if i = j then 1 else 0) (y j)) (fun j hj => by rw [hU i hi j hj]), S_unit]
  constructor
  · intro h
    refine ⟨fun i hi => ?_, fun i h1 h2 => ?_⟩
    · have := h i (by omega)
      rw [e i (by omega), if_pos hi] at this
      exact Gf.xor_eq_zero this
    · have := h i h2
      rw [e i h2, if_neg (by omega), UInt8.zero_xor] at this
      exact this
  · rintro ⟨h1, h2⟩ i hi
    rw [e i hi]
    by_cases hin : i < n
    · rw [if_pos hin, h1 i hin, UInt8.xor_self]
    · rw [if_neg hin, h2 i (by omega) hi, UInt8.xor_self]
/-! one step of the elimination -/
def clearM (M : Nat → Nat → UInt8) (k : Nat) : Nat → Nat → Nat → UInt8
  | 0 => M
  | a + 1 => if a = k then clearM M k a else addMx (clearM M k a) k a
theorem clearM_at {M : Nat → Nat → UInt8} {k : Nat} : ∀ (a i : Nat), clearM M k a i = if i < a ∧ i ≠ k then fun j => M i j ^^^ Gf.mul (M k j) (M i k) else M i
  | 0, i => by simp [clearM]
  | a + 1, i => by
    have ih := clearM_at (M := M) (k := k) a
    have hkk : clearM M k a k = M k := by rw [ih k, if_neg (fun h => h.2 rfl)]
    have haa : clearM M k a a = M a := by rw [ih a, if_neg (fun h => by omega)]
    simp only [clearM]
    by_cases hak : a = k
    · rw [if_pos hak, ih i]
      by_cases h : i < a ∧ i ≠ k
      · rw [if_pos h, if_pos ⟨by omega, h.2⟩]
      · rw [if_neg h, if_neg (fun h2 => h ⟨by have := h2.1; have := h2.2; omega, h2.2⟩)]
    · rw [if_neg hak]
      by_cases hia : i = a
      · rw [hia, addMx_a, hkk, haa, if_pos ⟨by omega, hak⟩]
      · rw [addMx_o _ hia, ih i]
        by_cases h : i < a ∧ i ≠ k
        · rw [if_pos h, if_pos ⟨by omega, h.2⟩]
        · rw [if_neg h, if_neg (fun h2 => h ⟨by omega, h2.2⟩)]
theorem eqv_clear {p n : Nat} (M : Nat → Nat → UInt8) {k : Nat} (hk : k < p) : ∀ a, a ≤ p → Eqv p n M (clearM M k a)
  | 0, _ => Eqv.refl _ _ _
  | a + 1, ha => by
    have ih := eqv_clear (n := n) M hk a (by omega)
    simp only [clearM]
    by_cases hak : a = k
    · rw [if_pos hak]; exact ih
    · rw [if_neg hak]; exact ih.trans (eqv_add _ hk (by omega) hak)
def stepM (M : Nat → Nat → UInt8) (p k q : Nat) : Nat → Nat → UInt8 := clearM (scaleM (swapM M k q) k (Gf.inv (M q k))) k p
theorem eqv_step {p n : Nat} (M : Nat → Nat → UInt8) {k q : Nat} (hk : k < p) (hq : q < p) (h0 : M q k ≠ 0) : Eqv p n M (stepM M p k q) :=
  ((eqv_swap M hk hq).trans (eqv_scale _ hk (fun e => by have := Gf.mul_inv h0; rw [e, Gf.mul_zero] at this; exact absurd this (by decide)))).trans (eqv_clear _ hk p (Nat.le_refl _))
theorem un_step {p k q : Nat} {M : Nat → Nat → UInt8} (hU : Un p k M) (hk : k < p) (hkq : k ≤ q) (hq : q < p) (h0 : M q k ≠ 0) : Un p (k + 1) (stepM M p k q) := by
  obtain ⟨N, hN⟩ : ∃ N, N = scaleM (swapM M k q) k (Gf.inv (M q k)) := ⟨_, rfl⟩
  have hs : ∀ i, i < p → ∀ j, j < k → swapM M k q i j = if i = j then 1 else 0 := fun i hi j hj => by
    by_cases h1 : i = q
    · rw [h1, swapM_q, hU k hk j hj, if_neg (by omega), if_neg (by omega)]
    · by_cases h2 : i = k
      · rw [h2, swapM_k, hU q hq j hj, if_neg (by omega), if_neg (by omega)]
      · rw [swapM_o M h1 h2]; exact hU i hi j hj
  have hNk : ∀ j, N k j = Gf.mul (M q j) (Gf.inv (M q k)) := fun j => by
    rw [hN, scaleM_k, swapM_k]
  have hNo : ∀ i, i ≠ k → N i = swapM M k q i := fun i hi => by
    rw [hN, scaleM_o _ _ hi]
  have hkk : N k k = 1 := by rw [hNk, Gf.mul_inv h0]
  have hkj : ∀ j, j < k → N k j = 0 := fun j hj => by
    rw [hNk, hU q hq j hj, if_neg (by omega), Gf.zero_mul]
  unfold stepM
  rw [← hN]
  intro i hi j hj
  rw [clearM_at]
  by_cases hik : i = k
  · rw [if_neg (fun h => h.2 hik), hik]
    by_cases hjk : j = k
    · rw [hjk, hkk, if_pos rfl]
    · rw [hkj j (by omega), if_neg (fun e => hjk e.symm)]
  · rw [if_pos ⟨hi, hik⟩]
    show N i j ^^^ Gf.mul (N k j) (N i k) = _
    by_cases hjk : j = k
    · rw [hjk, hkk, Gf.one_mul, UInt8.xor_self, if_neg hik]
    · rw [hkj j (by omega), Gf.zero_mul, UInt8.xor_zero, hNo i hik, hs i hi j (by omega)]
/-! the words that the equations speak of -/
def patchN (l : List UInt8) (at_ : List Nat) (y : Nat → UInt8) : Nat → List UInt8
  | 0 => l
  | k + 1 => (patchN l at_ y k).set (at_.getD k 0) (Gf.co (patchN l at_ y k) (at_.getD k 0) ^^^ y k)
theorem patchN_length (l : List UInt8) (at_ : List Nat) (y : Nat → UInt8) : ∀ k, (patchN l at_ y k).length = l.length
  | 0 => rfl
  | k + 1 => by rw [patchN, List.length_set, patchN_length l at_ y k]
theorem hor_set {l : List UInt8} {t : Nat} (ht : t < l.length) (c x : UInt8) : Gf.hor (l.set t (Gf.co l t ^^^ c)) x = Gf.hor l x ^^^ Gf.mul c (Gf.pw x (l.length - 1 - t)) := by
  have h := Gf.hor_addAt (R := l) (h := [c]) (i := t) (by simp; omega) x
  have e1 : Gf.addAt l t [c] = l.set t (Gf.co l t ^^^ c) := by simp [Gf.addAt]
  have e2 : Gf.hor [c] x = c := by
    have := Gf.hor_snoc [] c x
    rw [List.nil_append] at this
    rw [this]
    simp [Gf.hor, Gf.zero_mul]
  rw [e1, e2, List.length_singleton, show l.length - t - 1 = l.length - 1 - t by omega] at h
  exact h
theorem hor_patch {l : List UInt8} {at_ : List Nat} {y : Nat → UInt8} (x : UInt8) : ∀ {k : Nat}, (∀ j, j < k → at_.getD j 0 < l.length) → Gf.hor (patchN l at_ y k) x = Gf.hor l x ^^^ Gf.S k (fun j => Gf.mul (y j) (Gf.pw x (l.length - 1 - at_.getD j 0)))
  | 0, _ => by simp [patchN, Gf.S]
  | k + 1, h => by
    rw [patchN, hor_set (by rw [patchN_length]; exact h k (by omega)), hor_patch x (fun j hj => h j (by omega)), patchN_length, Gf.S, UInt8.xor_assoc]
theorem patch_out {l : List UInt8} {at_ : List Nat} {y : Nat → UInt8} {t : Nat} : ∀ {k : Nat}, (∀ j, j < k → at_.getD j 0 < l.length) → (∀ j, j < k → at_.getD j 0 ≠ t) → Gf.co (patchN l at_ y k) t = Gf.co l t
  | 0, _, _ => rfl
  | k + 1, hb, h => by
    rw [patchN, Gf.co_set (by rw [patchN_length]; exact hb k (by omega)), if_neg (fun e => h k (by omega) e.symm), patch_out (fun j hj => hb j (by omega)) (fun j hj => h j (by omega))]
theorem patch_in {l : List UInt8} {at_ : List Nat} {y : Nat → UInt8} {i : Nat} : ∀ {k : Nat}, (∀ j, j < k → at_.getD j 0 < l.length) → i < k → (∀ j, j < k → at_.getD j 0 = at_.getD i 0 → j = i) → Gf.co (patchN l at_ y k) (at_.getD i 0) = Gf.co l (at_.getD i 0) ^^^ y i
  | 0, _, h, _ => by omega
  | k + 1, hb, h, hj => by
    rw [patchN, Gf.co_set (by rw [patchN_length]; exact hb k (by omega))]
    by_cases e : i = k
    · subst e
      rw [if_pos rfl, patch_out (fun j hj' => hb j (by omega)) (fun j hj' e => by have := hj j (by omega) e; omega)]
    · rw [if_neg (fun e2 => by have := hj k (by omega) e2.symm; omega)]
      exact patch_in (fun j hj' => hb j (by omega)) (by omega) (fun j hj' => hj j (by omega))
/-- the equations as they are set up -/
def M0 (l : List UInt8) (at_ : List Nat) : Nat → Nat → UInt8 := fun i j => if j < at_.length then Gf.al (i * (l.length - 1 - at_.getD j 0)) else Gf.hor l (Gf.al i)
theorem zr_m0 {l : List UInt8} {at_ : List Nat} {p : Nat} {y : Nat → UInt8} (hb : ∀ j, j < at_.length → at_.getD j 0 < l.length) (i : Nat) :
    Gf.S (at_.length + 1) (fun j => Gf.mul (M0 l at_ i j) (y j)) = Gf.mul (Gf.hor l (Gf.al i)) (y at_.length) ^^^ Gf.S at_.length (fun j => Gf.mul (y j) (Gf.pw (Gf.al i) (l.length - 1 - at_.getD j 0))) := by
  rw [Gf.S, UInt8.xor_comm]
  congr 1
  · unfold M0
    rw [if_neg (Nat.lt_irrefl _)]
  · refine Gf.S_congr fun j hj => ?_
    unfold M0
    rw [if_pos hj, Gf.pw_al, Gf.mul_comm]
structure AtOk (n : Nat) (at_ : List Nat) : Prop where
  lt : ∀ j, j < at_.length → at_.getD j 0 < n
  inj : ∀ i j, i < at_.length → j < at_.length → at_.getD j 0 = at_.getD i 0 → j = i
theorem zr_one {l : List UInt8} {at_ : List Nat} {p : Nat} {y : Nat → UInt8} (h : AtOk l.length at_) (hy : y at_.length = 1) : Zr p at_.length (M0 l at_) y ↔ Gf.IsCw (patchN l at_ y at_.length) p := by
  unfold Zr Gf.IsCw
  refine forall_congr' fun i => forall_congr' fun hi => ?_
  rw [zr_m0 (p := p) h.lt i, hy, Gf.mul_one, hor_patch _ h.lt]
theorem zr_null {l : List UInt8} {at_ : List Nat} {p : Nat} {y : Nat → UInt8} (h : AtOk l.length at_) (hn : l.length ≤ 255) (hp : at_.length ≤ p) (hy : y at_.length = 0) (hz : Zr p at_.length (M0 l at_) y) {k : Nat} (hk : k < at_.length) : y k = 0 := by
  have hl : (List.replicate l.length (0 : UInt8)).length = l.length := List.length_replicate
  have hb : ∀ j, j < at_.length → at_.getD j 0 < (List.replicate l.length (0 : UInt8)).length := fun j hj => by rw [hl]; exact h.lt j hj
  have hcw : Gf.IsCw (patchN (List.replicate l.length 0) at_ y at_.length) p := fun i hi => by
    rw [hor_patch _ hb, Gf.hor_zeros, UInt8.zero_xor, hl]
    have := hz i hi
    rw [zr_m0 (p := p) h.lt i, hy, Gf.mul_zero, UInt8.zero_xor] at this
    exact this
  have e := Gf.cw_unique (p := p) (w := patchN (List.replicate l.length 0) at_ y at_.length) (w' := List.replicate l.length 0) (by rw [patchN_length, hl]; exact hn) (by rw [patchN_length]) hcw (fun j _ => Gf.hor_zeros _ _) (T := at_) (fun t ht => by
    rw [patchN_length, hl]
    obtain ⟨j, hj, rfl⟩ := List.getElem_of_mem ht
    have := h.lt j hj
    rw [List.getD_eq_getElem?_getD, List.getElem?_eq_getElem hj] at this
    exact this) hp (fun t ht hne => Classical.byContradiction fun hT => hne (patch_out hb (fun j hj e => hT (by
      rw [← e, List.getD_eq_getElem?_getD, List.getElem?_eq_getElem hj]
      exact List.getElem_mem hj))))
  have h2 := patch_in (l := List.replicate l.length 0) (at_ := at_) (y := y) hb hk (fun j hj => h.inj k j hk hj)
  rw [e, Gf.co_replicate, UInt8.zero_xor] at h2
  exact h2.symm
/-- a codeword that differs at these positions only -/
def FillsN (l : List UInt8) (p : Nat) (at_ : List Nat) (cw : List UInt8) : Prop := cw.length = l.length ∧ Gf.IsCw cw p ∧ Gf.outs l cw at_ = []
theorem mem_at {at_ : List Nat} {t : Nat} (h : t ∈ at_) : ∃ j, j < at_.length ∧ at_.getD j 0 = t := by
  obtain ⟨j, hj, rfl⟩ := List.getElem_of_mem h
  exact ⟨j, hj, by rw [List.getD_eq_getElem?_getD, List.getElem?_eq_getElem hj]; rfl⟩
theorem fills_yes {l : List UInt8} {at_ : List Nat} {p : Nat} {M : Nat → Nat → UInt8} (h : AtOk l.length at_) (hp : at_.length ≤ p) (hE : Eqv p at_.length (M0 l at_) M) (hU : Un p at_.length M) (hz : ∀ i, at_.length ≤ i → i < p → M i at_.length = 0) :
    FillsN l p at_ (patchN l at_ (fun i => if i < at_.length then M i at_.length else 1) at_.length) := by
  refine ⟨patchN_length _ _ _ _, (zr_one h (by simp)).1 ((hE _).2 ((zr_final hp hU (by simp)).2 ⟨fun i hi => by rw [if_pos hi], hz⟩)), ?_⟩
  rw [List.eq_nil_iff_forall_not_mem]
  intro t ht
  obtain ⟨h1, h2, h3⟩ := Gf.mem_outs.1 ht
  refine h2 (patch_out h.lt fun j hj e => h3 ?_).symm
  rw [← e, List.getD_eq_getElem?_getD, List.getElem?_eq_getElem hj]
  exact List.getElem_mem hj
theorem fills_no {l cw : List UInt8} {at_ : List Nat} {p : Nat} {M : Nat → Nat → UInt8} (h : AtOk l.length at_) (hp : at_.length ≤ p) (hE : Eqv p at_.length (M0 l at_) M) (hU : Un p at_.length M) (hc : FillsN l p at_ cw) : ∀ i, at_.length ≤ i → i < p → M i at_.length = 0 := by
  obtain ⟨y, hy⟩ : ∃ y : Nat → UInt8, y = fun j => if j < at_.length then Gf.co l (at_.getD j 0) ^^^ Gf.co cw (at_.getD j 0) else 1 := ⟨_, rfl⟩
  have hyn : y at_.length = 1 := by rw [hy]; simp
  have e : patchN l at_ y at_.length = cw := by
    refine Gf.co_ext (by rw [patchN_length, hc.1]) fun t ht => ?_
    rw [patchN_length] at ht
    by_cases hm : t ∈ at_
    · obtain ⟨j, hj, rfl⟩ := mem_at hm
      rw [patch_in h.lt hj (fun i hi => h.inj j i hj hi), hy]
      simp only [if_pos hj]
      rw [← UInt8.xor_assoc, UInt8.xor_self, UInt8.zero_xor]
    · rw [patch_out h.lt (fun j hj e => hm (by rw [← e, List.getD_eq_getElem?_getD, List.getElem?_eq_getElem hj]; exact List.getElem_mem hj))]
      refine Classical.byContradiction fun hne => ?_
      have := Gf.mem_outs.2 ⟨ht, hne, hm⟩
      rw [hc.2.2] at this
      cases this
  have hcw : Gf.IsCw (patchN l at_ y at_.length) p := by rw [e]; exact hc.2.1
  exact ((zr_final hp hU hyn).1 ((hE y).1 ((zr_one h hyn).2 hcw))).2
end Go.Proofs.Ytjmeoeielbkkiaa
