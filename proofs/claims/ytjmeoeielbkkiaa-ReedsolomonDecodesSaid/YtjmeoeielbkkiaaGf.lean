set_option linter.unusedVariables false
set_option linter.unusedSimpArgs false
namespace Gf
theorem forall8 {p : UInt8 → Prop} (h : ∀ n, n < 256 → p (UInt8.ofNat n)) (a : UInt8) : p a := by
  have := h a.toNat a.toNat_lt
  rwa [UInt8.ofNat_toNat] at this

def dbl (a : UInt8) : UInt8 := if 128 ≤ a then (a + a) ^^^ 29 else a + a
def top (x : UInt8) : UInt8 := if x = 0 then 0 else 29
theorem dbl_eq (a : UInt8) : dbl a = (a <<< 1) ^^^ top (a >>> 7) := by
  refine forall8 (p := fun a => dbl a = (a <<< 1) ^^^ top (a >>> 7)) ?_ a
  decide +kernel
theorem top_of (a : UInt8) : a >>> 7 = 0 ∨ a >>> 7 = 1 := by
  refine forall8 (p := fun a => a >>> 7 = 0 ∨ a >>> 7 = 1) ?_ a
  decide +kernel
theorem xor4 (a b c d : UInt8) : (a ^^^ b) ^^^ (c ^^^ d) = (a ^^^ c) ^^^ (b ^^^ d) := by ac_rfl
theorem dbl_xor (a b : UInt8) : dbl (a ^^^ b) = dbl a ^^^ dbl b := by
  rw [dbl_eq, dbl_eq a, dbl_eq b, UInt8.shiftLeft_xor, UInt8.shiftRight_xor, xor4]
  congr 1
  rcases top_of a with h | h <;> rcases top_of b with h' | h' <;> rw [h, h'] <;> decide

def mulL : Nat → UInt8 → UInt8 → UInt8 → UInt8
  | 0, o, _, _ => o
  | k + 1, o, a, b => mulL k (if b % 2 = 1 then o ^^^ a else o) (dbl a) (b / 2)
def mul (a b : UInt8) : UInt8 := mulL 8 0 a b

theorem mulL_out (k : Nat) : ∀ (o a b : UInt8), mulL k o a b = o ^^^ mulL k 0 a b := by
  induction k with
  | zero => intro o a b; simp [mulL]
  | succ k ih =>
    intro o a b
    unfold mulL
    rw [ih, ih (if b % 2 = 1 then 0 ^^^ a else 0)]
    split
    · rw [UInt8.zero_xor, UInt8.xor_assoc]
    · rw [UInt8.zero_xor]
theorem mulL_xor (k : Nat) : ∀ (a a' b : UInt8), mulL k 0 (a ^^^ a') b = mulL k 0 a b ^^^ mulL k 0 a' b := by
  induction k with
  | zero => intro a a' b; simp [mulL]
  | succ k ih =>
    intro a a' b
    unfold mulL
    rw [mulL_out, dbl_xor, ih, mulL_out k (if b % 2 = 1 then 0 ^^^ a else 0), mulL_out k (if b % 2 = 1 then 0 ^^^ a' else 0)]
    split
    · simp only [UInt8.zero_xor]; exact xor4 _ _ _ _
    · simp only [UInt8.zero_xor]
theorem dbl_zero : dbl 0 = 0 := by decide
theorem mulL_dbl (k : Nat) : ∀ (a b : UInt8), mulL k 0 (dbl a) b = dbl (mulL k 0 a b) := by
  induction k with
  | zero => intro a b; simp [mulL, dbl_zero]
  | succ k ih =>
    intro a b
    unfold mulL
    rw [mulL_out, ih, mulL_out k (if b % 2 = 1 then 0 ^^^ a else 0)]
    split
    · rw [UInt8.zero_xor, UInt8.zero_xor, dbl_xor]
    · rw [UInt8.zero_xor, UInt8.zero_xor]
theorem mulL_zero (k : Nat) : ∀ (b : UInt8), mulL k 0 0 b = 0 := by
  induction k with
  | zero => intro b; rfl
  | succ k ih => intro b; unfold mulL; rw [dbl_zero]; split <;> simp [ih]

theorem add_mul (a a' b : UInt8) : mul (a ^^^ a') b = mul a b ^^^ mul a' b := mulL_xor 8 a a' b
theorem zero_mul (b : UInt8) : mul 0 b = 0 := mulL_zero 8 b
theorem dbl_mul (a b : UInt8) : mul (dbl a) b = dbl (mul a b) := mulL_dbl 8 a b
theorem one_mul (b : UInt8) : mul 1 b = b := by
  refine forall8 (p := fun b => mul 1 b = b) ?_ b
  decide +kernel
theorem mul_zero (a : UInt8) : mul a 0 = 0 := by
  refine forall8 (p := fun a => mul a 0 = 0) ?_ a
  decide +kernel

/-- powers of the primitive element -/
def al : Nat → UInt8
  | 0 => 1
  | n + 1 => dbl (al n)
def dblN : Nat → UInt8 → UInt8
  | 0, a => a
  | n + 1, a => dbl (dblN n a)
theorem al_mul (n : Nat) (b : UInt8) : mul (al n) b = dblN n b := by
  induction n with
  | zero => exact one_mul b
  | succ n ih => rw [al, dbl_mul, ih, dblN]
theorem al_add (m n : Nat) : mul (al m) (al n) = al (m + n) := by
  rw [al_mul]
  induction m with
  | zero => rw [dblN, Nat.zero_add]
  | succ m ih => rw [dblN, ih, Nat.succ_add, al]
/-- logarithm by search: on the run of powers -/
def lgL : Nat → UInt8 → UInt8 → Nat → Nat
  | 0, _, _, _ => 0
  | k + 1, x, p, n => if p = x then n else lgL k x (dbl p) (n + 1)
def lg (a : UInt8) : Nat := lgL 255 a 1 0
theorem lg_spec : ∀ a : UInt8, a ≠ 0 → al (lg a) = a ∧ lg a < 255 := by
  refine fun a => forall8 (p := fun a => a ≠ 0 → al (lg a) = a ∧ lg a < 255) ?_ a
  decide +kernel
theorem al_255 : al 255 = 1 := by decide +kernel
theorem al_period (n : Nat) : al (n + 255) = al n := by
  rw [← al_add, al_255]
  induction n with
  | zero => decide
  | succ n ih => rw [al, dbl_mul, ih]
theorem al_mod (n : Nat) : al (n % 255) = al n := by
  rw [← Nat.mod_add_div n 255] 
  generalize n / 255 = q
  generalize hr : n % 255 = r
  have : r < 255 := by omega
  rw [Nat.add_mul_mod_self_left, Nat.mod_eq_of_lt this]
  induction q with
  | zero => rfl
  | succ q ih => rw [ih, Nat.mul_succ, ← Nat.add_assoc, al_period]
theorem mul_comm (a b : UInt8) : mul a b = mul b a := by
  by_cases ha : a = 0
  · rw [ha, zero_mul, mul_zero]
  by_cases hb : b = 0
  · rw [hb, zero_mul, mul_zero]
  rw [← (lg_spec a ha).1, ← (lg_spec b hb).1, al_add, al_add, Nat.add_comm]
theorem mul_assoc (a b c : UInt8) : mul (mul a b) c = mul a (mul b c) := by
  by_cases ha : a = 0
  · rw [ha, zero_mul, zero_mul, zero_mul]
  by_cases hb : b = 0
  · rw [hb, zero_mul, mul_zero, zero_mul]
  by_cases hc : c = 0
  · rw [hc, mul_zero, mul_zero, mul_zero]
  rw [← (lg_spec a ha).1, ← (lg_spec b hb).1, ← (lg_spec c hc).1, al_add, al_add, al_add, al_add, Nat.add_assoc]
theorem mul_add (a b c : UInt8) : mul a (b ^^^ c) = mul a b ^^^ mul a c := by
  rw [mul_comm, add_mul, mul_comm b, mul_comm c]
theorem mul_one (a : UInt8) : mul a 1 = a := by rw [mul_comm, one_mul]
theorem al_ne (n : Nat) : al n ≠ 0 := by
  intro h
  have h1 : al (n % 255) = 0 := by rw [al_mod, h]
  have h2 : mul (al (n % 255)) (al (255 - n % 255)) = 1 := by
    rw [al_add, show n % 255 + (255 - n % 255) = 255 from by omega, al_255]
  rw [h1, zero_mul] at h2
  exact absurd h2 (by decide)
theorem lg_al (n : Nat) (h : n < 255) : lg (al n) = n := by
  revert n
  decide +kernel
theorem al_inj {m n : Nat} (hm : m < 255) (hn : n < 255) (h : al m = al n) : m = n := by
  rw [← lg_al m hm, ← lg_al n hn, h]
/-- the inverse of an element that is not 0 -/
def inv (a : UInt8) : UInt8 := if a = 0 then 0 else al (255 - lg a)
theorem mul_inv {a : UInt8} (h : a ≠ 0) : mul a (inv a) = 1 := by
  have ⟨h1, h2⟩ := lg_spec a h
  unfold inv
  rw [if_neg h]
  conv => lhs; lhs; rw [← h1]
  rw [al_add, show lg a + (255 - lg a) = 255 from by omega, al_255]
theorem inv_mul {a : UInt8} (h : a ≠ 0) : mul (inv a) a = 1 := by rw [mul_comm, mul_inv h]
theorem mul_ne {a b : UInt8} (ha : a ≠ 0) (hb : b ≠ 0) : mul a b ≠ 0 := by
  intro h
  apply hb
  rw [← one_mul b, ← inv_mul ha, mul_assoc, h, mul_zero]
theorem mul_eq_zero {a b : UInt8} (h : mul a b = 0) : a = 0 ∨ b = 0 := by
  by_cases ha : a = 0
  · exact .inl ha
  · by_cases hb : b = 0
    · exact .inr hb
    · exact absurd h (mul_ne ha hb)
theorem mul_cancel {a b c : UInt8} (ha : a ≠ 0) (h : mul a b = mul a c) : b = c := by
  rw [← one_mul b, ← one_mul c, ← inv_mul ha, mul_assoc, mul_assoc, h]
theorem inv_ne {a : UInt8} (h : a ≠ 0) : inv a ≠ 0 := by
  intro h'
  have := mul_inv h
  rw [h', mul_zero] at this
  exact absurd this (by decide)
theorem xor_eq_zero {a b : UInt8} (h : a ^^^ b = 0) : a = b := by
  have : a ^^^ b ^^^ b = b := by rw [h, UInt8.zero_xor]
  rwa [UInt8.xor_assoc, UInt8.xor_self, UInt8.xor_zero] at this
theorem xor_cancel_left {a b c : UInt8} (h : a ^^^ b = a ^^^ c) : b = c := by
  have : a ^^^ (a ^^^ b) = a ^^^ (a ^^^ c) := by rw [h]
  rwa [← UInt8.xor_assoc, ← UInt8.xor_assoc, UInt8.xor_self, UInt8.zero_xor, UInt8.zero_xor] at this
instance : Std.Associative mul := ⟨mul_assoc⟩
instance : Std.Commutative mul := ⟨mul_comm⟩
end Gf
