
set_option linter.unusedVariables false
set_option linter.unusedSimpArgs false
namespace Gf
theorem forall8 {p : UInt8 → Prop} (h : ∀ n, n < 256 → p (UInt8.ofNat n)) (a : UInt8) : p a := by
  have := h a.toNat a.toNat_lt
  rwa [UInt8.ofNat_toNat] at this

def dbl (a : UInt8) : UInt8 := if 128 ≤ a then (a + a) ^^^ 29 else a + a
def top (x : UInt8) : UInt8 := if x = 0 then 0 else 29
theorem dbl_eq (a : UInt8) : dbl a = (a <<< 1) ^^^ top (a >>> 7) := by
  refine forall8 (p := fun a => dbl a = (a <<< 1) ^^^ top (a >>> 7)) ?_ a
  decide +kernel
theorem top_of (a : UInt8) : a >>> 7 = 0 ∨ a >>> 7 = 1 := by
  refine forall8 (p := fun a => a >>> 7 = 0 ∨ a >>> 7 = 1) ?_ a
  decide +kernel
theorem xor4 (a b c d : UInt8) : (a ^^^ b) ^^^ (c ^^^ d) = (a ^^^ c) ^^^ (b ^^^ d) := by ac_rfl
theorem dbl_xor (a b : UInt8) : dbl (a ^^^ b) = dbl a ^^^ dbl b := by
  rw [dbl_eq, dbl_eq a, dbl_eq b, UInt8.shiftLeft_xor, UInt8.shiftRight_xor, xor4]
  congr 1
  rcases top_of a with h | h <;> rcases top_of b with h' | h' <;> rw [h, h'] <;> decide

def mulL : Nat → UInt8 → UInt8 → UInt8 → UInt8
  | 0, o, _, _ => o
  | k + 1, o, a, b => mulL k (if b % 2 = 1 then o ^^^ a else o) (dbl a) (b / 2)
def mul (a b : UInt8) : UInt8 := mulL 8 0 a b

theorem mulL_out (k : Nat) : ∀ (o a b : UInt8), mulL k o a b = o ^^^ mulL k 0 a b := by
  induction k with
  | zero => intro o a b; simp [mulL]
  | succ k ih =>
    intro o a b
    unfold mulL
    rw [ih, ih (if b % 2 = 1 then 0 ^^^ a else 0)]
    split
    · rw [UInt8.zero_xor, UInt8.xor_assoc]
    · rw [UInt8.zero_xor]
theorem mulL_xor (k : Nat) : ∀ (a a' b : UInt8), mulL k 0 (a ^^^ a') b = mulL k 0 a b ^^^ mulL k 0 a' b := by
  induction k with
  | zero => intro a a' b; simp [mulL]
  | succ k ih =>
    intro a a' b
    unfold mulL
    rw [mulL_out, dbl_xor, ih, mulL_out k (if b % 2 = 1 then 0 ^^^ a else 0), mulL_out k (if b % 2 = 1 then 0 ^^^ a' else 0)]
    split
    · simp only [UInt8.zero_xor]; exact xor4 _ _ _ _
    · simp only [UInt8.zero_xor]
theorem dbl_zero : dbl 0 = 0 := by decide
theorem mulL_dbl (k : Nat) : ∀ (a b : UInt8), mulL k 0 (dbl a) b = dbl (mulL k 0 a b) := by
  induction k with
  | zero => intro a b; simp [mulL, dbl_zero]
  | succ k ih =>
    intro a b
    unfold mulL
    rw [mulL_out, ih, mulL_out k (if b % 2 = 1 then 0 ^^^ a else 0)]
    split
    · rw [UInt8.zero_xor, UInt8.zero_xor, dbl_xor]
    · rw [UInt8.zero_xor, UInt8.zero_xor]
theorem mulL_zero (k : Nat) : ∀ (b : UInt8), mulL k 0 0 b = 0 := by
  induction k with
  | zero => intro b; rfl
  | succ k ih => intro b; unfold mulL; rw [dbl_zero]; split <;> simp [ih]

theorem add_mul (a a' b : UInt8) : mul (a ^^^ a') b = mul a b ^^^ mul a' b := mulL_xor 8 a a' b
theorem zero_mul (b : UInt8) : mul 0 b = 0 := mulL_zero 8 b
theorem dbl_mul (a b : UInt8) : mul (dbl a) b = dbl (mul a b) := mulL_dbl 8 a b
theorem one_mul (b : UInt8) : mul 1 b = b := by
  refine forall8 (p := fun b => mul 1 b = b) ?_ b
  decide +kernel
theorem mul_zero (a : UInt8) : mul a 0 = 0 := by
  refine forall8 (p := fun a => mul a 0 = 0) ?_ a
  decide +kernel

/-- powers of the primitive element -/
def al : Nat → UInt8
  | 0 => 1
  | n + 1 => dbl (al n)
def dblN : Nat → UInt8 → UInt8
  | 0, a => a
  | n + 1, a => dbl (dblN n a)
theorem al_mul (n : Nat) (b : UInt8) : mul (al n) b = dblN n b := by
  induction n with
  | zero => exact one_mul b
  | succ n ih => rw [al, dbl_mul, ih, dblN]
theorem al_add (m n : Nat) : mul (al m) (al n) = al (m + n) := by
  rw [al_mul]
  induction m with
  | zero => rw [dblN, Nat.zero_add]
  | succ m ih => rw [dblN, ih, Nat.succ_add, al]
/-- logarithm by search: on the run of powers -/
def lgL : Nat → UInt8 → UInt8 → Nat → Nat
  | 0, _, _, _ => 0
  | k + 1, x, p, n => if p = x then n else lgL k x (dbl p) (n + 1)
def lg (a : UInt8) : Nat := lgL 255 a 1 0
theorem lg_spec : ∀ a : UInt8, a ≠ 0 → al (lg a) = a ∧ lg a < 255 := by
  refine fun a => forall8 (p := fun a => a ≠ 0 → al (lg a) = a ∧ lg a < 255) ?_ a
  decide +kernel
theorem al_255 : al 255 = 1 := by decide +kernel
theorem al_period (n : Nat) : al (n + 255) = al n := by
  rw [← al_add, al_255]
  induction n with
  | zero => decide
  | succ n ih => rw [al, dbl_mul, ih]
theorem al_mod (n : Nat) : al (n % 255) = al n := by
  rw [← Nat.mod_add_div n 255] 
  generalize n / 255 = q
  generalize hr : n % 255 = r
  have : r < 255 := by omega
  rw [Nat.add_mul_mod_self_left, Nat.mod_eq_of_lt this]
  induction q with
  | zero => rfl
  | succ q ih => rw [ih, Nat.mul_succ, ← Nat.add_assoc, al_period]
theorem mul_comm (a b : UInt8) : mul a b = mul b a := by
  by_cases ha : a = 0
  · rw [ha, zero_mul, mul_zero]
  by_cases hb : b = 0
  · rw [hb, zero_mul, mul_zero]
  rw [← (lg_spec a ha).1, ← (lg_spec b hb).1, al_add, al_add, Nat.add_comm]
theorem mul_assoc (a b c : UInt8) : mul (mul a b) c = mul a (mul b c) := by
  by_cases ha : a = 0
  · rw [ha, zero_mul, zero_mul, zero_mul]
  by_cases hb : b = 0
  · rw [hb, zero_mul, mul_zero, zero_mul]
  by_cases hc : c = 0
  · rw [hc, mul_zero, mul_zero, mul_zero]
  rw [← (lg_spec a ha).1, ← (lg_spec b hb).1, ← (lg_spec c hc).1, al_add, al_add, al_add, al_add, Nat.add_assoc]
theorem mul_add (a b c : UInt8) : mul a (b ^^^ c) = mul a b ^^^ mul a c := by
  rw [mul_comm, add_mul, mul_comm b, mul_comm c]
theorem mul_one (a : UInt8) : mul a 1 = a := by rw [mul_comm, one_mul]
theorem al_ne (n : Nat) : al n ≠ 0 := by
  intro h
  have h1 : al (n % 255) = 0 := by rw [al_mod, h]
  have h2 : mul (al (n % 255)) (al (255 - n % 255)) = 1 := by
    rw [al_add, show n % 255 + (255 - n % 255) = 255 from by omega, al_255]
  rw [h1, zero_mul] at h2
  exact absurd h2 (by decide)
theorem lg_al (n : Nat) (h : n < 255) : lg (al n) = n := by
  revert n
  decide +kernel
theorem al_inj {m n : Nat} (hm : m < 255) (hn : n < 255) (h : al m = al n) : m = n := by
  rw [← lg_al m hm, ← lg_al n hn, h]
/-- the inverse of an element that is not 0 -/
def inv (a : UInt8) : UInt8 := if a = 0 then 0 else al (255 - lg a)
theorem mul_inv {a : UInt8} (h : a ≠ 0) : mul a (inv a) = 1 := by
  have ⟨h1, h2⟩ := lg_spec a h
  unfold inv
  rw [if_neg h]
  conv => lhs; lhs; rw [← h1]
  rw [al_add, show lg a + (255 - lg a) = 255 from by omega, al_255]
theorem inv_mul {a : UInt8} (h : a ≠ 0) : mul (inv a) a = 1 := by rw [mul_comm, mul_inv h]
theorem mul_ne {a b : UInt8} (ha : a ≠ 0) (hb : b ≠ 0) : mul a b ≠ 0 := by
  intro h
  apply hb
  rw [← one_mul b, ← inv_mul ha, mul_assoc, h, mul_zero]
theorem mul_eq_zero {a b : UInt8} (h : mul a b = 0) : a = 0 ∨ b = 0 := by
  by_cases ha : a = 0
  · exact .inl ha
  · by_cases hb : b = 0
    · exact .inr hb
    · exact absurd h (mul_ne ha hb)
theorem mul_cancel {a b c : UInt8} (ha : a ≠ 0) (h : mul a b = mul a c) : b = c := by
  rw [← one_mul b, ← one_mul c, ← inv_mul ha, mul_assoc, mul_assoc, h]
theorem inv_ne {a : UInt8} (h : a ≠ 0) : inv a ≠ 0 := by
  intro h'
  have := mul_inv h
  rw [h', mul_zero] at this
  exact absurd this (by decide)
theorem xor_eq_zero {a b : UInt8} (h : a ^^^ b = 0) : a = b := by
  have : a ^^^ b ^^^ b = b := by rw [h, UInt8.zero_xor]
  rwa [UInt8.xor_assoc, UInt8.xor_self, UInt8.xor_zero] at this
theorem xor_cancel_left {a b c : UInt8} (h : a ^^^ b = a ^^^ c) : b = c := by
  have : a ^^^ (a ^^^ b) = a ^^^ (a ^^^ c) := by rw [h]
  rwa [← UInt8.xor_assoc, ← UInt8.xor_assoc, UInt8.xor_self, UInt8.zero_xor, UInt8.zero_xor] at this
instance : Std.Associative mul := ⟨mul_assoc⟩
instance : Std.Commutative mul := ⟨mul_comm⟩
end Gf
set_option linter.unusedVariables false
set_option linter.unusedSimpArgs false
namespace Gf
def S : Nat → (Nat → UInt8) → UInt8
  | 0, _ => 0
  | n + 1, f => S n f ^^^ f n
theorem S_congr {n : Nat} {f g : Nat → UInt8} (h : ∀ i, i < n → f i = g i) : S n f = S n g := by
  induction n with
  | zero => rfl
  | succ n ih => rw [S, S, ih fun i hi => h i (by omega), h n (by omega)]
theorem S_zero (n : Nat) : S n (fun _ => 0) = 0 := by
  induction n with
  | zero => rfl
  | succ n ih => rw [S, ih, UInt8.xor_zero]
theorem S_zero' {n : Nat} {f : Nat → UInt8} (h : ∀ i, i < n → f i = 0) : S n f = 0 := by rw [S_congr h, S_zero]
theorem S_xor (n : Nat) (f g : Nat → UInt8) : S n (fun i => f i ^^^ g i) = S n f ^^^ S n g := by
  induction n with
  | zero => simp [S]
  | succ n ih => rw [S, S, S, ih, xor4]
theorem mul_S (a : UInt8) (n : Nat) (f : Nat → UInt8) : mul a (S n f) = S n (fun i => mul a (f i)) := by
  induction n with
  | zero => exact mul_zero a
  | succ n ih => rw [S, S, mul_add, ih]
theorem S_mul (a : UInt8) (n : Nat) (f : Nat → UInt8) : mul (S n f) a = S n (fun i => mul (f i) a) := by
  rw [mul_comm, mul_S]; exact S_congr fun i _ => mul_comm _ _
theorem S_swap (n m : Nat) (f : Nat → Nat → UInt8) : S n (fun i => S m (fun j => f i j)) = S m (fun j => S n (fun i => f i j)) := by
  induction n with
  | zero => simp only [S]; exact (S_zero m).symm
  | succ n ih => simp only [S]; rw [ih, S_xor]
theorem S_add (n m : Nat) (f : Nat → UInt8) : S (n + m) f = S n f ^^^ S m (fun i => f (n + i)) := by
  induction m with
  | zero => simp [S]
  | succ m ih => rw [← Nat.add_assoc, S, ih, S, UInt8.xor_assoc]
theorem S_ext {n m : Nat} {f : Nat → UInt8} (hnm : n ≤ m) (h : ∀ i, n ≤ i → i < m → f i = 0) : S m f = S n f := by
  obtain ⟨k, rfl⟩ := Nat.exists_eq_add_of_le hnm
  rw [S_add, S_zero' (n := k) fun i hi => h _ (by omega) (by omega), UInt8.xor_zero]
theorem S_single {n k : Nat} {f : Nat → UInt8} (hk : k < n) (h : ∀ i, i < n → i ≠ k → f i = 0) : S n f = f k := by
  rw [S_ext (n := k + 1) (by omega) fun i h1 h2 => h i h2 (by omega), S, S_zero' fun i hi => h i (by omega) (by omega), UInt8.zero_xor]
theorem S_succ (n : Nat) (f : Nat → UInt8) : S (n + 1) f = f 0 ^^^ S n (fun i => f (i + 1)) := by
  rw [Nat.add_comm, S_add]
  simp only [S, UInt8.zero_xor]
  congr 1
  exact S_congr fun i _ => by rw [Nat.add_comm]
theorem S_rev (n : Nat) : ∀ f : Nat → UInt8, S n f = S n (fun i => f (n - 1 - i)) := by
  induction n with
  | zero => intro f; rfl
  | succ n ih =>
    intro f
    rw [S_succ n (fun i => f (n + 1 - 1 - i)), S, ih, UInt8.xor_comm]
    congr 1
    exact S_congr fun i _ => by congr 1; omega
theorem S_tri (n : Nat) (f : Nat → Nat → UInt8) : S n (fun k => S (k + 1) (fun i => f i (k - i))) = S n (fun i => S (n - i) (fun j => f i j)) := by
  induction n with
  | zero => rfl
  | succ n ih =>
    have h : S n (fun i => S (n + 1 - i) (fun j => f i j)) = S n (fun i => S (n - i) (fun j => f i j)) ^^^ S n (fun i => f i (n - i)) := by
      rw [← S_xor]
      exact S_congr fun i hi => by rw [show n + 1 - i = n - i + 1 from by omega, S]
    rw [S, ih]
    conv => rhs; rw [S, h]
    simp only [S, Nat.add_sub_cancel_left, Nat.sub_self, UInt8.zero_xor, UInt8.xor_assoc]

def cv (p q : Nat → UInt8) (n : Nat) : UInt8 := S (n + 1) (fun i => mul (p i) (q (n - i)))
theorem cv_comm (p q : Nat → UInt8) : cv p q = cv q p := by
  funext n
  unfold cv
  rw [S_rev]
  exact S_congr fun i hi => by rw [mul_comm, show n + 1 - 1 - i = n - i from by omega, show n - (n - i) = i from by omega]
theorem cv_assoc (p q r : Nat → UInt8) : cv (cv p q) r = cv p (cv q r) := by
  funext n
  unfold cv
  have h := S_tri (n + 1) (fun i j => mul (p i) (mul (q j) (r (n - i - j))))
  refine Eq.trans (S_congr fun k hk => ?_) (h.trans (S_congr fun i hi => ?_))
  · rw [S_mul]
    exact S_congr fun i hi => by rw [mul_assoc, show n - i - (k - i) = n - k from by omega]
  · rw [mul_S, show n + 1 - i = n - i + 1 from by omega]
theorem cv_add (p q r : Nat → UInt8) : cv p (fun i => q i ^^^ r i) = fun i => cv p q i ^^^ cv p r i := by
  funext n
  unfold cv
  rw [← S_xor]
  exact S_congr fun i _ => mul_add _ _ _
theorem add_cv (p q r : Nat → UInt8) : cv (fun i => p i ^^^ q i) r = fun i => cv p r i ^^^ cv q r i := by
  rw [cv_comm, cv_add, cv_comm r p, cv_comm r q]
theorem cv_zero (p : Nat → UInt8) : cv p (fun _ => 0) = fun _ => 0 := by
  funext n; unfold cv; exact S_zero' fun i _ => mul_zero _
theorem zero_cv (p : Nat → UInt8) : cv (fun _ => 0) p = fun _ => 0 := by rw [cv_comm, cv_zero]
/-- 1 -/
def one (n : Nat) : UInt8 := if n = 0 then 1 else 0
theorem one_cv (p : Nat → UInt8) : cv one p = p := by
  funext n
  unfold cv
  rw [S_single (k := 0) (by omega) fun i _ hi => by rw [one, if_neg hi, zero_mul], one, if_pos rfl, one_mul, Nat.sub_zero]
theorem cv_one (p : Nat → UInt8) : cv p one = p := by rw [cv_comm, one_cv]
/-- equal below N -/
def Eqm (N : Nat) (p q : Nat → UInt8) : Prop := ∀ i, i < N → p i = q i
theorem Eqm.cv {N : Nat} {p p' q q' : Nat → UInt8} (h : Eqm N p p') (h' : Eqm N q q') : Eqm N (cv p q) (cv p' q') := by
  intro n hn
  unfold Gf.cv
  exact S_congr fun i hi => by rw [h i (by omega), h' (n - i) (by omega)]
theorem Eqm.refl (N : Nat) (p : Nat → UInt8) : Eqm N p p := fun _ _ => rfl
theorem Eqm.symm {N : Nat} {p q : Nat → UInt8} (h : Eqm N p q) : Eqm N q p := fun i hi => (h i hi).symm
theorem Eqm.trans {N : Nat} {p q r : Nat → UInt8} (h : Eqm N p q) (h' : Eqm N q r) : Eqm N p r := fun i hi => (h i hi).trans (h' i hi)
theorem Eqm.xor {N : Nat} {p p' q q' : Nat → UInt8} (h : Eqm N p p') (h' : Eqm N q q') : Eqm N (fun i => p i ^^^ q i) (fun i => p' i ^^^ q' i) := fun i hi => by
  show p i ^^^ q i = p' i ^^^ q' i
  rw [h i hi, h' i hi]
/-- nothing from N on -/
def Sup (N : Nat) (p : Nat → UInt8) : Prop := ∀ i, N ≤ i → p i = 0
theorem Sup.mono {N M : Nat} {p : Nat → UInt8} (h : Sup N p) (hNM : N ≤ M) : Sup M p := fun i hi => h i (by omega)
theorem Sup.eq {N : Nat} {p q : Nat → UInt8} (h : Sup N p) (h' : Sup N q) (he : Eqm N p q) : p = q := by
  funext i
  by_cases hi : i < N
  · exact he i hi
  · rw [h i (by omega), h' i (by omega)]
theorem Sup.cv {N M : Nat} {p q : Nat → UInt8} (hp : Sup N p) (hq : Sup M q) : Sup (N + M - 1) (cv p q) := by
  intro n hn
  unfold Gf.cv
  refine S_zero' fun i hi => ?_
  by_cases h : i < N
  · rw [hq (n - i) (by omega), mul_zero]
  · rw [hp i (by omega), zero_mul]
theorem Sup.xor {N : Nat} {p q : Nat → UInt8} (hp : Sup N p) (hq : Sup N q) : Sup N (fun i => p i ^^^ q i) := fun i hi => by
  show p i ^^^ q i = 0
  rw [hp i hi, hq i hi, UInt8.xor_zero]

def pw (x : UInt8) : Nat → UInt8
  | 0 => 1
  | n + 1 => mul (pw x n) x
theorem pw_add (x : UInt8) (m n : Nat) : pw x (m + n) = mul (pw x m) (pw x n) := by
  induction n with
  | zero => rw [pw, mul_one, Nat.add_zero]
  | succ n ih => rw [← Nat.add_assoc, pw, ih, pw, mul_assoc]
theorem pw_one (n : Nat) : pw 1 n = 1 := by
  induction n with
  | zero => rfl
  | succ n ih => rw [pw, ih, mul_one]
theorem pw_mul (x y : UInt8) (n : Nat) : pw (mul x y) n = mul (pw x n) (pw y n) := by
  induction n with
  | zero => exact (one_mul 1).symm
  | succ n ih => rw [pw, ih, pw, pw]; ac_rfl
theorem pw_ne {x : UInt8} (h : x ≠ 0) (n : Nat) : pw x n ≠ 0 := by
  induction n with
  | zero => exact show (1 : UInt8) ≠ 0 from by decide
  | succ n ih => exact mul_ne ih h
theorem pw_al (m n : Nat) : pw (al m) n = al (m * n) := by
  induction n with
  | zero => rfl
  | succ n ih => rw [pw, ih, al_add, Nat.mul_succ]
def ev (p : Nat → UInt8) (n : Nat) (x : UInt8) : UInt8 := S n (fun i => mul (p i) (pw x i))
theorem ev_ext {p : Nat → UInt8} {n m : Nat} (x : UInt8) (h : Sup n p) (hnm : n ≤ m) : ev p m x = ev p n x :=
  S_ext hnm fun i h1 _ => by rw [h i h1, zero_mul]
theorem ev_congr {p q : Nat → UInt8} {n : Nat} (x : UInt8) (h : Eqm n p q) : ev p n x = ev q n x := S_congr fun i hi => by rw [h i hi]
theorem ev_xor (p q : Nat → UInt8) (n : Nat) (x : UInt8) : ev (fun i => p i ^^^ q i) n x = ev p n x ^^^ ev q n x := by
  unfold ev
  rw [← S_xor]
  exact S_congr fun i _ => add_mul _ _ _
theorem ev_cv' {p q : Nat → UInt8} {N M : Nat} (x : UInt8) (hp : Sup N p) (hq : Sup M q) : ev (cv p q) (N + M) x = mul (ev p N x) (ev q M x) := by
  unfold ev cv
  have h := S_tri (N + M) (fun i j => mul (mul (p i) (pw x i)) (mul (q j) (pw x j)))
  refine Eq.trans (S_congr fun k hk => ?_) (h.trans ?_)
  · rw [S_mul]
    refine S_congr fun i hi => ?_
    rw [show pw x k = mul (pw x i) (pw x (k - i)) from by rw [← pw_add]; congr 1; omega]
    ac_rfl
  · rw [S_ext (n := N) (by omega) fun i h1 _ => S_zero' fun j _ => by rw [hp i h1, zero_mul, zero_mul], S_mul]
    refine S_congr fun i hi => ?_
    rw [S_ext (n := M) (by omega) fun j h1 _ => by rw [hq j h1, zero_mul, mul_zero], mul_S]
theorem ev_cv {p q : Nat → UInt8} {N M K : Nat} (x : UInt8) (hp : Sup N p) (hq : Sup M q) (hK : N + M ≤ K + 1) : ev (cv p q) K x = mul (ev p N x) (ev q M x) := by
  rw [← ev_cv' x hp hq]
  have h := hp.cv hq
  by_cases h' : K ≤ N + M
  · exact (ev_ext x (h.mono (by omega)) h').symm
  · exact ev_ext x (h.mono (by omega)) (by omega)
/-- x times the derivative -/
def od (p : Nat → UInt8) (i : Nat) : UInt8 := if i % 2 = 1 then p i else 0
theorem od_cv (p q : Nat → UInt8) : od (cv p q) = fun n => cv (od p) q n ^^^ cv p (od q) n := by
  funext n
  unfold od cv
  rw [← S_xor]
  by_cases hn : n % 2 = 1
  · rw [if_pos hn]
    refine S_congr fun i hi => ?_
    dsimp only
    by_cases h : i % 2 = 1
    · rw [if_pos h, if_neg (by omega), mul_zero, UInt8.xor_zero]
    · rw [if_neg h, if_pos (by omega), zero_mul, UInt8.zero_xor]
  · rw [if_neg hn]
    refine (S_zero' fun i hi => ?_).symm
    dsimp only
    by_cases h : i % 2 = 1
    · rw [if_pos h, if_pos (by omega), UInt8.xor_self]
    · rw [if_neg h, if_neg (by omega), zero_mul, mul_zero, UInt8.xor_self]
theorem od_sup {N : Nat} {p : Nat → UInt8} (h : Sup N p) : Sup N (od p) := fun i hi => by unfold od; split; exact h i hi; rfl
end Gf
set_option linter.unusedVariables false
set_option linter.unusedSimpArgs false
namespace Gf
/-- 1 + X x -/
def loc (X : UInt8) (i : Nat) : UInt8 := if i = 0 then 1 else if i = 1 then X else 0
theorem loc_sup (X : UInt8) : Sup 2 (loc X) := fun i hi => by unfold loc; rw [if_neg (by omega), if_neg (by omega)]
theorem one_sup {n : Nat} (h : 1 ≤ n) : Sup n one := fun i hi => by unfold one; rw [if_neg (by omega)]
theorem ev_loc (X x : UInt8) {n : Nat} (hn : 2 ≤ n) : ev (loc X) n x = 1 ^^^ mul X x := by
  rw [ev_ext x (loc_sup X) hn]
  simp only [ev, S, loc, pw, UInt8.zero_xor, mul_one, one_mul]
  simp
theorem ev_one (x : UInt8) {n : Nat} (hn : 1 ≤ n) : ev one n x = 1 := by
  rw [ev_ext x (one_sup (Nat.le_refl 1)) hn]
  simp [ev, S, one, pw, mul_one]
theorem od_loc (X x : UInt8) {n : Nat} (hn : 2 ≤ n) : ev (od (loc X)) n x = mul X x := by
  rw [ev_ext x (od_sup (loc_sup X)) hn]
  simp only [ev, S, od, loc, pw, UInt8.zero_xor, one_mul]
  simp [zero_mul]
theorem od_one : od one = fun _ => 0 := by
  funext i
  unfold od one
  split
  · rw [if_neg (by omega)]
  · rfl
theorem ev_zero (n : Nat) (x : UInt8) : ev (fun _ => 0) n x = 0 := S_zero' fun _ _ => zero_mul _
/-- the product of the factors of some elements -/
def L : List UInt8 → Nat → UInt8
  | [] => one
  | X :: l => cv (loc X) (L l)
theorem L_sup (l : List UInt8) : Sup (l.length + 1) (L l) := by
  induction l with
  | nil => exact one_sup (Nat.le_refl 1)
  | cons X l ih => exact ((loc_sup X).cv ih).mono (by simp; omega)
theorem L_append (l m : List UInt8) : L (l ++ m) = cv (L l) (L m) := by
  induction l with
  | nil => exact (one_cv _).symm
  | cons X l ih => rw [List.cons_append, L, ih, L, cv_assoc]
theorem L_erase {l : List UInt8} {X : UInt8} (h : X ∈ l) : L l = cv (loc X) (L (l.erase X)) := by
  induction l with
  | nil => cases h
  | cons Y l ih =>
    by_cases e : Y = X
    · rw [e, List.erase_cons_head, L]
    · have hX : X ∈ l := by
        rcases List.mem_cons.1 h with h | h
        · exact absurd h.symm e
        · exact h
      rw [List.erase_cons_tail (by simpa using e), L, L, ih hX, ← cv_assoc, ← cv_assoc, cv_comm (loc Y)]
theorem L_zero {l : List UInt8} {X : UInt8} (h : X ∈ l) {x : UInt8} (hx : mul X x = 1) {n : Nat} (hn : l.length + 1 ≤ n) : ev (L l) n x = 0 := by
  have hl := List.length_erase_of_mem h
  have hp := List.length_pos_of_mem h
  rw [L_erase h, ev_cv x (loc_sup X) (L_sup _) (by omega), ev_loc X x (Nat.le_refl 2), hx, UInt8.xor_self, zero_mul]
theorem L_ne {l : List UInt8} {x : UInt8} (h : ∀ X, X ∈ l → mul X x ≠ 1) {n : Nat} (hn : l.length + 1 ≤ n) : ev (L l) n x ≠ 0 := by
  induction l generalizing n with
  | nil => rw [L, ev_one x (by simpa using hn)]; decide
  | cons X l ih =>
    rw [L, ev_cv x (loc_sup X) (L_sup l) (by simp at hn; omega), ev_loc X x (Nat.le_refl 2)]
    refine mul_ne (fun e => ?_) (ih (fun Y hY => h Y (List.mem_cons_of_mem _ hY)) (Nat.le_refl _))
    exact h X List.mem_cons_self (xor_eq_zero e).symm
/-- the geometric series -/
def geo (X : UInt8) : Nat → UInt8 := pw X
theorem loc_geo (X : UInt8) : cv (loc X) (geo X) = one := by
  funext n
  unfold cv geo
  cases n with
  | zero => simp [S, loc, pw, mul_one, one]
  | succ n =>
    rw [S_ext (n := 2) (by omega) fun i h1 _ => by unfold loc; rw [if_neg (by omega), if_neg (by omega), zero_mul]]
    simp only [S, loc, one, UInt8.zero_xor, Nat.sub_zero, Nat.add_sub_cancel, if_true]
    rw [if_neg (by omega), if_neg (by omega), one_mul, pw, mul_comm X, UInt8.xor_self]
theorem L_geo {l : List UInt8} {X : UInt8} (h : X ∈ l) : cv (L l) (geo X) = L (l.erase X) := by
  rw [L_erase h, cv_comm (loc X), cv_assoc, loc_geo, cv_one]

/-! positions of a word of length n -/
def X (n i : Nat) : UInt8 := al (n - 1 - i)
theorem X_inj {n i k : Nat} (hn : n ≤ 255) (hi : i < n) (hk : k < n) (h : X n i = X n k) : i = k := by
  have := al_inj (by omega) (by omega) h
  omega
theorem X_ne (n i : Nat) : X n i ≠ 0 := al_ne _
theorem X_unit {n i k : Nat} (hn : n ≤ 255) (hi : i < n) (hk : k < n) {x : UInt8} (h : mul (X n i) x = 1) (h' : mul (X n k) x = 1) : i = k := by
  have hx : x ≠ 0 := fun e => by rw [e, mul_zero] at h; exact absurd h (by decide)
  refine X_inj hn hi hk (mul_cancel hx ?_)
  rw [mul_comm, h, mul_comm, h']
/-- all syndromes of some symbols -/
def Sy (n : Nat) (e : Nat → UInt8) (j : Nat) : UInt8 := S n (fun i => mul (e i) (pw (X n i) j))
def Xs (n : Nat) (T : List Nat) : List UInt8 := T.map (X n)
theorem Xs_mem {n : Nat} {T : List Nat} (hn : n ≤ 255) (hT : ∀ k, k ∈ T → k < n) {i : Nat} (hi : i < n) : X n i ∈ Xs n T ↔ i ∈ T := by
  unfold Xs
  rw [List.mem_map]
  constructor
  · rintro ⟨k, hk, he⟩
    rwa [X_inj hn (hT k hk) hi he] at hk
  · exact fun h => ⟨i, h, rfl⟩
theorem mem_Xs {n i : Nat} {T : List Nat} (h : i ∈ T) : X n i ∈ Xs n T := List.mem_map.2 ⟨i, h, rfl⟩
theorem Xs_length (n : Nat) (T : List Nat) : (Xs n T).length = T.length := by simp [Xs]
theorem Xs_nodup {n : Nat} {T : List Nat} (hn : n ≤ 255) (hT : ∀ k, k ∈ T → k < n) (hd : T.Nodup) : (Xs n T).Nodup := by
  induction T with
  | nil => simp [Xs]
  | cons k T ih =>
    have hd' := List.nodup_cons.1 hd
    refine List.nodup_cons.2 ⟨fun h => hd'.1 ?_, ih (fun j hj => hT j (List.mem_cons_of_mem _ hj)) hd'.2⟩
    exact (Xs_mem hn (fun j hj => hT j (List.mem_cons_of_mem _ hj)) (hT k List.mem_cons_self)).1 h
/-- the evaluator -/
def Om (n : Nat) (e : Nat → UInt8) (T : List Nat) : Nat → UInt8 := cv (L (Xs n T)) (Sy n e)
theorem Om_eq {n : Nat} {e : Nat → UInt8} {T : List Nat} (he : ∀ i, i < n → e i ≠ 0 → i ∈ T) (k : Nat) :
    Om n e T k = S n (fun i => if i ∈ T then mul (e i) (L ((Xs n T).erase (X n i)) k) else 0) := by
  unfold Om cv Sy
  rw [show S (k + 1) (fun i => mul (L (Xs n T) i) (S n fun i_1 => mul (e i_1) (pw (X n i_1) (k - i)))) =
      S (k + 1) (fun i => S n (fun j => mul (e j) (mul (L (Xs n T) i) (pw (X n j) (k - i))))) from S_congr fun i _ => by
    rw [mul_S]; exact S_congr fun j _ => by ac_rfl]
  rw [S_swap]
  refine S_congr fun j hj => ?_
  rw [← mul_S]
  by_cases h : j ∈ T
  · rw [if_pos h]
    congr 1
    have := L_geo (l := Xs n T) (X := X n j) (mem_Xs h)
    exact congrFun this k
  · rw [if_neg h]
    by_cases h0 : e j = 0
    · rw [h0, zero_mul]
    · exact absurd (he j hj h0) h
theorem Om_sup {n : Nat} {e : Nat → UInt8} {T : List Nat} (he : ∀ i, i < n → e i ≠ 0 → i ∈ T) : Sup T.length (Om n e T) := by
  intro k hk
  rw [Om_eq he]
  refine S_zero' fun i _ => ?_
  by_cases h : i ∈ T
  · rw [if_pos h, L_sup ((Xs n T).erase (X n i)) k, mul_zero]
    rw [List.length_erase_of_mem (mem_Xs h), Xs_length]
    have := List.length_pos_of_mem h
    omega
  · rw [if_neg h]
theorem Om_ev {n : Nat} {e : Nat → UInt8} {T : List Nat} (hn : n ≤ 255) (hT : ∀ k, k ∈ T → k < n) (he : ∀ i, i < n → e i ≠ 0 → i ∈ T)
    {i : Nat} (hi : i ∈ T) {x : UInt8} (hx : mul (X n i) x = 1) {M : Nat} (hM : T.length ≤ M) :
    ev (Om n e T) M x = mul (e i) (ev (L ((Xs n T).erase (X n i))) M x) := by
  have h : ev (Om n e T) M x = S n (fun j => if j ∈ T then mul (e j) (ev (L ((Xs n T).erase (X n j))) M x) else 0) := by
    unfold ev
    rw [show S M (fun i => mul (Om n e T i) (pw x i)) = S M (fun k => S n (fun j => if j ∈ T then mul (e j) (mul (L ((Xs n T).erase (X n j)) k) (pw x k)) else 0)) from S_congr fun k _ => by
      rw [Om_eq he, S_mul]
      refine S_congr fun j _ => ?_
      by_cases h : j ∈ T
      · rw [if_pos h, if_pos h, mul_assoc]
      · rw [if_neg h, if_neg h, zero_mul]]
    rw [S_swap]
    refine S_congr fun j _ => ?_
    by_cases h : j ∈ T
    · simp only [if_pos h]; rw [mul_S]
    · simp only [if_neg h]; exact S_zero _
  rw [h, S_single (k := i) (hT i hi), if_pos hi]
  intro j hj hji
  by_cases h : j ∈ T
  · rw [if_pos h, L_zero (X := X n i) _ hx, mul_zero]
    · rw [List.length_erase_of_mem (mem_Xs h), Xs_length]
      have := List.length_pos_of_mem h
      omega
    · refine (List.mem_erase_of_ne fun e => hji (X_inj hn hj (hT i hi) e.symm)).2 (mem_Xs hi)
  · rw [if_neg h]
/-- x times the derivative of the locator at a root -/
theorem L_od {l : List UInt8} {Y x : UInt8} (h : Y ∈ l) (hx : mul Y x = 1) {M : Nat} (hM : l.length + 1 ≤ M) : ev (od (L l)) M x = ev (L (l.erase Y)) M x := by
  have hl := List.length_erase_of_mem h
  have hp := List.length_pos_of_mem h
  have h0 : Sup l.length (L (l.erase Y)) := (L_sup _).mono (by omega)
  rw [L_erase h, od_cv, ev_xor, ev_cv x (od_sup (loc_sup Y)) h0 (by omega), ev_cv x (loc_sup Y) (od_sup h0) (by omega), od_loc Y x (Nat.le_refl 2), ev_loc Y x (Nat.le_refl 2), hx, one_mul,
    UInt8.xor_self, zero_mul, UInt8.xor_zero, ev_ext x h0 (show l.length ≤ M by omega)]
theorem L_erase_ne {n : Nat} {T : List Nat} (hn : n ≤ 255) (hT : ∀ k, k ∈ T → k < n) (hd : T.Nodup) {i : Nat} (hi : i ∈ T) {x : UInt8} (hx : mul (X n i) x = 1) {M : Nat} (hM : T.length ≤ M) :
    ev (L ((Xs n T).erase (X n i))) M x ≠ 0 := by
  have hm : X n i ∈ Xs n T := mem_Xs hi
  refine L_ne (fun Y hY e => ?_) ?_
  · have hY' : Y ∈ Xs n T := List.mem_of_mem_erase hY
    obtain ⟨k, hk, rfl⟩ := List.mem_map.1 hY'
    have : i = k := X_unit hn (hT i hi) (hT k hk) hx e
    subst this
    exact (List.Nodup.not_mem_erase (Xs_nodup hn hT hd)) hY
  · rw [List.length_erase_of_mem hm, Xs_length]
    have := List.length_pos_of_mem hi
    omega

/-- THE REPAIR. -/
theorem repair_at {n : Nat} {e : Nat → UInt8} {E Er : List Nat} (hn : n ≤ 255) (hE : ∀ k, k ∈ E ++ Er → k < n) (hd : (E ++ Er).Nodup) (he : ∀ i, i < n → e i ≠ 0 → i ∈ E ++ Er)
    (heE : ∀ i, i ∈ E → e i ≠ 0)
    {v b : Nat → UInt8} {N M : Nat} (hv : Sup N v) (hb : Sup N b) (hN : (E ++ Er).length + 1 ≤ N) (hM : N + N ≤ M + 1)
    (H1 : cv v (Om n e (E ++ Er)) = cv (L (Xs n E)) b) (H2 : ∀ x, x ≠ 0 → ev v M x = 0 → ev b M x = 0 → False)
    {i : Nat} (hi : i < n) {x : UInt8} (hx : mul (X n i) x = 1) :
    (ev (cv v (L (Xs n Er))) M x = 0 → ev (od (cv v (L (Xs n Er)))) M x ≠ 0 ∧ ev b M x = mul (e i) (ev (od (cv v (L (Xs n Er)))) M x)) ∧
    (ev (cv v (L (Xs n Er))) M x ≠ 0 → e i = 0) := by
  have hl : E.length + Er.length + 1 ≤ N := by simpa using hN
  have hx0 : x ≠ 0 := fun h => by rw [h, mul_zero] at hx; exact absurd hx (by decide)
  have hTE : ∀ k, k ∈ E → k < n := fun k hk => hE k (List.mem_append_left _ hk)
  have hTR : ∀ k, k ∈ Er → k < n := fun k hk => hE k (List.mem_append_right _ hk)
  have sE : Sup N (L (Xs n E)) := (L_sup _).mono (by rw [Xs_length]; omega)
  have sR : Sup N (L (Xs n Er)) := (L_sup _).mono (by rw [Xs_length]; omega)
  have sO : Sup N (Om n e (E ++ Er)) := (Om_sup he).mono (by omega)
  have up : ∀ {p : Nat → UInt8}, Sup N p → ev p N x = ev p M x := fun h => (ev_ext x h (by omega)).symm
  have prod : ∀ {p q : Nat → UInt8}, Sup N p → Sup N q → ev (cv p q) M x = mul (ev p M x) (ev q M x) := fun hp hq => by
    rw [ev_cv x hp hq (by omega), up hp, up hq]
  have dprod : ∀ {p q : Nat → UInt8}, Sup N p → Sup N q → ev (od (cv p q)) M x = mul (ev (od p) M x) (ev q M x) ^^^ mul (ev p M x) (ev (od q) M x) := fun hp hq => by
    rw [od_cv, ev_xor, prod (od_sup hp) hq, prod hp (od_sup hq)]
  have q1 := prod hv sO
  rw [H1, prod sE hb] at q1
  have q2 := dprod hv sO
  rw [H1, dprod sE hb] at q2
  have key : ∀ j, j ∈ E ++ Er → mul (X n j) x = 1 → j = i := fun j hj h => X_unit hn (hE j hj) hi h hx
  have hW : ∀ h : i ∈ E ++ Er, ev (od (L (Xs n (E ++ Er)))) M x ≠ 0 ∧ ev (Om n e (E ++ Er)) M x = mul (e i) (ev (od (L (Xs n (E ++ Er)))) M x) := fun h => by
    rw [L_od (Y := X n i) (mem_Xs h) hx (by rw [Xs_length]; omega)]
    exact ⟨L_erase_ne hn hE hd h hx (by omega), Om_ev hn hE he h hx (by omega)⟩
  have hLT : L (Xs n (E ++ Er)) = cv (L (Xs n E)) (L (Xs n Er)) := by rw [← L_append]; simp [Xs]
  rw [hLT, dprod sE sR] at hW
  rw [prod hv sR, dprod hv sR]
  have hz : ∀ {l : List Nat}, (∀ k, k ∈ l → k < n) → l.length + 1 ≤ N → i ∈ l → ev (L (Xs n l)) M x = 0 := fun _ hl hm =>
    L_zero (X := X n i) (mem_Xs hm) hx (by rw [Xs_length]; omega)
  have hnz : ∀ {l : List Nat}, (∀ k, k ∈ l → k < n) → l.length + 1 ≤ N → i ∉ l → ev (L (Xs n l)) M x ≠ 0 := fun hl hlen hm =>
    L_ne (fun Y hY h => by
      obtain ⟨k, hk, rfl⟩ := List.mem_map.1 hY
      exact hm (X_unit hn hi (hl k hk) hx h ▸ hk)) (by rw [Xs_length]; omega)
  by_cases hiE : i ∈ E
  · -- an error
    have zE := hz hTE (by omega) hiE
    have hiR : i ∉ Er := fun h => (List.nodup_append.1 hd).2.2 i hiE i h rfl
    have nR := hnz hTR (by omega) hiR
    obtain ⟨w1, w2⟩ := hW (List.mem_append_left _ hiE)
    rw [zE, zero_mul, UInt8.xor_zero] at w1 w2
    rw [zE, zero_mul] at q1
    have hOne : ev (Om n e (E ++ Er)) M x ≠ 0 := by rw [w2]; exact mul_ne (heE i hiE) w1
    have hv0 : ev v M x = 0 := by
      rcases mul_eq_zero q1.symm with h | h
      · exact h
      · exact absurd h hOne
    have hb0 : ev b M x ≠ 0 := fun h => H2 x hx0 hv0 h
    rw [zE, zero_mul, hv0, zero_mul, UInt8.xor_zero, UInt8.xor_zero, w2] at q2
    have hE0 : ev (od (L (Xs n E))) M x ≠ 0 := fun h => w1 (by rw [h, zero_mul])
    rw [hv0, zero_mul, zero_mul, UInt8.xor_zero]
    have hfin : ev b M x = mul (e i) (mul (ev (od v) M x) (ev (L (Xs n Er)) M x)) := by
      refine mul_cancel hE0 (q2.trans ?_)
      ac_rfl
    exact ⟨fun _ => ⟨fun h => hb0 (by rw [hfin, h, mul_zero]), hfin⟩, fun h => absurd rfl h⟩
  · have nE := hnz hTE (by omega) hiE
    have hv0 : ev v M x ≠ 0 := fun h => by
      rw [h, zero_mul] at q1
      rcases mul_eq_zero q1 with h' | h'
      · exact nE h'
      · exact H2 x hx0 h h'
    by_cases hiR : i ∈ Er
    · -- an erasure
      have zR := hz hTR (by omega) hiR
      obtain ⟨w1, w2⟩ := hW (List.mem_append_right _ hiR)
      rw [zR, mul_zero, UInt8.zero_xor] at w1 w2
      rw [zR, mul_zero, mul_zero, UInt8.zero_xor]
      rw [w2] at q1
      have hR0 : ev (od (L (Xs n Er))) M x ≠ 0 := fun h => w1 (by rw [h, mul_zero])
      refine ⟨fun _ => ⟨mul_ne hv0 hR0, mul_cancel nE (q1.trans ?_)⟩, fun h => absurd rfl h⟩
      ac_rfl
    · have nR := hnz hTR (by omega) hiR
      refine ⟨fun h => absurd h (mul_ne hv0 nR), fun _ => ?_⟩
      by_cases h0 : e i = 0
      · exact h0
      · rcases List.mem_append.1 (he i hi h0) with h | h
        · exact absurd h hiE
        · exact absurd h hiR
end Gf
set_option linter.unusedVariables false
set_option linter.unusedSimpArgs false
namespace Gf
def xp (p i : Nat) : UInt8 := if i = p then 1 else 0
/-- the state of Euclid's algorithm -/
structure Eu (p s : Nat) (Xi a b u v : Nat → UInt8) (da : Nat) : Prop where
  hv : Eqm p (cv v Xi) b
  hu : Eqm p (cv u Xi) a
  det : (fun i => cv u b i ^^^ cv v a i) = xp p
  sa : Sup (da + 1) a
  sb : Sup da b
  sv : Sup (p - da + 1) v
  su : Sup (p - da + 1) u
  hp : da ≤ p
  hs : p + s ≤ 2 * da
theorem xp_sup (p : Nat) : Sup (p + 1) (xp p) := fun i hi => by unfold xp; rw [if_neg (by omega)]
theorem zero_sup (p : Nat) : Sup p (fun _ => 0) := fun _ _ => rfl
theorem Eu.start {p s : Nat} (hsp : s ≤ p) {Xi : Nat → UInt8} (hX : Sup p Xi) : Eu p s Xi (xp p) Xi (fun _ => 0) one p where
  hv := by rw [one_cv]; exact Eqm.refl _ _
  hu := fun i hi => by rw [zero_cv, xp, if_neg (by omega)]
  det := by funext i; rw [zero_cv, one_cv, UInt8.zero_xor]
  sa := xp_sup p
  sb := hX
  sv := one_sup (by omega)
  su := zero_sup _
  hp := Nat.le_refl _
  hs := by omega
theorem Eu.step {p s : Nat} {Xi a b u v : Nat → UInt8} {da : Nat} (h : Eu p s Xi a b u v da) {db : Nat} {q r : Nat → UInt8} (hdb : Sup (db + 1) b) (hlt : db < da) (hq : Sup (da - db + 1) q) (hr : Sup db r)
    (hdiv : r = fun i => a i ^^^ cv q b i) (hs : p + s ≤ 2 * db) : Eu p s Xi b r v (fun i => u i ^^^ cv q v i) db where
  hv := by
    rw [add_cv, cv_assoc, hdiv]
    exact h.hu.xor ((Eqm.refl p q).cv h.hv)
  hu := h.hv
  det := by
    rw [← h.det, hdiv, cv_add, add_cv]
    funext i
    rw [← cv_assoc, cv_comm v q]
    dsimp only
    generalize cv (cv q v) b i = z
    generalize cv v a i = y
    generalize cv u b i = x
    rw [show y ^^^ z ^^^ (x ^^^ z) = (x ^^^ y) ^^^ (z ^^^ z) from by ac_rfl, UInt8.xor_self, UInt8.xor_zero]
  sa := hdb
  sb := hr
  sv := (h.su.mono (by omega)).xor ((hq.cv h.sv).mono (by have := h.hp; omega))
  su := h.sv.mono (by omega)
  hp := by have := h.hp; omega
  hs := hs
theorem ev_xp {p : Nat} (x : UInt8) {M : Nat} (hM : p < M) : ev (xp p) M x = pw x p := by
  unfold ev
  rw [S_single (k := p) hM fun i _ hi => by rw [xp, if_neg hi, zero_mul], xp, if_pos rfl, one_mul]
theorem Eu.ends {p s : Nat} {Xi a b u v : Nat → UInt8} {da : Nat} (h : Eu p s Xi a b u v da) {m : Nat} (hm : Sup m b) (hms : 2 * m ≤ p + s + 1)
    {n : Nat} {e : Nat → UInt8} {E Er : List Nat} (he : ∀ i, i < n → e i ≠ 0 → i ∈ E ++ Er) (hEr : Er.length = s) (hE : 2 * E.length + Er.length ≤ p)
    (hXi : Eqm p Xi (cv (Sy n e) (L (Xs n Er)))) {M : Nat} (hM : 2 * p + 2 ≤ M) :
    cv v (Om n e (E ++ Er)) = cv (L (Xs n E)) b ∧ (∀ x, x ≠ 0 → ev v M x = 0 → ev b M x = 0 → False) := by
  have hs := h.hs
  have hp := h.hp
  constructor
  · refine Sup.eq (N := p) (Sup.mono (h.sv.cv (Om_sup he)) ?_) (Sup.mono ((L_sup _).cv hm) ?_) ?_
    · simp only [List.length_append]; omega
    · rw [Xs_length]; omega
    · have hLT : L (Xs n (E ++ Er)) = cv (L (Xs n E)) (L (Xs n Er)) := by rw [← L_append]; simp [Xs]
      unfold Om
      rw [hLT, ← cv_assoc, ← cv_assoc, cv_comm v, cv_assoc, cv_assoc]
      refine (Eqm.refl p _).cv ?_
      refine Eqm.trans ?_ h.hv
      refine (Eqm.refl p _).cv ?_
      rw [cv_comm]
      exact hXi.symm
  · intro x hx hv hb
    have h1 := congrArg (fun f => ev f M x) h.det
    rw [ev_xp x (by omega), ev_xor, ev_cv (N := p + 1) (M := p + 1) x (h.su.mono (by omega)) (h.sb.mono (by omega)) (by omega), ev_cv (N := p + 1) (M := p + 1) x (h.sv.mono (by omega)) (h.sa.mono (by omega)) (by omega)] at h1
    rw [ev_ext (n := p + 1) x (h.sv.mono (by omega)) (by omega)] at hv
    rw [ev_ext (n := p + 1) x (h.sb.mono (by omega)) (by omega)] at hb
    rw [hv, hb, mul_zero, zero_mul, UInt8.xor_zero] at h1
    exact pw_ne hx p h1.symm

/-! the distance -/
/-- X + x -/
def lin (X : UInt8) (i : Nat) : UInt8 := if i = 0 then X else if i = 1 then 1 else 0
theorem lin_sup (X : UInt8) : Sup 2 (lin X) := fun i hi => by unfold lin; rw [if_neg (by omega), if_neg (by omega)]
theorem ev_lin (X x : UInt8) {n : Nat} (hn : 2 ≤ n) : ev (lin X) n x = X ^^^ x := by
  rw [ev_ext x (lin_sup X) hn]
  simp only [ev, S, lin, pw, UInt8.zero_xor, mul_one, one_mul]
  simp [one_mul]
def G : List UInt8 → Nat → UInt8
  | [] => one
  | X :: l => cv (lin X) (G l)
theorem G_sup (l : List UInt8) : Sup (l.length + 1) (G l) := by
  induction l with
  | nil => exact one_sup (Nat.le_refl 1)
  | cons X l ih => exact ((lin_sup X).cv ih).mono (by simp; omega)
theorem G_ev_zero {l : List UInt8} {x : UInt8} (h : x ∈ l) {n : Nat} (hn : l.length + 1 ≤ n) : ev (G l) n x = 0 := by
  induction l generalizing n with
  | nil => cases h
  | cons X l ih =>
    rw [G, ev_cv x (lin_sup X) (G_sup l) (by simp at hn; omega), ev_lin X x (Nat.le_refl 2)]
    rcases List.mem_cons.1 h with h | h
    · rw [h, UInt8.xor_self, zero_mul]
    · rw [ih h (Nat.le_refl _), mul_zero]
theorem G_ev_ne {l : List UInt8} {x : UInt8} (h : x ∉ l) {n : Nat} (hn : l.length + 1 ≤ n) : ev (G l) n x ≠ 0 := by
  induction l generalizing n with
  | nil => rw [G, ev_one x (by simpa using hn)]; decide
  | cons X l ih =>
    rw [G, ev_cv x (lin_sup X) (G_sup l) (by simp at hn; omega), ev_lin X x (Nat.le_refl 2)]
    exact mul_ne (fun e => h (xor_eq_zero e ▸ List.mem_cons_self)) (ih (fun h' => h (List.mem_cons_of_mem _ h')) (Nat.le_refl _))
/-- SYMBOLS WITH ZERO SYNDROMES AND FEW OF THEM NOT ZERO ARE ALL ZERO. -/
theorem dist {n p : Nat} (hn : n ≤ 255) {f : Nat → UInt8} {T : List Nat} (hT : ∀ k, k ∈ T → k < n) (hlen : T.length ≤ p) (hf : ∀ i, i < n → f i ≠ 0 → i ∈ T)
    (hs : ∀ j, j < p → Sy n f j = 0) : ∀ i, i < n → f i = 0 := by
  intro i hi
  by_cases h0 : f i = 0
  · exact h0
  have hiT := hf i hi h0
  have hle : (Xs n (T.erase i)).length + 1 ≤ p := by
    rw [Xs_length, List.length_erase_of_mem hiT]
    have := List.length_pos_of_mem hiT
    omega
  -- the sum of the syndromes by the coefficients
  have h1 : S p (fun j => mul (G (Xs n (T.filter (· ≠ i))) j) (Sy n f j)) = 0 := S_zero' fun j hj => by rw [hs j hj, mul_zero]
  have hflen : (T.filter (· ≠ i)).length + 1 ≤ T.length := by
    have : (T.filter (· ≠ i)).length < T.length := by
      refine Nat.lt_of_le_of_ne (List.length_filter_le _ _) fun e => ?_
      have := List.length_filter_eq_length_iff.1 e i hiT
      simp at this
    omega
  have h2 : S p (fun j => mul (G (Xs n (T.filter (· ≠ i))) j) (Sy n f j)) = S n (fun k => mul (f k) (ev (G (Xs n (T.filter (· ≠ i)))) p (X n k))) := by
    unfold Sy ev
    rw [show S p (fun j => mul (G (Xs n (T.filter (· ≠ i))) j) (S n fun k => mul (f k) (pw (X n k) j))) = S p (fun j => S n (fun k => mul (f k) (mul (G (Xs n (T.filter (· ≠ i))) j) (pw (X n k) j)))) from
      S_congr fun j _ => by rw [mul_S]; exact S_congr fun k _ => by ac_rfl]
    rw [S_swap]
    exact S_congr fun k _ => by rw [mul_S]
  rw [h1] at h2
  have hFT : ∀ k, k ∈ T.filter (· ≠ i) → k < n := fun k hk => hT k (List.mem_filter.1 hk).1
  rw [S_single (k := i) hi fun k hk hki => by
    by_cases hk0 : f k = 0
    · rw [hk0, zero_mul]
    · have : k ∈ T.filter (· ≠ i) := List.mem_filter.2 ⟨hf k hk hk0, by simpa using hki⟩
      rw [G_ev_zero (mem_Xs this) (by rw [Xs_length]; omega), mul_zero]] at h2
  rcases mul_eq_zero h2.symm with h | h
  · exact h
  · refine absurd h (G_ev_ne (fun hm => ?_) (by rw [Xs_length]; omega))
    have := (Xs_mem hn hFT hi).1 hm
    simp at this
end Gf
set_option linter.unusedVariables false
set_option linter.unusedSimpArgs false
namespace Gf
def co (l : List UInt8) (i : Nat) : UInt8 := l.getD i 0
theorem co_ge {l : List UInt8} {i : Nat} (h : l.length ≤ i) : co l i = 0 := by
  unfold co; rw [List.getD_eq_getElem?_getD, List.getElem?_eq_none h]; rfl
theorem co_lt {l : List UInt8} {i : Nat} (h : i < l.length) : co l i = l[i] := by
  unfold co; rw [List.getD_eq_getElem?_getD, List.getElem?_eq_getElem h]; rfl
theorem co_sup (l : List UInt8) : Sup l.length (co l) := fun _ h => co_ge h
theorem co_ext {l m : List UInt8} (hl : l.length = m.length) (h : ∀ i, i < l.length → co l i = co m i) : l = m := by
  apply List.ext_getElem hl
  intro i h1 h2
  have := h i h1
  rwa [co_lt h1, co_lt h2] at this
theorem co_nil (i : Nat) : co [] i = 0 := rfl
theorem co_cons_zero (c : UInt8) (l : List UInt8) : co (c :: l) 0 = c := rfl
theorem co_cons_succ (c : UInt8) (l : List UInt8) (i : Nat) : co (c :: l) (i + 1) = co l i := by simp [co]
theorem co_append_left {l m : List UInt8} {i : Nat} (h : i < l.length) : co (l ++ m) i = co l i := by
  unfold co; simp [List.getD_eq_getElem?_getD, List.getElem?_append_left h]
theorem co_append_right {l m : List UInt8} {i : Nat} (h : l.length ≤ i) : co (l ++ m) i = co m (i - l.length) := by
  unfold co; simp [List.getD_eq_getElem?_getD, List.getElem?_append_right h]
theorem co_set {l : List UInt8} {i j : Nat} {c : UInt8} (h : i < l.length) : co (l.set i c) j = if j = i then c else co l j := by
  unfold co
  simp only [List.getD_eq_getElem?_getD, List.getElem?_set]
  by_cases e : i = j
  · subst e; simp [h]
  · rw [if_neg e, if_neg fun e' => e e'.symm]
theorem co_take {l : List UInt8} {k i : Nat} (h : i < k) : co (l.take k) i = co l i := by
  unfold co; simp [List.getD_eq_getElem?_getD, h]
theorem co_drop {l : List UInt8} {k i : Nat} : co (l.drop k) i = co l (k + i) := by
  unfold co; simp [List.getD_eq_getElem?_getD]
theorem co_replicate {n i : Nat} : co (List.replicate n 0) i = 0 := by
  unfold co; simp only [List.getD_eq_getElem?_getD, List.getElem?_replicate]; split <;> rfl
theorem co_map {l : List UInt8} {f : UInt8 → UInt8} (hf : f 0 = 0) {i : Nat} : co (l.map f) i = f (co l i) := by
  unfold co
  simp only [List.getD_eq_getElem?_getD, List.getElem?_map]
  cases l[i]? <;> simp [hf]
theorem co_mul {l : List UInt8} (a : UInt8) (i : Nat) : co (l.map (mul a)) i = mul a (co l i) := co_map (mul_zero a)

/-- the value by Horner's rule, the highest power first -/
def hor (l : List UInt8) (x : UInt8) : UInt8 := l.foldl (fun s c => mul s x ^^^ c) 0
theorem hor_snoc (l : List UInt8) (c x : UInt8) : hor (l ++ [c]) x = mul (hor l x) x ^^^ c := by simp [hor]
theorem snoc_ind {P : List UInt8 → Prop} (h0 : P []) (h1 : ∀ l c, P l → P (l ++ [c])) (l : List UInt8) : P l := by
  have : ∀ n, ∀ l : List UInt8, l.length = n → P l := by
    intro n
    induction n with
    | zero => intro l hl; rw [List.eq_nil_of_length_eq_zero hl]; exact h0
    | succ n ih =>
      intro l hl
      have hne : l ≠ [] := fun e => by rw [e] at hl; cases hl
      rw [← List.dropLast_concat_getLast hne]
      exact h1 _ _ (ih _ (by simp [hl]))
  exact this _ l rfl
theorem hor_S (l : List UInt8) (x : UInt8) : hor l x = S l.length (fun i => mul (co l i) (pw x (l.length - 1 - i))) := by
  induction l using snoc_ind with
  | h0 => rfl
  | h1 l c ih =>
    rw [hor_snoc, ih, List.length_append, List.length_singleton, S, S_mul]
    congr 1
    · refine S_congr fun i hi => ?_
      rw [co_append_left hi, mul_assoc, ← pw, show (l.length - 1 - i).succ = l.length + 1 - 1 - i from by omega]
    · rw [co_append_right (Nat.le_refl _), Nat.sub_self, co_cons_zero, show l.length + 1 - 1 - l.length = 0 from by omega, pw, mul_one]
theorem hor_append (l m : List UInt8) (x : UInt8) : hor (l ++ m) x = mul (hor l x) (pw x m.length) ^^^ hor m x := by
  induction m using snoc_ind with
  | h0 => simp [hor, pw, mul_one]
  | h1 m c ih =>
    rw [← List.append_assoc, hor_snoc, ih, hor_snoc, List.length_append, List.length_singleton, pw, add_mul, mul_assoc, UInt8.xor_assoc]
theorem hor_zeros (n : Nat) (x : UInt8) : hor (List.replicate n 0) x = 0 := by
  rw [hor_S]; exact S_zero' fun i _ => by rw [co_replicate, zero_mul]
theorem hor_al (l : List UInt8) (j : Nat) : hor l (al j) = Sy l.length (co l) j := by
  rw [hor_S]
  refine S_congr fun i hi => ?_
  unfold X
  rw [pw_al, pw_al, Nat.mul_comm]
theorem hor_map (l : List UInt8) (a x : UInt8) : hor (l.map (mul a)) x = mul a (hor l x) := by
  rw [hor_S, hor_S, List.length_map, mul_S]
  exact S_congr fun i _ => by rw [co_mul, mul_assoc]
/-- exclusive or of words -/
def xorL (l m : List UInt8) : List UInt8 := List.zipWith (· ^^^ ·) l m
theorem xorL_length {l m : List UInt8} (h : l.length = m.length) : (xorL l m).length = l.length := by simp [xorL, h]
theorem co_xorL {l m : List UInt8} (h : l.length = m.length) (i : Nat) : co (xorL l m) i = co l i ^^^ co m i := by
  by_cases hi : i < l.length
  · rw [co_lt (by rw [xorL_length h]; exact hi), co_lt hi, co_lt (h ▸ hi)]; simp [xorL]
  · rw [co_ge (by rw [xorL_length h]; omega), co_ge (by omega), co_ge (by omega)]; rfl
theorem hor_xorL {l m : List UInt8} (h : l.length = m.length) (x : UInt8) : hor (xorL l m) x = hor l x ^^^ hor m x := by
  rw [hor_S, hor_S, hor_S, xorL_length h, ← h, ← S_xor]
  exact S_congr fun i _ => by rw [co_xorL h, add_mul]

/-- a codeword -/
def IsCw (w : List UInt8) (p : Nat) : Prop := ∀ j, j < p → hor w (al j) = 0
theorem IsCw.xor {w w' : List UInt8} {p : Nat} (hl : w.length = w'.length) (h : IsCw w p) (h' : IsCw w' p) : IsCw (xorL w w') p := fun j hj => by
  rw [hor_xorL hl, h j hj, h' j hj, UInt8.xor_self]
/-- codewords that differ at few positions are one -/
theorem cw_unique {w w' : List UInt8} {p : Nat} (hn : w.length ≤ 255) (hl : w.length = w'.length) (h : IsCw w p) (h' : IsCw w' p) {T : List Nat} (hT : ∀ k, k ∈ T → k < w.length) (hlen : T.length ≤ p)
    (hd : ∀ i, i < w.length → co w i ≠ co w' i → i ∈ T) : w = w' := by
  have hx := IsCw.xor hl h h'
  have hxl := xorL_length hl
  have := dist (n := w.length) (p := p) hn (f := co (xorL w w')) hT hlen (fun i hi h0 => hd i hi fun e => h0 (by rw [co_xorL hl, e, UInt8.xor_self])) fun j hj => by
    rw [← hxl, ← hor_al]; exact hx j hj
  exact co_ext hl fun i hi => xor_eq_zero (by rw [← co_xorL hl]; exact this i hi)
theorem enc_unique {d r r' : List UInt8} {p : Nat} (hn : d.length + p ≤ 255) (hr : r.length = p) (hr' : r'.length = p) (h : IsCw (d ++ r) p) (h' : IsCw (d ++ r') p) : r = r' := by
  have hl : (d ++ r).length = (d ++ r').length := by simp [hr, hr']
  have := cw_unique (by simp [hr]; omega) hl h h' (T := (List.range p).map (d.length + ·)) (fun k hk => by simp at hk; simp [hr]; omega) (by simp) fun i hi hne => by
    by_cases hid : i < d.length
    · exact absurd (by rw [co_append_left hid, co_append_left hid]) hne
    · refine List.mem_map.2 ⟨i - d.length, ?_, by omega⟩
      simp [hr] at hi ⊢; omega
  exact List.append_cancel_left this

/-- other symbols added from an index on -/
def addAt (R : List UInt8) (i : Nat) : List UInt8 → List UInt8
  | [] => R
  | c :: h => addAt (R.set i (co R i ^^^ c)) (i + 1) h
theorem addAt_length (h : List UInt8) : ∀ (R : List UInt8) (i : Nat), (addAt R i h).length = R.length := by
  induction h with
  | nil => intro R i; rfl
  | cons c h ih => intro R i; rw [addAt, ih, List.length_set]
theorem addAt_snoc (h : List UInt8) (c : UInt8) : ∀ (R : List UInt8) (i : Nat), addAt R i (h ++ [c]) = (addAt R i h).set (i + h.length) (co (addAt R i h) (i + h.length) ^^^ c) := by
  induction h with
  | nil => intro R i; simp [addAt]
  | cons a h ih => intro R i; rw [List.cons_append, addAt, ih, addAt, List.length_cons, show i + 1 + h.length = i + (h.length + 1) from by omega]
theorem co_addAt (h : List UInt8) : ∀ (R : List UInt8) (i : Nat), i + h.length ≤ R.length → ∀ j, co (addAt R i h) j = co R j ^^^ (if i ≤ j then co h (j - i) else 0) := by
  induction h with
  | nil => intro R i _ j; simp [addAt, co_nil]
  | cons c h ih =>
    intro R i hl j
    simp only [List.length_cons] at hl
    rw [addAt, ih _ _ (by rw [List.length_set]; omega), co_set (by omega)]
    by_cases e : j = i
    · subst e
      rw [if_pos rfl, if_neg (by omega), if_pos (Nat.le_refl _), Nat.sub_self, co_cons_zero, UInt8.xor_zero]
    · rw [if_neg e]
      by_cases h' : i ≤ j
      · rw [if_pos (by omega), if_pos h', show j - i = (j - (i + 1)) + 1 from by omega, co_cons_succ]
      · rw [if_neg (by omega), if_neg h']
theorem hor_addAt {R h : List UInt8} {i : Nat} (hl : i + h.length ≤ R.length) (x : UInt8) : hor (addAt R i h) x = hor R x ^^^ mul (hor h x) (pw x (R.length - i - h.length)) := by
  rw [hor_S, hor_S, hor_S, addAt_length, S_mul]
  rw [show S R.length (fun j => mul (co (addAt R i h) j) (pw x (R.length - 1 - j))) = S R.length (fun j => mul (co R j) (pw x (R.length - 1 - j)) ^^^ mul (if i ≤ j then co h (j - i) else 0) (pw x (R.length - 1 - j))) from
    S_congr fun j _ => by rw [co_addAt h R i hl, add_mul]]
  rw [S_xor]
  congr 1
  obtain ⟨m, hm⟩ : ∃ m, R.length = i + (h.length + m) := ⟨R.length - i - h.length, by omega⟩
  rw [hm, S_add, S_zero' fun j hj => by rw [if_neg (by omega), zero_mul], UInt8.zero_xor, S_add, S_zero' (n := m) fun j hj => by rw [if_pos (by omega), co_ge (by omega), zero_mul], UInt8.xor_zero]
  refine S_congr fun j hj => ?_
  rw [if_pos (by omega), mul_assoc, ← pw_add]
  congr 2 <;> omega
/-- the shift -/
def sh (i : Nat) (f : Nat → UInt8) (j : Nat) : UInt8 := if i ≤ j then f (j - i) else 0
theorem sh_cv (i : Nat) (f : Nat → UInt8) : sh i f = cv (xp i) f := by
  funext j
  unfold sh cv
  by_cases h : i ≤ j
  · rw [if_pos h, S_single (k := i) (by omega) fun k _ hk => by rw [xp, if_neg hk, zero_mul], xp, if_pos rfl, one_mul]
  · rw [if_neg h]
    exact (S_zero' fun k hk => by rw [xp, if_neg (by omega), zero_mul]).symm
/-- the product of lists: out[i + k] ^= p[i] q[k], i below k -/
def prodN (p q : List UInt8) : Nat → List UInt8
  | 0 => List.replicate (p.length + q.length - 1) 0
  | k + 1 => addAt (prodN p q k) k (q.map (mul (co p k)))
theorem prodN_length (p q : List UInt8) (k : Nat) : (prodN p q k).length = p.length + q.length - 1 := by
  induction k with
  | zero => simp [prodN]
  | succ k ih => rw [prodN, addAt_length, ih]
theorem co_prodN (p q : List UInt8) (k : Nat) (hk : k ≤ p.length) (hq : q ≠ []) (j : Nat) : co (prodN p q k) j = S k (fun i => if i ≤ j then mul (co p i) (co q (j - i)) else 0) := by
  have hql : 0 < q.length := List.length_pos_iff.2 hq
  induction k with
  | zero => rw [prodN, co_replicate]; rfl
  | succ k ih =>
    rw [prodN, co_addAt _ _ _ (by rw [prodN_length, List.length_map]; omega), ih (by omega), S]
    congr 1
    split
    · rw [co_mul]
    · rfl
def prod (p q : List UInt8) : List UInt8 := if p = [] ∨ q = [] then [] else prodN p q p.length
theorem co_prod {p q : List UInt8} (hp : p ≠ []) (hq : q ≠ []) : co (prod p q) = cv (co p) (co q) := by
  funext j
  unfold prod cv
  rw [if_neg (by simp [hp, hq]), co_prodN p q _ (Nat.le_refl _) hq]
  by_cases h : p.length ≤ j + 1
  · rw [S_ext (n := p.length) h fun i h1 _ => by rw [co_ge h1, zero_mul]]
    exact S_congr fun i hi => if_pos (by omega)
  · rw [S_ext (n := j + 1) (m := p.length) (by omega) fun i h1 _ => if_neg (by omega)]
    exact S_congr fun i hi => if_pos (by omega)
theorem prod_length {p q : List UInt8} (hp : p ≠ []) (hq : q ≠ []) : (prod p q).length = p.length + q.length - 1 := by
  unfold prod; rw [if_neg (by simp [hp, hq]), prodN_length]
/-- Horner's rule at a product -/
theorem hor_prod {p q : List UInt8} (hp : p ≠ []) (hq : q ≠ []) {x : UInt8} (hx : x ≠ 0) : hor (prod p q) x = mul (hor p x) (hor q x) := by
  have hinv : ∀ l : List UInt8, l ≠ [] → hor l x = mul (pw x (l.length - 1)) (ev (co l) l.length (inv x)) := fun l hl => by
    rw [hor_S]
    unfold ev
    rw [mul_S]
    refine S_congr fun i hi => ?_
    rw [show pw x (l.length - 1) = mul (pw x (l.length - 1 - i)) (pw x i) from by rw [← pw_add]; congr 1; omega]
    have : mul (pw x i) (pw (inv x) i) = 1 := by rw [← pw_mul, mul_inv hx, pw_one]
    calc mul (co l i) (pw x (l.length - 1 - i)) = mul (mul (pw x (l.length - 1 - i)) (co l i)) 1 := by rw [mul_one, mul_comm]
      _ = mul (mul (pw x (l.length - 1 - i)) (co l i)) (mul (pw x i) (pw (inv x) i)) := by rw [this]
      _ = _ := by ac_rfl
  have hpl : 0 < p.length := List.length_pos_iff.2 hp
  have hql : 0 < q.length := List.length_pos_iff.2 hq
  have hpq : prod p q ≠ [] := fun e => by have := prod_length hp hq; rw [e] at this; simp at this; omega
  rw [hinv _ hpq, hinv _ hp, hinv _ hq, prod_length hp hq, co_prod hp hq, ev_cv (inv x) (co_sup p) (co_sup q) (by omega)]
  rw [show p.length + q.length - 1 - 1 = (p.length - 1) + (q.length - 1) from by omega, pw_add]
  ac_rfl
end Gf
set_option linter.unusedVariables false
set_option linter.unusedSimpArgs false
namespace Gf
/-- the value of a polynomial, the lowest power first -/
def evl (l : List UInt8) (x : UInt8) : UInt8 := l.foldr (fun c s => mul s x ^^^ c) 0
theorem evl_ev (l : List UInt8) (x : UInt8) : evl l x = ev (co l) l.length x := by
  induction l with
  | nil => rfl
  | cons c l ih =>
    have : evl (c :: l) x = mul (evl l x) x ^^^ c := rfl
    rw [this, ih]
    unfold ev
    rw [List.length_cons, S_succ, co_cons_zero, pw, mul_one, UInt8.xor_comm, S_mul]
    congr 1
    exact S_congr fun i _ => by rw [co_cons_succ, pw, mul_assoc]
theorem evl_big (l : List UInt8) (x : UInt8) {M : Nat} (hM : l.length ≤ M) : evl l x = ev (co l) M x := by
  rw [evl_ev, ev_ext x (co_sup l) hM]
/-- the derivative -/
def der (l : List UInt8) : List UInt8 := (List.range (l.length - 1)).map fun i => if i % 2 = 0 then co l (i + 1) else 0
theorem der_length (l : List UInt8) : (der l).length = l.length - 1 := by simp [der]
theorem co_der (l : List UInt8) (i : Nat) : co (der l) i = if i % 2 = 0 then co l (i + 1) else 0 := by
  by_cases h : i < l.length - 1
  · rw [co_lt (by rw [der_length]; exact h)]; simp [der]
  · rw [co_ge (by rw [der_length]; omega)]
    split
    · rw [co_ge (by omega)]
    · rfl
theorem der_od (l : List UInt8) (x : UInt8) {M : Nat} (hM : l.length ≤ M) : mul x (evl (der l) x) = ev (od (co l)) M x := by
  rw [ev_ext x (od_sup (co_sup l)) hM]
  rw [evl_ev, der_length]
  unfold ev
  rcases Nat.eq_zero_or_pos l.length with h | h
  · rw [h]; exact mul_zero x
  · rw [show l.length = l.length - 1 + 1 from by omega, S_succ, Nat.add_sub_cancel]
    rw [show od (co l) 0 = 0 from rfl, zero_mul, UInt8.zero_xor, mul_S]
    refine S_congr fun i _ => ?_
    rw [co_der, pw]
    unfold od
    by_cases h : i % 2 = 0
    · rw [if_pos h, if_pos (by omega)]; ac_rfl
    · rw [if_neg h, if_neg (by omega), zero_mul, mul_zero, zero_mul]
def half : UInt8 := al 254
def ix (n i : Nat) : UInt8 := pw half (n - 1 - i)
theorem pw_two (k : Nat) : pw 2 k = al k := by
  have : (2 : UInt8) = al 1 := by decide
  rw [this, pw_al, Nat.one_mul]
theorem X_ix (n i : Nat) : mul (X n i) (ix n i) = 1 := by
  unfold X ix
  rw [← pw_two, ← pw_mul, show mul 2 half = 1 from by decide +kernel, pw_one]
theorem ix_ne (n i : Nat) : ix n i ≠ 0 := fun h => by
  have := X_ix n i
  rw [h, mul_zero] at this
  exact absurd this (by decide)
def repAt (w psi om : List UInt8) (i : Nat) : UInt8 :=
  if evl psi (ix w.length i) = 0 then co w i ^^^ mul (X w.length i) (mul (evl om (ix w.length i)) (inv (evl (der psi) (ix w.length i)))) else co w i
def rep (w psi om : List UInt8) : List UInt8 := (List.range w.length).map (repAt w psi om)
theorem rep_length (w psi om : List UInt8) : (rep w psi om).length = w.length := by simp [rep]
theorem co_rep {w psi om : List UInt8} {i : Nat} (h : i < w.length) : co (rep w psi om) i = repAt w psi om i := by
  rw [co_lt (by rw [rep_length]; exact h)]; simp [rep]

/-- strictly increasing positions of a word of length n -/
def Pos (n : Nat) (er : List Nat) : Prop := er.Pairwise (· < ·) ∧ ∀ k, k ∈ er → k < n
/-- where two words differ outside of some positions -/
def outs (w c : List UInt8) (er : List Nat) : List Nat := (List.range w.length).filter fun i => decide (co w i ≠ co c i) && !er.contains i
def difs (w c : List UInt8) : Nat := ((List.range w.length).filter fun i => decide (co w i ≠ co c i)).length
def Near (w : List UInt8) (p : Nat) (er : List Nat) (c : List UInt8) : Prop := c.length = w.length ∧ IsCw c p ∧ 2 * (outs w c er).length + er.length ≤ p
theorem mem_outs {w c : List UInt8} {er : List Nat} {i : Nat} : i ∈ outs w c er ↔ i < w.length ∧ co w i ≠ co c i ∧ i ∉ er := by
  simp [outs]
theorem near_unique {w : List UInt8} {p : Nat} {er : List Nat} (hn : w.length ≤ 255) (her : Pos w.length er) {c c' : List UInt8} (h : Near w p er c) (h' : Near w p er c') : c = c' := by
  refine cw_unique (p := p) (by rw [h.1]; exact hn) (by rw [h.1, h'.1]) h.2.1 h'.2.1 (T := outs w c er ++ outs w c' er ++ er) ?_ ?_ ?_
  · intro k hk
    rw [h.1]
    rcases List.mem_append.1 hk with hk | hk
    · rcases List.mem_append.1 hk with hk | hk
      · exact (mem_outs.1 hk).1
      · exact (mem_outs.1 hk).1
    · exact her.2 k hk
  · have := h.2.2
    have := h'.2.2
    simp only [List.length_append]
    omega
  · intro i hi hne
    rw [h.1] at hi
    by_cases h1 : i ∈ er
    · exact List.mem_append_right _ h1
    · refine List.mem_append_left _ (List.mem_append.2 ?_)
      by_cases h2 : co w i = co c i
      · exact .inr (mem_outs.2 ⟨hi, fun e => hne (h2 ▸ e), h1⟩)
      · exact .inl (mem_outs.2 ⟨hi, h2, h1⟩)
theorem Sy_congr {n : Nat} {e e' : Nat → UInt8} (h : ∀ i, i < n → e i = e' i) (j : Nat) : Sy n e j = Sy n e' j := S_congr fun i hi => by rw [h i hi]
theorem Sy_err {w c : List UInt8} {p : Nat} (hl : c.length = w.length) (hc : IsCw c p) {j : Nat} (hj : j < p) : Sy w.length (fun i => co w i ^^^ co c i) j = Sy w.length (co w) j := by
  have h := hc j hj
  rw [hor_al, hl] at h
  have : Sy w.length (fun i => co w i ^^^ co c i) j = Sy w.length (co w) j ^^^ Sy w.length (co c) j := by
    unfold Sy
    rw [← S_xor]
    exact S_congr fun i _ => add_mul _ _ _
  rw [this, h, UInt8.xor_zero]

/-- EUCLID'S LAST STATE REPAIRS THE WORD. -/
theorem rep_near {w : List UInt8} {p : Nat} {er : List Nat} (hn : w.length ≤ 255) (her : Pos w.length er) (hlen : er.length ≤ p) {c : List UInt8} (hc : Near w p er c)
    {Xi a u : Nat → UInt8} {b v psi : List UInt8} {da m : Nat} (hE : Eu p er.length Xi a (co b) u (co v) da) (hm : Sup m (co b)) (hms : 2 * m ≤ p + er.length + 1)
    (hXi : Eqm p Xi (cv (Sy w.length (co w)) (L (Xs w.length er)))) (hpsi : co psi = cv (co v) (L (Xs w.length er))) : rep w psi b = c := by
  have hE1 : ∀ k, k ∈ outs w c er ++ er → k < w.length := fun k hk => by
    rcases List.mem_append.1 hk with hk | hk
    · exact (mem_outs.1 hk).1
    · exact her.2 k hk
  have hd : (outs w c er ++ er).Nodup := by
    refine List.nodup_append.2 ⟨List.Nodup.sublist List.filter_sublist List.nodup_range, her.1.imp (fun h => by omega), fun i hi j hj e => ?_⟩
    exact (mem_outs.1 hi).2.2 (e ▸ hj)
  have he : ∀ i, i < w.length → co w i ^^^ co c i ≠ 0 → i ∈ outs w c er ++ er := fun i hi h0 => by
    by_cases h1 : i ∈ er
    · exact List.mem_append_right _ h1
    · exact List.mem_append_left _ (mem_outs.2 ⟨hi, fun e => h0 (by rw [e, UInt8.xor_self]), h1⟩)
  have heE : ∀ i, i ∈ outs w c er → co w i ^^^ co c i ≠ 0 := fun i hi h0 => (mem_outs.1 hi).2.1 (xor_eq_zero h0)
  have hXi' : Eqm p Xi (cv (Sy w.length (fun i => co w i ^^^ co c i)) (L (Xs w.length er))) :=
    hXi.trans (Eqm.cv (fun j hj => (Sy_err hc.1 hc.2.1 hj).symm) (Eqm.refl _ _))
  have hEp := hE.hp
  have hEs := hE.hs
  obtain ⟨H1, H2⟩ := hE.ends hm hms he rfl hc.2.2 hXi' (M := 2 * p + 2 + b.length + psi.length + v.length + psi.length) (by omega)
  refine co_ext (by rw [rep_length, hc.1]) fun i hi => ?_
  rw [rep_length] at hi
  rw [co_rep hi]
  have hr := repair_at (n := w.length) (e := fun i => co w i ^^^ co c i) (E := outs w c er) (Er := er) hn hE1 hd he heE (v := co v) (b := co b) (N := p + 1) (M := 2 * p + 2 + b.length + psi.length + v.length + psi.length)
    (hE.sv.mono (by omega)) (hE.sb.mono (by omega)) (by have := hc.2.2; simp only [List.length_append]; omega) (by omega) H1 H2 hi (X_ix w.length i)
  rw [← hpsi, ← evl_big psi _ (by omega), ← evl_big b _ (by omega), ← der_od psi _ (by omega)] at hr
  unfold repAt
  by_cases hz : evl psi (ix w.length i) = 0
  · rw [if_pos hz]
    obtain ⟨h1, h2⟩ := hr.1 hz
    have hs : evl (der psi) (ix w.length i) ≠ 0 := fun e => h1 (by rw [e, mul_zero])
    rw [h2]
    have : mul (X w.length i) (mul (mul (co w i ^^^ co c i) (mul (ix w.length i) (evl (der psi) (ix w.length i)))) (inv (evl (der psi) (ix w.length i)))) =
        mul (mul (co w i ^^^ co c i) (mul (X w.length i) (ix w.length i))) (mul (evl (der psi) (ix w.length i)) (inv (evl (der psi) (ix w.length i)))) := by ac_rfl
    rw [this, X_ix, mul_inv hs, mul_one, mul_one, ← UInt8.xor_assoc, UInt8.xor_self, UInt8.zero_xor]
  · rw [if_neg hz]
    exact xor_eq_zero (hr.2 hz)

/-- ERASURES ALONE. -/
theorem rep_fill {w : List UInt8} {p : Nat} {er : List Nat} (hn : w.length ≤ 255) (her : Pos w.length er) (hlen : er.length ≤ p) {c : List UInt8} (hl : c.length = w.length) (hcw : IsCw c p) (ho : outs w c er = [])
    {xi psi : List UInt8} (hxl : xi.length ≤ p) (hXi : Eqm p (co xi) (cv (Sy w.length (co w)) (L (Xs w.length er)))) (hpsi : co psi = L (Xs w.length er)) : rep w psi xi = c := by
  have hE1 : ∀ k, k ∈ [] ++ er → k < w.length := fun k hk => her.2 k (by simpa using hk)
  have hd : ([] ++ er).Nodup := by rw [List.nil_append]; exact her.1.imp (fun h => by omega)
  have he : ∀ i, i < w.length → co w i ^^^ co c i ≠ 0 → i ∈ [] ++ er := fun i hi h0 => by
    by_cases h1 : i ∈ er
    · simpa using h1
    · have : i ∈ outs w c er := mem_outs.2 ⟨hi, fun e => h0 (by rw [e, UInt8.xor_self]), h1⟩
      rw [ho] at this
      cases this
  have hXi' : Eqm p (co xi) (cv (Sy w.length (fun i => co w i ^^^ co c i)) (L (Xs w.length er))) :=
    hXi.trans (Eqm.cv (fun j hj => (Sy_err hl hcw hj).symm) (Eqm.refl _ _))
  have hOm : co xi = Om w.length (fun i => co w i ^^^ co c i) ([] ++ er) := by
    refine Sup.eq (N := p) ((co_sup xi).mono hxl) ((Om_sup he).mono (by simpa using hlen)) ?_
    unfold Om
    rw [cv_comm]
    exact hXi'
  refine co_ext (by rw [rep_length, hl]) fun i hi => ?_
  rw [rep_length] at hi
  rw [co_rep hi]
  have hr := repair_at (n := w.length) (e := fun i => co w i ^^^ co c i) (E := []) (Er := er) hn hE1 hd he (by simp) (v := one) (b := co xi) (N := p + 1) (M := 2 * p + 2 + xi.length + psi.length)
    (one_sup (by omega)) ((co_sup xi).mono (by omega)) (by simpa using hlen) (by omega) (by rw [one_cv, ← hOm]; exact (one_cv _).symm)
    (fun x _ h => by rw [ev_one x (by omega)] at h; exact absurd h (by decide)) hi (X_ix w.length i)
  rw [one_cv, ← hpsi, ← evl_big psi _ (by omega), ← evl_big xi _ (by omega), ← der_od psi _ (by omega)] at hr
  unfold repAt
  by_cases hz : evl psi (ix w.length i) = 0
  · rw [if_pos hz]
    obtain ⟨h1, h2⟩ := hr.1 hz
    have hs : evl (der psi) (ix w.length i) ≠ 0 := fun e => h1 (by rw [e, mul_zero])
    rw [h2]
    have : mul (X w.length i) (mul (mul (co w i ^^^ co c i) (mul (ix w.length i) (evl (der psi) (ix w.length i)))) (inv (evl (der psi) (ix w.length i)))) =
        mul (mul (co w i ^^^ co c i) (mul (X w.length i) (ix w.length i))) (mul (evl (der psi) (ix w.length i)) (inv (evl (der psi) (ix w.length i)))) := by ac_rfl
    rw [this, X_ix, mul_inv hs, mul_one, mul_one, ← UInt8.xor_assoc, UInt8.xor_self, UInt8.zero_xor]
  · rw [if_neg hz]
    exact xor_eq_zero (hr.2 hz)
end Gf
