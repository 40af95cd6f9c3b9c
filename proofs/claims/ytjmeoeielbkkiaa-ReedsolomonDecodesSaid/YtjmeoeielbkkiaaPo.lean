import Derived.Test.YtjmeoeielbkkiaaGf
set_option linter.unusedVariables false
set_option linter.unusedSimpArgs false
namespace Gf
def S : Nat → (Nat → UInt8) → UInt8
  | 0, _ => 0
  | n + 1, f => S n f ^^^ f n
theorem S_congr {n : Nat} {f g : Nat → UInt8} (h : ∀ i, i < n → f i = g i) : S n f = S n g := by
  induction n with
  | zero => rfl
  | succ n ih => rw [S, S, ih fun i hi => h i (by omega), h n (by omega)]
theorem S_zero (n : Nat) : S n (fun _ => 0) = 0 := by
  induction n with
  | zero => rfl
  | succ n ih => rw [S, ih, UInt8.xor_zero]
theorem S_zero' {n : Nat} {f : Nat → UInt8} (h : ∀ i, i < n → f i = 0) : S n f = 0 := by rw [S_congr h, S_zero]
theorem S_xor (n : Nat) (f g : Nat → UInt8) : S n (fun i => f i ^^^ g i) = S n f ^^^ S n g := by
  induction n with
  | zero => simp [S]
  | succ n ih => rw [S, S, S, ih, xor4]
theorem mul_S (a : UInt8) (n : Nat) (f : Nat → UInt8) : mul a (S n f) = S n (fun i => mul a (f i)) := by
  induction n with
  | zero => exact mul_zero a
  | succ n ih => rw [S, S, mul_add, ih]
theorem S_mul (a : UInt8) (n : Nat) (f : Nat → UInt8) : mul (S n f) a = S n (fun i => mul (f i) a) := by
  rw [mul_comm, mul_S]; exact S_congr fun i _ => mul_comm _ _
theorem S_swap (n m : Nat) (f : Nat → Nat → UInt8) : S n (fun i => S m (fun j => f i j)) = S m (fun j => S n (fun i => f i j)) := by
  induction n with
  | zero => simp only [S]; exact (S_zero m).symm
  | succ n ih => simp only [S]; rw [ih, S_xor]
theorem S_add (n m : Nat) (f : Nat → UInt8) : S (n + m) f = S n f ^^^ S m (fun i => f (n + i)) := by
  induction m with
  | zero => simp [S]
  | succ m ih => rw [← Nat.add_assoc, S, ih, S, UInt8.xor_assoc]
theorem S_ext {n m : Nat} {f : Nat → UInt8} (hnm : n ≤ m) (h : ∀ i, n ≤ i → i < m → f i = 0) : S m f = S n f := by
  obtain ⟨k, rfl⟩ := Nat.exists_eq_add_of_le hnm
  rw [S_add, S_zero' (n := k) fun i hi => h _ (by omega) (by omega), UInt8.xor_zero]
theorem S_single {n k : Nat} {f : Nat → UInt8} (hk : k < n) (h : ∀ i, i < n → i ≠ k → f i = 0) : S n f = f k := by
  rw [S_ext (n := k + 1) (by omega) fun i h1 h2 => h i h2 (by omega), S, S_zero' fun i hi => h i (by omega) (by omega), UInt8.zero_xor]
theorem S_succ (n : Nat) (f : Nat → UInt8) : S (n + 1) f = f 0 ^^^ S n (fun i => f (i + 1)) := by
  rw [Nat.add_comm, S_add]
  simp only [S, UInt8.zero_xor]
  congr 1
  exact S_congr fun i _ => by rw [Nat.add_comm]
theorem S_rev (n : Nat) : ∀ f : Nat → UInt8, S n f = S n (fun i => f (n - 1 - i)) := by
  induction n with
  | zero => intro f; rfl
  | succ n ih =>
    intro f
    rw [S_succ n (fun i => f (n + 1 - 1 - i)), S, ih, UInt8.xor_comm]
    congr 1
    exact S_congr fun i _ => by congr 1; omega
theorem S_tri (n : Nat) (f : Nat → Nat → UInt8) : S n (fun k => S (k + 1) (fun i => f i (k - i))) = S n (fun i => S (n - i) (fun j => f i j)) := by
  induction n with
  | zero => rfl
  | succ n ih =>
    have h : S n (fun i => S (n + 1 - i) (fun j => f i j)) = S n (fun i => S (n - i) (fun j => f i j)) ^^^ S n (fun i => f i (n - i)) := by
      rw [← S_xor]
      exact S_congr fun i hi => by rw [show n + 1 - i = n - i + 1 from by omega, S]
    rw [S, ih]
    conv => rhs; rw [S, h]
    simp only [S, Nat.add_sub_cancel_left, Nat.sub_self, UInt8.zero_xor, UInt8.xor_assoc]

def cv (p q : Nat → UInt8) (n : Nat) : UInt8 := S (n + 1) (fun i => mul (p i) (q (n - i)))
theorem cv_comm (p q : Nat → UInt8) : cv p q = cv q p := by
  funext n
  unfold cv
  rw [S_rev]
  exact S_congr fun i hi => by rw [mul_comm, show n + 1 - 1 - i = n - i from by omega, show n - (n - i) = i from by omega]
theorem cv_assoc (p q r : Nat → UInt8) : cv (cv p q) r = cv p (cv q r) := by
  funext n
  unfold cv
  have h := S_tri (n + 1) (fun i j => mul (p i) (mul (q j) (r (n - i - j))))
  refine Eq.trans (S_congr fun k hk => ?_) (h.trans (S_congr fun i hi => ?_))
  · rw [S_mul]
    exact S_congr fun i hi => by rw [mul_assoc, show n - i - (k - i) = n - k from by omega]
  · rw [mul_S, show n + 1 - i = n - i + 1 from by omega]
theorem cv_add (p q r : Nat → UInt8) : cv p (fun i => q i ^^^ r i) = fun i => cv p q i ^^^ cv p r i := by
  funext n
  unfold cv
  rw [← S_xor]
  exact S_congr fun i _ => mul_add _ _ _
theorem add_cv (p q r : Nat → UInt8) : cv (fun i => p i ^^^ q i) r = fun i => cv p r i ^^^ cv q r i := by
  rw [cv_comm, cv_add, cv_comm r p, cv_comm r q]
theorem cv_zero (p : Nat → UInt8) : cv p (fun _ => 0) = fun _ => 0 := by
  funext n; unfold cv; exact S_zero' fun i _ => mul_zero _
theorem zero_cv (p : Nat → UInt8) : cv (fun _ => 0) p = fun _ => 0 := by rw [cv_comm, cv_zero]
/-- 1 -/
def one (n : Nat) : UInt8 := if n = 0 then 1 else 0
theorem one_cv (p : Nat → UInt8) : cv one p = p := by
  funext n
  unfold cv
  rw [S_single (k := 0) (by omega) fun i _ hi => by rw [one, if_neg hi, zero_mul], one, if_pos rfl, one_mul, Nat.sub_zero]
theorem cv_one (p : Nat → UInt8) : cv p one = p := by rw [cv_comm, one_cv]
/-- equal below N -/
def Eqm (N : Nat) (p q : Nat → UInt8) : Prop := ∀ i, i < N → p i = q i
theorem Eqm.cv {N : Nat} {p p' q q' : Nat → UInt8} (h : Eqm N p p') (h' : Eqm N q q') : Eqm N (cv p q) (cv p' q') := by
  intro n hn
  unfold Gf.cv
  exact S_congr fun i hi => by rw [h i (by omega), h' (n - i) (by omega)]
theorem Eqm.refl (N : Nat) (p : Nat → UInt8) : Eqm N p p := fun _ _ => rfl
theorem Eqm.symm {N : Nat} {p q : Nat → UInt8} (h : Eqm N p q) : Eqm N q p := fun i hi => (h i hi).symm
theorem Eqm.trans {N : Nat} {p q r : Nat → UInt8} (h : Eqm N p q) (h' : Eqm N q r) : Eqm N p r := fun i hi => (h i hi).trans (h' i hi)
theorem Eqm.xor {N : Nat} {p p' q q' : Nat → UInt8} (h : Eqm N p p') (h' : Eqm N q q') : Eqm N (fun i => p i ^^^ q i) (fun i => p' i ^^^ q' i) := fun i hi => by
  show p i ^^^ q i = p' i ^^^ q' i
  rw [h i hi, h' i hi]
/-- nothing from N on -/
def Sup (N : Nat) (p : Nat → UInt8) : Prop := ∀ i, N ≤ i → p i = 0
theorem Sup.mono {N M : Nat} {p : Nat → UInt8} (h : Sup N p) (hNM : N ≤ M) : Sup M p := fun i hi => h i (by omega)
theorem Sup.eq {N : Nat} {p q : Nat → UInt8} (h : Sup N p) (h' : Sup N q) (he : Eqm N p q) : p = q := by
  funext i
  by_cases hi : i < N
  · exact he i hi
  · rw [h i (by omega), h' i (by omega)]
theorem Sup.cv {N M : Nat} {p q : Nat → UInt8} (hp : Sup N p) (hq : Sup M q) : Sup (N + M - 1) (cv p q) := by
  intro n hn
  unfold Gf.cv
  refine S_zero' fun i hi => ?_
  by_cases h : i < N
  · rw [hq (n - i) (by omega), mul_zero]
  · rw [hp i (by omega), zero_mul]
theorem Sup.xor {N : Nat} {p q : Nat → UInt8} (hp : Sup N p) (hq : Sup N q) : Sup N (fun i => p i ^^^ q i) := fun i hi => by
  show p i ^^^ q i = 0
  rw [hp i hi, hq i hi, UInt8.xor_zero]

def pw (x : UInt8) : Nat → UInt8
  | 0 => 1
  | n + 1 => mul (pw x n) x
theorem pw_add (x : UInt8) (m n : Nat) : pw x (m + n) = mul (pw x m) (pw x n) := by
  induction n with
  | zero => rw [pw, mul_one, Nat.add_zero]
  | succ n ih => rw [← Nat.add_assoc, pw, ih, pw, mul_assoc]
theorem pw_one (n : Nat) : pw 1 n = 1 := by
  induction n with
  | zero => rfl
  | succ n ih => rw [pw, ih, mul_one]
theorem pw_mul (x y : UInt8) (n : Nat) : pw (mul x y) n = mul (pw x n) (pw y n) := by
  induction n with
  | zero => exact (one_mul 1).symm
  | succ n ih => rw [pw, ih, pw, pw]; ac_rfl
theorem pw_ne {x : UInt8} (h : x ≠ 0) (n : Nat) : pw x n ≠ 0 := by
  induction n with
  | zero => exact show (1 : UInt8) ≠ 0 from by decide
  | succ n ih => exact mul_ne ih h
theorem pw_al (m n : Nat) : pw (al m) n = al (m * n) := by
  induction n with
  | zero => rfl
  | succ n ih => rw [pw, ih, al_add, Nat.mul_succ]
def ev (p : Nat → UInt8) (n : Nat) (x : UInt8) : UInt8 := S n (fun i => mul (p i) (pw x i))
theorem ev_ext {p : Nat → UInt8} {n m : Nat} (x : UInt8) (h : Sup n p) (hnm : n ≤ m) : ev p m x = ev p n x :=
  S_ext hnm fun i h1 _ => by rw [h i h1, zero_mul]
theorem ev_congr {p q : Nat → UInt8} {n : Nat} (x : UInt8) (h : Eqm n p q) : ev p n x = ev q n x := S_congr fun i hi => by rw [h i hi]
theorem ev_xor (p q : Nat → UInt8) (n : Nat) (x : UInt8) : ev (fun i => p i ^^^ q i) n x = ev p n x ^^^ ev q n x := by
  unfold ev
  rw [← S_xor]
  exact S_congr fun i _ => add_mul _ _ _
theorem ev_cv' {p q : Nat → UInt8} {N M : Nat} (x : UInt8) (hp : Sup N p) (hq : Sup M q) : ev (cv p q) (N + M) x = mul (ev p N x) (ev q M x) := by
  unfold ev cv
  have h := S_tri (N + M) (fun i j => mul (mul (p i) (pw x i)) (mul (q j) (pw x j)))
  refine Eq.trans (S_congr fun k hk => ?_) (h.trans ?_)
  · rw [S_mul]
    refine S_congr fun i hi => ?_
    rw [show pw x k = mul (pw x i) (pw x (k - i)) from by rw [← pw_add]; congr 1; omega]
    ac_rfl
  · rw [S_ext (n := N) (by omega) fun i h1 _ => S_zero' fun j _ => by rw [hp i h1, zero_mul, zero_mul], S_mul]
    refine S_congr fun i hi => ?_
    rw [S_ext (n := M) (by omega) fun j h1 _ => by rw [hq j h1, zero_mul, mul_zero], mul_S]
theorem ev_cv {p q : Nat → UInt8} {N M K : Nat} (x : UInt8) (hp : Sup N p) (hq : Sup M q) (hK : N + M ≤ K + 1) : ev (cv p q) K x = mul (ev p N x) (ev q M x) := by
  rw [← ev_cv' x hp hq]
  have h := hp.cv hq
  by_cases h' : K ≤ N + M
  · exact (ev_ext x (h.mono (by omega)) h').symm
  · exact ev_ext x (h.mono (by omega)) (by omega)
/-- x times the derivative -/
def od (p : Nat → UInt8) (i : Nat) : UInt8 := if i % 2 = 1 then p i else 0
theorem od_cv (p q : Nat → UInt8) : od (cv p q) = fun n => cv (od p) q n ^^^ cv p (od q) n := by
  funext n
  unfold od cv
  rw [← S_xor]
  by_cases hn : n % 2 = 1
  · rw [if_pos hn]
    refine S_congr fun i hi => ?_
    dsimp only
    by_cases h : i % 2 = 1
    · rw [if_pos h, if_neg (by omega), mul_zero, UInt8.xor_zero]
    · rw [if_neg h, if_pos (by omega), zero_mul, UInt8.zero_xor]
  · rw [if_neg hn]
    refine (S_zero' fun i hi => ?_).symm
    dsimp only
    by_cases h : i % 2 = 1
    · rw [if_pos h, if_pos (by omega), UInt8.xor_self]
    · rw [if_neg h, if_neg (by omega), zero_mul, mul_zero, UInt8.xor_self]
theorem od_sup {N : Nat} {p : Nat → UInt8} (h : Sup N p) : Sup N (od p) := fun i hi => by unfold od; split; exact h i hi; rfl
end Gf
