import Derived.Test.YtjmeoeielbkkiaaRs
set_option linter.unusedVariables false
set_option linter.unusedSimpArgs false
namespace Gf
def xp (p i : Nat) : UInt8 := if i = p then 1 else 0
/-- the state of Euclid's algorithm -/
structure Eu (p s : Nat) (Xi a b u v : Nat → UInt8) (da : Nat) : Prop where
  hv : Eqm p (cv v Xi) b
  hu : Eqm p (cv u Xi) a
  det : (fun i => cv u b i ^^^ cv v a i) = xp p
  sa : Sup (da + 1) a
  sb : Sup da b
  sv : Sup (p - da + 1) v
  su : Sup (p - da + 1) u
  hp : da ≤ p
  hs : p + s ≤ 2 * da
theorem xp_sup (p : Nat) : Sup (p + 1) (xp p) := fun i hi => by unfold xp; rw [if_neg (by omega)]
theorem zero_sup (p : Nat) : Sup p (fun _ => 0) := fun _ _ => rfl
theorem Eu.start {p s : Nat} (hsp : s ≤ p) {Xi : Nat → UInt8} (hX : Sup p Xi) : Eu p s Xi (xp p) Xi (fun _ => 0) one p where
  hv := by rw [one_cv]; exact Eqm.refl _ _
  hu := fun i hi => by rw [zero_cv, xp, if_neg (by omega)]
  det := by funext i; rw [zero_cv, one_cv, UInt8.zero_xor]
  sa := xp_sup p
  sb := hX
  sv := one_sup (by omega)
  su := zero_sup _
  hp := Nat.le_refl _
  hs := by omega
theorem Eu.step {p s : Nat} {Xi a b u v : Nat → UInt8} {da : Nat} (h : Eu p s Xi a b u v da) {db : Nat} {q r : Nat → UInt8} (hdb : Sup (db + 1) b) (hlt : db < da) (hq : Sup (da - db + 1) q) (hr : Sup db r)
    (hdiv : r = fun i => a i ^^^ cv q b i) (hs : p + s ≤ 2 * db) : Eu p s Xi b r v (fun i => u i ^^^ cv q v i) db where
  hv := by
    rw [add_cv, cv_assoc, hdiv]
    exact h.hu.xor ((Eqm.refl p q).cv h.hv)
  hu := h.hv
  det := by
    rw [← h.det, hdiv, cv_add, add_cv]
    funext i
    rw [← cv_assoc, cv_comm v q]
    dsimp only
    generalize cv (cv q v) b i = z
    generalize cv v a i = y
    generalize cv u b i = x
    rw [show y ^^^ z ^^^ (x ^^^ z) = (x ^^^ y) ^^^ (z ^^^ z) from by ac_rfl, UInt8.xor_self, UInt8.xor_zero]
  sa := hdb
  sb := hr
  sv := (h.su.mono (by omega)).xor ((hq.cv h.sv).mono (by have := h.hp; omega))
  su := h.sv.mono (by omega)
  hp := by have := h.hp; omega
  hs := hs
theorem ev_xp {p : Nat} (x : UInt8) {M : Nat} (hM : p < M) : ev (xp p) M x = pw x p := by
  unfold ev
  rw [S_single (k := p) hM fun i _ hi => by rw [xp, if_neg hi, zero_mul], xp, if_pos rfl, one_mul]
theorem Eu.ends {p s : Nat} {Xi a b u v : Nat → UInt8} {da : Nat} (h : Eu p s Xi a b u v da) {m : Nat} (hm : Sup m b) (hms : 2 * m ≤ p + s + 1)
    {n : Nat} {e : Nat → UInt8} {E Er : List Nat} (he : ∀ i, i < n → e i ≠ 0 → i ∈ E ++ Er) (hEr : Er.length = s) (hE : 2 * E.length + Er.length ≤ p)
    (hXi : Eqm p Xi (cv (Sy n e) (L (Xs n Er)))) {M : Nat} (hM : 2 * p + 2 ≤ M) :
    cv v (Om n e (E ++ Er)) = cv (L (Xs n E)) b ∧ (∀ x, x ≠ 0 → ev v M x = 0 → ev b M x = 0 → False) := by
  have hs := h.hs
  have hp := h.hp
  constructor
  · refine Sup.eq (N := p) (Sup.mono (h.sv.cv (Om_sup he)) ?_) (Sup.mono ((L_sup _).cv hm) ?_) ?_
    · simp only [List.length_append]; omega
    · rw [Xs_length]; omega
    · have hLT : L (Xs n (E ++ Er)) = cv (L (Xs n E)) (L (Xs n Er)) := by rw [← L_append]; simp [Xs]
      unfold Om
      rw [hLT, ← cv_assoc, ← cv_assoc, cv_comm v, cv_assoc, cv_assoc]
      refine (Eqm.refl p _).cv ?_
      refine Eqm.trans ?_ h.hv
      refine (Eqm.refl p _).cv ?_
      rw [cv_comm]
      exact hXi.symm
  · intro x hx hv hb
    have h1 := congrArg (fun f => ev f M x) h.det
    rw [ev_xp x (by omega), ev_xor, ev_cv (N := p + 1) (M := p + 1) x (h.su.mono (by omega)) (h.sb.mono (by omega)) (by omega), ev_cv (N := p + 1) (M := p + 1) x (h.sv.mono (by omega)) (h.sa.mono (by omega)) (by omega)] at h1
    rw [ev_ext (n := p + 1) x (h.sv.mono (by omega)) (by omega)] at hv
    rw [ev_ext (n := p + 1) x (h.sb.mono (by omega)) (by omega)] at hb
    rw [hv, hb, mul_zero, zero_mul, UInt8.xor_zero] at h1
    exact pw_ne hx p h1.symm

/-! the distance -/
/-- X + x -/
def lin (X : UInt8) (i : Nat) : UInt8 := if i = 0 then X else if i = 1 then 1 else 0
theorem lin_sup (X : UInt8) : Sup 2 (lin X) := fun i hi => by unfold lin; rw [if_neg (by omega), if_neg (by omega)]
theorem ev_lin (X x : UInt8) {n : Nat} (hn : 2 ≤ n) : ev (lin X) n x = X ^^^ x := by
  rw [ev_ext x (lin_sup X) hn]
  simp only [ev, S, lin, pw, UInt8.zero_xor, mul_one, one_mul]
  simp [one_mul]
def G : List UInt8 → Nat → UInt8
  | [] => one
  | X :: l => cv (lin X) (G l)
theorem G_sup (l : List UInt8) : Sup (l.length + 1) (G l) := by
  induction l with
  | nil => exact one_sup (Nat.le_refl 1)
  | cons X l ih => exact ((lin_sup X).cv ih).mono (by simp; omega)
theorem G_ev_zero {l : List UInt8} {x : UInt8} (h : x ∈ l) {n : Nat} (hn : l.length + 1 ≤ n) : ev (G l) n x = 0 := by
  induction l generalizing n with
  | nil => cases h
  | cons X l ih =>
    rw [G, ev_cv x (lin_sup X) (G_sup l) (by simp at hn; omega), ev_lin X x (Nat.le_refl 2)]
    rcases List.mem_cons.1 h with h | h
    · rw [h, UInt8.xor_self, zero_mul]
    · rw [ih h (Nat.le_refl _), mul_zero]
theorem G_ev_ne {l : List UInt8} {x : UInt8} (h : x ∉ l) {n : Nat} (hn : l.length + 1 ≤ n) : ev (G l) n x ≠ 0 := by
  induction l generalizing n with
  | nil => rw [G, ev_one x (by simpa using hn)]; decide
  | cons X l ih =>
    rw [G, ev_cv x (lin_sup X) (G_sup l) (by simp at hn; omega), ev_lin X x (Nat.le_refl 2)]
    exact mul_ne (fun e => h (xor_eq_zero e ▸ List.mem_cons_self)) (ih (fun h' => h (List.mem_cons_of_mem _ h')) (Nat.le_refl _))
/-- SYMBOLS WITH ZERO SYNDROMES AND FEW OF THEM NOT ZERO ARE ALL ZERO. -/
theorem dist {n p : Nat} (hn : n ≤ 255) {f : Nat → UInt8} {T : List Nat} (hT : ∀ k, k ∈ T → k < n) (hlen : T.length ≤ p) (hf : ∀ i, i < n → f i ≠ 0 → i ∈ T)
    (hs : ∀ j, j < p → Sy n f j = 0) : ∀ i, i < n → f i = 0 := by
  intro i hi
  by_cases h0 : f i = 0
  · exact h0
  have hiT := hf i hi h0
  have hle : (Xs n (T.erase i)).length + 1 ≤ p := by
    rw [Xs_length, List.length_erase_of_mem hiT]
    have := List.length_pos_of_mem hiT
    omega
  -- the sum of the syndromes by the coefficients
  have h1 : S p (fun j => mul (G (Xs n (T.filter (· ≠ i))) j) (Sy n f j)) = 0 := S_zero' fun j hj => by rw [hs j hj, mul_zero]
  have hflen : (T.filter (· ≠ i)).length + 1 ≤ T.length := by
    have : (T.filter (· ≠ i)).length < T.length := by
      refine Nat.lt_of_le_of_ne (List.length_filter_le _ _) fun e => ?_
      have := List.length_filter_eq_length_iff.1 e i hiT
      simp at this
    omega
  have h2 : S p (fun j => mul (G (Xs n (T.filter (· ≠ i))) j) (Sy n f j)) = S n (fun k => mul (f k) (ev (G (Xs n (T.filter (· ≠ i)))) p (X n k))) := by
    unfold Sy ev
    rw [show S p (fun j => mul (G (Xs n (T.filter (· ≠ i))) j) (S n fun k => mul (f k) (pw (X n k) j))) = S p (fun j => S n (fun k => mul (f k) (mul (G (Xs n (T.filter (· ≠ i))) j) (pw (X n k) j)))) from
      S_congr fun j _ => by rw [mul_S]; exact S_congr fun k _ => by ac_rfl]
    rw [S_swap]
    exact S_congr fun k _ => by rw [mul_S]
  rw [h1] at h2
  have hFT : ∀ k, k ∈ T.filter (· ≠ i) → k < n := fun k hk => hT k (List.mem_filter.1 hk).1
  rw [S_single (k := i) hi fun k hk hki => by
    by_cases hk0 : f k = 0
    · rw [hk0, zero_mul]
    · have : k ∈ T.filter (· ≠ i) := List.mem_filter.2 ⟨hf k hk hk0, by simpa using hki⟩
      rw [G_ev_zero (mem_Xs this) (by rw [Xs_length]; omega), mul_zero]] at h2
  rcases mul_eq_zero h2.symm with h | h
  · exact h
  · refine absurd h (G_ev_ne (fun hm => ?_) (by rw [Xs_length]; omega))
    have := (Xs_mem hn hFT hi).1 hm
    simp at this
end Gf
