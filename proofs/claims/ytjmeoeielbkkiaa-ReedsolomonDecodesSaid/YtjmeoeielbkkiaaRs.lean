import Derived.Test.YtjmeoeielbkkiaaPo
set_option linter.unusedVariables false
set_option linter.unusedSimpArgs false
namespace Gf
/-- 1 + X x -/
def loc (X : UInt8) (i : Nat) : UInt8 := if i = 0 then 1 else if i = 1 then X else 0
theorem loc_sup (X : UInt8) : Sup 2 (loc X) := fun i hi => by unfold loc; rw [if_neg (by omega), if_neg (by omega)]
theorem one_sup {n : Nat} (h : 1 ≤ n) : Sup n one := fun i hi => by unfold one; rw [if_neg (by omega)]
theorem ev_loc (X x : UInt8) {n : Nat} (hn : 2 ≤ n) : ev (loc X) n x = 1 ^^^ mul X x := by
  rw [ev_ext x (loc_sup X) hn]
  simp only [ev, S, loc, pw, UInt8.zero_xor, mul_one, one_mul]
  simp
theorem ev_one (x : UInt8) {n : Nat} (hn : 1 ≤ n) : ev one n x = 1 := by
  rw [ev_ext x (one_sup (Nat.le_refl 1)) hn]
  simp [ev, S, one, pw, mul_one]
theorem od_loc (X x : UInt8) {n : Nat} (hn : 2 ≤ n) : ev (od (loc X)) n x = mul X x := by
  rw [ev_ext x (od_sup (loc_sup X)) hn]
  simp only [ev, S, od, loc, pw, UInt8.zero_xor, one_mul]
  simp [zero_mul]
theorem od_one : od one = fun _ => 0 := by
  funext i
  unfold od one
  split
  · rw [if_neg (by omega)]
  · rfl
theorem ev_zero (n : Nat) (x : UInt8) : ev (fun _ => 0) n x = 0 := S_zero' fun _ _ => zero_mul _
/-- the product of the factors of some elements -/
def L : List UInt8 → Nat → UInt8
  | [] => one
  | X :: l => cv (loc X) (L l)
theorem L_sup (l : List UInt8) : Sup (l.length + 1) (L l) := by
  induction l with
  | nil => exact one_sup (Nat.le_refl 1)
  | cons X l ih => exact ((loc_sup X).cv ih).mono (by simp; omega)
theorem L_append (l m : List UInt8) : L (l ++ m) = cv (L l) (L m) := by
  induction l with
  | nil => exact (one_cv _).symm
  | cons X l ih => rw [List.cons_append, L, ih, L, cv_assoc]
theorem L_erase {l : List UInt8} {X : UInt8} (h : X ∈ l) : L l = cv (loc X) (L (l.erase X)) := by
  induction l with
  | nil => cases h
  | cons Y l ih =>
    by_cases e : Y = X
    · rw [e, List.erase_cons_head, L]
    · have hX : X ∈ l := by
        rcases List.mem_cons.1 h with h | h
        · exact absurd h.symm e
        · exact h
      rw [List.erase_cons_tail (by simpa using e), L, L, ih hX, ← cv_assoc, ← cv_assoc, cv_comm (loc Y)]
theorem L_zero {l : List UInt8} {X : UInt8} (h : X ∈ l) {x : UInt8} (hx : mul X x = 1) {n : Nat} (hn : l.length + 1 ≤ n) : ev (L l) n x = 0 := by
  have hl := List.length_erase_of_mem h
  have hp := List.length_pos_of_mem h
  rw [L_erase h, ev_cv x (loc_sup X) (L_sup _) (by omega), ev_loc X x (Nat.le_refl 2), hx, UInt8.xor_self, zero_mul]
theorem L_ne {l : List UInt8} {x : UInt8} (h : ∀ X, X ∈ l → mul X x ≠ 1) {n : Nat} (hn : l.length + 1 ≤ n) : ev (L l) n x ≠ 0 := by
  induction l generalizing n with
  | nil => rw [L, ev_one x (by simpa using hn)]; decide
  | cons X l ih =>
    rw [L, ev_cv x (loc_sup X) (L_sup l) (by simp at hn; omega), ev_loc X x (Nat.le_refl 2)]
    refine mul_ne (fun e => ?_) (ih (fun Y hY => h Y (List.mem_cons_of_mem _ hY)) (Nat.le_refl _))
    exact h X List.mem_cons_self (xor_eq_zero e).symm
/-- the geometric series -/
def geo (X : UInt8) : Nat → UInt8 := pw X
theorem loc_geo (X : UInt8) : cv (loc X) (geo X) = one := by
  funext n
  unfold cv geo
  cases n with
  | zero => simp [S, loc, pw, mul_one, one]
  | succ n =>
    rw [S_ext (n := 2) (by omega) fun i h1 _ => by unfold loc; rw [if_neg (by omega), if_neg (by omega), zero_mul]]
    simp only [S, loc, one, UInt8.zero_xor, Nat.sub_zero, Nat.add_sub_cancel, if_true]
    rw [if_neg (by omega), if_neg (by omega), one_mul, pw, mul_comm X, UInt8.xor_self]
theorem L_geo {l : List UInt8} {X : UInt8} (h : X ∈ l) : cv (L l) (geo X) = L (l.erase X) := by
  rw [L_erase h, cv_comm (loc X), cv_assoc, loc_geo, cv_one]

/-! positions of a word of length n -/
def X (n i : Nat) : UInt8 := al (n - 1 - i)
theorem X_inj {n i k : Nat} (hn : n ≤ 255) (hi : i < n) (hk : k < n) (h : X n i = X n k) : i = k := by
  have := al_inj (by omega) (by omega) h
  omega
theorem X_ne (n i : Nat) : X n i ≠ 0 := al_ne _
theorem X_unit {n i k : Nat} (hn : n ≤ 255) (hi : i < n) (hk : k < n) {x : UInt8} (h : mul (X n i) x = 1) (h' : mul (X n k) x = 1) : i = k := by
  have hx : x ≠ 0 := fun e => by rw [e, mul_zero] at h; exact absurd h (by decide)
  refine X_inj hn hi hk (mul_cancel hx ?_)
  rw [mul_comm, h, mul_comm, h']
/-- all syndromes of some symbols -/
def Sy (n : Nat) (e : Nat → UInt8) (j : Nat) : UInt8 := S n (fun i => mul (e i) (pw (X n i) j))
def Xs (n : Nat) (T : List Nat) : List UInt8 := T.map (X n)
theorem Xs_mem {n : Nat} {T : List Nat} (hn : n ≤ 255) (hT : ∀ k, k ∈ T → k < n) {i : Nat} (hi : i < n) : X n i ∈ Xs n T ↔ i ∈ T := by
  unfold Xs
  rw [List.mem_map]
  constructor
  · rintro ⟨k, hk, he⟩
    rwa [X_inj hn (hT k hk) hi he] at hk
  · exact fun h => ⟨i, h, rfl⟩
theorem mem_Xs {n i : Nat} {T : List Nat} (h : i ∈ T) : X n i ∈ Xs n T := List.mem_map.2 ⟨i, h, rfl⟩
theorem Xs_length (n : Nat) (T : List Nat) : (Xs n T).length = T.length := by simp [Xs]
theorem Xs_nodup {n : Nat} {T : List Nat} (hn : n ≤ 255) (hT : ∀ k, k ∈ T → k < n) (hd : T.Nodup) : (Xs n T).Nodup := by
  induction T with
  | nil => simp [Xs]
  | cons k T ih =>
    have hd' := List.nodup_cons.1 hd
    refine List.nodup_cons.2 ⟨fun h => hd'.1 ?_, ih (fun j hj => hT j (List.mem_cons_of_mem _ hj)) hd'.2⟩
    exact (Xs_mem hn (fun j hj => hT j (List.mem_cons_of_mem _ hj)) (hT k List.mem_cons_self)).1 h
/-- the evaluator -/
def Om (n : Nat) (e : Nat → UInt8) (T : List Nat) : Nat → UInt8 := cv (L (Xs n T)) (Sy n e)
theorem Om_eq {n : Nat} {e : Nat → UInt8} {T : List Nat} (he : ∀ i, i < n → e i ≠ 0 → i ∈ T) (k : Nat) :
    Om n e T k = S n (fun i => if i ∈ T then mul (e i) (L ((Xs n T).erase (X n i)) k) else 0) := by
  unfold Om cv Sy
  rw [show S (k + 1) (fun i => mul (L (Xs n T) i) (S n fun i_1 => mul (e i_1) (pw (X n i_1) (k - i)))) =
      S (k + 1) (fun i => S n (fun j => mul (e j) (mul (L (Xs n T) i) (pw (X n j) (k - i))))) from S_congr fun i _ => by
    rw [mul_S]; exact S_congr fun j _ => by ac_rfl]
  rw [S_swap]
  refine S_congr fun j hj => ?_
  rw [← mul_S]
  by_cases h : j ∈ T
  · rw [if_pos h]
    congr 1
    have := L_geo (l := Xs n T) (X := X n j) (mem_Xs h)
    exact congrFun this k
  · rw [if_neg h]
    by_cases h0 : e j = 0
    · rw [h0, zero_mul]
    · exact absurd (he j hj h0) h
theorem Om_sup {n : Nat} {e : Nat → UInt8} {T : List Nat} (he : ∀ i, i < n → e i ≠ 0 → i ∈ T) : Sup T.length (Om n e T) := by
  intro k hk
  rw [Om_eq he]
  refine S_zero' fun i _ => ?_
  by_cases h : i ∈ T
  · rw [if_pos h, L_sup ((Xs n T).erase (X n i)) k, mul_zero]
    rw [List.length_erase_of_mem (mem_Xs h), Xs_length]
    have := List.length_pos_of_mem h
    omega
  · rw [if_neg h]
theorem Om_ev {n : Nat} {e : Nat → UInt8} {T : List Nat} (hn : n ≤ 255) (hT : ∀ k, k ∈ T → k < n) (he : ∀ i, i < n → e i ≠ 0 → i ∈ T)
    {i : Nat} (hi : i ∈ T) {x : UInt8} (hx : mul (X n i) x = 1) {M : Nat} (hM : T.length ≤ M) :
    ev (Om n e T) M x = mul (e i) (ev (L ((Xs n T).erase (X n i))) M x) := by
  have h : ev (Om n e T) M x = S n (fun j => if j ∈ T then mul (e j) (ev (L ((Xs n T).erase (X n j))) M x) else 0) := by
    unfold ev
    rw [show S M (fun i => mul (Om n e T i) (pw x i)) = S M (fun k => S n (fun j => if j ∈ T then mul (e j) (mul (L ((Xs n T).erase (X n j)) k) (pw x k)) else 0)) from S_congr fun k _ => by
      rw [Om_eq he, S_mul]
      refine S_congr fun j _ => ?_
      by_cases h : j ∈ T
      · rw [if_pos h, if_pos h, mul_assoc]
      · rw [if_neg h, if_neg h, zero_mul]]
    rw [S_swap]
    refine S_congr fun j _ => ?_
    by_cases h : j ∈ T
    · simp only [if_pos h]; rw [mul_S]
    · simp only [if_neg h]; exact S_zero _
  rw [h, S_single (k := i) (hT i hi), if_pos hi]
  intro j hj hji
  by_cases h : j ∈ T
  · rw [if_pos h, L_zero (X := X n i) _ hx, mul_zero]
    · rw [List.length_erase_of_mem (mem_Xs h), Xs_length]
      have := List.length_pos_of_mem h
      omega
    · refine (List.mem_erase_of_ne fun e => hji (X_inj hn hj (hT i hi) e.symm)).2 (mem_Xs hi)
  · rw [if_neg h]
/-- x times the derivative of the locator at a root -/
theorem L_od {l : List UInt8} {Y x : UInt8} (h : Y ∈ l) (hx : mul Y x = 1) {M : Nat} (hM : l.length + 1 ≤ M) : ev (od (L l)) M x = ev (L (l.erase Y)) M x := by
  have hl := List.length_erase_of_mem h
  have hp := List.length_pos_of_mem h
  have h0 : Sup l.length (L (l.erase Y)) := (L_sup _).mono (by omega)
  rw [L_erase h, od_cv, ev_xor, ev_cv x (od_sup (loc_sup Y)) h0 (by omega), ev_cv x (loc_sup Y) (od_sup h0) (by omega), od_loc Y x (Nat.le_refl 2), ev_loc Y x (Nat.le_refl 2), hx, one_mul,
    UInt8.xor_self, zero_mul, UInt8.xor_zero, ev_ext x h0 (show l.length ≤ M by omega)]
theorem L_erase_ne {n : Nat} {T : List Nat} (hn : n ≤ 255) (hT : ∀ k, k ∈ T → k < n) (hd : T.Nodup) {i : Nat} (hi : i ∈ T) {x : UInt8} (hx : mul (X n i) x = 1) {M : Nat} (hM : T.length ≤ M) :
    ev (L ((Xs n T).erase (X n i))) M x ≠ 0 := by
  have hm : X n i ∈ Xs n T := mem_Xs hi
  refine L_ne (fun Y hY e => ?_) ?_
  · have hY' : Y ∈ Xs n T := List.mem_of_mem_erase hY
    obtain ⟨k, hk, rfl⟩ := List.mem_map.1 hY'
    have : i = k := X_unit hn (hT i hi) (hT k hk) hx e
    subst this
    exact (List.Nodup.not_mem_erase (Xs_nodup hn hT hd)) hY
  · rw [List.length_erase_of_mem hm, Xs_length]
    have := List.length_pos_of_mem hi
    omega

/-- THE REPAIR. -/
theorem repair_at {n : Nat} {e : Nat → UInt8} {E Er : List Nat} (hn : n ≤ 255) (hE : ∀ k, k ∈ E ++ Er → k < n) (hd : (E ++ Er).Nodup) (he : ∀ i, i < n → e i ≠ 0 → i ∈ E ++ Er)
    (heE : ∀ i, i ∈ E → e i ≠ 0)
    {v b : Nat → UInt8} {N M : Nat} (hv : Sup N v) (hb : Sup N b) (hN : (E ++ Er).length + 1 ≤ N) (hM : N + N ≤ M + 1)
    (H1 : cv v (Om n e (E ++ Er)) = cv (L (Xs n E)) b) (H2 : ∀ x, x ≠ 0 → ev v M x = 0 → ev b M x = 0 → False)
    {i : Nat} (hi : i < n) {x : UInt8} (hx : mul (X n i) x = 1) :
    (ev (cv v (L (Xs n Er))) M x = 0 → ev (od (cv v (L (Xs n Er)))) M x ≠ 0 ∧ ev b M x = mul (e i) (ev (od (cv v (L (Xs n Er)))) M x)) ∧
    (ev (cv v (L (Xs n Er))) M x ≠ 0 → e i = 0) := by
  have hl : E.length + Er.length + 1 ≤ N := by simpa using hN
  have hx0 : x ≠ 0 := fun h => by rw [h, mul_zero] at hx; exact absurd hx (by decide)
  have hTE : ∀ k, k ∈ E → k < n := fun k hk => hE k (List.mem_append_left _ hk)
  have hTR : ∀ k, k ∈ Er → k < n := fun k hk => hE k (List.mem_append_right _ hk)
  have sE : Sup N (L (Xs n E)) := (L_sup _).mono (by rw [Xs_length]; omega)
  have sR : Sup N (L (Xs n Er)) := (L_sup _).mono (by rw [Xs_length]; omega)
  have sO : Sup N (Om n e (E ++ Er)) := (Om_sup he).mono (by omega)
  have up : ∀ {p : Nat → UInt8}, Sup N p → ev p N x = ev p M x := fun h => (ev_ext x h (by omega)).symm
  have prod : ∀ {p q : Nat → UInt8}, Sup N p → Sup N q → ev (cv p q) M x = mul (ev p M x) (ev q M x) := fun hp hq => by
    rw [ev_cv x hp hq (by omega), up hp, up hq]
  have dprod : ∀ {p q : Nat → UInt8}, Sup N p → Sup N q → ev (od (cv p q)) M x = mul (ev (od p) M x) (ev q M x) ^^^ mul (ev p M x) (ev (od q) M x) := fun hp hq => by
    rw [od_cv, ev_xor, prod (od_sup hp) hq, prod hp (od_sup hq)]
  have q1 := prod hv sO
  rw [H1, prod sE hb] at q1
  have q2 := dprod hv sO
  rw [H1, dprod sE hb] at q2
  have key : ∀ j, j ∈ E ++ Er → mul (X n j) x = 1 → j = i := fun j hj h => X_unit hn (hE j hj) hi h hx
  have hW : ∀ h : i ∈ E ++ Er, ev (od (L (Xs n (E ++ Er)))) M x ≠ 0 ∧ ev (Om n e (E ++ Er)) M x = mul (e i) (ev (od (L (Xs n (E ++ Er)))) M x) := fun h => by
    rw [L_od (Y := X n i) (mem_Xs h) hx (by rw [Xs_length]; omega)]
    exact ⟨L_erase_ne hn hE hd h hx (by omega), Om_ev hn hE he h hx (by omega)⟩
  have hLT : L (Xs n (E ++ Er)) = cv (L (Xs n E)) (L (Xs n Er)) := by rw [← L_append]; simp [Xs]
  rw [hLT, dprod sE sR] at hW
  rw [prod hv sR, dprod hv sR]
  have hz : ∀ {l : List Nat}, (∀ k, k ∈ l → k < n) → l.length + 1 ≤ N → i ∈ l → ev (L (Xs n l)) M x = 0 := fun _ hl hm =>
    L_zero (X := X n i) (mem_Xs hm) hx (by rw [Xs_length]; omega)
  have hnz : ∀ {l : List Nat}, (∀ k, k ∈ l → k < n) → l.length + 1 ≤ N → i ∉ l → ev (L (Xs n l)) M x ≠ 0 := fun hl hlen hm =>
    L_ne (fun Y hY h => by
      obtain ⟨k, hk, rfl⟩ := List.mem_map.1 hY
      exact hm (X_unit hn hi (hl k hk) hx h ▸ hk)) (by rw [Xs_length]; omega)
  by_cases hiE : i ∈ E
  · -- an error
    have zE := hz hTE (by omega) hiE
    have hiR : i ∉ Er := fun h => (List.nodup_append.1 hd).2.2 i hiE i h rfl
    have nR := hnz hTR (by omega) hiR
    obtain ⟨w1, w2⟩ := hW (List.mem_append_left _ hiE)
    rw [zE, zero_mul, UInt8.xor_zero] at w1 w2
    rw [zE, zero_mul] at q1
    have hOne : ev (Om n e (E ++ Er)) M x ≠ 0 := by rw [w2]; exact mul_ne (heE i hiE) w1
    have hv0 : ev v M x = 0 := by
      rcases mul_eq_zero q1.symm with h | h
      · exact h
      · exact absurd h hOne
    have hb0 : ev b M x ≠ 0 := fun h => H2 x hx0 hv0 h
    rw [zE, zero_mul, hv0, zero_mul, UInt8.xor_zero, UInt8.xor_zero, w2] at q2
    have hE0 : ev (od (L (Xs n E))) M x ≠ 0 := fun h => w1 (by rw [h, zero_mul])
    rw [hv0, zero_mul, zero_mul, UInt8.xor_zero]
    have hfin : ev b M x = mul (e i) (mul (ev (od v) M x) (ev (L (Xs n Er)) M x)) := by
      refine mul_cancel hE0 (q2.trans ?_)
      ac_rfl
    exact ⟨fun _ => ⟨fun h => hb0 (by rw [hfin, h, mul_zero]), hfin⟩, fun h => absurd rfl h⟩
  · have nE := hnz hTE (by omega) hiE
    have hv0 : ev v M x ≠ 0 := fun h => by
      rw [h, zero_mul] at q1
      rcases mul_eq_zero q1 with h' | h'
      · exact nE h'
      · exact H2 x hx0 h h'
    by_cases hiR : i ∈ Er
    · -- an erasure
      have zR := hz hTR (by omega) hiR
      obtain ⟨w1, w2⟩ := hW (List.mem_append_right _ hiR)
      rw [zR, mul_zero, UInt8.zero_xor] at w1 w2
      rw [zR, mul_zero, mul_zero, UInt8.zero_xor]
      rw [w2] at q1
      have hR0 : ev (od (L (Xs n Er))) M x ≠ 0 := fun h => w1 (by rw [h, mul_zero])
      refine ⟨fun _ => ⟨mul_ne hv0 hR0, mul_cancel nE (q1.trans ?_)⟩, fun h => absurd rfl h⟩
      ac_rfl
    · have nR := hnz hTR (by omega) hiR
      refine ⟨fun h => absurd h (mul_ne hv0 nR), fun _ => ?_⟩
      by_cases h0 : e i = 0
      · exact h0
      · rcases List.mem_append.1 (he i hi h0) with h | h
        · exact absurd h hiE
        · exact absurd h hiR
end Gf
