import Derived.Test.YtjmeoeielbkkiaaEu
set_option linter.unusedVariables false
set_option linter.unusedSimpArgs false
namespace Gf
def co (l : List UInt8) (i : Nat) : UInt8 := l.getD i 0
theorem co_ge {l : List UInt8} {i : Nat} (h : l.length ≤ i) : co l i = 0 := by
  unfold co; rw [List.getD_eq_getElem?_getD, List.getElem?_eq_none h]; rfl
theorem co_lt {l : List UInt8} {i : Nat} (h : i < l.length) : co l i = l[i] := by
  unfold co; rw [List.getD_eq_getElem?_getD, List.getElem?_eq_getElem h]; rfl
theorem co_sup (l : List UInt8) : Sup l.length (co l) := fun _ h => co_ge h
theorem co_ext {l m : List UInt8} (hl : l.length = m.length) (h : ∀ i, i < l.length → co l i = co m i) : l = m := by
  apply List.ext_getElem hl
  intro i h1 h2
  have := h i h1
  rwa [co_lt h1, co_lt h2] at this
theorem co_nil (i : Nat) : co [] i = 0 := rfl
theorem co_cons_zero (c : UInt8) (l : List UInt8) : co (c :: l) 0 = c := rfl
theorem co_cons_succ (c : UInt8) (l : List UInt8) (i : Nat) : co (c :: l) (i + 1) = co l i := by simp [co]
theorem co_append_left {l m : List UInt8} {i : Nat} (h : i < l.length) : co (l ++ m) i = co l i := by
  unfold co; simp [List.getD_eq_getElem?_getD, List.getElem?_append_left h]
theorem co_append_right {l m : List UInt8} {i : Nat} (h : l.length ≤ i) : co (l ++ m) i = co m (i - l.length) := by
  unfold co; simp [List.getD_eq_getElem?_getD, List.getElem?_append_right h]
theorem co_set {l : List UInt8} {i j : Nat} {c : UInt8} (h : i < l.length) : co (l.set i c) j = if j = i then c else co l j := by
  unfold co
  simp only [List.getD_eq_getElem?_getD, List.getElem?_set]
  by_cases e : i = j
  · subst e; simp [h]
  · rw [if_neg e, if_neg fun e' => e e'.symm]
theorem co_take {l : List UInt8} {k i : Nat} (h : i < k) : co (l.take k) i = co l i := by
  unfold co; simp [List.getD_eq_getElem?_getD, h]
theorem co_drop {l : List UInt8} {k i : Nat} : co (l.drop k) i = co l (k + i) := by
  unfold co; simp [List.getD_eq_getElem?_getD]
theorem co_replicate {n i : Nat} : co (List.replicate n 0) i = 0 := by
  unfold co; simp only [List.getD_eq_getElem?_getD, List.getElem?_replicate]; split <;> rfl
theorem co_map {l : List UInt8} {f : UInt8 → UInt8} (hf : f 0 = 0) {i : Nat} : co (l.map f) i = f (co l i) := by
  unfold co
  simp only [List.getD_eq_getElem?_getD, List.getElem?_map]
  cases l[i]? <;> simp [hf]
theorem co_mul {l : List UInt8} (a : UInt8) (i : Nat) : co (l.map (mul a)) i = mul a (co l i) := co_map (mul_zero a)

/-- the value by Horner's rule, the highest power first -/
def hor (l : List UInt8) (x : UInt8) : UInt8 := l.foldl (fun s c => mul s x ^^^ c) 0
theorem hor_snoc (l : List UInt8) (c x : UInt8) : hor (l ++ [c]) x = mul (hor l x) x ^^^ c := by simp [hor]
theorem snoc_ind {P : List UInt8 → Prop} (h0 : P []) (h1 : ∀ l c, P l → P (l ++ [c])) (l : List UInt8) : P l := by
  have : ∀ n, ∀ l : List UInt8, l.length = n → P l := by
    intro n
    induction n with
    | zero => intro l hl; rw [List.eq_nil_of_length_eq_zero hl]; exact h0
    | succ n ih =>
      intro l hl
      have hne : l ≠ [] := fun e => by rw [e] at hl; cases hl
      rw [← List.dropLast_concat_getLast hne]
      exact h1 _ _ (ih _ (by simp [hl]))
  exact this _ l rfl
theorem hor_S (l : List UInt8) (x : UInt8) : hor l x = S l.length (fun i => mul (co l i) (pw x (l.length - 1 - i))) := by
  induction l using snoc_ind with
  | h0 => rfl
  | h1 l c ih =>
    rw [hor_snoc, ih, List.length_append, List.length_singleton, S, S_mul]
    congr 1
    · refine S_congr fun i hi => ?_
      rw [co_append_left hi, mul_assoc, ← pw, show (l.length - 1 - i).succ = l.length + 1 - 1 - i from by omega]
    · rw [co_append_right (Nat.le_refl _), Nat.sub_self, co_cons_zero, show l.length + 1 - 1 - l.length = 0 from by omega, pw, mul_one]
theorem hor_append (l m : List UInt8) (x : UInt8) : hor (l ++ m) x = mul (hor l x) (pw x m.length) ^^^ hor m x := by
  induction m using snoc_ind with
  | h0 => simp [hor, pw, mul_one]
  | h1 m c ih =>
    rw [← List.append_assoc, hor_snoc, ih, hor_snoc, List.length_append, List.length_singleton, pw, add_mul, mul_assoc, UInt8.xor_assoc]
theorem hor_zeros (n : Nat) (x : UInt8) : hor (List.replicate n 0) x = 0 := by
  rw [hor_S]; exact S_zero' fun i _ => by rw [co_replicate, zero_mul]
theorem hor_al (l : List UInt8) (j : Nat) : hor l (al j) = Sy l.length (co l) j := by
  rw [hor_S]
  refine S_congr fun i hi => ?_
  unfold X
  rw [pw_al, pw_al, Nat.mul_comm]
theorem hor_map (l : List UInt8) (a x : UInt8) : hor (l.map (mul a)) x = mul a (hor l x) := by
  rw [hor_S, hor_S, List.length_map, mul_S]
  exact S_congr fun i _ => by rw [co_mul, mul_assoc]
/-- exclusive or of words -/
def xorL (l m : List UInt8) : List UInt8 := List.zipWith (· ^^^ ·) l m
theorem xorL_length {l m : List UInt8} (h : l.length = m.length) : (xorL l m).length = l.length := by simp [xorL, h]
theorem co_xorL {l m : List UInt8} (h : l.length = m.length) (i : Nat) : co (xorL l m) i = co l i ^^^ co m i := by
  by_cases hi : i < l.length
  · rw [co_lt (by rw [xorL_length h]; exact hi), co_lt hi, co_lt (h ▸ hi)]; simp [xorL]
  · rw [co_ge (by rw [xorL_length h]; omega), co_ge (by omega), co_ge (by omega)]; rfl
theorem hor_xorL {l m : List UInt8} (h : l.length = m.length) (x : UInt8) : hor (xorL l m) x = hor l x ^^^ hor m x := by
  rw [hor_S, hor_S, hor_S, xorL_length h, ← h, ← S_xor]
  exact S_congr fun i _ => by rw [co_xorL h, add_mul]

/-- a codeword -/
def IsCw (w : List UInt8) (p : Nat) : Prop := ∀ j, j < p → hor w (al j) = 0
theorem IsCw.xor {w w' : List UInt8} {p : Nat} (hl : w.length = w'.length) (h : IsCw w p) (h' : IsCw w' p) : IsCw (xorL w w') p := fun j hj => by
  rw [hor_xorL hl, h j hj, h' j hj, UInt8.xor_self]
/-- codewords that differ at few positions are one -/
theorem cw_unique {w w' : List UInt8} {p : Nat} (hn : w.length ≤ 255) (hl : w.length = w'.length) (h : IsCw w p) (h' : IsCw w' p) {T : List Nat} (hT : ∀ k, k ∈ T → k < w.length) (hlen : T.length ≤ p)
    (hd : ∀ i, i < w.length → co w i ≠ co w' i → i ∈ T) : w = w' := by
  have hx := IsCw.xor hl h h'
  have hxl := xorL_length hl
  have := dist (n := w.length) (p := p) hn (f := co (xorL w w')) hT hlen (fun i hi h0 => hd i hi fun e => h0 (by rw [co_xorL hl, e, UInt8.xor_self])) fun j hj => by
    rw [← hxl, ← hor_al]; exact hx j hj
  exact co_ext hl fun i hi => xor_eq_zero (by rw [← co_xorL hl]; exact this i hi)
theorem enc_unique {d r r' : List UInt8} {p : Nat} (hn : d.length + p ≤ 255) (hr : r.length = p) (hr' : r'.length = p) (h : IsCw (d ++ r) p) (h' : IsCw (d ++ r') p) : r = r' := by
  have hl : (d ++ r).length = (d ++ r').length := by simp [hr, hr']
  have := cw_unique (by simp [hr]; omega) hl h h' (T := (List.range p).map (d.length + ·)) (fun k hk => by simp at hk; simp [hr]; omega) (by simp) fun i hi hne => by
    by_cases hid : i < d.length
    · exact absurd (by rw [co_append_left hid, co_append_left hid]) hne
    · refine List.mem_map.2 ⟨i - d.length, ?_, by omega⟩
      simp [hr] at hi ⊢; omega
  exact List.append_cancel_left this

/-- other symbols added from an index on -/
def addAt (R : List UInt8) (i : Nat) : List UInt8 → List UInt8
  | [] => R
  | c :: h => addAt (R.set i (co R i ^^^ c)) (i + 1) h
theorem addAt_length (h : List UInt8) : ∀ (R : List UInt8) (i : Nat), (addAt R i h).length = R.length := by
  induction h with
  | nil => intro R i; rfl
  | cons c h ih => intro R i; rw [addAt, ih, List.length_set]
theorem addAt_snoc (h : List UInt8) (c : UInt8) : ∀ (R : List UInt8) (i : Nat), addAt R i (h ++ [c]) = (addAt R i h).set (i + h.length) (co (addAt R i h) (i + h.length) ^^^ c) := by
  induction h with
  | nil => intro R i; simp [addAt]
  | cons a h ih => intro R i; rw [List.cons_append, addAt, ih, addAt, List.length_cons, show i + 1 + h.length = i + (h.length + 1) from by omega]
theorem co_addAt (h : List UInt8) : ∀ (R : List UInt8) (i : Nat), i + h.length ≤ R.length → ∀ j, co (addAt R i h) j = co R j ^^^ (if i ≤ j then co h (j - i) else 0) := by
  induction h with
  | nil => intro R i _ j; simp [addAt, co_nil]
  | cons c h ih =>
    intro R i hl j
    simp only [List.length_cons] at hl
    rw [addAt, ih _ _ (by rw [List.length_set]; omega), co_set (by omega)]
    by_cases e : j = i
    · subst e
      rw [if_pos rfl, if_neg (by omega), if_pos (Nat.le_refl _), Nat.sub_self, co_cons_zero, UInt8.xor_zero]
    · rw [if_neg e]
      by_cases h' : i ≤ j
      · rw [if_pos (by omega), if_pos h', show j - i = (j - (i + 1)) + 1 from by omega, co_cons_succ]
      · rw [if_neg (by omega), if_neg h']
theorem hor_addAt {R h : List UInt8} {i : Nat} (hl : i + h.length ≤ R.length) (x : UInt8) : hor (addAt R i h) x = hor R x ^^^ mul (hor h x) (pw x (R.length - i - h.length)) := by
  rw [hor_S, hor_S, hor_S, addAt_length, S_mul]
  rw [show S R.length (fun j => mul (co (addAt R i h) j) (pw x (R.length - 1 - j))) = S R.length (fun j => mul (co R j) (pw x (R.length - 1 - j)) ^^^ mul (if i ≤ j then co h (j - i) else 0) (pw x (R.length - 1 - j))) from
    S_congr fun j _ => by rw [co_addAt h R i hl, add_mul]]
  rw [S_xor]
  congr 1
  obtain ⟨m, hm⟩ : ∃ m, R.length = i + (h.length + m) := ⟨R.length - i - h.length, by omega⟩
  rw [hm, S_add, S_zero' fun j hj => by rw [if_neg (by omega), zero_mul], UInt8.zero_xor, S_add, S_zero' (n := m) fun j hj => by rw [if_pos (by omega), co_ge (by omega), zero_mul], UInt8.xor_zero]
  refine S_congr fun j hj => ?_
  rw [if_pos (by omega), mul_assoc, ← pw_add]
  congr 2 <;> omega
/-- the shift -/
def sh (i : Nat) (f : Nat → UInt8) (j : Nat) : UInt8 := if i ≤ j then f (j - i) else 0
theorem sh_cv (i : Nat) (f : Nat → UInt8) : sh i f = cv (xp i) f := by
  funext j
  unfold sh cv
  by_cases h : i ≤ j
  · rw [if_pos h, S_single (k := i) (by omega) fun k _ hk => by rw [xp, if_neg hk, zero_mul], xp, if_pos rfl, one_mul]
  · rw [if_neg h]
    exact (S_zero' fun k hk => by rw [xp, if_neg (by omega), zero_mul]).symm
/-- the product of lists: out[i + k] ^= p[i] q[k], i below k -/
def prodN (p q : List UInt8) : Nat → List UInt8
  | 0 => List.replicate (p.length + q.length - 1) 0
  | k + 1 => addAt (prodN p q k) k (q.map (mul (co p k)))
theorem prodN_length (p q : List UInt8) (k : Nat) : (prodN p q k).length = p.length + q.length - 1 := by
  induction k with
  | zero => simp [prodN]
  | succ k ih => rw [prodN, addAt_length, ih]
theorem co_prodN (p q : List UInt8) (k : Nat) (hk : k ≤ p.length) (hq : q ≠ []) (j : Nat) : co (prodN p q k) j = S k (fun i => if i ≤ j then mul (co p i) (co q (j - i)) else 0) := by
  have hql : 0 < q.length := List.length_pos_iff.2 hq
  induction k with
  | zero => rw [prodN, co_replicate]; rfl
  | succ k ih =>
    rw [prodN, co_addAt _ _ _ (by rw [prodN_length, List.length_map]; omega), ih (by omega), S]
    congr 1
    split
    · rw [co_mul]
    · rfl
def prod (p q : List UInt8) : List UInt8 := if p = [] ∨ q = [] then [] else prodN p q p.length
theorem co_prod {p q : List UInt8} (hp : p ≠ []) (hq : q ≠ []) : co (prod p q) = cv (co p) (co q) := by
  funext j
  unfold prod cv
  rw [if_neg (by simp [hp, hq]), co_prodN p q _ (Nat.le_refl _) hq]
  by_cases h : p.length ≤ j + 1
  · rw [S_ext (n := p.length) h fun i h1 _ => by rw [co_ge h1, zero_mul]]
    exact S_congr fun i hi => if_pos (by omega)
  · rw [S_ext (n := j + 1) (m := p.length) (by omega) fun i h1 _ => if_neg (by omega)]
    exact S_congr fun i hi => if_pos (by omega)
theorem prod_length {p q : List UInt8} (hp : p ≠ []) (hq : q ≠ []) : (prod p q).length = p.length + q.length - 1 := by
  unfold prod; rw [if_neg (by simp [hp, hq]), prodN_length]
/-- Horner's rule at a product -/
theorem hor_prod {p q : List UInt8} (hp : p ≠ []) (hq : q ≠ []) {x : UInt8} (hx : x ≠ 0) : hor (prod p q) x = mul (hor p x) (hor q x) := by
  have hinv : ∀ l : List UInt8, l ≠ [] → hor l x = mul (pw x (l.length - 1)) (ev (co l) l.length (inv x)) := fun l hl => by
    rw [hor_S]
    unfold ev
    rw [mul_S]
    refine S_congr fun i hi => ?_
    rw [show pw x (l.length - 1) = mul (pw x (l.length - 1 - i)) (pw x i) from by rw [← pw_add]; congr 1; omega]
    have : mul (pw x i) (pw (inv x) i) = 1 := by rw [← pw_mul, mul_inv hx, pw_one]
    calc mul (co l i) (pw x (l.length - 1 - i)) = mul (mul (pw x (l.length - 1 - i)) (co l i)) 1 := by rw [mul_one, mul_comm]
      _ = mul (mul (pw x (l.length - 1 - i)) (co l i)) (mul (pw x i) (pw (inv x) i)) := by rw [this]
      _ = _ := by ac_rfl
  have hpl : 0 < p.length := List.length_pos_iff.2 hp
  have hql : 0 < q.length := List.length_pos_iff.2 hq
  have hpq : prod p q ≠ [] := fun e => by have := prod_length hp hq; rw [e] at this; simp at this; omega
  rw [hinv _ hpq, hinv _ hp, hinv _ hq, prod_length hp hq, co_prod hp hq, ev_cv (inv x) (co_sup p) (co_sup q) (by omega)]
  rw [show p.length + q.length - 1 - 1 = (p.length - 1) + (q.length - 1) from by omega, pw_add]
  ac_rfl
end Gf
