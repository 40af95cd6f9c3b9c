import Derived.Test.YtjmeoeielbkkiaaLi
set_option linter.unusedVariables false
set_option linter.unusedSimpArgs false
namespace Gf
/-- the value of a polynomial, the lowest power first -/
def evl (l : List UInt8) (x : UInt8) : UInt8 := l.foldr (fun c s => mul s x ^^^ c) 0
theorem evl_ev (l : List UInt8) (x : UInt8) : evl l x = ev (co l) l.length x := by
  induction l with
  | nil => rfl
  | cons c l ih =>
    have : evl (c :: l) x = mul (evl l x) x ^^^ c := rfl
    rw [this, ih]
    unfold ev
    rw [List.length_cons, S_succ, co_cons_zero, pw, mul_one, UInt8.xor_comm, S_mul]
    congr 1
    exact S_congr fun i _ => by rw [co_cons_succ, pw, mul_assoc]
theorem evl_big (l : List UInt8) (x : UInt8) {M : Nat} (hM : l.length ≤ M) : evl l x = ev (co l) M x := by
  rw [evl_ev, ev_ext x (co_sup l) hM]
/-- the derivative -/
def der (l : List UInt8) : List UInt8 := (List.range (l.length - 1)).map fun i => if i % 2 = 0 then co l (i + 1) else 0
theorem der_length (l : List UInt8) : (der l).length = l.length - 1 := by simp [der]
theorem co_der (l : List UInt8) (i : Nat) : co (der l) i = if i % 2 = 0 then co l (i + 1) else 0 := by
  by_cases h : i < l.length - 1
  · rw [co_lt (by rw [der_length]; exact h)]; simp [der]
  · rw [co_ge (by rw [der_length]; omega)]
    split
    · rw [co_ge (by omega)]
    · rfl
theorem der_od (l : List UInt8) (x : UInt8) {M : Nat} (hM : l.length ≤ M) : mul x (evl (der l) x) = ev (od (co l)) M x := by
  rw [ev_ext x (od_sup (co_sup l)) hM]
  rw [evl_ev, der_length]
  unfold ev
  rcases Nat.eq_zero_or_pos l.length with h | h
  · rw [h]; exact mul_zero x
  · rw [show l.length = l.length - 1 + 1 from by omega, S_succ, Nat.add_sub_cancel]
    rw [show od (co l) 0 = 0 from rfl, zero_mul, UInt8.zero_xor, mul_S]
    refine S_congr fun i _ => ?_
    rw [co_der, pw]
    unfold od
    by_cases h : i % 2 = 0
    · rw [if_pos h, if_pos (by omega)]; ac_rfl
    · rw [if_neg h, if_neg (by omega), zero_mul, mul_zero, zero_mul]
def half : UInt8 := al 254
def ix (n i : Nat) : UInt8 := pw half (n - 1 - i)
theorem pw_two (k : Nat) : pw 2 k = al k := by
  have : (2 : UInt8) = al 1 := by decide
  rw [this, pw_al, Nat.one_mul]
theorem X_ix (n i : Nat) : mul (X n i) (ix n i) = 1 := by
  unfold X ix
  rw [← pw_two, ← pw_mul, show mul 2 half = 1 from by decide +kernel, pw_one]
theorem ix_ne (n i : Nat) : ix n i ≠ 0 := fun h => by
  have := X_ix n i
  rw [h, mul_zero] at this
  exact absurd this (by decide)
def repAt (w psi om : List UInt8) (i : Nat) : UInt8 :=
  if evl psi (ix w.length i) = 0 then co w i ^^^ mul (X w.length i) (mul (evl om (ix w.length i)) (inv (evl (der psi) (ix w.length i)))) else co w i
def rep (w psi om : List UInt8) : List UInt8 := (List.range w.length).map (repAt w psi om)
theorem rep_length (w psi om : List UInt8) : (rep w psi om).length = w.length := by simp [rep]
theorem co_rep {w psi om : List UInt8} {i : Nat} (h : i < w.length) : co (rep w psi om) i = repAt w psi om i := by
  rw [co_lt (by rw [rep_length]; exact h)]; simp [rep]

/-- strictly increasing positions of a word of length n -/
def Pos (n : Nat) (er : List Nat) : Prop := er.Pairwise (· < ·) ∧ ∀ k, k ∈ er → k < n
/-- where two words differ outside of some positions -/
def outs (w c : List UInt8) (er : List Nat) : List Nat := (List.range w.length).filter fun i => decide (co w i ≠ co c i) && !er.contains i
def difs (w c : List UInt8) : Nat := ((List.range w.length).filter fun i => decide (co w i ≠ co c i)).length
def Near (w : List UInt8) (p : Nat) (er : List Nat) (c : List UInt8) : Prop := c.length = w.length ∧ IsCw c p ∧ 2 * (outs w c er).length + er.length ≤ p
theorem mem_outs {w c : List UInt8} {er : List Nat} {i : Nat} : i ∈ outs w c er ↔ i < w.length ∧ co w i ≠ co c i ∧ i ∉ er := by
  simp [outs]
theorem near_unique {w : List UInt8} {p : Nat} {er : List Nat} (hn : w.length ≤ 255) (her : Pos w.length er) {c c' : List UInt8} (h : Near w p er c) (h' : Near w p er c') : c = c' := by
  refine cw_unique (p := p) (by rw [h.1]; exact hn) (by rw [h.1, h'.1]) h.2.1 h'.2.1 (T := outs w c er ++ outs w c' er ++ er) ?_ ?_ ?_
  · intro k hk
    rw [h.1]
    rcases List.mem_append.1 hk with hk | hk
    · rcases List.mem_append.1 hk with hk | hk
      · exact (mem_outs.1 hk).1
      · exact (mem_outs.1 hk).1
    · exact her.2 k hk
  · have := h.2.2
    have := h'.2.2
    simp only [List.length_append]
    omega
  · intro i hi hne
    rw [h.1] at hi
    by_cases h1 : i ∈ er
    · exact List.mem_append_right _ h1
    · refine List.mem_append_left _ (List.mem_append.2 ?_)
      by_cases h2 : co w i = co c i
      · exact .inr (mem_outs.2 ⟨hi, fun e => hne (h2 ▸ e), h1⟩)
      · exact .inl (mem_outs.2 ⟨hi, h2, h1⟩)
theorem Sy_congr {n : Nat} {e e' : Nat → UInt8} (h : ∀ i, i < n → e i = e' i) (j : Nat) : Sy n e j = Sy n e' j := S_congr fun i hi => by rw [h i hi]
theorem Sy_err {w c : List UInt8} {p : Nat} (hl : c.length = w.length) (hc : IsCw c p) {j : Nat} (hj : j < p) : Sy w.length (fun i => co w i ^^^ co c i) j = Sy w.length (co w) j := by
  have h := hc j hj
  rw [hor_al, hl] at h
  have : Sy w.length (fun i => co w i ^^^ co c i) j = Sy w.length (co w) j ^^^ Sy w.length (co c) j := by
    unfold Sy
    rw [← S_xor]
    exact S_congr fun i _ => add_mul _ _ _
  rw [this, h, UInt8.xor_zero]

/-- EUCLID'S LAST STATE REPAIRS THE WORD. -/
theorem rep_near {w : List UInt8} {p : Nat} {er : List Nat} (hn : w.length ≤ 255) (her : Pos w.length er) (hlen : er.length ≤ p) {c : List UInt8} (hc : Near w p er c)
    {Xi a u : Nat → UInt8} {b v psi : List UInt8} {da m : Nat} (hE : Eu p er.length Xi a (co b) u (co v) da) (hm : Sup m (co b)) (hms : 2 * m ≤ p + er.length + 1)
    (hXi : Eqm p Xi (cv (Sy w.length (co w)) (L (Xs w.length er)))) (hpsi : co psi = cv (co v) (L (Xs w.length er))) : rep w psi b = c := by
  have hE1 : ∀ k, k ∈ outs w c er ++ er → k < w.length := fun k hk => by
    rcases List.mem_append.1 hk with hk | hk
    · exact (mem_outs.1 hk).1
    · exact her.2 k hk
  have hd : (outs w c er ++ er).Nodup := by
    refine List.nodup_append.2 ⟨List.Nodup.sublist List.filter_sublist List.nodup_range, her.1.imp (fun h => by omega), fun i hi j hj e => ?_⟩
    exact (mem_outs.1 hi).2.2 (e ▸ hj)
  have he : ∀ i, i < w.length → co w i ^^^ co c i ≠ 0 → i ∈ outs w c er ++ er := fun i hi h0 => by
    by_cases h1 : i ∈ er
    · exact List.mem_append_right _ h1
    · exact List.mem_append_left _ (mem_outs.2 ⟨hi, fun e => h0 (by rw [e, UInt8.xor_self]), h1⟩)
  have heE : ∀ i, i ∈ outs w c er → co w i ^^^ co c i ≠ 0 := fun i hi h0 => (mem_outs.1 hi).2.1 (xor_eq_zero h0)
  have hXi' : Eqm p Xi (cv (Sy w.length (fun i => co w i ^^^ co c i)) (L (Xs w.length er))) :=
    hXi.trans (Eqm.cv (fun j hj => (Sy_err hc.1 hc.2.1 hj).symm) (Eqm.refl _ _))
  have hEp := hE.hp
  have hEs := hE.hs
  obtain ⟨H1, H2⟩ := hE.ends hm hms he rfl hc.2.2 hXi' (M := 2 * p + 2 + b.length + psi.length + v.length + psi.length) (by omega)
  refine co_ext (by rw [rep_length, hc.1]) fun i hi => ?_
  rw [rep_length] at hi
  rw [co_rep hi]
  have hr := repair_at (n := w.length) (e := fun i => co w i ^^^ co c i) (E := outs w c er) (Er := er) hn hE1 hd he heE (v := co v) (b := co b) (N := p + 1) (M := 2 * p + 2 + b.length + psi.length + v.length + psi.length)
    (hE.sv.mono (by omega)) (hE.sb.mono (by omega)) (by have := hc.2.2; simp only [List.length_append]; omega) (by omega) H1 H2 hi (X_ix w.length i)
  rw [← hpsi, ← evl_big psi _ (by omega), ← evl_big b _ (by omega), ← der_od psi _ (by omega)] at hr
  unfold repAt
  by_cases hz : evl psi (ix w.length i) = 0
  · rw [if_pos hz]
    obtain ⟨h1, h2⟩ := hr.1 hz
    have hs : evl (der psi) (ix w.length i) ≠ 0 := fun e => h1 (by rw [e, mul_zero])
    rw [h2]
    have : mul (X w.length i) (mul (mul (co w i ^^^ co c i) (mul (ix w.length i) (evl (der psi) (ix w.length i)))) (inv (evl (der psi) (ix w.length i)))) =
        mul (mul (co w i ^^^ co c i) (mul (X w.length i) (ix w.length i))) (mul (evl (der psi) (ix w.length i)) (inv (evl (der psi) (ix w.length i)))) := by ac_rfl
    rw [this, X_ix, mul_inv hs, mul_one, mul_one, ← UInt8.xor_assoc, UInt8.xor_self, UInt8.zero_xor]
  · rw [if_neg hz]
    exact xor_eq_zero (hr.2 hz)

/-- ERASURES ALONE. -/
theorem rep_fill {w : List UInt8} {p : Nat} {er : List Nat} (hn : w.length ≤ 255) (her : Pos w.length er) (hlen : er.length ≤ p) {c : List UInt8} (hl : c.length = w.length) (hcw : IsCw c p) (ho : outs w c er = [])
    {xi psi : List UInt8} (hxl : xi.length ≤ p) (hXi : Eqm p (co xi) (cv (Sy w.length (co w)) (L (Xs w.length er)))) (hpsi : co psi = L (Xs w.length er)) : rep w psi xi = c := by
  have hE1 : ∀ k, k ∈ [] ++ er → k < w.length := fun k hk => her.2 k (by simpa using hk)
  have hd : ([] ++ er).Nodup := by rw [List.nil_append]; exact her.1.imp (fun h => by omega)
  have he : ∀ i, i < w.length → co w i ^^^ co c i ≠ 0 → i ∈ [] ++ er := fun i hi h0 => by
    by_cases h1 : i ∈ er
    · simpa using h1
    · have : i ∈ outs w c er := mem_outs.2 ⟨hi, fun e => h0 (by rw [e, UInt8.xor_self]), h1⟩
      rw [ho] at this
      cases this
  have hXi' : Eqm p (co xi) (cv (Sy w.length (fun i => co w i ^^^ co c i)) (L (Xs w.length er))) :=
    hXi.trans (Eqm.cv (fun j hj => (Sy_err hl hcw hj).symm) (Eqm.refl _ _))
  have hOm : co xi = Om w.length (fun i => co w i ^^^ co c i) ([] ++ er) := by
    refine Sup.eq (N := p) ((co_sup xi).mono hxl) ((Om_sup he).mono (by simpa using hlen)) ?_
    unfold Om
    rw [cv_comm]
    exact hXi'
  refine co_ext (by rw [rep_length, hl]) fun i hi => ?_
  rw [rep_length] at hi
  rw [co_rep hi]
  have hr := repair_at (n := w.length) (e := fun i => co w i ^^^ co c i) (E := []) (Er := er) hn hE1 hd he (by simp) (v := one) (b := co xi) (N := p + 1) (M := 2 * p + 2 + xi.length + psi.length)
    (one_sup (by omega)) ((co_sup xi).mono (by omega)) (by simpa using hlen) (by omega) (by rw [one_cv, ← hOm]; exact (one_cv _).symm)
    (fun x _ h => by rw [ev_one x (by omega)] at h; exact absurd h (by decide)) hi (X_ix w.length i)
  rw [one_cv, ← hpsi, ← evl_big psi _ (by omega), ← evl_big xi _ (by omega), ← der_od psi _ (by omega)] at hr
  unfold repAt
  by_cases hz : evl psi (ix w.length i) = 0
  · rw [if_pos hz]
    obtain ⟨h1, h2⟩ := hr.1 hz
    have hs : evl (der psi) (ix w.length i) ≠ 0 := fun e => h1 (by rw [e, mul_zero])
    rw [h2]
    have : mul (X w.length i) (mul (mul (co w i ^^^ co c i) (mul (ix w.length i) (evl (der psi) (ix w.length i)))) (inv (evl (der psi) (ix w.length i)))) =
        mul (mul (co w i ^^^ co c i) (mul (X w.length i) (ix w.length i))) (mul (evl (der psi) (ix w.length i)) (inv (evl (der psi) (ix w.length i)))) := by ac_rfl
    rw [this, X_ix, mul_inv hs, mul_one, mul_one, ← UInt8.xor_assoc, UInt8.xor_self, UInt8.zero_xor]
  · rw [if_neg hz]
    exact xor_eq_zero (hr.2 hz)
end Gf
