import Derived.Test.YtknfkhackmnnaaaD6
import Derived.Test.YtknfkhackmnnaaaPe
set_option maxRecDepth 100000
set_option linter.unusedVariables false
set_option linter.unusedSimpArgs false
namespace Go.Proofs.Ytknfkhackmnnaaa
/-! the plain law of Decode: what is put right -/
theorem filter_two {p : Nat → Bool} {a b : Nat} (h : ∀ i, p i = true → i = a ∨ i = b) (n : Nat) : ((List.range n).filter p).length ≤ (if a < n then 1 else 0) + (if b < n then 1 else 0) := by
  induction n with
  | zero => simp
  | succ n ih =>
    rw [List.range_succ, List.filter_append, List.length_append]
    cases hp : p n with
    | false =>
      rw [List.filter_cons_of_neg (by rw [hp]; decide)]
      simp only [List.filter_nil, List.length_nil]
      split at ih <;> split at ih <;> split <;> split <;> omega
    | true =>
      rw [List.filter_cons_of_pos hp]
      simp only [List.filter_nil, List.length_cons, List.length_nil]
      rcases h n hp with e | e <;> subst e <;> split at ih <;> split at ih <;> split <;> split <;> omega
theorem filter_one {p : Nat → Bool} {a : Nat} (h : ∀ i, p i = true → i = a) (n : Nat) : ((List.range n).filter p).length ≤ 1 := by
  induction n with
  | zero => simp
  | succ n ih =>
    rw [List.range_succ, List.filter_append, List.length_append]
    cases hp : p n with
    | false =>
      rw [List.filter_cons_of_neg (by rw [hp]; decide)]
      simpa using ih
    | true =>
      have hn := h n hp
      have h0 : (List.range n).filter p = [] := by
        rw [List.filter_eq_nil_iff]
        intro x hx hpx
        have := h x hpx
        have := List.mem_range.1 hx
        omega
      rw [h0, List.filter_cons_of_pos hp]
      simp
theorem filter_none {p : Nat → Bool} (h : ∀ i, p i = false) (n : Nat) : (List.range n).filter p = [] := by
  rw [List.filter_eq_nil_iff]
  intro x _ hpx
  rw [h x] at hpx
  cases hpx
theorem mem_word {k i : Nat} (h : i < wl k) : wf k i ∈ wordN k := by
  rw [← wordN_at h]
  exact getD_mem (by rw [wl_eq]; exact h)
theorem mem_word_iff {k o : Nat} : o ∈ wordN k ↔ ∃ i, i < wl k ∧ wf k i = o := by
  constructor
  · intro h
    obtain ⟨i, hi, rfl⟩ := List.getElem_of_mem h
    rw [wl_eq] at hi
    refine ⟨i, hi, ?_⟩
    rw [← wordN_at hi]
    simp [List.getD_eq_getElem?_getD, show i < (wordN k).length by rw [wl_eq]; exact hi]
  · rintro ⟨i, hi, rfl⟩
    exact mem_word hi
/-- each offset is one of a word's -/
theorem some_word {o : Nat} (h1 : 12 ≤ o) (h2 : o < 2352) : ∃ k, k < 138 ∧ o ∈ wordN k := by
  rcases Nat.lt_or_ge o 2248 with h | h
  · refine ⟨(o - 12) % 86, by omega, mem_word_iff.2 ⟨(o - 12) / 86, ?_, ?_⟩⟩
    · unfold wl
      rw [if_pos (by omega)]
      omega
    · unfold wf
      rw [if_pos (by omega)]
      unfold pf
      omega
  · obtain ⟨n, p, hn, hp, rfl⟩ := par_q h h2
    exact ⟨86 + n, by omega, mem_word (by unfold wl; rw [if_neg (by omega)]; omega)⟩
theorem p_word {o : Nat} (h1 : 12 ≤ o) (h2 : o < 2248) : ∃ k, k < 86 ∧ o ∈ wordN k := by
  refine ⟨(o - 12) % 86, by omega, mem_word_iff.2 ⟨(o - 12) / 86, ?_, ?_⟩⟩
  · unfold wl
    rw [if_pos (by omega)]
    omega
  · unfold wf
    rw [if_pos (by omega)]
    unfold pf
    omega
theorem insK_tk (C : List UInt8) (f k : Nat) : insK (tkL C f (wordN k)) f (wordN k) (wordN k).length = true := by
  unfold insK
  rw [List.all_eq_true]
  intro i hi
  have hi := List.mem_range.1 hi
  unfold insB
  rw [co_tkL _ _ _ hi]
  by_cases h : f ≤ (wordN k).getD i 0
  · rw [decide_eq_true h, Bool.true_or]
  · rw [if_neg h]
    simp
theorem mem_relK {S os : List Nat} {o : Nat} : o ∈ relK S os os.length ↔ o ∈ S ∧ ¬ o ∈ os := by
  unfold relK
  rw [List.take_length]
  simp
theorem mem_posK {S os : List Nat} {i : Nat} : i ∈ posK S os os.length ↔ i < os.length ∧ os.getD i 0 ∈ S := by
  unfold posK
  simp
/-- a word in which little is wrong is put right -/
theorem step_fix {C l : List UInt8} {S : List Nat} {f k : Nat} (ch : Bool) (hk : k < 138) (hs : sndL C f = true) (hl : l.length = 2352)
    (hn : 2 * (Gf.outs (tkL l f (wordN k)) (tkL C f (wordN k)) (posK S (wordN k) (wordN k).length)).length + (posK S (wordN k) (wordN k).length).length ≤ 2) :
    (stepW f l S ch (wordN k)).2.1 = relK S (wordN k) (wordN k).length ∧ (stepW f l S ch (wordN k)).1.length = 2352 ∧ (∀ o, o ∈ wordN k → f ≤ o → Gf.co (stepW f l S ch (wordN k)).1 o = Gf.co C o) ∧ (∀ o, ¬ o ∈ wordN k ∨ o < f → Gf.co (stepW f l S ch (wordN k)).1 o = Gf.co l o) := by
  have hwl := wl_eq k
  have hN : Gf.Near (tkL l f (wordN k)) 2 (posK S (wordN k) (wordN k).length) (tkL C f (wordN k)) := ⟨by rw [tkL_length, tkL_length], snd_cw hs hk, hn⟩
  have hd : dcd (tkL l f (wordN k)) (posK S (wordN k) (wordN k).length) = some (tkL C f (wordN k)) := by
    refine dcd_eq (by rw [tkL_length]; have := wordN_le k; omega) ?_ hN
    rw [tkL_length]
    exact pos_posK _ _ _
  have hb : ∀ i, i < (wordN k).length → (wordN k).getD i 0 < l.length := fun i hi => by
    rw [hl]
    exact wordN_lt hk hi
  have hinj : ∀ i j, i < (wordN k).length → j < (wordN k).length → (wordN k).getD j 0 = (wordN k).getD i 0 → j = i := fun i j hi hj e => by
    rw [hwl] at hi hj
    rw [wordN_at hi, wordN_at hj] at e
    exact wf_inj hk hj hi e
  unfold stepW
  rw [hd]
  simp only [insK_tk, if_true]
  refine ⟨trivial, by rw [putK_length]; exact hl, fun o ho hf => ?_, fun o ho => ?_⟩
  · obtain ⟨i, hi, rfl⟩ := mem_word_iff.1 ho
    rw [← hwl] at hi
    have e := putK_in (s := tkL C f (wordN k)) (f := f) (l := l) (i := i) hb hi (by rw [wordN_at (by rw [← hwl]; exact hi)]; exact hf) (fun j hj e => hinj i j hi hj e)
    have hwi := wordN_at (k := k) (i := i) (by rw [← hwl]; exact hi)
    rw [hwi] at e
    rw [e, co_tkL _ _ _ hi, hwi, if_pos hf]
  · rcases ho with ho | ho
    · refine putK_out hb fun i hi e => ho ?_
      rw [← e]
      exact getD_mem hi
    · exact putK_low ho hb
theorem step_far {l : List UInt8} {S : List Nat} {f k : Nat} (ch : Bool) (h : 2 < (posK S (wordN k) (wordN k).length).length) : stepW f l S ch (wordN k) = (l, S, ch) := by
  have hd : dcd (tkL l f (wordN k)) (posK S (wordN k) (wordN k).length) = none := by
    cases hq : dcd (tkL l f (wordN k)) (posK S (wordN k) (wordN k).length) with
    | none => rfl
    | some cw =>
      have := (dcd_some hq).2.2
      omega
  unfold stepW
  rw [hd]
/-- so many words are put right, and the rest lies as it lay -/
structure FixI (C x : List UInt8) (f : Nat) (S : List Nat) (k : Nat) (l : List UInt8) (S' : List Nat) : Prop where
  len : l.length = 2352
  sub : ∀ o, o ∈ S' → o ∈ S ∧ ∀ j, j < k → ¬ o ∈ wordN j
  wr : ∀ o, o < 2352 → Gf.co l o ≠ Gf.co C o → f ≤ o ∧ Gf.co x o ≠ Gf.co C o ∧ ∀ j, j < k → ¬ o ∈ wordN j
  er : ∀ o, o < 2352 → Gf.co l o ≠ Gf.co C o → o ∈ S → o ∈ S'
theorem outs_tk {C l : List UInt8} {f k : Nat} {ps : List Nat} {i : Nat} (h : i ∈ Gf.outs (tkL l f (wordN k)) (tkL C f (wordN k)) ps) : i < wl k ∧ f ≤ wf k i ∧ Gf.co l (wf k i) ≠ Gf.co C (wf k i) ∧ ¬ i ∈ ps := by
  obtain ⟨h1, h2, h3⟩ := Gf.mem_outs.1 h
  rw [tkL_length] at h1
  rw [co_tkL _ _ _ h1, co_tkL _ _ _ h1] at h2
  rw [wl_eq] at h1
  rw [wordN_at h1] at h2
  by_cases hf : f ≤ wf k i
  · rw [if_pos hf, if_pos hf] at h2
    exact ⟨h1, hf, h2, h3⟩
  · rw [if_neg hf, if_neg hf] at h2
    exact absurd rfl h2
theorem pass_fix {C x : List UInt8} {f : Nat} {S : List Nat} (hs : sndL C f = true) (hC : C.length = 2352) (hx : x.length = 2352) (h12 : 12 ≤ f) (hS : ∀ o, o ∈ S → 12 ≤ o ∧ o < 2352) (hw : ∀ o, o < 2352 → Gf.co x o ≠ Gf.co C o → f ≤ o)
    (hn : ∀ k l S', k < 138 → FixI C x f S k l S' → 2 * (Gf.outs (tkL l f (wordN k)) (tkL C f (wordN k)) (posK S' (wordN k) (wordN k).length)).length + (posK S' (wordN k) (wordN k).length).length ≤ 2) :
    (passW f x S 138).1 = C ∧ (passW f x S 138).2.1 = [] := by
  have hI : ∀ k, k ≤ 138 → FixI C x f S k (passW f x S k).1 (passW f x S k).2.1 := fun k => by
    induction k with
    | zero => exact fun _ => ⟨hx, fun o ho => ⟨ho, fun j hj => absurd hj (Nat.not_lt_zero _)⟩, fun o ho hne => ⟨hw o ho hne, hne, fun j hj => absurd hj (Nat.not_lt_zero _)⟩, fun o _ _ h => h⟩
    | succ k ih =>
      intro hk
      have h := ih (by omega)
      obtain ⟨h1, h2, h3, h4⟩ := step_fix (passW f x S k).2.2 (by omega) hs h.len (hn k _ _ (by omega) h)
      show FixI C x f S (k + 1) (stepW f (passW f x S k).1 (passW f x S k).2.1 (passW f x S k).2.2 (wordN k)).1 (stepW f (passW f x S k).1 (passW f x S k).2.1 (passW f x S k).2.2 (wordN k)).2.1
      have hout : ∀ o, o < 2352 → Gf.co (stepW f (passW f x S k).1 (passW f x S k).2.1 (passW f x S k).2.2 (wordN k)).1 o ≠ Gf.co C o → Gf.co (passW f x S k).1 o ≠ Gf.co C o ∧ ¬ o ∈ wordN k := fun o ho hne => by
        by_cases hm : o ∈ wordN k
        · rcases Nat.lt_or_ge o f with hf | hf
          · rw [h4 o (.inr hf)] at hne
            have := (h.wr o ho hne).1
            omega
          · exact absurd (h3 o hm hf) hne
        · rw [h4 o (.inl hm)] at hne
          exact ⟨hne, hm⟩
      refine ⟨h2, fun o ho => ?_, fun o ho hne => ?_, fun o ho hne hoS => ?_⟩
      · rw [h1] at ho
        obtain ⟨a, b⟩ := mem_relK.1 ho
        obtain ⟨c, d⟩ := h.sub o a
        refine ⟨c, fun j hj => ?_⟩
        by_cases e : j = k
        · rw [e]; exact b
        · exact d j (by omega)
      · obtain ⟨a, b⟩ := hout o ho hne
        obtain ⟨c, d, e⟩ := h.wr o ho a
        refine ⟨c, d, fun j hj => ?_⟩
        by_cases e' : j = k
        · rw [e']; exact b
        · exact e j (by omega)
      · obtain ⟨a, b⟩ := hout o ho hne
        rw [h1]
        exact mem_relK.2 ⟨h.er o ho a hoS, b⟩
  have h := hI 138 (Nat.le_refl _)
  refine ⟨Gf.co_ext (by rw [h.len, hC]) fun o ho => ?_, List.eq_nil_iff_forall_not_mem.2 fun o ho => ?_⟩
  · rw [h.len] at ho
    refine Classical.byContradiction fun hne => ?_
    obtain ⟨a, b, c⟩ := h.wr o ho hne
    obtain ⟨k, hk, hm⟩ := some_word (o := o) (by omega) ho
    exact c k hk hm
  · obtain ⟨a, b⟩ := h.sub o ho
    obtain ⟨k, hk, hm⟩ := some_word (hS o a).1 (hS o a).2
    exact b k hk hm
theorem pass_stay {C : List UInt8} {f : Nat} (hs : sndL C f = true) (hC : C.length = 2352) (h12 : 12 ≤ f) : (passW f C [] 138).1 = C ∧ (passW f C [] 138).2.1 = [] := by
  refine pass_fix hs hC hC h12 (fun o ho => by cases ho) (fun o _ h => absurd rfl h) fun k l S' hk h => ?_
  have h1 : S' = [] := List.eq_nil_iff_forall_not_mem.2 fun o ho => by have := (h.sub o ho).1; cases this
  have h2 : posK S' (wordN k) (wordN k).length = [] := List.eq_nil_iff_forall_not_mem.2 fun i hi => by have := (mem_posK.1 hi).2; rw [h1] at this; cases this
  have h3 : Gf.outs (tkL l f (wordN k)) (tkL C f (wordN k)) (posK S' (wordN k) (wordN k).length) = [] := List.eq_nil_iff_forall_not_mem.2 fun i hi => by
    obtain ⟨a, b, c, d⟩ := outs_tk hi
    exact (h.wr _ (wf_lt hk a).2 c).2.1 rfl
  rw [h3, h2]
  simp
theorem dec_stay {C : List UInt8} {f : Nat} (hs : sndL C f = true) (hC : C.length = 2352) (h12 : 12 ≤ f) : ∀ n i, decL f n C [] i = (C, [])
  | 0, _ => rfl
  | n + 1, i => by
    obtain ⟨h1, h2⟩ := pass_stay hs hC h12
    simp only [decL]
    split
    · rfl
    · rw [h1, h2, dec_stay hs hC h12 n, dec_stay hs hC h12 n]
      simp
theorem dec_fix {C x : List UInt8} {f : Nat} {S : List Nat} (hs : sndL C f = true) (hC : C.length = 2352) (h12 : 12 ≤ f) (h : (passW f x S 138).1 = C ∧ (passW f x S 138).2.1 = []) : decP f x S = (C, []) := by
  have h2 : ∀ n, decL f (n + 1) x S 0 = (C, []) := fun n => by
    simp only [decL]
    revert h
    generalize passW f x S 138 = p
    rintro ⟨h1, h2⟩
    rw [if_neg (by omega), h1, h2, dec_stay hs hC h12, dec_stay hs hC h12]
    simp
  exact h2 (17 * S.length + 16)
/-- a burst -/
theorem burst_fix {C x : List UInt8} {f a n : Nat} {S : List Nat} (hs : sndL C f = true) (hC : C.length = 2352) (hx : x.length = 2352) (h12 : 12 ≤ f) (hn : n ≤ 172) (ha : f ≤ a) (han : a + n ≤ 2352)
    (hS : ∀ o, o ∈ S ↔ a ≤ o ∧ o < a + n) (hw : ∀ o, o < 2352 → Gf.co x o ≠ Gf.co C o → a ≤ o ∧ o < a + n) : decP f x S = (C, []) := by
  refine dec_fix hs hC h12 (pass_fix hs hC hx h12 (fun o ho => by have := (hS o).1 ho; omega) (fun o ho hne => by have := hw o ho hne; omega) fun k l S' hk h => ?_)
  have h3 : Gf.outs (tkL l f (wordN k)) (tkL C f (wordN k)) (posK S' (wordN k) (wordN k).length) = [] := List.eq_nil_iff_forall_not_mem.2 fun i hi => by
    obtain ⟨a1, b, c, d⟩ := outs_tk hi
    refine d (mem_posK.2 ⟨by rw [wl_eq]; exact a1, ?_⟩)
    rw [wordN_at a1]
    exact h.er _ (wf_lt hk a1).2 c ((hS _).2 (hw _ (wf_lt hk a1).2 (h.wr _ (wf_lt hk a1).2 c).2.1))
  rw [h3]
  have hp : ∀ i, decide ((wordN k).getD i 0 ∈ S') = true → i < wl k → a ≤ wf k i ∧ wf k i < a + n ∧ ∀ j, j < k → ¬ wf k i ∈ wordN j := fun i hi hlt => by
    have := of_decide_eq_true hi
    rw [wordN_at hlt] at this
    obtain ⟨c, d⟩ := h.sub _ this
    exact ⟨((hS _).1 c).1, ((hS _).1 c).2, d⟩
  have h4 : (posK S' (wordN k) (wordN k).length).length ≤ 2 := by
    unfold posK
    rw [wl_eq]
    obtain ⟨e, he⟩ : ∃ e, e = if k < 86 then (a + 85 - (12 + k)) / 86 else 43 := ⟨_, rfl⟩
    have h5 : (List.range (wl k)).filter (fun i => decide ((wordN k).getD i 0 ∈ S')) = (List.range (wl k)).filter (fun i => decide ((wordN k).getD i 0 ∈ S') && decide (i = e ∨ i = e + 1)) := by
      refine List.filter_congr fun i hi => ?_
      have hi := List.mem_range.1 hi
      cases hq : decide ((wordN k).getD i 0 ∈ S') with
      | false => rfl
      | true =>
        rw [Bool.true_and]
        symm
        obtain ⟨b1, b2, b3⟩ := hp i hq hi
        refine decide_eq_true ?_
        by_cases hk86 : k < 86
        · rw [if_pos hk86] at he
          have q : wf k i = 12 + k + 86 * i := by
            unfold wf
            rw [if_pos hk86]
            unfold pf
            omega
          rw [q] at b1 b2
          clear b3 q hq hp h3 hS hw h hs hC hx
          omega
        · rw [if_neg hk86] at he
          have hge : 2248 ≤ wf k i := by
            rcases Nat.lt_or_ge (wf k i) 2248 with hlt | hge
            · obtain ⟨j, hj, hm⟩ := p_word (wf_lt hk hi).1 hlt
              exact absurd hm (b3 j (by omega))
            · exact hge
          have : ¬ i < 43 := fun h43 => by
            have := qf_lt (n := k - 86) (i := i) (by omega) h43
            rw [show 86 + (k - 86) = k by omega] at this
            omega
          have hwk : wl k = 45 := by unfold wl; rw [if_neg hk86]
          omega
    rw [h5]
    refine Nat.le_trans (filter_two (a := e) (b := e + 1) (fun i hi => ?_) (wl k)) (by split <;> split <;> omega)
    rw [Bool.and_eq_true] at hi
    exact of_decide_eq_true hi.2
  simp only [List.length_nil, Nat.mul_zero, Nat.zero_add]
  exact h4
/-- a few errors -/
theorem error_fix {C x : List UInt8} {f : Nat} (hs : sndL C f = true) (hC : C.length = 2352) (hx : x.length = 2352) (h12 : 12 ≤ f) (hw : ∀ o, o < 2352 → Gf.co x o ≠ Gf.co C o → f ≤ o)
    (hp : ∀ o o', o < 2248 → o' < 2248 → Gf.co x o ≠ Gf.co C o → Gf.co x o' ≠ Gf.co C o' → (o - 12) % 86 = (o' - 12) % 86 → o = o')
    (hq : ∀ o o', 2248 ≤ o → 2248 ≤ o' → o < 2352 → o' < 2352 → Gf.co x o ≠ Gf.co C o → Gf.co x o' ≠ Gf.co C o' → (o - 2248) % 52 = (o' - 2248) % 52 → o = o') : decP f x [] = (C, []) := by
  refine dec_fix hs hC h12 (pass_fix hs hC hx h12 (fun o ho => by cases ho) hw fun k l S' hk h => ?_)
  have h1 : S' = [] := List.eq_nil_iff_forall_not_mem.2 fun o ho => by have := (h.sub o ho).1; cases this
  have h2 : posK S' (wordN k) (wordN k).length = [] := List.eq_nil_iff_forall_not_mem.2 fun i hi => by have := (mem_posK.1 hi).2; rw [h1] at this; cases this
  have h3 : ∀ i j, i ∈ Gf.outs (tkL l f (wordN k)) (tkL C f (wordN k)) (posK S' (wordN k) (wordN k).length) → j ∈ Gf.outs (tkL l f (wordN k)) (tkL C f (wordN k)) (posK S' (wordN k) (wordN k).length) → i = j := fun i j hi hj => by
    obtain ⟨a, b, c, d⟩ := outs_tk hi
    obtain ⟨a', b', c', d'⟩ := outs_tk hj
    obtain ⟨_, e, e2⟩ := h.wr _ (wf_lt hk a).2 c
    obtain ⟨_, e', e2'⟩ := h.wr _ (wf_lt hk a').2 c'
    refine wf_inj hk a a' ?_
    by_cases hk86 : k < 86
    · have hwk : wl k = 26 := by unfold wl; rw [if_pos hk86]
      have q : ∀ i, wf k i = 12 + k + 86 * i := fun i => by
        unfold wf
        rw [if_pos hk86]
        unfold pf
        omega
      refine hp _ _ (by rw [q]; omega) (by rw [q]; omega) e e' ?_
      rw [q, q]
      omega
    · have hge : ∀ i, i < wl k → (∀ j, j < k → ¬ wf k i ∈ wordN j) → 2248 ≤ wf k i ∧ (i = 43 ∨ i = 44) := fun i hi b3 => by
        have h6 : 2248 ≤ wf k i := by
          rcases Nat.lt_or_ge (wf k i) 2248 with hlt | hge
          · obtain ⟨j, hj, hm⟩ := p_word (wf_lt hk hi).1 hlt
            exact absurd hm (b3 j (by omega))
          · exact hge
        have h7 : ¬ i < 43 := fun h43 => by
          have := qf_lt (n := k - 86) (i := i) (by omega) h43
          rw [show 86 + (k - 86) = k by omega] at this
          omega
        have hwk : wl k = 45 := by unfold wl; rw [if_neg hk86]
        exact ⟨h6, by omega⟩
      obtain ⟨g1, g2⟩ := hge i a e2
      obtain ⟨g1', g2'⟩ := hge j a' e2'
      refine hq _ _ g1 g1' (wf_lt hk a).2 (wf_lt hk a').2 e e' ?_
      unfold wf
      rw [if_neg hk86, if_neg hk86]
      unfold qf
      rcases g2 with rfl | rfl <;> rcases g2' with rfl | rfl <;> simp <;> omega
  have h5 : (Gf.outs (tkL l f (wordN k)) (tkL C f (wordN k)) (posK S' (wordN k) (wordN k).length)).length ≤ 1 := by
    rcases Nat.eq_zero_or_pos (Gf.outs (tkL l f (wordN k)) (tkL C f (wordN k)) (posK S' (wordN k) (wordN k).length)).length with h0 | h0
    · omega
    · have hm := List.getElem_mem h0
      unfold Gf.outs at h0 hm ⊢
      have hcong : (List.range (tkL l f (wordN k)).length).filter (fun i => decide (Gf.co (tkL l f (wordN k)) i ≠ Gf.co (tkL C f (wordN k)) i) && !(posK S' (wordN k) (wordN k).length).contains i) = (List.range (tkL l f (wordN k)).length).filter (fun i => (decide (Gf.co (tkL l f (wordN k)) i ≠ Gf.co (tkL C f (wordN k)) i) && !(posK S' (wordN k) (wordN k).length).contains i) && decide (i = ((List.range (tkL l f (wordN k)).length).filter (fun i => decide (Gf.co (tkL l f (wordN k)) i ≠ Gf.co (tkL C f (wordN k)) i) && !(posK S' (wordN k) (wordN k).length).contains i))[0])) := by
        refine List.filter_congr fun i hi => ?_
        cases hq : (decide (Gf.co (tkL l f (wordN k)) i ≠ Gf.co (tkL C f (wordN k)) i) && !(posK S' (wordN k) (wordN k).length).contains i) with
        | false => rfl
        | true =>
          rw [Bool.true_and]
          symm
          exact decide_eq_true (h3 i _ (List.mem_filter.2 ⟨hi, hq⟩) hm)
      rw [hcong]
      exact filter_one (fun i hi => by rw [Bool.and_eq_true] at hi; exact of_decide_eq_true hi.2) _
  rw [h2] at h5 ⊢
  simp only [List.length_nil, Nat.add_zero]
  omega
end Go.Proofs.Ytknfkhackmnnaaa
