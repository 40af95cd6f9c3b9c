import Derived.Test.YtknfkhackmnnaaaPl
import Derived.Test.YtknfkhackmnnaaaW6
set_option linter.unusedVariables false
namespace Go.Proofs.Ytknfkhackmnnaaa
/-! the plain law of the product code's parity -/
def wf (k i : Nat) : Nat := if k < 86 then pf k i else qf (k - 86) i
def wl (k : Nat) : Nat := if k < 86 then 26 else 45
theorem wl_eq (k : Nat) : (wordN k).length = wl k := wordN_length k
theorem wordN_at {k i : Nat} (h : i < wl k) : (wordN k).getD i 0 = wf k i := by
  unfold wl at h
  unfold wf wordN
  split at h
  · rename_i hk
    rw [if_pos hk, if_pos hk, pwN_at _ _ h]
  · rename_i hk
    rw [if_neg hk, if_neg hk, qwN_at _ _ h]
theorem wl_cases (k : Nat) : wl k = 26 ∨ wl k = 45 := by
  unfold wl
  split
  · exact .inl rfl
  · exact .inr rfl
theorem wf_inj {k i j : Nat} (hk : k < 138) (hi : i < wl k) (hj : j < wl k) (h : wf k i = wf k j) : i = j := by
  unfold wl at hi hj
  unfold wf at h
  by_cases h1 : k < 86
  · rw [if_pos h1] at hi hj h
    rw [if_pos h1] at h
    unfold pf at h
    omega
  · rw [if_neg h1] at hi hj h
    rw [if_neg h1] at h
    unfold qf at h
    by_cases a : i < 43
    · rw [if_pos a] at h
      by_cases b : j < 43
      · rw [if_pos b] at h
        have h2 := (q_inv (m := (k - 86) / 2) a (by omega) rfl).1
        have h3 := (q_inv (m := (k - 86) / 2) b (by omega) rfl).1
        omega
      · rw [if_neg b] at h
        split at h <;> omega
    · rw [if_neg a] at h
      by_cases b : j < 43
      · rw [if_pos b] at h
        split at h <;> omega
      · rw [if_neg b] at h
        split at h <;> split at h <;> omega
/-- the parity's offsets stand in no earlier word -/
theorem wf_par {j k i p : Nat} (hjk : j < k) (hk : k < 138) (hi : i < wl j) (hp : p < wl k) (hp2 : wl k ≤ p + 2) : wf j i ≠ wf k p := by
  unfold wl at hi hp hp2
  unfold wf
  by_cases h1 : k < 86
  · rw [if_pos h1] at hp hp2
    rw [if_pos (show j < 86 by omega)] at hi
    rw [if_pos h1, if_pos (show j < 86 by omega)]
    unfold pf
    omega
  · rw [if_neg h1] at hp hp2
    rw [if_neg h1]
    have hq : qf (k - 86) p = 12 + 2 * ((if p = 43 then 1118 else 1144) + (k - 86) / 2) + (k - 86) % 2 := by
      unfold qf
      rw [if_neg (by omega)]
      split <;> rfl
    rw [hq]
    by_cases h2 : j < 86
    · rw [if_pos h2] at hi ⊢
      unfold pf
      split <;> omega
    · rw [if_neg h2] at hi ⊢
      unfold qf
      split
      · split <;> omega
      · split <;> split <;> omega
theorem wf_low {k p : Nat} (hk : k < 138) (hp : p < wl k) (hp2 : wl k ≤ p + 2) : 2076 ≤ wf k p := by
  unfold wl at hp hp2
  unfold wf
  by_cases h1 : k < 86
  · rw [if_pos h1] at hp hp2 ⊢
    unfold pf
    omega
  · rw [if_neg h1] at hp hp2 ⊢
    unfold qf
    rw [if_neg (by omega)]
    split <;> omega
theorem wf_lt {k i : Nat} (hk : k < 138) (hi : i < wl k) : 12 ≤ wf k i ∧ wf k i < 2352 := by
  rw [← wordN_at hi]
  exact wordN_mem hk (getD_mem (by rw [wl_eq]; exact hi))
/-- every parity offset is one of a word -/
theorem par_p {o : Nat} (h1 : 2076 ≤ o) (h2 : o < 2248) : ∃ k p, k < 86 ∧ (p = 24 ∨ p = 25) ∧ wf k p = o := by
  refine ⟨2 * ((o - 12) / 2 % 43) + o % 2, (o - 12) / 2 / 43, by omega, by omega, ?_⟩
  unfold wf
  rw [if_pos (by omega)]
  unfold pf
  omega
theorem par_q {o : Nat} (h1 : 2248 ≤ o) (h2 : o < 2352) : ∃ n p, n < 52 ∧ (p = 43 ∨ p = 44) ∧ wf (86 + n) p = o := by
  refine ⟨2 * ((o - 2248) / 2 % 26) + o % 2, if o < 2300 then 43 else 44, by omega, by split <;> simp, ?_⟩
  unfold wf
  rw [if_neg (by omega), Nat.add_sub_cancel_left]
  unfold qf
  rw [if_neg (by split <;> omega)]
  split <;> split <;> omega
/-! what is written -/
theorem putK_out {l : List UInt8} {f : Nat} {os : List Nat} {s : List UInt8} {o : Nat} : ∀ {k : Nat}, (∀ i, i < k → os.getD i 0 < l.length) → (∀ i, i < k → os.getD i 0 ≠ o) → Gf.co (putK l f os s k) o = Gf.co l o
  | 0, _, _ => rfl
  | k + 1, hb, h => by
    simp only [putK]
    have ih := putK_out (f := f) (s := s) (k := k) (fun i hi => hb i (by omega)) (fun i hi => h i (by omega))
    split
    · rw [Gf.co_set (by rw [putK_length]; exact hb k (by omega)), if_neg (fun e => h k (by omega) e.symm)]
      exact ih
    · exact ih
theorem putK_in {l : List UInt8} {f : Nat} {os : List Nat} {s : List UInt8} {i : Nat} : ∀ {k : Nat}, (∀ j, j < k → os.getD j 0 < l.length) → i < k → f ≤ os.getD i 0 → (∀ j, j < k → os.getD j 0 = os.getD i 0 → j = i) → Gf.co (putK l f os s k) (os.getD i 0) = Gf.co s i
  | 0, _, h, _, _ => by omega
  | k + 1, hb, h, hf, hj => by
    simp only [putK]
    by_cases e : i = k
    · subst e
      rw [if_pos hf, Gf.co_set (by rw [putK_length]; exact hb i (by omega)), if_pos rfl]
    · have ih := putK_in (s := s) (k := k) (fun j hj' => hb j (by omega)) (by omega) hf (fun j hj' => hj j (by omega))
      split
      · rw [Gf.co_set (by rw [putK_length]; exact hb k (by omega)), if_neg (fun e2 => by have := hj k (by omega) e2.symm; omega)]
        exact ih
      · exact ih
theorem putK_low {l : List UInt8} {f : Nat} {os : List Nat} {s : List UInt8} {o : Nat} (ho : o < f) : ∀ {k : Nat}, (∀ j, j < k → os.getD j 0 < l.length) → Gf.co (putK l f os s k) o = Gf.co l o
  | 0, _ => rfl
  | k + 1, hb => by
    simp only [putK]
    have ih := putK_low (os := os) (s := s) ho (k := k) (fun j hj' => hb j (by omega))
    split
    · rename_i hf
      rw [Gf.co_set (by rw [putK_length]; exact hb k (by omega)), if_neg (by omega)]
      exact ih
    · exact ih
theorem co_tkL (l : List UInt8) (f : Nat) (os : List Nat) {i : Nat} (hi : i < os.length) : Gf.co (tkL l f os) i = if f ≤ os.getD i 0 then Gf.co l (os.getD i 0) else 0 := by
  rw [← tkK_full, co_tkK _ _ _ _ hi]
  exact ite_iff ⟨fun h => h.2, fun h => ⟨hi, h⟩⟩ _ _
theorem tkL_congr {l l' : List UInt8} {f : Nat} {os : List Nat} (h : ∀ i, i < os.length → f ≤ os.getD i 0 → Gf.co l (os.getD i 0) = Gf.co l' (os.getD i 0)) : tkL l f os = tkL l' f os := by
  refine Gf.co_ext (by rw [tkL_length, tkL_length]) fun i hi => ?_
  rw [tkL_length] at hi
  rw [co_tkL _ _ _ hi, co_tkL _ _ _ hi]
  split
  · exact h i hi (by assumption)
  · rfl
def wordD (k : Nat) : List Nat := (wordN k).take ((wordN k).length - 2)
theorem wordD_length (k : Nat) : (wordD k).length = wl k - 2 := by
  unfold wordD
  rw [List.length_take, wl_eq]
  rcases wl_cases k with h | h <;> omega
theorem wordD_at {k i : Nat} (h : i < wl k - 2) : (wordD k).getD i 0 = wf k i := by
  have h2 : i < wl k := by omega
  rw [← wordN_at h2]
  unfold wordD
  simp only [List.getD_eq_getElem?_getD]
  rw [List.getElem?_take, if_pos (by rw [wl_eq]; exact h)]
/-- where so many words are done -/
structure EncI (a : List UInt8) (f k : Nat) (L : List UInt8) : Prop where
  len : L.length = 2352
  keep : ∀ o, o < 2076 → Gf.co L o = Gf.co a o
  ok : ∀ j, j < k → okW L f j = true
theorem okW_iff (L : List UInt8) (f k : Nat) : okW L f k = true ↔ Gf.IsCw (tkL L f (wordN k)) 2 := by
  unfold okW
  refine (vld_iff (str (tkL L f (wordN k))) 2).trans ?_
  rw [bl_str, str_size, tkL_length, wl_eq]
  refine ⟨fun h => h.2, fun h => ⟨?_, h⟩⟩
  rcases wl_cases k with h | h <;> rw [h] <;> decide
theorem EncI.step {a L : List UInt8} {f k : Nat} {r : List UInt8} (h : EncI a f k L) (hf : f ≤ 2000) (hk : k < 138) (hr : r.length = 2) (hc : Gf.IsCw (tkL L f (wordD k) ++ r) 2) :
    EncI a f (k + 1) (putK L f (wordN k) (tkL L f (wordD k) ++ r) (wordN k).length) := by
  have hwl := wl_eq k
  have hb : ∀ i, i < (wordN k).length → (wordN k).getD i 0 < L.length := fun i hi => by
    rw [h.len]
    exact wordN_lt hk hi
  have hwc := wl_cases k
  have hinj : ∀ i j, i < wl k → j < wl k → (wordN k).getD j 0 = (wordN k).getD i 0 → j = i := fun i j hi hj e => by
    rw [wordN_at hi, wordN_at hj] at e
    exact wf_inj hk hj hi e
  -- what is not parity lies as it lay
  have hsame : ∀ o, (∀ p, p < wl k → wl k ≤ p + 2 → wf k p ≠ o) → Gf.co (putK L f (wordN k) (tkL L f (wordD k) ++ r) (wordN k).length) o = Gf.co L o := fun o ho => by
    by_cases hlow : o < f
    · exact putK_low hlow hb
    · by_cases hin : ∃ i, i < wl k ∧ wf k i = o
      · obtain ⟨i, hi, rfl⟩ := hin
        have hi2 : i < wl k - 2 := by
          rcases Nat.lt_or_ge i (wl k - 2) with h | h
          · exact h
          · exact absurd rfl (ho i hi (by omega))
        have e := putK_in (s := tkL L f (wordD k) ++ r) (f := f) (i := i) hb (by rw [hwl]; exact hi) (by rw [wordN_at hi]; omega) (fun j hj e => hinj i j hi (by rw [← hwl]; exact hj) e)
        rw [wordN_at hi] at e
        rw [e, Gf.co_append_left (by rw [tkL_length, wordD_length]; exact hi2), co_tkL _ _ _ (by rw [wordD_length]; exact hi2), wordD_at hi2, if_pos (by omega)]
      · refine putK_out hb fun i hi e => hin ⟨i, by rw [← hwl]; exact hi, ?_⟩
        rw [← e, wordN_at (by rw [← hwl]; exact hi)]
  refine ⟨by rw [putK_length]; exact h.len, fun o ho => ?_, fun j hj => ?_⟩
  · rw [hsame o (fun p hp hp2 e => by have := wf_low hk hp hp2; omega)]
    exact h.keep o ho
  · by_cases e : j = k
    · subst e
      rw [okW_iff]
      have : tkL (putK L f (wordN j) (tkL L f (wordD j) ++ r) (wordN j).length) f (wordN j) = tkL L f (wordD j) ++ r := by
        refine Gf.co_ext (by rw [tkL_length, List.length_append, tkL_length, wordD_length, hr, hwl]; rcases hwc with h | h <;> omega) fun i hi => ?_
        rw [tkL_length] at hi
        have hi' : i < wl j := by rw [← hwl]; exact hi
        rw [co_tkL _ _ _ hi]
        by_cases hlow : f ≤ (wordN j).getD i 0
        · rw [if_pos hlow, putK_in hb hi hlow (fun j' hj' e => hinj i j' hi' (by rw [← hwl]; exact hj') e)]
        · rw [if_neg hlow]
          have hi2 : i < wl j - 2 := by
            rcases Nat.lt_or_ge i (wl j - 2) with h | h
            · exact h
            · have := wf_low hk hi' (by omega)
              rw [wordN_at hi'] at hlow
              omega
          rw [Gf.co_append_left (by rw [tkL_length, wordD_length]; exact hi2), co_tkL _ _ _ (by rw [wordD_length]; exact hi2), wordD_at hi2, if_neg (by rw [← wordN_at hi']; exact hlow)]
      rw [this]
      exact hc
    · have hjk : j < k := by omega
      rw [okW_iff]
      have : tkL (putK L f (wordN k) (tkL L f (wordD k) ++ r) (wordN k).length) f (wordN j) = tkL L f (wordN j) := tkL_congr fun i hi _ => by
        have hi' : i < wl j := by rw [← wl_eq]; exact hi
        rw [wordN_at hi']
        exact hsame _ (fun p hp hp2 e => wf_par hjk hk hi' hp hp2 e.symm)
      rw [this, ← okW_iff]
      exact h.ok j hjk
/-- a sector's codeword -/
def EncOf (a : List UInt8) (f : Nat) (L : List UInt8) : Prop := L.length = 2352 ∧ (∀ o, o < 2076 → Gf.co L o = Gf.co a o) ∧ sndL L f = true
theorem EncI.enc {a L : List UInt8} {f : Nat} (h : EncI a f 138 L) : EncOf a f L := ⟨h.len, h.keep, List.all_eq_true.2 fun k hk => h.ok k (List.mem_range.1 hk)⟩
theorem snd_cw {L : List UInt8} {f k : Nat} (h : sndL L f = true) (hk : k < 138) : Gf.IsCw (tkL L f (wordN k)) 2 := (okW_iff _ _ _).1 (List.all_eq_true.1 h k (List.mem_range.2 hk))
theorem word_agree {L M : List UInt8} {f k : Nat} (hf : f ≤ 2000) (hk : k < 138) (hL : sndL L f = true) (hM : sndL M f = true) (h : ∀ i, i < wl k - 2 → Gf.co L (wf k i) = Gf.co M (wf k i)) {i : Nat} (hi : i < wl k) : Gf.co L (wf k i) = Gf.co M (wf k i) := by
  rcases Nat.lt_or_ge i (wl k - 2) with h1 | h1
  · exact h i h1
  · have hwc := wl_cases k
    have e : tkL L f (wordN k) = tkL M f (wordN k) := by
      refine Gf.cw_unique (T := [wl k - 2, wl k - 1]) (by rw [tkL_length, wl_eq]; rcases hwc with h | h <;> omega) (by rw [tkL_length, tkL_length]) (snd_cw hL hk) (snd_cw hM hk) ?_ (by simp) ?_
      · intro x hx
        rw [tkL_length, wl_eq]
        simp only [List.mem_cons, List.not_mem_nil, or_false] at hx
        rcases hwc with h | h <;> omega
      · intro x hx hne
        rw [tkL_length, wl_eq] at hx
        refine Classical.byContradiction fun hT => hne ?_
        simp only [List.mem_cons, List.not_mem_nil, or_false, not_or] at hT
        rw [co_tkL _ _ _ (by rw [wl_eq]; exact hx), co_tkL _ _ _ (by rw [wl_eq]; exact hx), wordN_at hx]
        split
        · exact h x (by omega)
        · rfl
    have h2 := congrArg (fun l => Gf.co l i) e
    rw [co_tkL _ _ _ (by rw [wl_eq]; exact hi), co_tkL _ _ _ (by rw [wl_eq]; exact hi), wordN_at hi, if_pos (by have := wf_low hk hi (by omega); omega), if_pos (by have := wf_low hk hi (by omega); omega)] at h2
    exact h2
theorem pf_lt {k i : Nat} (hk : k < 86) (hi : i < 24) : wf k i < 2076 := by
  unfold wf
  rw [if_pos hk]
  unfold pf
  omega
theorem qf_lt {n i : Nat} (hn : n < 52) (hi : i < 43) : wf (86 + n) i < 2248 := by
  unfold wf
  rw [if_neg (by omega)]
  unfold qf
  rw [if_pos hi]
  omega
theorem enc_one {L M : List UInt8} {f : Nat} (hf : f ≤ 2000) (hl : L.length = 2352) (hm : M.length = 2352) (hL : sndL L f = true) (hM : sndL M f = true) (h : ∀ o, o < 2076 → Gf.co L o = Gf.co M o) : L = M := by
  have h2 : ∀ o, o < 2248 → Gf.co L o = Gf.co M o := fun o ho => by
    rcases Nat.lt_or_ge o 2076 with h1 | h1
    · exact h o h1
    · obtain ⟨k, p, hk, hp, rfl⟩ := par_p h1 ho
      have hw : wl k = 26 := by unfold wl; rw [if_pos hk]
      exact word_agree hf (by omega) hL hM (fun i hi => h _ (pf_lt hk (by omega))) (by omega)
  refine Gf.co_ext (by rw [hl, hm]) fun o ho => ?_
  rw [hl] at ho
  rcases Nat.lt_or_ge o 2248 with h1 | h1
  · exact h2 o h1
  · obtain ⟨n, p, hn, hp, rfl⟩ := par_q h1 ho
    have hw : wl (86 + n) = 45 := by unfold wl; rw [if_neg (by omega)]
    exact word_agree hf (by omega) hL hM (fun i hi => h2 _ (qf_lt hn (by omega))) (by omega)
theorem EncOf.unique {a b L M : List UInt8} {f : Nat} (hf : f ≤ 2000) (h : EncOf a f L) (h' : EncOf b f M) (hab : ∀ o, o < 2076 → Gf.co a o = Gf.co b o) : L = M :=
  enc_one hf h.1 h'.1 h.2.2 h'.2.2 fun o ho => by rw [h.2.1 o ho, h'.2.1 o ho, hab o ho]
theorem EncOf.xor {a b L M : List UInt8} {f : Nat} (hab : a.length = b.length) (h : EncOf a f L) (h' : EncOf b f M) : EncOf (Gf.xorL a b) f (Gf.xorL L M) := by
  have hl : L.length = M.length := by rw [h.1, h'.1]
  refine ⟨by rw [Gf.xorL_length hl, h.1], fun o ho => ?_, List.all_eq_true.2 fun k hk => ?_⟩
  · rw [Gf.co_xorL hl, Gf.co_xorL hab, h.2.1 o ho, h'.2.1 o ho]
  · have hk' := List.mem_range.1 hk
    rw [okW_iff]
    have e : tkL (Gf.xorL L M) f (wordN k) = Gf.xorL (tkL L f (wordN k)) (tkL M f (wordN k)) := by
      have hl2 : (tkL L f (wordN k)).length = (tkL M f (wordN k)).length := by rw [tkL_length, tkL_length]
      refine Gf.co_ext (by rw [Gf.xorL_length hl2, tkL_length, tkL_length]) fun i hi => ?_
      rw [tkL_length] at hi
      rw [Gf.co_xorL hl2, co_tkL _ _ _ hi, co_tkL _ _ _ hi, co_tkL _ _ _ hi]
      split
      · rw [Gf.co_xorL hl]
      · rfl
    rw [e]
    exact (snd_cw h.2.2 hk').xor (by rw [tkL_length, tkL_length]) (snd_cw h'.2.2 hk')
end Go.Proofs.Ytknfkhackmnnaaa
