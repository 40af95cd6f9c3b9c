import Derived.Test.YtjmeoeielbkkiaaQ6
import Derived.Test.YtjmeoeielbkkiaaSo
import Derived.Test.YtjmeoeielbkkiaaSc
set_option linter.unusedVariables false
namespace Go.Proofs.Ytjmeoeielbkkiaa
/-! the plain law of the reference's search -/
theorem posN_iff {n : Nat} {er : List Int} : posN n er er.length ↔ er.Pairwise (· < ·) ∧ ∀ x, x ∈ er → 0 ≤ x ∧ x < n := by
  constructor
  · intro h
    have hlt : ∀ i j, i < j → j < er.length → ci er i < ci er j := fun i j hij => by
      induction j with
      | zero => omega
      | succ j ih =>
        intro hj
        have h2 := (h (j + 1) hj).2.2 (by omega)
        rw [Nat.add_sub_cancel] at h2
        rcases Nat.lt_or_ge i j with h3 | h3
        · have := ih h3 (by omega)
          omega
        · rw [show i = j by omega]; exact h2
    refine ⟨List.pairwise_iff_getElem.2 fun i j hi hj hij => ?_, fun x hx => ?_⟩
    · have := hlt i j hij hj
      rw [ci_lt hi, ci_lt hj] at this
      exact this
    · obtain ⟨i, hi, rfl⟩ := List.getElem_of_mem hx
      have := h i hi
      rw [ci_lt hi] at this
      exact ⟨this.1, this.2.1⟩
  · rintro ⟨h1, h2⟩ j hj
    have := h2 _ (List.getElem_mem hj)
    rw [ci_lt hj]
    refine ⟨this.1, this.2, fun h0 => ?_⟩
    rw [ci_lt (show j - 1 < er.length by omega)]
    exact List.pairwise_iff_getElem.1 h1 (j - 1) j (by omega) hj (by omega)
def mgS (l : List Int) (n : Int) : List Int := l.filter (fun x => decide (x < n)) ++ [n] ++ l.filter (fun x => decide (n < x))
theorem filter_all {p : Int → Bool} : ∀ {l : List Int}, (∀ x, x ∈ l → p x = true) → l.filter p = l := fun h => List.filter_eq_self.2 h
theorem filter_none {p : Int → Bool} {l : List Int} (h : ∀ x, x ∈ l → p x = false) : l.filter p = [] := List.filter_eq_nil_iff.2 fun x hx => by rw [h x hx]; simp
theorem take_snoc (l : List Int) {k : Nat} (h : k < l.length) : l.take (k + 1) = l.take k ++ [ci l k] := by
  rw [List.take_add_one, List.getElem?_eq_getElem h, ci_lt h]
  rfl
theorem mgN_eq {l : List Int} {n : Int} (hs : l.Pairwise (· < ·)) (hn : n ∉ l) : ∀ {k : Nat}, k ≤ l.length → ((mgN l n k).2 = false ∧ (mgN l n k).1 = l.take k ∧ ∀ x, x ∈ l.take k → x < n) ∨ ((mgN l n k).2 = true ∧ (mgN l n k).1 = mgS (l.take k) n ∧ ∃ x, x ∈ l.take k ∧ n < x)
  | 0, _ => .inl ⟨rfl, by simp [mgN], fun x hx => by simp at hx⟩
  | k + 1, hk => by
    have hlt : k < l.length := by omega
    have hcm : ci l k ∈ l := by rw [ci_lt hlt]; exact List.getElem_mem hlt
    have hne : ci l k ≠ n := fun e => hn (e ▸ hcm)
    rcases mgN_eq hs hn (k := k) (by omega) with ⟨h1, h2, h3⟩ | ⟨h1, h2, x, hx1, hx2⟩
    · by_cases hc : n < ci l k
      · refine .inr ?_
        have e : mgN l n (k + 1) = ((mgN l n k).1 ++ [n] ++ [ci l k], true) := by
          rw [mgN, if_pos ⟨h1, hc⟩]
        rw [e]
        refine ⟨rfl, ?_, ci l k, by rw [take_snoc l hlt]; simp, hc⟩
        show (mgN l n k).1 ++ [n] ++ [ci l k] = _
        unfold mgS
        rw [take_snoc l hlt, List.filter_append, List.filter_append, h2, filter_all (fun x hx => by simpa using h3 x hx), filter_none (l := l.take k) (fun x hx => by have := h3 x hx; simp; omega)]
        have e1 : [ci l k].filter (fun x => decide (x < n)) = [] := filter_none fun x hx => by rw [List.mem_singleton.1 hx]; simp; omega
        have e2 : [ci l k].filter (fun x => decide (n < x)) = [ci l k] := filter_all fun x hx => by rw [List.mem_singleton.1 hx]; simpa using hc
        rw [e1, e2]
        simp
      · refine .inl ?_
        have e : mgN l n (k + 1) = ((mgN l n k).1 ++ [ci l k], (mgN l n k).2) := by
          rw [mgN, if_neg (fun h => hc h.2)]
        rw [e]
        refine ⟨h1, by rw [take_snoc l hlt, ← h2], fun x hx => ?_⟩
        rw [take_snoc l hlt] at hx
        rcases List.mem_append.1 hx with h | h
        · exact h3 x h
        · rw [List.mem_singleton.1 h]; omega
    · refine .inr ?_
      have e : mgN l n (k + 1) = ((mgN l n k).1 ++ [ci l k], (mgN l n k).2) := by
        rw [mgN, if_neg (fun h => by rw [h1] at h; exact absurd h.1 (by simp))]
      have hgt : n < ci l k := by
        have hp := hs.sublist (List.take_sublist (k + 1) l)
        rw [take_snoc l hlt, List.pairwise_append] at hp
        have := hp.2.2 x hx1 (ci l k) (by simp)
        omega
      rw [e]
      refine ⟨h1, ?_, x, by rw [take_snoc l hlt]; exact List.mem_append_left _ hx1, hx2⟩
      show (mgN l n k).1 ++ [ci l k] = _
      rw [h2]
      unfold mgS
      have e1 : [ci l k].filter (fun x => decide (x < n)) = [] := filter_none fun x hx => by rw [List.mem_singleton.1 hx]; simp; omega
      have e2 : [ci l k].filter (fun x => decide (n < x)) = [ci l k] := filter_all fun x hx => by rw [List.mem_singleton.1 hx]; simpa using hgt
      rw [take_snoc l hlt, List.filter_append, List.filter_append, e1, e2]
      simp
theorem mgL_eq {l : List Int} {n : Int} (hs : l.Pairwise (· < ·)) (hn : n ∉ l) : mgL l n = mgS l n := by
  unfold mgL
  rcases mgN_eq hs hn (k := l.length) (Nat.le_refl _) with ⟨h1, h2, h3⟩ | ⟨h1, h2, _⟩
  · rw [List.take_length] at h2 h3
    rw [if_neg (by rw [h1]; simp), h2]
    unfold mgS
    rw [filter_all (fun x hx => by simpa using h3 x hx), filter_none (fun x hx => by have := h3 x hx; simp; omega)]
    simp
  · rw [List.take_length] at h2
    rw [if_pos h1, h2]
theorem mem_mgL {l : List Int} {n : Int} (hs : l.Pairwise (· < ·)) (hn : n ∉ l) {x : Int} : x ∈ mgL l n ↔ x = n ∨ x ∈ l := by
  rw [mgL_eq hs hn]
  unfold mgS
  simp only [List.mem_append, List.mem_filter, List.mem_singleton, decide_eq_true_eq]
  constructor
  · rintro ((h | h) | h)
    · exact .inr h.1
    · exact .inl h
    · exact .inr h.1
  · rintro (h | h)
    · exact .inl (.inr h)
    · rcases Int.lt_trichotomy x n with h1 | h1 | h1
      · exact .inl (.inl ⟨h, h1⟩)
      · exact absurd (h1 ▸ h) hn
      · exact .inr ⟨h, h1⟩
theorem posN_mgL {m : Nat} {l : List Int} {n : Int} (h : posN m l l.length) (hn : n ∉ l) (h0 : 0 ≤ n) (h1 : n < m) : posN m (mgL l n) (mgL l n).length := by
  obtain ⟨hs, hb⟩ := posN_iff.1 h
  refine posN_iff.2 ⟨?_, fun x hx => ?_⟩
  · rw [mgL_eq hs hn]
    unfold mgS
    rw [List.pairwise_append, List.pairwise_append]
    refine ⟨⟨hs.filter _, List.pairwise_singleton _ _, fun a ha b hb => ?_⟩, hs.filter _, fun a ha b hb => ?_⟩
    · rw [List.mem_singleton.1 hb]
      simpa using (List.mem_filter.1 ha).2
    · have hb2 : n < b := by simpa using (List.mem_filter.1 hb).2
      rcases List.mem_append.1 ha with h | h
      · have : a < n := by simpa using (List.mem_filter.1 h).2
        omega
      · rw [List.mem_singleton.1 h]; exact hb2
  · rcases (mem_mgL hs hn).1 hx with h | h
    · rw [h]; exact ⟨h0, h1⟩
    · exact hb x h
theorem fills_same {l cw : List UInt8} {p : Nat} {A B : List Nat} (h : ∀ x, x ∈ A → x ∈ B) (hf : FillsN l p A cw) : FillsN l p B cw := by
  refine ⟨hf.1, hf.2.1, ?_⟩
  rw [List.eq_nil_iff_forall_not_mem]
  intro t ht
  obtain ⟨h1, h2, h3⟩ := Gf.mem_outs.1 ht
  have : t ∈ Gf.outs l cw A := Gf.mem_outs.2 ⟨h1, h2, fun hA => h3 (h t hA)⟩
  rw [hf.2.2] at this
  cases this
theorem length_sub : ∀ {A B : List Nat}, A.Nodup → (∀ x, x ∈ A → x ∈ B) → A.length ≤ B.length
  | [], _, _, _ => Nat.zero_le _
  | a :: A, B, h, hs => by
    obtain ⟨h1, h2⟩ := List.nodup_cons.1 h
    have ha : a ∈ B := hs a (by simp)
    have := length_sub (A := A) (B := B.erase a) h2 (fun x hx => (List.mem_erase_of_ne (fun e : x = a => h1 (by rw [← e]; exact hx))).2 (hs x (by simp [hx])))
    rw [List.length_erase_of_mem ha] at this
    have hB : 0 < B.length := List.length_pos_of_mem ha
    simp only [List.length_cons]
    omega
theorem outs_sorted (l cw : List UInt8) (er : List Nat) : (Gf.outs l cw er).Pairwise (· < ·) := List.Pairwise.filter _ List.pairwise_lt_range
theorem near_of_fills {l cw : List UInt8} {p e : Nat} {er T : List Nat} (h : FillsN l p (er ++ T) cw) (hT : T.length = e) (hp : 2 * e + er.length ≤ p) : Gf.Near l p er cw := by
  refine ⟨h.1, h.2.1, ?_⟩
  have : (Gf.outs l cw er).length ≤ T.length := length_sub ((outs_sorted l cw er).imp (fun h => by omega)) fun x hx => by
    obtain ⟨h1, h2, h3⟩ := Gf.mem_outs.1 hx
    refine Classical.byContradiction fun hn => ?_
    have : x ∈ Gf.outs l cw (er ++ T) := Gf.mem_outs.2 ⟨h1, h2, fun hm => by
      rcases List.mem_append.1 hm with h | h
      · exact h3 h
      · exact hn h⟩
    rw [h.2.2] at this
    cases this
  omega
theorem fills_of_near {l cw : List UInt8} {p : Nat} {er : List Nat} (h : Gf.Near l p er cw) : FillsN l p (er ++ Gf.outs l cw er) cw := by
  refine ⟨h.1, h.2.1, ?_⟩
  rw [List.eq_nil_iff_forall_not_mem]
  intro t ht
  obtain ⟨h1, h2, h3⟩ := Gf.mem_outs.1 ht
  refine h3 (List.mem_append.2 ?_)
  by_cases he : t ∈ er
  · exact .inl he
  · exact .inr (Gf.mem_outs.2 ⟨h1, h2, he⟩)
end Go.Proofs.Ytjmeoeielbkkiaa
