import Derived.Test.YtjmeoeielbkkiaaSw
import Derived.Test.YtjmeoeielbkkiaaSe
set_option maxRecDepth 100000
set_option linter.unusedVariables false
set_option linter.unusedSimpArgs false
namespace Go.Proofs.Ytjmeoeielbkkiaa
open Go Go.RowKit Go.Deep Go.Sort
/-! the reference's search -/
theorem erN_mem {er : List Int} {x : Nat} : x ∈ erN er ↔ ∃ y, y ∈ er ∧ y.toNat = x := by simp [erN]
theorem erN_mgL {l : List Int} {n : Int} (hs : l.Pairwise (· < ·)) (hn : n ∉ l) {x : Nat} : x ∈ erN (mgL l n) ↔ x = n.toNat ∨ x ∈ erN l := by
  rw [erN_mem, erN_mem]
  constructor
  · rintro ⟨y, hy, rfl⟩
    rcases (mem_mgL hs hn).1 hy with h | h
    · exact .inl (by rw [h])
    · exact .inr ⟨y, h, rfl⟩
  · rintro (h | ⟨y, hy, rfl⟩)
    · exact ⟨n, (mem_mgL hs hn).2 (.inl rfl), h.symm⟩
    · exact ⟨y, (mem_mgL hs hn).2 (.inr hy), rfl⟩
def RetSearch (w : World) (s : ByteArray) (p : Nat) (er : List Int) (from_ m : Nat) (e : Ending) (w' : World) : Prop :=
  Below w.heap.size w w' ∧ ((∃ cw T, T.length = m ∧ FillsN (bl s) p (erN er ++ T) cw ∧ e = .returned (.tuple #[.string (str cw), .bool true])) ∨
    ((∀ T : List Nat, T.Pairwise (· < ·) → T.length = m → (∀ x, x ∈ T → from_ ≤ x ∧ x < s.size ∧ x ∉ erN er) → ¬ ∃ cw, FillsN (bl s) p (erN er ++ T) cw) ∧ e = .returned (.tuple #[.string (str []), .bool false])))
set_option maxRecDepth 100000 in
set_option maxHeartbeats 4000000 in
theorem search_any (s : ByteArray) (p : Nat) (h : shp s.size p = true) : ∀ (m : Nat) (er : List Int) (from_ : Nat) (A : Option Addr) (c : Nat) (w : World), posN s.size er er.length → er.length + m ≤ p → RdI w A er → from_ ≤ s.size →
    Calls Try.prog 49 #[.string s, .int .i64 (p : Int), .slice A er.length c, .int .i64 (from_ : Int), .int .i64 (m : Int)] w fun e w' => RetSearch w s p er from_ m e w' := by
  have H := Lib.hid h
  obtain ⟨h1, h2, h3, h4, h5⟩ := shp_true h
  clear h
  intro m
  induction m with
  | zero =>
    intro er from_ A c w hP hle hr hf
    have HS := Lib.hid (solve_any s p er A c H.out hP (by omega) w hr)
    clear hP hr
    go_enter Try.func49, Try.ntmps49
    go_wp2_with fail
    refine HS.out.mono ?_
    rintro e w1 ⟨hB, ⟨cw, hc, rfl⟩ | ⟨hn, rfl⟩⟩
    · go_wp2
      go_ret2
      exact ⟨hB, .inl ⟨cw, [], rfl, by rw [List.append_nil]; exact hc, rfl⟩⟩
    · go_wp2
      go_ret2
      refine ⟨hB, .inr ⟨fun T _ hT _ => ?_, rfl⟩⟩
      rw [List.length_eq_zero_iff.1 hT, List.append_nil]
      exact hn
  | succ m ih =>
    intro er from_ A c w hP hle hr hf
    have HP := Lib.hid hP
    have HIH := Lib.hid ih
    have HR := Lib.hid hr
    have hel : er.length ≤ 100000 := by omega
    have hm0 : (((m + 1 : Nat) : Int) == 0) = false := by rw [beq_eq_false_iff_ne]; omega
    clear hP ih hr
    obtain ⟨mm, hmm⟩ : ∃ mm : Int, mm = ((m + 1 : Nat) : Int) := ⟨_, rfl⟩
    rw [← hmm] at hm0 ⊢
    have hm1 : mm - 1 = (m : Int) := by omega
    have hwr : IntKind.i64.wrap (mm - 1) = (m : Int) := by rw [hm1]; exact IntWalk.i64_in _ (by omega)
    have HMM := Lib.hid hmm
    clear hmm
    go_enter Try.func49, Try.ntmps49
    go_wp2
    go_loopw [12] (fun i wr => ∃ k : Nat, from_ ≤ k ∧ k ≤ s.size ∧ i = .int .i64 k ∧ Below w.heap.size w wr ∧ Hid (∀ T : List Nat, T.Pairwise (· < ·) → T.length = m + 1 → (∀ x, x ∈ T → from_ ≤ x ∧ x < s.size ∧ x ∉ erN er) → (∀ x, x ∈ T.head? → x < k) → ¬ ∃ cw, FillsN (bl s) p (erN er ++ T) cw)) (fun i _ => s.size - (intOf i).toNat)
    case atStart =>
      refine ⟨from_, Nat.le_refl _, hf, rfl, Below.refl _ _, fun T h1 h2 h3 h4 => ?_⟩
      cases T with
      | nil => simp at h2
      | cons t T =>
        have := h3 t (by simp)
        have := h4 t (by simp)
        omega
    case round =>
      obtain ⟨k, hk1, hk2, rfl, hB, hN⟩ := hrel
      by_cases hlt : k < s.size
      · have hks : (k : Int) < (s.size : Int) := by omega
        have hrd := HR.out.below (Nat.le_refl _) hB
        have HC := Lib.hid (containsr_any er (k : Int) A c hel wr hrd)
        by_cases hin : (k : Int) ∈ er
        · have hd : decide ((k : Int) ∈ er) = true := decide_eq_true hin
          rw [hd] at HC
          have hN2 : Hid (∀ T : List Nat, T.Pairwise (· < ·) → T.length = m + 1 → (∀ x, x ∈ T → from_ ≤ x ∧ x < s.size ∧ x ∉ erN er) → (∀ x, x ∈ T.head? → x < k + 1) → ¬ ∃ cw, FillsN (bl s) p (erN er ++ T) cw) := fun T t1 t2 t3 t4 => by
            refine hN.out T t1 t2 t3 fun x hx => ?_
            have h6 := t4 x hx
            have h7 : x ≠ k := fun e => by
              have hm := t3 x (List.mem_of_mem_head? hx)
              exact hm.2.2 (erN_mem.2 ⟨(k : Int), hin, by omega⟩)
            omega
          clear hin hd hrd hN
          go_wp2_with (go_at_call 71; refine HC.out.mono ?_; rintro e w' ⟨rfl, rfl⟩)
          go_roundw
          case rel => exact ⟨k + 1, by omega, by omega, by go_num, hB, hN2⟩
          case measure => simp [intOf]; omega
        · have hd : decide ((k : Int) ∈ er) = false := decide_eq_false hin
          rw [hd] at HC
          have HM := Lib.hid (merged_any er (k : Int) A c hel wr hrd)
          have HIN := Lib.hid hin
          have HPM := Lib.hid (posN_mgL HP.out hin (by omega) (by omega))
          have HB := Lib.hid hB
          have HML := Lib.hid (mgL_length er (k : Int))
          have hszb := hB.size
          clear hin hd hrd hB
          go_wp2_with (first | (go_at_call 71; refine HC.out.mono ?_; rintro e w' ⟨rfl, rfl⟩) | (go_at_call 72; refine HM.out.mono ?_; rintro e w2 ⟨b2, c2, rfl, hr2, hb0, hb1, hB2⟩; have HSS := Lib.hid (HIH.out (mgL er (k : Int)) (k + 1) (some ⟨b2, 0, none⟩) c2 w2 HPM.out (by rw [HML.out]; omega) hr2 (by omega))) | fail)
          have hrec := HSS.out
          rw [show ((k + 1 : Nat) : Int) = (k : Int) + 1 from by omega] at hrec
          refine hrec.mono ?_
          have hB3 := HB.out.trans (hB2.mono hszb)
          rintro e w3 ⟨hB4, ⟨cw, T, hT, hc, rfl⟩ | ⟨hn, rfl⟩⟩
          · have hres : Hid (∃ cw' T, T.length = m + 1 ∧ FillsN (bl s) p (erN er ++ T) cw' ∧ cw' = cw) := by
              refine ⟨cw, k :: T, by simp [hT], fills_same (fun x hx => ?_) hc, rfl⟩
              rcases List.mem_append.1 hx with h | h
              · rcases (erN_mgL (posN_iff.1 HP.out).1 HIN.out).1 h with h | h
                · exact List.mem_append.2 (.inr (by rw [h]; simp))
                · exact List.mem_append.2 (.inl h)
              · exact List.mem_append.2 (.inr (by simp [h]))
            have hB5 := hB3.trans (hB4.mono hB3.size)
            clear hN hc hT hrec HSS
            go_wp2
            go_ret2
            obtain ⟨cw', T, q1, q2, rfl⟩ := hres.out
            exact ⟨hB5, .inl ⟨cw', T, q1, q2, rfl⟩⟩
          · have hN2 : Hid (∀ T : List Nat, T.Pairwise (· < ·) → T.length = m + 1 → (∀ x, x ∈ T → from_ ≤ x ∧ x < s.size ∧ x ∉ erN er) → (∀ x, x ∈ T.head? → x < k + 1) → ¬ ∃ cw, FillsN (bl s) p (erN er ++ T) cw) := fun T t1 t2 t3 t4 => by
              cases T with
              | nil => simp at t2
              | cons t T =>
                have h6 := t4 t (by simp)
                by_cases htk : t = k
                · subst htk
                  rintro ⟨cw, hc⟩
                  obtain ⟨p1, p2⟩ := List.pairwise_cons.1 t1
                  refine hn T p2 (by simpa using t2) (fun x hx => ?_) ⟨cw, fills_same (fun x hx => ?_) hc⟩
                  · have h8 := t3 x (by simp [hx])
                    have h9 := p1 x hx
                    refine ⟨by omega, h8.2.1, fun hm => ?_⟩
                    rcases (erN_mgL (posN_iff.1 HP.out).1 HIN.out).1 hm with h | h
                    · simp at h; omega
                    · exact h8.2.2 h
                  · rcases List.mem_append.1 hx with h | h
                    · exact List.mem_append.2 (.inl ((erN_mgL (posN_iff.1 HP.out).1 HIN.out).2 (.inr h)))
                    · rcases List.mem_cons.1 h with h | h
                      · exact List.mem_append.2 (.inl ((erN_mgL (posN_iff.1 HP.out).1 HIN.out).2 (.inl (by rw [h]; simp))))
                      · exact List.mem_append.2 (.inr h)
                · exact hN.out (t :: T) t1 t2 t3 (fun x hx => by
                    have : t = x := by simpa using hx
                    omega)
            have hB5 := hB3.trans (hB4.mono hB3.size)
            clear hN hn hrec HSS
            go_wp2
            go_roundw
            case rel => exact ⟨k + 1, by omega, by omega, by go_num, hB5, hN2⟩
            case measure => simp [intOf]; omega
      · have hks : ¬ (k : Int) < (s.size : Int) := by omega
        have hres : Hid (∀ T : List Nat, T.Pairwise (· < ·) → T.length = m + 1 → (∀ x, x ∈ T → from_ ≤ x ∧ x < s.size ∧ x ∉ erN er) → ¬ ∃ cw, FillsN (bl s) p (erN er ++ T) cw) := fun T t1 t2 t3 => hN.out T t1 t2 t3 fun x hx => by
          have := t3 x (List.mem_of_mem_head? hx)
          omega
        clear hN
        go_wp2
        go_ret2
        exact ⟨hB, .inr ⟨hres.out, rfl⟩⟩
end Go.Proofs.Ytjmeoeielbkkiaa
