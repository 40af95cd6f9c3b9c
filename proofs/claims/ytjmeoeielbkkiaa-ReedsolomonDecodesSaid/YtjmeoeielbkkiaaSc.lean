import Derived.Test.YtjmeoeielbkkiaaSb
set_option maxRecDepth 100000
set_option linter.unusedVariables false
set_option linter.unusedSimpArgs false
namespace Go.Proofs.Ytjmeoeielbkkiaa
open Go.RowKit Go.Deep
/-- a codeword that differs at erased positions only -/
def Fills (l : List UInt8) (p : Nat) (er : List Int) (cw : List UInt8) : Prop := cw.length = l.length ∧ Gf.IsCw cw p ∧ Gf.outs l cw (erN er) = []
theorem gam_root {n : Nat} {er : List Int} (hn : n ≤ 255) (hP : posN n er er.length) {i : Nat} (hi : i < n) : Gf.evl (gamL n er er.length) (Gf.ix n i) = 0 ↔ i ∈ erN er := by
  have hp := pos_of hP
  have hc : Gf.co (gamL n er er.length) = Gf.L (Gf.Xs n (erN er)) := by
    rw [co_gamL _ _ _ (Nat.le_refl _), List.take_of_length_le (by rw [erN_length]; exact Nat.le_refl _)]
  have hl := (gamL_ne n er er.length).2
  rw [Gf.evl_ev, hc]
  constructor
  · intro h
    by_cases hm : i ∈ erN er
    · exact hm
    · refine absurd h (Gf.L_ne (fun Y hY e => ?_) (by rw [Gf.Xs_length, erN_length, hl]; exact Nat.le_refl _))
      obtain ⟨k, hk, rfl⟩ := List.mem_map.1 hY
      exact hm (Gf.X_unit hn hi (hp.2 k hk) (Gf.X_ix n i) e ▸ hk)
  · intro h
    exact Gf.L_zero (Gf.mem_Xs h) (Gf.X_ix n i) (by rw [Gf.Xs_length, erN_length, hl]; exact Nat.le_refl _)
theorem fill_out {l : List UInt8} {p : Nat} {er : List Int} (hn : l.length ≤ 255) (hP : posN l.length er er.length) : Gf.outs l (Gf.rep l (gamL l.length er er.length) (xiL l p er)) (erN er) = [] := by
  rw [List.eq_nil_iff_forall_not_mem]
  intro i hi
  obtain ⟨h1, h2, h3⟩ := Gf.mem_outs.1 hi
  refine h2 ?_
  rw [Gf.co_rep h1]
  unfold Gf.repAt
  rw [if_neg (fun h => h3 ((gam_root hn hP h1).1 h))]
theorem fill_eq {l : List UInt8} {p : Nat} {er : List Int} {cw : List UInt8} (hn : l.length ≤ 255) (hp1 : 1 ≤ p) (hP : posN l.length er er.length) (hle : er.length ≤ p) (h : Fills l p er cw) :
    Gf.rep l (gamL l.length er er.length) (xiL l p er) = cw := by
  refine Gf.rep_fill hn (pos_of hP) (by rw [erN_length]; exact hle) h.1 h.2.1 h.2.2 (by rw [xiL_length hp1]; exact Nat.le_refl _) (xiL_eqm hp1) ?_
  rw [co_gamL _ _ _ (Nat.le_refl _), List.take_of_length_le (by rw [erN_length]; exact Nat.le_refl _)]
theorem fills_few {l : List UInt8} {p : Nat} {er : List Int} : True := trivial
/-- what Fill hands back for a word and positions that belong together -/
def RetFill (w : World) (s : ByteArray) (p : Nat) (er : List Int) (e : Ending) (w' : World) : Prop :=
  Below w.heap.size w w' ∧
  ((¬ posN s.size er er.length ∧ e = .returned (.tuple #[.string (str []), .int .i64 1])) ∨
   (posN s.size er er.length ∧ er.length ≤ p ∧ ∃ cw, Fills (bl s) p er cw ∧ e = .returned (.tuple #[.string (str cw), .int .i64 0])) ∨
   (posN s.size er er.length ∧ (er.length ≤ p → ¬ ∃ cw, Fills (bl s) p er cw) ∧ e = .returned (.tuple #[.string (str []), .int .i64 11])))
set_option maxRecDepth 100000 in
theorem fill_no (s : ByteArray) (p : Int) (A : Option Addr) (n c : Nat) (h : shp s.size p = false) (w : World) :
    Calls Try.prog 24 #[.string s, .int .i64 p, .slice A n c] w fun e w' => e = .returned (.tuple #[.string (str []), .int .i64 1]) ∧ w = w' := by
  go_enter Try.func24, Try.ntmps24
  go_wp2_with (go_at_call 41; refine (start_no s p A n c h _).mono ?_; rintro e w1 ⟨rfl, rfl⟩)
  go_ret2
  exact ⟨rfl, rfl⟩
theorem shp_len {s : ByteArray} {l : List UInt8} {p : Int} (h : shp s.size p = true) (hl : l.length = s.size) : shp (str l).size p = true := by rw [str_size, hl]; exact h
attribute [local irreducible] Gf.rep
set_option maxRecDepth 100000 in
set_option maxHeartbeats 2000000 in
theorem fill_yes (s : ByteArray) (p : Nat) (er : List Int) (A : Option Addr) (c : Nat) (h : shp s.size p = true) (hl : er.length ≤ 100000) (w : World) (hr : RdI w A er) :
    Calls Try.prog 24 #[.string s, .int .i64 (p : Int), .slice A er.length c] w fun e w' => RetFill w s p er e w' := by
  obtain ⟨h1, h2, h3, h4, h5⟩ := shp_true h
  have H := Lib.hid h
  have hbl := bl_length s
  have HL := Lib.hid hbl
  clear h hbl
  go_enter Try.func24, Try.ntmps24
  go_wp2_with fail
  refine (start_yes s p er A c H.out hl _ hr).mono ?_
  rintro e w1 (⟨hP, hle, bg, cg, bx, cx, rfl, hOg, hOx, hbg, hbx, hB⟩ | ⟨hP, rfl, hB⟩ | ⟨hP, hlt, rfl, hB⟩)
  · have hrep := repair_any s (gamL s.size er er.length) (xiL (bl s) p er) (by omega) (by omega) (by rw [(gamL_ne _ _ _).2]; omega) (by rw [xiL_length (by omega)]; omega) (by rw [(gamL_ne _ _ _).2]; omega) bg 0 cg bx 0 cx w1 hOg.rd hOx.rd hOx.lt
    rw [(gamL_ne _ _ _).2, xiL_length (by omega)] at hrep
    have HR := Lib.hid hrep
    obtain ⟨out, hout⟩ : ∃ out, out = Gf.rep (bl s) (gamL s.size er er.length) (xiL (bl s) p er) := ⟨_, rfl⟩
    have HO := Lib.hid hout
    have HP := Lib.hid hP
    have hsz := hB.size
    clear hrep hout hP
    go_wp2_with fail
    refine HR.out.mono ?_
    rintro e w2 ⟨rfl, hB2⟩
    rw [← HO.out]
    have hB3 := hB.trans (hB2.mono hsz)
    have hsz3 := hB3.size
    clear HR hB hB2
    have hol : out.length = (bl s).length := by rw [HO.out, Gf.rep_length]
    have hos : Gf.outs (bl s) out (erN er) = [] := by
      have := fill_out (l := bl s) (p := p) (er := er) (by rw [HL.out]; omega) (by rw [HL.out]; exact HP.out)
      rw [HL.out] at this
      rw [HO.out]
      exact this
    have heq : ∀ cw, Fills (bl s) p er cw → out = cw := fun cw hcw => by
      have := fill_eq (l := bl s) (p := p) (er := er) (by rw [HL.out]; omega) (by omega) (by rw [HL.out]; exact HP.out) hle hcw
      rw [HL.out] at this
      rw [HO.out]
      exact this
    have hv := vld_iff (str out) p
    rw [bl_str] at hv
    have HV := Lib.hid hv
    have HEQ := Lib.hid heq
    have HOS := Lib.hid hos
    have HOL := Lib.hid hol
    clear hv heq hos hol
    by_cases hvb : vld (str out) p = true
    · have HC := (HV.out.1 hvb).2
      have hfin : Hid (Fills (bl s) p er out) := ⟨HOL.out, HC, HOS.out⟩
      clear HC
      go_wp2_with (go_at_call 17; refine (valid_any _ _ _).mono ?_; rintro e w3 ⟨rfl, hB4⟩)
      go_ret2
      exact ⟨hB3.trans (hB4.mono hsz3), .inr (.inl ⟨HP.out, hle, out, hfin.out, rfl⟩)⟩
    · have hfin : Hid (¬ ∃ cw, Fills (bl s) p er cw) := fun ⟨cw, hcw⟩ => by
        have := HEQ.out cw hcw
        subst this
        exact hvb (HV.out.2 ⟨shp_len H.out (HOL.out.trans HL.out), hcw.2.1⟩)
      have hvb : vld (str out) p = false := by simpa using hvb
      go_wp2_with (go_at_call 17; refine (valid_any _ _ _).mono ?_; rintro e w3 ⟨rfl, hB4⟩)
      go_ret2
      exact ⟨hB3.trans (hB4.mono hsz3), .inr (.inr ⟨HP.out, fun _ => hfin.out, rfl⟩)⟩
  · have HP := Lib.hid hP
    clear hP
    go_wp2
    go_ret2
    exact ⟨hB, .inl ⟨HP.out, rfl⟩⟩
  · have HP := Lib.hid hP
    clear hP
    go_wp2
    go_ret2
    exact ⟨hB, .inr (.inr ⟨HP.out, fun h => by omega, rfl⟩)⟩
end Go.Proofs.Ytjmeoeielbkkiaa
