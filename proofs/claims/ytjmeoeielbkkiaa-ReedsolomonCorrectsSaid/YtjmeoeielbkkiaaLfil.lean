/- Any symbols of a codeword, up to as many as the parity, can be erased and filled again: for every input. -/
import Derived.Test.YtjmeoeielbkkiaaAw
import Derived.Test.YtjmeoeielbkkiaaRb
set_option linter.unusedVariables false
set_option linter.unusedSimpArgs false
namespace Go.Proofs.Ytjmeoeielbkkiaa
open Go.RowKit Go.Deep
/-- a word that differs from a codeword at erased positions only -/
def Damaged (W L : List UInt8) (er : List Int) : Prop := L.length = W.length ∧ ∀ i, i < W.length → i ∉ erN er → Gf.co L i = Gf.co W i
theorem Damaged.outs {W L : List UInt8} {er : List Int} (h : Damaged W L er) : Gf.outs L W (erN er) = [] := by
  rw [List.eq_nil_iff_forall_not_mem]
  intro i hi
  obtain ⟨h1, h2, h3⟩ := Gf.mem_outs.1 hi
  exact h2 (h.2 i (by rw [← h.1]; exact h1) h3)
theorem Damaged.set {W L : List UInt8} {er : List Int} (h : Damaged W L er) {k x : Nat} (hk : k < er.length) (hx : ci er k = x) (hxl : x < W.length) (c : UInt8) : Damaged W (L.set x c) er := by
  refine ⟨by rw [List.length_set, h.1], fun i hi hn => ?_⟩
  have hne : ¬ i = x := fun e => hn (by
    unfold erN
    rw [e]
    refine List.mem_map.2 ⟨(x : Int), ?_, by simp⟩
    rw [← hx, ci_lt hk]
    exact List.getElem_mem _)
  rw [Gf.co_set (by rw [h.1]; exact hxl), if_neg hne]
  exact h.2 i hi hn
theorem fills_unique {l : List UInt8} {p : Nat} {er : List Int} {c c' : List UInt8} (hn : l.length ≤ 255) (hp1 : 1 ≤ p) (hP : posN l.length er er.length) (hle : er.length ≤ p) (h : Fills l p er c) (h' : Fills l p er c') : c = c' :=
  (fill_eq hn hp1 hP hle h).symm.trans (fill_eq hn hp1 hP hle h')
theorem wrap_u8 (k : Nat) : IntKind.u8.wrap (k : Int) = ((UInt8.ofNat k).toNat : Int) := by
  simp [IntKind.wrap, IntKind.bits, IntKind.signed]
set_option maxRecDepth 100000 in
set_option maxHeartbeats 1000000 in
theorem law_fills (a : ByteArray) (p : Int) (er : List Int) (A : Option Addr) (c : Nat) (w : World) (ha : a.size ≤ 140737488351232) (hr : RdI w A er) :
    Calls Try.prog 10 #[.string a, .int .i64 p, .slice A er.length c] w fun e w' => Ret1 w (.bool true) e w' := by
  go_enter Try.func10, Try.ntmps10
  by_cases hal : a.size ≤ 100
  · have hna : ¬ (100 : Int) < (a.size : Int) := by omega
    by_cases hel : er.length ≤ 16
    · have hne : ¬ (16 : Int) < (er.length : Int) := by omega
      by_cases hp : encOk a.size p = true
      · obtain ⟨q, rfl⟩ : ∃ q : Nat, p = q := Int.eq_ofNat_of_zero_le (by have := encOk_true hp; omega)
        obtain ⟨hq1, hq2, hq3, hq4⟩ := encOk_true hp
        have HP := Lib.hid hp
        clear hp
        go_wp2_with fail
        refine (awake_any _).mono ?_
        rintro e w1 ⟨rfl, hB1⟩
        go_wp2_with fail
        refine (encode_yes a q HP.out _).mono ?_
        rintro e w2 ⟨r, rfl, hr1, hc, hB2⟩
        have hB3 := hB1.trans (hB2.mono hB1.size)
        clear hB1 hB2
        have hXs : (str (bl a ++ r)).size = a.size + q := by rw [str_size, List.length_append, bl_length, hr1]
        have hXl : (bl a ++ r).length = a.size + q := by rw [List.length_append, bl_length, hr1]
        have hps := positions_any (str (bl a ++ r)) er A c (by omega) (by omega) w2 (hr.below (Nat.le_refl _) hB3)
        have HPS := Lib.hid hps
        clear hps
        go_wp2_with fail
        refine HPS.out.mono ?_
        rintro e w3 ⟨⟨b, rfl, hb⟩, hB4⟩
        have hB5 := hB3.trans (hB4.mono hB3.size)
        clear HPS hB3 hB4
        rcases b with _ | _
        · go_wp2_with fail
          go_ret
          exact ⟨rfl, hB5⟩
        · have HPO : Hid (posN (a.size + q) er er.length) := by rw [← hXs]; exact hb.out.1 rfl
          clear hb
          have kb := conv_bytes (str (bl a ++ r))
          have hbw := bytesWorld_row w3 (str (bl a ++ r))
          have hbb := bytesWorld_below w3 (str (bl a ++ r))
          have hsz3 := hB5.size
          have hbb2 := hB5.trans (hbb.mono hsz3)
          rw [hXs] at kb
          rw [bl_str] at hbw
          clear hbb
          generalize hg : bl a ++ r = W at hXl hc hXs kb hbw hbb2
          have HG := Lib.hid hg
          have HC := Lib.hid hc
          have HXL := Lib.hid hXl
          clear hg hc hXl
          generalize hW0 : Lib.bytesWorld w3 5 (str W) = W0 at kb hbw hbb2
          have HW0 := Lib.hid hW0
          have HKB := Lib.hid kb
          have hD0 : Hid (Damaged W W er) := ⟨rfl, fun _ _ _ => rfl⟩
          have hWl : W.length = a.size + q := HXL.out
          have hXs2 := hXs
          clear hW0 hXs2
          go_wp2_with fail
          rw [HW0.out]
          obtain ⟨g, hg⟩ : ∃ g, g = w3.heap.size := ⟨_, rfl⟩
          rw [← hg] at hbw hsz3 ⊢
          have hgw : w.heap.size ≤ g := hsz3
          clear hg
          go_loopw [41] (fun i wr => ∃ (k : Nat) (L : List UInt8), k ≤ er.length ∧ i = .int .i64 k ∧ Own wr g L ∧ Below w.heap.size w wr ∧ Hid (Damaged W L er)) (fun i _ => er.length - (intOf i).toNat)
          case atStart => exact ⟨0, W, by omega, rfl, hbw, hbb2, hD0⟩
          case round =>
            obtain ⟨k, L, hk, rfl, hO, hB, hD⟩ := hrel
            clear hbw hbb2 hD0
            by_cases hlt : k < er.length
            · obtain ⟨ba, oa, rfl, hba, hrr⟩ := hr (by omega)
              have hck := (hB.cell (p := ⟨ba, oa + k, none⟩) hba).trans (hrr k hlt)
              have hpk := HPO.out k hlt
              obtain ⟨x, hx⟩ := Int.eq_ofNat_of_zero_le hpk.1
              have hxl : x < a.size + q := by have := hpk.2.1; omega
              have hLl : L.length = a.size + q := by rw [hD.out.1, HXL.out]
              have hfo := hO.free (j := x) (by omega)
              have hco := hO.cell (j := x) (by omega)
              have hw8 : Hid (91 * (k : Int) % 256 = ((UInt8.ofNat (91 * k)).toNat : Int)) := by show _ = _; simp
              have hD2 : Hid (Damaged W (L.set x (UInt8.ofNat (91 * k))) er) := hD.out.set hlt hx (by rw [HXL.out]; exact hxl) _
              have hO2 := hO.set (j := x) (by omega) (UInt8.ofNat (91 * k))
              have hB2 := hB.setCell (p := ⟨g, x, none⟩) hgw (B (UInt8.ofNat (91 * k)))
              rw [hx] at hck
              have HLL := Lib.hid hLl
              clear hpk hx hLl hrr hO hB
              go_wp2
              rw [hw8.out]
              go_roundw
              case rel => exact ⟨k + 1, _, by omega, by go_num, hO2, hB2, hD2⟩
              case measure => simp [intOf]; omega
            · have hLl : L.length = a.size + q := by rw [hD.out.1, HXL.out]
              have hcv := conv_string hO.rd (grownCap w3 (a.size + q) 0 5)
              rw [hLl] at hcv
              have hLs : (str L).size = a.size + q := by rw [str_size, hLl]
              have hshp : shp (str L).size q = true := by rw [hLs]; unfold shp; exact decide_eq_true ⟨by omega, by omega, by omega, by omega, by omega⟩
              have hfl := fill_yes (str L) q er A c hshp (by omega) wr (hr.below (Nat.le_refl _) hB)
              have HFL := Lib.hid hfl
              have hun : Hid (∀ cw, Fills (bl (str L)) q er cw → er.length ≤ q → str cw = str W) := fun cw hcw hle => by
                rw [bl_str] at hcw
                rw [fills_unique (by rw [hLl]; omega) (by omega) (by rw [hLl]; exact HPO.out) hle hcw ⟨hD.out.1.symm, HC.out, hD.out.outs⟩]
              have hex : Hid (Fills (bl (str L)) q er W) := by rw [bl_str]; exact ⟨hD.out.1.symm, HC.out, hD.out.outs⟩
              have hpo : Hid (posN (str L).size er er.length) := by rw [hLs]; exact HPO.out
              clear hfl hshp hLl
              go_wp2_with fail
              refine HFL.out.mono ?_
              rintro e w5 ⟨hB6, ⟨hn, rfl⟩ | ⟨_, hle, cw, hcw, rfl⟩ | ⟨_, hn, rfl⟩⟩
              · exact absurd hpo.out hn
              · rw [hun.out cw hcw hle]
                clear hcw
                go_wp2
                go_ret
                exact ⟨rfl, hB.trans (hB6.mono hB.size)⟩
              · have hgt : q < er.length := by
                  rcases Nat.lt_or_ge q er.length with h | h
                  · exact h
                  · exact absurd ⟨W, hex.out⟩ (hn h)
                have h0 : (str []).toList.isEmpty = true := by rw [ByteArray.toList_eq]; rfl
                clear hn
                go_wp2
                go_ret
                exact ⟨rfl, hB.trans (hB6.mono hB.size)⟩
      · have hp1 : encOk a.size p = false := by simpa using hp
        have HP1 := Lib.hid hp1
        clear hp hp1
        go_wp2_with fail
        refine (awake_any _).mono ?_
        rintro e w1 ⟨rfl, hB1⟩
        go_wp2_with fail
        refine (encode_no _ _ HP1.out ha _).mono ?_
        rintro e w2 ⟨rfl, rfl⟩
        go_wp2
        go_ret
        exact ⟨rfl, hB1⟩
    · go_wp2_with (go_at_call 11; refine (awake_any _).mono ?_; rintro e w1 ⟨rfl, hB1⟩)
      go_ret
      exact ⟨rfl, hB1⟩
  · go_wp2_with (go_at_call 11; refine (awake_any _).mono ?_; rintro e w1 ⟨rfl, hB1⟩)
    go_ret
    exact ⟨rfl, hB1⟩
end Go.Proofs.Ytjmeoeielbkkiaa
