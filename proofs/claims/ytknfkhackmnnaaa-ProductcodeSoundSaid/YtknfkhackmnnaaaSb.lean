import Derived.Test.YtknfkhackmnnaaaSa
set_option maxRecDepth 100000
set_option linter.unusedVariables false
set_option linter.unusedSimpArgs false
namespace Go.Proofs.Ytknfkhackmnnaaa
open Go.RowKit Go.Deep
/-- the modified syndromes -/
def xiL (l : List UInt8) (p : Nat) (er : List Int) : List UInt8 := (Gf.prod (syn l p) (gamL l.length er er.length)).take p
theorem syn_ne {l : List UInt8} {p : Nat} (hp : 1 ≤ p) : syn l p ≠ [] := fun e => by
  have := syn_length l p
  rw [e] at this
  simp at this
  omega
theorem xiL_length {l : List UInt8} {p : Nat} {er : List Int} (hp : 1 ≤ p) : (xiL l p er).length = p := by
  unfold xiL
  rw [List.length_take, Gf.prod_length (syn_ne hp) (gamL_ne _ _ _).1, syn_length, (gamL_ne _ _ _).2]
  omega
theorem xiL_eqm {l : List UInt8} {p : Nat} {er : List Int} (hp : 1 ≤ p) : Gf.Eqm p (Gf.co (xiL l p er)) (Gf.cv (Gf.Sy l.length (Gf.co l)) (Gf.L (Gf.Xs l.length (erN er)))) := by
  intro i hi
  unfold xiL
  rw [Gf.co_take hi, Gf.co_prod (syn_ne hp) (gamL_ne _ _ _).1]
  have h1 : Gf.Eqm p (Gf.co (syn l p)) (Gf.Sy l.length (Gf.co l)) := fun j hj => by rw [co_syn l p j hj, Gf.hor_al]
  have h2 : Gf.co (gamL l.length er er.length) = Gf.L (Gf.Xs l.length (erN er)) := by
    rw [co_gamL _ _ _ (Nat.le_refl _), List.take_of_length_le (by rw [erN_length]; exact Nat.le_refl _)]
  rw [h2]
  exact (h1.cv (Gf.Eqm.refl p _)) i hi
theorem zeroL_xi {l : List UInt8} {p : Nat} (hp : 1 ≤ p) : zeroL (xiL l p []) = true ↔ Gf.IsCw l p := by
  rw [zeroL_iff, xiL_length hp]
  have h := xiL_eqm (l := l) (er := []) hp
  rw [show Gf.L (Gf.Xs l.length (erN [])) = Gf.one from rfl, Gf.cv_one] at h
  exact ⟨fun hz j hj => by rw [Gf.hor_al, ← h j hj]; exact hz j hj, fun hz j hj => by rw [h j hj, ← Gf.hor_al]; exact hz j hj⟩
/-- the start of a decoding -/
def RetStart (w : World) (s : ByteArray) (p : Nat) (er : List Int) (e : Ending) (w' : World) : Prop :=
  (posN s.size er er.length ∧ er.length ≤ p ∧ ∃ bg cg bx cx, e = .returned (.tuple #[.slice (some ⟨bg, 0, none⟩) (er.length + 1) cg, .slice (some ⟨bx, 0, none⟩) p cx, .int .i64 0]) ∧
    Own w' bg (gamL s.size er er.length) ∧ Own w' bx (xiL (bl s) p er) ∧ w.heap.size ≤ bg ∧ w.heap.size ≤ bx ∧ Below w.heap.size w w') ∨
  (¬ posN s.size er er.length ∧ e = .returned (.tuple #[.slice none 0 0, .slice none 0 0, .int .i64 1]) ∧ Below w.heap.size w w') ∨
  (posN s.size er er.length ∧ p < er.length ∧ e = .returned (.tuple #[.slice none 0 0, .slice none 0 0, .int .i64 11]) ∧ Below w.heap.size w w')
set_option maxRecDepth 100000 in
theorem start_no (s : ByteArray) (p : Int) (A : Option Addr) (n c : Nat) (h : shp s.size p = false) (w : World) :
    Calls Try.prog 92 #[.string s, .int .i64 p, .slice A n c] w fun e w' => e = .returned (.tuple #[.slice none 0 0, .slice none 0 0, .int .i64 1]) ∧ w = w' := by
  go_enter Try.func92, Try.ntmps92
  go_wp2_with (go_at_call 88; refine (syndromes_no s p h _).mono ?_; rintro e w1 ⟨rfl, rfl⟩)
  go_ret3
  exact ⟨rfl, rfl⟩
set_option maxRecDepth 100000 in
set_option maxHeartbeats 2000000 in
theorem start_yes (s : ByteArray) (p : Nat) (er : List Int) (A : Option Addr) (c : Nat) (h : shp s.size p = true) (hl : er.length ≤ 100000) (w : World) (hr : RdI w A er) :
    Calls Try.prog 92 #[.string s, .int .i64 (p : Int), .slice A er.length c] w fun e w' => RetStart w s p er e w' := by
  obtain ⟨h1, h2, h3, h4, h5⟩ := shp_true h
  have H := Lib.hid h
  clear h
  go_enter Try.func92, Try.ntmps92
  go_wp2_with fail
  refine (syndromes_yes s p H.out _).mono ?_
  rintro e w1 ⟨bs, cs, rfl, hOs, hbs, hcs, hB1⟩
  rw [syn_length]
  go_wp2_with fail
  refine (erasures_any s er A c (by omega) hl w1 (hr.below (Nat.le_refl _) hB1)).mono ?_
  have hlt := hOs.lt
  have hs1 := hB1.size
  rintro e w2 (⟨hP, bg, cg, rfl, hO2, hb2, hB2⟩ | ⟨hP, rfl, hB2⟩)
  · have hB3 := hB1.trans (hB2.mono hs1)
    have hOs2 := hOs.below hB2 hlt
    have HP := Lib.hid hP
    clear hP hOs hB1 hB2
    by_cases hle : er.length ≤ p
    · have ht := times_any (syn (bl s) p) (gamL s.size er er.length) (by rw [syn_length]; omega) (by rw [(gamL_ne _ _ _).2]; omega) (by rw [syn_length]; omega) (by rw [(gamL_ne _ _ _).2]; omega) bs 0 cs bg 0 cg w2.drew hOs2.drew.rd hO2.drew.rd
      rw [syn_length, (gamL_ne _ _ _).2] at ht
      have HT := Lib.hid ht
      have hlen : (Gf.prod (syn (bl s) p) (gamL s.size er er.length)).length = p + er.length := by
        rw [Gf.prod_length (syn_ne (by omega)) (gamL_ne _ _ _).1, syn_length, (gamL_ne _ _ _).2]; omega
      have HLN := Lib.hid hlen
      clear ht hlen
      go_wp2
      go_region_with ((go_at_call 96; refine HT.out.mono ?_; rintro e w3 ⟨b3, c3, rfl, hO3, hb3, hc3, hB4⟩; rw [HLN.out]; have hc3' : p + er.length ≤ c3 := HLN.out ▸ hc3))
      have hlt2 := hO2.lt
      have hO2' := hO2.drew.below hB4 hlt2
      have hsz2 : w.heap.size ≤ w2.drew.heap.size := hB3.size
      have hB5 := hB3.drew.trans (hB4.mono hsz2)
      have hx : Own w3 b3 (xiL (bl s) p er) := by
        unfold xiL
        rw [bl_length]
        exact hO3.take p
      clear hO3 hB3 hB4 hO2
      go_wp2
      go_ret3
      exact .inl ⟨HP.out, hle, bg, cg, b3, c3, rfl, hO2', hx, by omega, by omega, hB5⟩
    · go_wp2
      go_ret3
      exact .inr (.inr ⟨HP.out, by omega, rfl, hB3⟩)
  · have hB3 := hB1.trans (hB2.mono hs1)
    have HP := Lib.hid hP
    clear hP hOs hB1 hB2
    go_wp2
    go_ret3
    exact .inr (.inl ⟨HP.out, rfl, hB3⟩)
end Go.Proofs.Ytknfkhackmnnaaa
